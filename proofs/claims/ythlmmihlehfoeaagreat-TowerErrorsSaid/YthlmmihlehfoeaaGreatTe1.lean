/- Towers: zeros poked over a page of zeros, whatever the machine and the page. No condition. -/
import Derived.Test.YthlmmihlehfoeaaGreatRows
import Derived.Test.YthlmmihlehfoeaaGreatSh
set_option linter.unusedVariables false
set_option linter.unusedSimpArgs false
namespace Go.Proofs.YthlmmihlehfoeaaGreat
open Go Go.Sx
set_option maxRecDepth 1000000
noncomputable section
noncomputable abbrev PR : Program := Tryz.prog
theorem mixed : PR.follows .mixedOrders = true := by kernel_rfl
def none' : FuncId → Nat → Bool := fun _ _ => false
def no' : FuncId → Bool := fun _ => false
def box (v : AVal) (t : Nat) : AObj := .cells (T.nil.set 0 v) t false 1
/-- The memory of N pages: of a machine K (coh), or within a machine Q. -/
def memP (coh : Bool) (N i : Nat) : AObj := match coh with
  | true => .cells (treeOf [.slice (some (i, 0)) N N 0, .bool (.lit true)] 0 .nil) 151 false 2
  | false => .cells (treeOf [.slice (some (i, 0)) N N 0, .bool (.lit false)] 0 .nil) 153 false 26
def zeroP : AObj := .arr [.u8] (.lit 0) (.lit 256) false
def osP (coh : Bool) (N p : Nat) : List AObj := [box (.ptr (some (2, 0))) 114, box (.int .u32 (.lit (.ofNat (Nat.mul 256 p)))) 43, memP coh N 3, .cells (T.nil.set (Nat.mul 7 p) (.ptr (some (4, 0)))) 166 false (Nat.mul 7 N), zeroP]
/-- 1: the bytes that are done. -/
def cPo (coh : Bool) (N p : Nat) : Con := { g := 497, args := [.strS (.lit 0) (.lit 256), .func (.func 498) [] [.ptr (some (0, 0)), .ptr (some (1, 0))], .int .i64 (.lit 256), .int .i64 (.var 1)], os := osP coh N p, bds := [(1, 0, 256)], res := .tuple [], os' := osP coh N p }
def cell0 (h : T AObj) (b j : Nat) : Option AVal := match h.get b with
  | some (.cells c _ _ _) => c.get j
  | _ => none
def boolIs (b : Bool) : Option AVal → Bool
  | some (.bool (.lit c)) => Bool.rec (Bool.rec true false c) (Bool.rec false true c) b
  | _ => false
/-- Is the memory of N pages, and the address the page's? -/
def isPage (coh : Bool) (N p : Nat) (s : ASt) : Bool :=
  match s.tm.get 1 with
  | some (.func _ _ [.ptr (some (m, 0)), .ptr (some (b, 0))]) =>
    match cell0 s.hp b 0, cell0 s.hp m 0 with
    | some (.int _ (.lit (.ofNat n))), some (.ptr (some (k, 0))) =>
      match cell0 s.hp k 0 with
      | some (.slice _ l _ _) => Nat.beq n (Nat.mul 256 p) && (Nat.beq l N && boolIs coh (cell0 s.hp k 1))
      | _ => false
    | _, _ => false
  | _ => false
def lPo (coh : Bool) (N p : Nat) : LCon := { con := cPo coh N p, key := 2, n := 17, sl := [0, 1, 6, 7], e := .exit 0, sl' := [], pick := isPage coh N p }
def μP : IE := .sub (.lit 256) (.var 1)
def tPo (coh : Bool) (N p : Nat) : Out := (lPo coh N p).tree PR ⟨[], []⟩ 20 none' no' 14 [] μP
def okPo (coh : Bool) (N p : Nat) : Bool := (tPo coh N p).all ((cPo coh N p).leaf (qP (bdL (cPo coh N p).bds) 10)) (cPo coh N p).pre && (cPo coh N p).wf
def G0 : Nat → Int → Int → Int → Int := fun _ _ _ _ => 0
def GH0 : Nat → Ghost := fun _ => Ghost.no
theorem know0 {G : Nat → Int → Int → Int → Int} {GH : Nat → Ghost} : Know.Ok PR G GH ⟨[], []⟩ := ⟨ConsOk.nil, fun _ h => by cases h⟩
theorem nilH {ρ : Env} : Dec.holds ρ [] := fun p hp => by cases hp
theorem lPo_ok {coh : Bool} {N p : Nat} (h : okPo coh N p = true) {G : Nat → Int → Int → Int → Int} {GH : Nat → Ghost} : (lPo coh N p).con.wf = true ∧ (lPo coh N p).Ok PR G GH := by
  obtain ⟨h1, h2⟩ := and_split h
  exact ⟨h2, LCon.ok_each (c := lPo coh N p) mixed know0 h2 rfl (fun _ : Unit => []) 20 none' no' 14 10 μP fun ρ _ _ _ => ⟨(), nilH, h1⟩⟩
end
end Go.Proofs.YthlmmihlehfoeaaGreat
