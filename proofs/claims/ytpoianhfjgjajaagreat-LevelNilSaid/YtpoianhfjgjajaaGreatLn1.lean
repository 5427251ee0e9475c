/- LevelNil: zeros poked over a page of zeros, whatever the page. No condition. -/
import Derived.Test.YtpoianhfjgjajaaGreatRows
import Derived.Test.YtpoianhfjgjajaaGreatSxX
namespace Go.Proofs.YtpoianhfjgjajaaGreat.nil
open Go Go.Sx
set_option maxRecDepth 1000000
noncomputable section
noncomputable abbrev PR : Program := Tryz.prog
theorem mixed : PR.follows .mixedOrders = true := by kernel_rfl
def none' : FuncId → Nat → Bool := fun _ _ => false
def no' : FuncId → Bool := fun _ => false
def box (v : AVal) (t : Nat) : AObj := .cells (T.nil.set 0 v) t false 1
def memO : AObj := .cells (treeOf [.slice (some (3, 0)) 64 64 0, .bool (.lit true)] 0 .nil) 128 false 2
def zeroP : AObj := .arr [.u8] (.lit 0) (.lit 256) false
def osP (p : Nat) : List AObj := [box (.ptr (some (2, 0))) 98, box (.int .u32 (.lit (.ofNat (Nat.mul 256 p)))) 22, memO, .cells (T.nil.set (Nat.mul 7 p) (.ptr (some (4, 0)))) 133 false 448, zeroP]
/-- 1: the bytes that are done. -/
def cPo (p : Nat) : Con := { g := 465, args := [.strS (.lit 0) (.lit 256), .func (.func 466) [] [.ptr (some (0, 0)), .ptr (some (1, 0))], .int .i64 (.lit 256), .int .i64 (.var 1)], os := osP p, bds := [(1, 0, 256)], res := .tuple [], os' := osP p }
/-- Is the address the page's? -/
def isPage (p : Nat) (s : ASt) : Bool :=
  match s.tm.get 1 with
  | some (.func _ _ [_, .ptr (some (b, 0))]) =>
    match s.hp.get b with
    | some (.cells c _ _ _) =>
      match c.get 0 with
      | some (.int _ (.lit (.ofNat n))) => Nat.beq n (Nat.mul 256 p)
      | some (.int _ (.lit _)) => false
      | _ => true
    | _ => false
  | _ => false
def lPo (p : Nat) : LCon := { con := cPo p, key := 2, n := 17, sl := [0, 1, 6, 7], e := .exit 0, sl' := [], pick := isPage p }
def μP : IE := .sub (.lit 256) (.var 1)
def tPo (p : Nat) : Out := (lPo p).tree PR ⟨[], []⟩ 20 none' no' 14 [] μP
def okPo (p : Nat) : Bool := (tPo p).all ((cPo p).leaf (qP (bdL (cPo p).bds) 10)) (cPo p).pre && (cPo p).wf
end
end Go.Proofs.YtpoianhfjgjajaaGreat.nil
