/- The program's snapshots: content. No condition. -/
import Derived.Test.YtbhlmedfhilkbaaGreatBm1
set_option linter.unusedSimpArgs false
set_option linter.unusedVariables false
set_option linter.unusedSectionVars false
namespace Go.Proofs.YtbhlmedfhilkbaaGreat
open Go Go.Sx
set_option maxRecDepth 1000000
noncomputable section
def kcpuL (j : Nat) : AObj := .cells (treeAt [.ptr (some (j, 0))] 0) 172 false 25
def bndF (m : String) (t : TypeId) (v : AVal) : AVal := .func (Fn.method m) [.iface t v] []
def cContK (p : Nat) : Con := { g := 85, args := [.int .i64 (.lit p), bndF "Peek" kPT pm], os := [kcpuL 1, .ghost 0 [.var 0] .nil], pre := [n6], res := .strS (pgS p) (.lit 256), os' := [kcpuL 1, .ghost 0 [.var 0] .nil] }
def cContQ (p : Nat) : Con := { g := 85, args := [.int .i64 (.lit p), bndF "Peek" qPT pm], os := [memO 1 (.var 0)], pre := [n6], res := .strS (pgS p) (.lit 256), os' := [memO 1 (.var 0)] }
def cContC (p : Nat) : Con := { g := 85, args := [.int .i64 (.lit p), bndF "Code" qPT pm], os := [memO 1 (.var 0)], pre := [n6, (cohB, false)], res := .strS (imS p) (.lit 256), os' := [memO 1 (.var 0)] }
/-- Digit j of the page's row is the byte that the memory's function c answers at j. -/
def qCont (bd : Bd) (c : Nat) (row : IE) (p : Nat) (dec : Dec) (a b : IE) : Bool :=
 match a, b with
 | .fn c0 r (.lit (.ofNat j)) _, .wrap k (.fn c' x (.lit (.ofNat m)) _) => Nat.beq c0 0 && (kindEq k .u8 && (Nat.beq c' c && (Nat.beq m (Nat.add (Nat.mul 256 p) j) && (Nat.blt j 256 && (x.eq (.var 0) && r.eq row)))))
 | a, b => a.eqN bd dec b
def contOk (c : Con) (l : List Con) (f : Nat) (row : IE) (p : Nat) : Bool := (c.tree PR ⟨l, []⟩ 300 none' no' 12 []).all (c.leaf (qCont (bdL c.bds) f row p)) c.pre && c.wf
def contK (p : Nat) : Bool := contOk (cContK p) [cPeek 0] 20 (pgS p) p
def contQ (p : Nat) : Bool := contOk (cContQ p) [cPeek 1] 20 (pgS p) p
def contC (p : Nat) : Bool := contOk (cContC p) [cCode 1] 21 (imS p) p
def six (f : Nat → Bool) : Bool := f 0 && (f 1 && (f 2 && (f 3 && (f 4 && f 5))))
theorem six_all {f : Nat → Bool} (h : six f = true) {p : Nat} (hp : p < 6) : f p = true := by
 simp only [six, Bool.and_eq_true] at h
 obtain ⟨h0, h1, h2, h3, h4, h5⟩ := h
 match p, hp with
 | 0, _ => exact h0
 | 1, _ => exact h1
 | 2, _ => exact h2
 | 3, _ => exact h3
 | 4, _ => exact h4
 | 5, _ => exact h5
end
end Go.Proofs.YtbhlmedfhilkbaaGreat
