/- RecoveryVars: what the two functions return, as contracts. No condition. -/
import Derived.Test.YthcfcjkljglgfaaSxX
import Derived.Test.YthcfcjkljglgfaaRows
namespace Go.Proofs.Ythcfcjkljglgfaa.vars
open Go Go.Sx
set_option maxRecDepth 1000000
noncomputable section
theorem mixed : Try.prog.follows .mixedOrders = true := by kernel_rfl
/-- Integers of a kind, any. -/
def anyL (k : IntKind) (o : Nat) : Nat → List AVal
  | 0 => []
  | n + 1 => .int k (.wrap k (.var o)) :: anyL k (o + 1) n
def A (v : Nat) : IE := .wrap .i64 (.var v)
def LV : IE := .wrap .u32 (.var 28)
def R (j : Nat) : IE := .wrap .u32 (.var (29 + j))
def X (j : Nat) : IE := .wrap .u32 (.var (45 + j))
def H (v : Nat) : IE := .wrap .i64 (.var (200 + v))
def pick (h : IE) : Nat → Nat → IE
  | 0, j => R j
  | n + 1, j => .sel false h (.lit (.ofNat j)) (R j) (pick h n (j + 1))
/-- What the variable v is, where h is its register. -/
def val (h : IE) (v : Nat) : IE :=
  .sel false (.rem (.quo LV (.lit (.ofNat (2 ^ v)))) (.lit 2)) (.lit 0) (X v) (.sel true (A v) (.lit 0) (X v) (.sel true h (.lit 0) (X v) (.sel true (.lit 15) h (X v) (pick h 15 0))))
def vals (h : Nat → IE) : Nat → Nat → List AVal
  | 0, _ => []
  | n + 1, v => .int .u32 (val (h v) v) :: vals h n (v + 1)
def site : AVal := .agg [.int .i64 (.lit 0), .int .i64 (.wrap .i64 (.var 110)), .int .i64 (.lit 0), .int .u32 (.lit 0), .int .u32 LV, .int .i64 (.lit 0)]
def regs : AVal := .agg (anyL .u32 29 16)
def ctx : AVal := .agg (anyL .u32 45 64)
def reg (m : Nat) : AVal := match m with
  | 0 => .nilFunc
  | m => .func (.func (28 + m)) [] []
def hOf (m v : Nat) : IE := match m with
  | 0 => .lit (-1)
  | 1 => A v
  | 2 => .wrap .i64 (.add (A v) (.lit 1))
  | _ => .wrap .i64 (.sub (.lit 20) (A v))
def c17 (m : Nat) : Con := { g := 17, args := [.agg (anyL .i64 0 28), site, regs, reg m, ctx], res := .agg (vals (hOf m) 28 0) }
def c18 : Con := { g := 18, args := [.agg (anyL .i64 0 28), site, regs, .agg (anyL .i64 200 28), ctx], res := .agg (vals H 28 0) }
def no : FuncId → Bool := fun _ => false
def np : FuncId → Nat → Bool := fun _ _ => false
abbrev G0 : Nat → Int → Int → Int → Int := fun _ _ _ _ => 0
abbrev GH0 : Nat → Ghost := fun _ => Ghost.no
theorem know0 : Know.Ok Try.prog G0 GH0 ⟨[], []⟩ := ⟨ConsOk.nil, fun c h => by cases h⟩
end
end Go.Proofs.Ythcfcjkljglgfaa.vars
