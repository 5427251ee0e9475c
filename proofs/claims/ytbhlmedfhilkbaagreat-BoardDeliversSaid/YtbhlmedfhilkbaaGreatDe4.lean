/- BoardDelivers: the instructions' numbers; the law's run in one case. No condition. -/
import Derived.Test.YtbhlmedfhilkbaaGreatDe2
import Derived.Test.YtbhlmedfhilkbaaGreatDe3
import Derived.Test.YtbhlmedfhilkbaaGreatDe8
import Derived.Test.YtbhlmedfhilkbaaGreatDe7
set_option linter.unusedVariables false
set_option linter.unusedSimpArgs false
namespace Go.Proofs.YtbhlmedfhilkbaaGreat
open Go Go.Sx
set_option maxRecDepth 1000000
noncomputable section
/-- The list of the operations, as it is made. -/
def cOps : Con := { g := 77, args := [], res := .slice (some (0, 0)) 39 39 1, os' := [.cells (treeOf (opsL.map fun n => .int .i64 (.lit (.ofNat n))) 0 .nil) 3 true 39] }
theorem ops_run : cOps.runs PR [] 70 8 = true := by kernel_rfl
theorem wfOps : cOps.wf = true := by kernel_rfl
theorem cOps_ok {G : Nat → Int → Int → Int → Int} {GH : Nat → Ghost} : cOps.Ok PR G GH := Con.of_run mixed ConsOk.nil 70 8 ops_run
def pksD : List PK := [.agg [.i64, .i64, .i64, .i64, .i64], .int .u32]
def CD : Ctx := ctxOf PR (bdOf pksD)
def opAt (c : Nat) : Nat := match opsL[c]? with
  | some n => n
  | none => 0
def KD (c : Nat) : Know := ⟨[cSane, cOps, cDc 189 (opAt c), cDc 121 (opAt c), cSign 80 18, cSign 80 22, cPk 169 FP, cPk 167 FC], [lD0, lD1, lD2, lCt "Peek" FQ 7, lCt "Code" FK 7]⟩
def idxE : IE := .rem (.add (.rem (.var 0) (.lit 39)) (.lit 39)) (.lit 39)
def treeD (c : Nat) (f : Dec) : Out := oTree CD (smKnow CD (KD c)) 600 none' no' 20 ((.eq idxE (.lit (.ofNat c)), true) :: f) 5 (symArgs pksD 0) .nil 0
end
end Go.Proofs.YtbhlmedfhilkbaaGreat
