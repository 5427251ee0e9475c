/- The reference's memory: the contracts of Fetch, Store, Sync. No condition. -/
import Derived.Test.YtbhlmedfhilkbaaGreatRm2
set_option linter.unusedSimpArgs false
set_option linter.unusedVariables false
set_option linter.unusedSectionVars false
namespace Go.Proofs.YtbhlmedfhilkbaaGreat
open Go Go.Sx
set_option maxRecDepth 1000000
noncomputable section
/-! the copying of a page -/
def pB : IE := .mul (.quo (.var 1) (.lit 256)) (.lit 256)
def v4 : IE := .var 4
def v5 : IE := .var 5
def v7 : IE := .var 7
def cpE (c i e : IE) : IE := .fn 36 c d14 (.fn 9 i e (.lit 0))
def e256 : IE := .add v5 (.lit 256)
def cSyL : Con := { g := 57, args := [pm, .bool (.eq (.var 6) (.lit 1)), .int .i64 v5, .int .i64 v7], os := refObs rfT false d14 d16 v4, bds := [(5, 0, 4294967295), (7, 0, 4294967551)], pre := [(.lt v7 v5, false), (.lt e256 v7, false), (.lt (.add v5 (.lit 255)) lenE, true)] ++ refPre false, res := .tuple [.bool (.eq (.var 6) (.lit 1))], os' := refObs rfT false d14 d16 (cpE v4 v7 e256) }
def lSy : LCon := { con := cSyL, key := 6, n := 44, sl := [0, 5, 6, 7], e := .exit 0, sl' := [5] }
def μSy : IE := .sub e256 v7
def obSy : List (Dec × IE × IE) := [([(.lt v7 e256, false)], cpE v4 v7 e256, v4), ([(.lt v7 e256, true)], cpE v4 v7 e256, cpE (.fn 1 v4 v7 (.wrap .u8 (.fn 0 d14 v7 (.lit 0)))) (.add v7 (.lit 1)) e256)]
def tSy : Out := lSy.tree PR ⟨[], []⟩ 20 none' no' 12 [] μSy
theorem sy_run : tSy.all (cSyL.leaf (qX (bdL cSyL.bds) 12 obSy)) cSyL.pre = true := by kernel_rfl
theorem wfSy : cSyL.wf = true := by kernel_rfl
def rSync : Con := refC 57 [uV .u32 1] [u32B 1] (.bool (.lt pgE nE)) syM
def syF (v : Bool) : Dec := match v with
 | true => [(.lt (.var 1) lenE, true), (.lt (.add pB (.lit 255)) lenE, true), (.lt pgE nE, true)]
 | false => [(.lt (.var 1) lenE, false), (.lt pgE nE, false)]
def imgE (v coh : Bool) : IE := match v, coh with
 | true, false => cpE d15 pB (.add pB (.lit 256))
 | _, _ => d15
def runSy (v coh : Bool) : Bool := runRef rSync [] (syF v) [] coh d14 d16 (imgE v coh)
def runSyL (v coh : Bool) : Bool := ((refIn rSync rfT coh d14 d16 (imgE v coh)).tree PR ⟨[], [lSy]⟩ 20 none' no' 12 (syF v)).all ((refIn rSync rfT coh d14 d16 (imgE v coh)).leaf (qX (bdL rSync.bds) 12 [])) (syF v ++ (refPre coh ++ rSync.pre))
theorem sync_run : (runSyL true true && (runSyL true false && (runSyL false true && runSyL false false))) = true := by kernel_rfl
end
end Go.Proofs.YtbhlmedfhilkbaaGreat
