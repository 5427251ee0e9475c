/- Words of the reference: equal rows. No condition. -/
import Derived.Test.YtbhlmedfhilkbaaGreatBc0
import Derived.Test.YtbhlmedfhilkbaaGreatLk6
set_option linter.unusedSimpArgs false
set_option linter.unusedVariables false
set_option linter.unusedSectionVars false
namespace Go.Proofs.YtbhlmedfhilkbaaGreat
open Go Go.Sx
set_option maxRecDepth 1000000
noncomputable section
def cWoL : Con := { g := 68, args := [.sliceA 0 (.var 25) 1, .sliceA 1 (.var 25) 1, .int .i64 (.var 26)], os := [inN, inN], bds := [(25, 0, 8), (26, 0, 8)], pre := [(.lt (.var 25) (.var 26), false)], res := .tuple [], os' := [inN, inN] }
def lWo : LCon := { con := cWoL, key := 5, n := 26, sl := [0, 1, 5], e := .exit 0, sl' := [] }
def μWo : IE := .sub (.var 25) (.var 26)
def tWo : Out := lWo.tree PR ⟨[], []⟩ 40 none' no' 12 [] μWo
def cWords : Con := { g := 68, args := [.sliceA 0 (.var 25) 1, .sliceA 1 (.var 25) 1], os := [inN, inN], bds := [(25, 0, 8)], res := .bool (.lit true), os' := [inN, inN] }
theorem wo_run : (tWo.all (cWoL.leaf (qP (bdL cWoL.bds) 12)) cWoL.pre && (cWoL.wf && (runP cWords ⟨[], [lWo]⟩ 40 12 12 && cWords.wf))) = true := by kernel_rfl
end
end Go.Proofs.YtbhlmedfhilkbaaGreat
namespace Go.Proofs.YtbhlmedfhilkbaaGreat
open Go Go.Sx
set_option maxRecDepth 1000000
noncomputable section
theorem lWo_ok {G : Nat → Int → Int → Int → Int} : lWo.con.wf = true ∧ lWo.Ok PR G gh := by
 have h := and2 wo_run
 have w : lWo.con.wf = true := (and2 h.2).1
 have hL : cWoL.Leaves G gh tWo := Con.leavesQ (c := cWoL) [] (fun _ _ _ _ => nilDec) _ (fun ρ h1 h2 h3 dec a b hd hab => qP_ok h2 hd hab) h.1
 unfold tWo at hL
 exact ⟨w, LCon.ok_of (c := lWo) mixed (K := ⟨[], []⟩) knowNil w rfl (L := 40) (pol := none') (pure := no') (d := 12) (μ := μWo) (facts := []) (fun _ _ _ _ => nilDec) hL⟩
theorem cWords_ok {G : Nat → Int → Int → Int → Int} : cWords.wf = true ∧ cWords.Ok PR G gh := by
 have h := and2 (and2 (and2 wo_run).2).2
 exact ⟨h.2, runP_ok (knowOkL rfl allN (lpC (lWo_ok (G := G)).1 lWo_ok.2 lpN)) h.1⟩
end
end Go.Proofs.YtbhlmedfhilkbaaGreat
