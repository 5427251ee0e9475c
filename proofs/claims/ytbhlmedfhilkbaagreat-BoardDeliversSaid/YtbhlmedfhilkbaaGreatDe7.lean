/- The board's snapshot: the contracts hold wherever their functions are so defined. No condition. -/
import Derived.Test.YtbhlmedfhilkbaaGreatDe6
set_option linter.unusedVariables false
set_option linter.unusedSimpArgs false
namespace Go.Proofs.YtbhlmedfhilkbaaGreat
open Go Go.Sx
set_option maxRecDepth 1000000
noncomputable section
theorem ctP_def : (tCt "Peek" FQ 7).all ((cCt "Peek" FQ 7).defLeaf FQ) [] = true := by kernel_rfl
theorem ctC_def : (tCt "Code" FK 7).all ((cCt "Code" FK 7).defLeaf FK) [] = true := by kernel_rfl
def rtCt (m : String) (F : Fns) : RT := (cCt m F 7).rows F (tCt m F 7)
theorem ctP_only : (rtCt "Peek" FQ).only (memV FQ.vars) 106 = true := by kernel_rfl
theorem ctC_only : (rtCt "Code" FK).only (memV FK.vars) 108 = true := by kernel_rfl
theorem wfP : (cPk 169 FP).wf = true := by kernel_rfl
theorem wfC : (cPk 167 FC).wf = true := by kernel_rfl
theorem wfQ : (cCt "Peek" FQ 7).wf = true := by kernel_rfl
theorem wfK : (cCt "Code" FK 7).wf = true := by kernel_rfl
section
variable {G : Nat → Int → Int → Int → Int} {GH : Nat → Ghost}
theorem qE_in {ρ : Env} (h : 0 ≤ ρ.i 1 ∧ ρ.i 1 ≤ 767) : qE.ev ρ ∈ [0, 1, 2] := by
  have e : qE.ev ρ = (ρ.i 1).tdiv 256 := rfl
  rw [e, Int.tdiv_eq_ediv_of_nonneg h.1]
  have h1 : 0 ≤ ρ.i 1 / 256 := by omega
  have h2 : ρ.i 1 / 256 ≤ 2 := by omega
  generalize ρ.i 1 / 256 = x at h1 h2
  have : x = 0 ∨ x = 1 ∨ x = 2 := by omega
  simpa using this
theorem know6 : Know.Ok PR G GH ⟨[], []⟩ := ⟨ConsOk.nil, fun _ h => by cases h⟩
theorem nilH6 {ρ : Env} : Dec.holds ρ [] := fun p hp => by cases hp
theorem cPk_ok {g : FuncId} {F : Fns} (hk : 7 < F.KR ∧ 7 < F.KV) (h : casesAll qE (tPk g F) (fun _ => (cPk g F).defLeaf F) [] [0, 1, 2] = true) (hG : F.Def G (rtPk g F)) : (cPk g F).Ok PR G GH :=
  Con.ok_cases (K := fun _ => ⟨[], []⟩) (L := 20) (pol := none') (pure := no') (d := 12) (facts := []) (e := qE) mixed (fun _ _ => know6) (fun _ _ _ _ => nilH6) (fun _ _ h2 _ => qE_in (h2 1 0 767 rfl))
    (Con.defCases (fun _ _ _ _ => nilH6) hk (fun _ _ h2 _ => qE_in (h2 1 0 767 rfl)) h hG)
theorem kPk_ok (hP : FP.Def G (rtPk 169 FP)) (hC : FC.Def G (rtPk 167 FC)) : kPk.Ok PR G GH :=
  ⟨ConsOk.cons wfP (cPk_ok (by decide) pk_def hP) (ConsOk.cons wfC (cPk_ok (by decide) cd_def hC) ConsOk.nil), fun _ h => by cases h⟩
theorem lCt_ok {m : String} {F : Fns} (hK : kPk.Ok PR G GH) (hk : 7 < F.KR ∧ 7 < F.KV) (hwf : (cCt m F 7).wf = true) (h : (tCt m F 7).all ((cCt m F 7).defLeaf F) [] = true) (hG : F.Def G (rtCt m F)) : (lCt m F 7).Ok PR G GH :=
  LCon.ok_of (c := lCt m F 7) (L := 20) (pol := none') (pure := no') (d := 12) (facts := []) (μ := μC) mixed hK hwf rfl (fun _ _ _ _ => nilH6) (Con.defLeaves [] (fun _ _ _ _ => nilH6) hk h hG)
end
end
end Go.Proofs.YtbhlmedfhilkbaaGreat
