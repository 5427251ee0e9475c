/- After a delivered trap: the runs. No condition. -/
import Derived.Test.YtbhlmedfhilkbaaGreatDe1
set_option linter.unusedVariables false
set_option linter.unusedSimpArgs false
namespace Go.Proofs.YtbhlmedfhilkbaaGreat
open Go Go.Sx
set_option maxRecDepth 1000000
noncomputable section
theorem ok1 : okS 5 (.var 1) 256 511 = true := by kernel_rfl
theorem ok2 : okS 5 (.var 1) 512 4294967295 = true := by kernel_rfl
theorem ok0 : okS 7 (.lit 0) 4 252 = true := by kernel_rfl
theorem on1 : ((cDel 5 (.var 1) 256 511).rows FV (rS 5 (.var 1) 256 511)).only (memV FV.vars) 114 = true := by kernel_rfl
theorem on2 : ((cDel 5 (.var 1) 512 4294967295).rows FV (rS 5 (.var 1) 512 4294967295)).only (memV FV.vars) 114 = true := by kernel_rfl
theorem on0 : ((cDel 7 (.lit 0) 4 252).rows FV (rS 7 (.lit 0) 4 252)).only (memV FV.vars) 114 = true := by kernel_rfl
theorem wf1 : (cDel 5 (.var 1) 256 511).wf = true := by kernel_rfl
theorem wf2 : (cDel 5 (.var 1) 512 4294967295).wf = true := by kernel_rfl
theorem wf0 : (cDel 7 (.lit 0) 4 252).wf = true := by kernel_rfl
section
variable {G : Nat → Int → Int → Int → Int} {GH : Nat → Ghost}
theorem knowD : Know.Ok PR G GH ⟨[], []⟩ := ⟨ConsOk.nil, fun _ h => by cases h⟩
theorem nilD {ρ : Env} : Dec.holds ρ [] := fun p hp => by cases hp
theorem lDel_ok {k : Int} {i : IE} {lo hi : Int} (hwf : (cDel k i lo hi).wf = true) (h : okS k i lo hi = true) (hG : FV.Def G ((cDel k i lo hi).rows FV (rS k i lo hi))) : (lDel k i lo hi).Ok PR G GH := by
  have hr : ∀ ρ : Env, ρ.ok (bdL (cDel k i lo hi).bds) → 1 ≤ ρ.i 2 ∧ ρ.i 2 ≤ 1000 := fun ρ h => h 2 1 1000 rfl
  refine LCon.ok_sel (c := lDel k i lo hi) (L := 20) (pol := none') (pure := no') (d := 14) (μ := μD) (o := rS k i lo hi) (sel := fun ρ => if hx : 1 ≤ ρ.i 2 ∧ ρ.i 2 ≤ 1000 then Classical.choose (pickR k i lo hi hx h) else []) mixed knowD hwf rfl (fun ρ h1 h2 h3 => ?_) fun ρ h1 h2 h3 => ?_
  · have := hr ρ h2
    simp only [this, and_self, dite_true]
    have hs := Classical.choose_spec (pickR k i lo hi this h)
    exact ⟨hs.1, hs.2.1⟩
  · obtain ⟨f, f1, f2, ha⟩ := pickR k i lo hi (hr ρ h2) h
    obtain ⟨e, s, dec', hd', p1, p2⟩ := Out.all_pick (holds_app f1 h3) ha
    rw [← f2] at p1
    obtain ⟨q, q1, q2⟩ := Con.def_at (c := cDel k i lo hi) (F := FV) (o := rS k i lo hi) (dec' := dec') (by decide) h2 (by rw [h1.1]; exact hG) p1 p2
    exact ⟨e, s, _, q, p1, q1, q2⟩
end
end
end Go.Proofs.YtbhlmedfhilkbaaGreat
