/- BoardTimers: the law run, case by case. No condition. -/
import Derived.Test.YtbhlmedfhilkbaaTi3
namespace Go.Proofs.Ytbhlmedfhilkbaa.timers
open Go Go.Sx
set_option maxRecDepth 1000000
noncomputable section
def pks : List PK := [.int .i64, .int .i64, .int .i64]
def C1 : Ctx := ctxOf PR (bdOf pks)
def K4 : Know := ⟨cE :: cL :: cD :: consL, []⟩
def mdE (i : Nat) (m : Int) : IE := .rem (.add (.rem (.var i) (.lit m)) (.lit m)) (.lit m)
def dE1 : IE := .add (mdE 0 30) (.lit 1)
def dE2 : IE := .add (.lit 1) (mdE 0 30)
def xE : IE := mdE 1 40
def yE : IE := mdE 2 40
def caseD (v w : Bool) : Dec := [(.lt dE1 xE, v), (.lt dE1 (.add xE yE), w), (.lt dE2 (.add xE yE), w)]
def sayD (v w : Bool) : Bool := oSays C1 (smKnow C1 K4) 600 20 none' no' 4 (symArgs pks 0) .nil 0 (caseD v w)
theorem lawA : sayD false false = true := by kernel_rfl
theorem lawB : sayD false true = true := by kernel_rfl
theorem lawC : sayD true true = true := by kernel_rfl
theorem K4_ok {G : Nat → Int → Int → Int → Int} {GH : Nat → Ghost} : K4.Ok PR G GH :=
  ⟨ConsOk.cons wf3.1 cE_ok (ConsOk.cons wf3.2.1 cL_ok (ConsOk.cons wf3.2.2 cD_ok consL_ok)), fun c hc => by cases hc⟩
theorem md_pos (x : Int) : 0 ≤ ((x.tmod 40) + 40).tmod 40 := by
  have h1 := Int.lt_tmod_of_pos x (b := 40) (by decide)
  exact Int.tmod_nonneg _ (by omega)
theorem cases_of (ρ : Env) : ∃ v w, (caseD v w).holds ρ ∧ sayD v w = true := by
  have e1 : dE1.ev ρ = (mdE 0 30).ev ρ + 1 := rfl
  have e2 : dE2.ev ρ = 1 + (mdE 0 30).ev ρ := rfl
  have e3 : (IE.add xE yE).ev ρ = xE.ev ρ + yE.ev ρ := rfl
  have hy : 0 ≤ yE.ev ρ := md_pos (ρ.i 2)
  have go : ∀ v w : Bool, decide (dE1.ev ρ < xE.ev ρ) = v → decide (dE1.ev ρ < xE.ev ρ + yE.ev ρ) = w → (caseD v w).holds ρ := by
    intro v w h1 h2 p hp
    simp only [caseD, List.mem_cons, List.not_mem_nil, or_false] at hp
    rcases hp with rfl | rfl | rfl
    · exact h1
    · show decide (dE1.ev ρ < (IE.add xE yE).ev ρ) = w
      rw [e3]
      exact h2
    · show decide (dE2.ev ρ < (IE.add xE yE).ev ρ) = w
      rw [e3, show dE2.ev ρ = dE1.ev ρ by rw [e1, e2]; omega]
      exact h2
  by_cases h1 : dE1.ev ρ < xE.ev ρ
  · exact ⟨true, true, go _ _ (decide_eq_true h1) (decide_eq_true (by omega)), lawC⟩
  · by_cases h2 : dE1.ev ρ < xE.ev ρ + yE.ev ρ
    · exact ⟨false, true, go _ _ (decide_eq_false h1) (decide_eq_true h2), lawB⟩
    · exact ⟨false, false, go _ _ (decide_eq_false h1) (decide_eq_false h2), lawA⟩
end
end Go.Proofs.Ytbhlmedfhilkbaa.timers
