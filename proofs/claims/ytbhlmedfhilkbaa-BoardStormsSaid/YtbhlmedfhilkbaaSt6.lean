/- BoardStorms: the law's three cases. No condition. -/
import Derived.Test.YtbhlmedfhilkbaaSt4
import Derived.Test.YtbhlmedfhilkbaaSt5
namespace Go.Proofs.Ytbhlmedfhilkbaa
open Go Go.Sx
set_option maxRecDepth 1000000
noncomputable section
def pks : List PK := [.int .u32, .int .i64, .int .i64]
def C1 : Ctx := ctxOf PR (bdOf pks)
def K3 (w k i : Int) : Know := ⟨[cSane, cPk 67 FP, cPk 65 FC], [lRun w k i, lCt "Peek" FQ 7, lCt "Code" FK 7]⟩
def mk : IE := .rem (.add (.rem (.var 1) (.lit 3)) (.lit 3)) (.lit 3)
theorem law0 : oSays C1 (smKnow C1 (K3 wB 3 0)) 600 20 none' no' 3 (symArgs pks 0) .nil 0 [(.eq mk (.lit 0), true)] = true := by kernel_rfl
theorem law1 : oSays C1 (smKnow C1 (K3 wS 4 9)) 600 20 none' no' 3 (symArgs pks 0) .nil 0 [(.eq mk (.lit 1), true), (.eq mk (.lit 0), false)] = true := by kernel_rfl
theorem law2 : oSays C1 (smKnow C1 (K3 wL 5 512)) 600 20 none' no' 3 (symArgs pks 0) .nil 0 [(.eq mk (.lit 2), true), (.eq mk (.lit 1), false), (.eq mk (.lit 0), false)] = true := by kernel_rfl
theorem wfB : (cRun wB 3 0).wf = true := by kernel_rfl
theorem wfS : (cRun wS 4 9).wf = true := by kernel_rfl
theorem wfL : (cRun wL 5 512).wf = true := by kernel_rfl
def GH0 : Nat → Ghost := fun _ => Ghost.no
theorem K3_ok {w k i : Int} {G : Nat → Int → Int → Int → Int} (hwf : (cRun w k i).wf = true) (h : okR w k i = true) (hG : Five w k i G) : (K3 w k i).Ok PR G GH0 := by
  have hK : kPk.Ok PR G GH0 := kPk_ok hG.p hG.c
  refine ⟨ConsOk.cons wfSane sane hK.1, fun c hc => ?_⟩
  simp only [K3, List.mem_cons, List.not_mem_nil, or_false] at hc
  rcases hc with rfl | rfl | rfl
  · exact ⟨hwf, lRun_ok hwf h hG.e⟩
  · exact ⟨wfQ, lCt_ok hK (by decide) wfQ ctP_def hG.q⟩
  · exact ⟨wfK, lCt_ok hK (by decide) wfK ctC_def hG.k⟩
theorem mk_in (ρ : Env) : mk.ev ρ = 0 ∨ mk.ev ρ = 1 ∨ mk.ev ρ = 2 := by
  have e : mk.ev ρ = ((ρ.i 1).tmod 3 + 3).tmod 3 := rfl
  rw [e]
  have h1 := Int.lt_tmod_of_pos (ρ.i 1) (b := 3) (by decide)
  have h2 := Int.tmod_lt_of_pos (ρ.i 1) (b := 3) (by decide)
  generalize (ρ.i 1).tmod 3 = x at h1 h2
  rw [Int.tmod_eq_emod_of_nonneg (by omega)]
  omega
end
end Go.Proofs.Ytbhlmedfhilkbaa
