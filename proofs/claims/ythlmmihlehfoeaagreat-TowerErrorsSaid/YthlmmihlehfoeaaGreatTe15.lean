/- TowerErrors: the law's runs are contracts. No condition. -/
import Derived.Test.YthlmmihlehfoeaaGreatTe6
import Derived.Test.YthlmmihlehfoeaaGreatTe7
import Derived.Test.YthlmmihlehfoeaaGreatTe8
import Derived.Test.YthlmmihlehfoeaaGreatTe9
import Derived.Test.YthlmmihlehfoeaaGreatTe10
import Derived.Test.YthlmmihlehfoeaaGreatTe11
import Derived.Test.YthlmmihlehfoeaaGreatTe12
import Derived.Test.YthlmmihlehfoeaaGreatTe13
import Derived.Test.YthlmmihlehfoeaaGreatTe14
set_option linter.unusedVariables false
set_option linter.unusedSimpArgs false
namespace Go.Proofs.YthlmmihlehfoeaaGreat
open Go Go.Sx
set_option maxRecDepth 1000000
noncomputable section
theorem wfMach0 : cMach0.wf = true := by kernel_rfl
theorem wfKinds0 : cKinds0.wf = true := by kernel_rfl
theorem KL_ok : KL.Ok PR G0 GH0 := by
  refine ⟨ConsOk.cons wfSane cSane_ok (ConsOk.cons wfMach0 cMach0_ok (ConsOk.cons wfKinds0 cKinds0_ok ConsOk.nil)), ?_⟩
  exact (LOk.po poK3).app ((LOk.cp cpQ2).app ((LOk.po poQ5).app ((LOk.cp cpK3).app ((LOk.po poK8).app (LOk.cp cpQ5)))))
theorem te_ok {bds : List (Nat × Int × Int)} {q : IE} {pre : Dec} (h : okTE bds q pre = true) : (teC bds q pre).Ok PR G0 GH0 :=
  Con.of_treeP mixed KL_ok 600 none' no' 40 4 h
theorem okL : ∀ n, n < 4 → okTE teB (.var 1) (preL n) = true
  | 0, _ => te0L
  | 1, _ => te1L
  | 2, _ => te2L
  | 3, _ => te3L
theorem okH : ∀ n, n < 4 → okTE teB (.var 1) (preH n) = true
  | 0, _ => te0H
  | 1, _ => te1H
  | 2, _ => te2H
  | 3, _ => te3H
theorem okZ : ∀ n, 0 < n → n < 4 → okTE teB (.lit 0) (preJ n 0) = true
  | 1, _, _ => te10
  | 2, _, _ => te20
  | 3, _, _ => te30
theorem okA : ∀ n j, 0 < j → j < n → n < 4 → okTE teB (.lit (.ofNat j)) (preA n j) = true
  | 1, j, h1, h2, _ => absurd h2 (by omega)
  | 2, 1, _, _, _ => te21A
  | 3, 1, _, _, _ => te31A
  | 3, 2, _, _, _ => te32A
theorem okB : ∀ n j, 0 < j → j < n → n < 4 → okTE teB (.lit (.ofNat j)) (preB n j) = true
  | 1, j, h1, h2, _ => absurd h2 (by omega)
  | 2, 1, _, _, _ => te21B
  | 3, 1, _, _, _ => te31B
  | 3, 2, _, _, _ => te32B
theorem okF : ∀ n j k, k < j → j < n → n < 4 → ∃ b, okTE (teD k) (.lit (.ofNat j)) (preF n j b) = true
  | 1, j, k, h1, h2, _ => absurd h2 (by omega)
  | 2, 1, 0, _, _, _ => ⟨_, te21p0⟩
  | 3, 1, 0, _, _, _ => ⟨_, te31p0⟩
  | 3, 2, 0, _, _, _ => ⟨_, te32p0⟩
  | 3, 2, 1, _, _, _ => ⟨_, te32p1⟩
end
end Go.Proofs.YthlmmihlehfoeaaGreat
