/- RecoveryGuests: the contracts hold. No condition. -/
import Derived.Test.YthcfcjkljglgfaaRg7
set_option linter.unusedVariables false
set_option linter.unusedSimpArgs false
namespace Go.Proofs.Ythcfcjkljglgfaa
open Go Go.Sx
set_option maxRecDepth 1000000
noncomputable section
attribute [local irreducible] tWord tSource t1 t1S t2 t2S tI tM tB tGuA
/-- The functions. -/
structure RecG (G : Nat → Int → Int → Int → Int) : Prop where
  so : FSo.Def G (cSource.rows FSo tSource)
  wo : FWo.Def G (cWord.rows FWo tWord)
  l1 : ∀ n, n < 3 → (FL1 (n + 1)).Def G ((c1 (n + 1)).rows (FL1 (n + 1)) (t1 n))
  s1 : F1S.Def G (c1S.rows F1S (casesO (.var 6) t1S [0, 1, 2, 3]))
  l2 : ∀ n, n < 3 → (FL2 (n + 1)).Def G ((c2 (n + 1)).rows (FL2 (n + 1)) (t2 n))
  s2 : F2S.Def G (c2S.rows F2S (casesO (.var 6) t2S [0, 1, 2, 3]))
  i : FI.Def G (cInstr.rows FI tI)
  m : ∀ j, j < 12 → (FM (j + 1)).Def G ((cM (j + 1)).rows (FM (j + 1)) (tM j))
  b : FB.Def G (cMade.rows FB tB)
  g : FG.Def G (cGuP.rows FG (tGuA cGuP))
section
variable {G : Nat → Int → Int → Int → Int} (h : RecG G)
theorem and3 {a b c : Bool} (h : (a && (b && c)) = true) : a = true ∧ b = true ∧ c = true := by
  simp only [Bool.and_eq_true] at h
  exact h
theorem takesK : Know.Ok PR G gh0 ⟨takes, []⟩ := ⟨takes_ok, fun _ h => by cases h⟩
theorem cSource_ok (h : RecG G) : cSource.wf = true ∧ cSource.Ok PR G gh0 := by
  obtain ⟨r1, r2, r3⟩ := and3 source_run
  exact ⟨r3, defOk (c := cSource) (K := ⟨takes, []⟩) (L := 20) (d := 12) (pol := none') (pure := no') (F := FSo) takesK ⟨by decide, by decide⟩ tSource (by unfold tSource; rfl) r1 h.so⟩
theorem cWord_ok (h : RecG G) : cWord.wf = true ∧ cWord.Ok PR G gh0 := by
  obtain ⟨r1, r2, r3⟩ := and3 word_run
  exact ⟨r3, defOk (c := cWord) (K := ⟨takes, []⟩) (L := 20) (d := 12) (pol := none') (pure := no') (F := FWo) takesK ⟨by decide, by decide⟩ tWord (by unfold tWord; rfl) r1 h.wo⟩
theorem consC {c : Con} {l : List Con} (h : c.wf = true ∧ c.Ok PR G gh0) (t : ConsOk PR G gh0 l) : ConsOk PR G gh0 (c :: l) := ConsOk.cons h.1 h.2 t
theorem kMk_ok (h : RecG G) : kMk.Ok PR G gh0 := ⟨consC (cSource_ok h) (consC (cWord_ok h) takes_ok), fun _ h => by cases h⟩
theorem l1_ok (h : RecG G) : ∀ n, n ≤ 3 → (c1 n).wf = true ∧ (l1 n).Ok PR G gh0 := by
  intro n
  induction n with
  | zero =>
    intro _
    obtain ⟨r1, r2⟩ := and_split z1_run
    exact ⟨r2, LCon.ok_of (c := l1 0) mixed (kMk_ok h) r2 rfl (facts := []) (fun _ _ _ _ => nilDec) (Con.leavesQ [] (fun _ _ _ _ => nilDec) _ (fun ρ _ h2 _ dec a b hd hab => qP_ok h2 hd hab) r1)⟩
  | succ n ih =>
    intro hn
    obtain ⟨w, ok⟩ := ih (by omega)
    have r : ok1 n = true := by
      match n, hn with
      | 0, _ => exact run1_0
      | 1, _ => exact run1_1
      | 2, _ => exact run1_2
    obtain ⟨r1, r2, r3⟩ := and3 r
    refine ⟨r3, LCon.ok_next (c := l1 (n + 1)) (c2 := l1 n) (L := 20) (pol := none') (pure := no') (d := 12) mixed w ok (by cases n <;> rfl) rfl ⟨rfl, rfl, rfl⟩ rfl fun ρ h1 h2 h3 => ?_⟩
    obtain ⟨e, s, at', q, p1, p2, p3⟩ := Con.defLeaves (c := c1 (n + 1)) (GH := gh0) [] (fun _ _ _ _ => nilDec) (F := FL1 (n + 1)) ⟨by unfold FL1; simp; omega, by unfold FL1; simp; omega⟩ r1 (h.l1 n (by omega)) ρ h1 h2 h3
    unfold t1 at p1
    exact ⟨kMk, [], kMk_ok h, nilDec, e, s, at', q, p1, p2, p3⟩
end
end
end Go.Proofs.Ythcfcjkljglgfaa
