/- RecoveryGuests: the contracts hold, up to a block. No condition. -/
import Derived.Test.YthcfcjkljglgfaaRg8
set_option linter.unusedVariables false
set_option linter.unusedSimpArgs false
namespace Go.Proofs.Ythcfcjkljglgfaa
open Go Go.Sx
set_option maxRecDepth 1000000
noncomputable section
attribute [local irreducible] tWord tSource t1 t1S t2 t2S tI tM tB tGuA
theorem Con.ok_any {c : Con} {G : Nat → Int → Int → Int → Int} {GH : Nat → Ghost} {L : Nat} {pol : FuncId → Nat → Bool} {pure : FuncId → Bool} {d : Nat}
    (h : ∀ ρ : Env, ρ.std G GH → ρ.ok (bdL c.bds) → c.pre.holds ρ → ∃ (K : Know) (facts : Dec), K.Ok PR G GH ∧ facts.holds ρ ∧ ∃ e s at' q, (c.tree PR K L pol pure d facts).pick ρ = some (e, s) ∧ c.ends at' s = some q ∧ q.hold ρ) : c.Ok PR G GH := by
  refine Con.of_ends fun ρ h1 h2 h3 => ?_
  obtain ⟨K, facts, hK, hf, e, s, at', q, p1, p2, p3⟩ := h ρ h1 h2 h3
  exact ⟨s, at', q, Con.tree_goes mixed hK h1 h2 h3 hf p1, p2, p3⟩
theorem mem03 {x : Int} (h : 0 ≤ x ∧ x ≤ 3) : x ∈ ([0, 1, 2, 3] : List Int) := by
  have : x = 0 ∨ x = 1 ∨ x = 2 ∨ x = 3 := by omega
  rcases this with rfl | rfl | rfl | rfl <;> simp
section
variable {G : Nat → Int → Int → Int → Int} (h : RecG G)
include h
theorem l1S_ok : c1S.wf = true ∧ l1S.Ok PR G gh0 := by
  obtain ⟨r1, r2, r3⟩ := and3 run1S
  refine ⟨r3, LCon.ok_from (c := l1S) mixed rfl fun ρ h1 h2 h3 => ?_⟩
  have hm : ρ.i 6 ∈ ([0, 1, 2, 3] : List Int) := mem03 (h2 6 0 3 rfl)
  have hb := h2 6 0 3 rfl
  obtain ⟨e, s, at', q, p1, p2, p3⟩ := Con.defCases (c := c1S) (GH := gh0) (facts := []) (fun _ _ _ _ => nilDec) (F := F1S) ⟨by decide, by decide⟩ (e := .var 6) (fun ρ _ h2 _ => mem03 (h2 6 0 3 rfl)) r1 h.s1 ρ h1 h2 h3
  rw [casesO_pick hm] at p1
  obtain ⟨w, ok⟩ := l1_ok h (ρ.i 6).toNat (by omega)
  unfold t1S at p1
  exact ⟨l1 (ρ.i 6).toNat, fc6 (ρ.i 6), w, ok, (by cases (ρ.i 6).toNat <;> rfl), rfl, ⟨rfl, rfl, rfl⟩, decCons nilDec (decide_eq_true rfl), e, s, at', q, p1, p2, p3⟩
theorem l2_ok : ∀ n, n ≤ 3 → (c2 n).wf = true ∧ (l2 n).Ok PR G gh0 := by
  intro n
  induction n with
  | zero =>
    intro _
    obtain ⟨r1, r2⟩ := and_split z2_run
    exact ⟨r2, LCon.ok_of (c := l2 0) mixed (kMk_ok h) r2 rfl (facts := []) (fun _ _ _ _ => nilDec) (Con.leavesQ [] (fun _ _ _ _ => nilDec) _ (fun ρ _ h2 _ dec a b hd hab => qP_ok h2 hd hab) r1)⟩
  | succ n ih =>
    intro hn
    obtain ⟨w, ok⟩ := ih (by omega)
    have r : ok2 n = true := by
      match n, hn with
      | 0, _ => exact run2_0
      | 1, _ => exact run2_1
      | 2, _ => exact run2_2
    obtain ⟨r1, r2, r3⟩ := and3 r
    refine ⟨r3, LCon.ok_next (c := l2 (n + 1)) (c2 := l2 n) (L := 20) (pol := none') (pure := no') (d := 12) mixed w ok (by cases n <;> rfl) rfl ⟨rfl, rfl, rfl⟩ rfl fun ρ h1 h2 h3 => ?_⟩
    obtain ⟨e, s, at', q, p1, p2, p3⟩ := Con.defLeaves (c := c2 (n + 1)) (GH := gh0) [] (fun _ _ _ _ => nilDec) (F := FL2 (n + 1)) ⟨by unfold FL2; simp; omega, by unfold FL2; simp; omega⟩ r1 (h.l2 n (by omega)) ρ h1 h2 h3
    unfold t2 at p1
    exact ⟨kMk, [], kMk_ok h, nilDec, e, s, at', q, p1, p2, p3⟩
theorem l2S_ok : c2S.wf = true ∧ l2S.Ok PR G gh0 := by
  obtain ⟨r1, r2, r3⟩ := and3 run2S
  refine ⟨r3, LCon.ok_from (c := l2S) mixed rfl fun ρ h1 h2 h3 => ?_⟩
  have hm : ρ.i 6 ∈ ([0, 1, 2, 3] : List Int) := mem03 (h2 6 0 3 rfl)
  have hb := h2 6 0 3 rfl
  obtain ⟨e, s, at', q, p1, p2, p3⟩ := Con.defCases (c := c2S) (GH := gh0) (facts := []) (fun _ _ _ _ => nilDec) (F := F2S) ⟨by decide, by decide⟩ (e := .var 6) (fun ρ _ h2 _ => mem03 (h2 6 0 3 rfl)) r1 h.s2 ρ h1 h2 h3
  rw [casesO_pick hm] at p1
  obtain ⟨w, ok⟩ := l2_ok h (ρ.i 6).toNat (by omega)
  unfold t2S at p1
  exact ⟨l2 (ρ.i 6).toNat, fc6 (ρ.i 6), w, ok, (by cases (ρ.i 6).toNat <;> rfl), rfl, ⟨rfl, rfl, rfl⟩, decCons nilDec (decide_eq_true rfl), e, s, at', q, p1, p2, p3⟩
theorem kIn_ok : kIn.Ok PR G gh0 := ⟨(kMk_ok h).1, fun c hc => by
  rcases List.mem_cons.1 hc with rfl | hc
  · exact l1S_ok h
  · rcases List.mem_cons.1 hc with rfl | hc
    · exact l2S_ok h
    · cases hc⟩
theorem cInstr_ok : cInstr.wf = true ∧ cInstr.Ok PR G gh0 := by
  obtain ⟨r1, r2, r3⟩ := and3 runI
  exact ⟨r3, defOk (c := cInstr) (K := kIn) (L := 20) (d := 12) (pol := none') (pure := no') (F := FI) (kIn_ok h) ⟨by decide, by decide⟩ tI (by unfold tI; rfl) r1 h.i⟩
theorem kMd_ok : kMd.Ok PR G gh0 := ⟨consC (cInstr_ok h) takes_ok, fun _ h => by cases h⟩
theorem lM_ok : ∀ j, j ≤ 12 → (cM j).wf = true ∧ (lM j).Ok PR G gh0 := by
  intro n
  induction n with
  | zero =>
    intro _
    obtain ⟨r1, r2⟩ := and_split zM_run
    exact ⟨r2, LCon.ok_of (c := lM 0) mixed (kMd_ok h) r2 rfl (facts := []) (fun _ _ _ _ => nilDec) (Con.leavesQ [] (fun _ _ _ _ => nilDec) _ (fun ρ _ h2 _ dec a b hd hab => qP_ok h2 hd hab) r1)⟩
  | succ n ih =>
    intro hn
    obtain ⟨w, ok⟩ := ih (by omega)
    have r : okM n = true := List.all_eq_true.1 runM n (List.mem_range.2 (by omega))
    obtain ⟨r1, r2, r3⟩ := and3 r
    refine ⟨r3, LCon.ok_next (c := lM (n + 1)) (c2 := lM n) (L := 20) (pol := polM) (pure := no') (d := 12) mixed w ok (by cases n <;> rfl) rfl ⟨rfl, rfl, rfl⟩ rfl fun ρ h1 h2 h3 => ?_⟩
    obtain ⟨e, s, at', q, p1, p2, p3⟩ := Con.defLeaves (c := cM (n + 1)) (GH := gh0) [] (fun _ _ _ _ => nilDec) (F := FM (n + 1)) ⟨by unfold FM; simp; omega, by unfold FM; simp; omega⟩ r1 (h.m n (by omega)) ρ h1 h2 h3
    unfold tM at p1
    exact ⟨kMd, [], kMd_ok h, nilDec, e, s, at', q, p1, p2, p3⟩
theorem kB_ok : kB.Ok PR G gh0 := ⟨takes_ok, fun c hc => by
  rcases List.mem_cons.1 hc with rfl | hc
  · exact lM_ok h 12 (Nat.le_refl _)
  · cases hc⟩
theorem cMade_ok : cMade.wf = true ∧ cMade.Ok PR G gh0 := by
  obtain ⟨r1, r2, r3⟩ := and3 runB
  exact ⟨r3, defOk (c := cMade) (K := kB) (L := 20) (d := 12) (pol := polM) (pure := no') (F := FB) (kB_ok h) ⟨by decide, by decide⟩ tB (by unfold tB; rfl) r1 h.b⟩
end
end
end Go.Proofs.Ythcfcjkljglgfaa
