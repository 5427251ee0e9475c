/- RecoveryGuests: Guest, Turned and the law for the functions. No condition. -/
import Derived.Test.YthcfcjkljglgfaaRg9
set_option linter.unusedVariables false
set_option linter.unusedSimpArgs false
namespace Go.Proofs.Ythcfcjkljglgfaa
open Go Go.Sx
set_option maxRecDepth 1000000
noncomputable section
attribute [local irreducible] tWord tSource t1 t1S t2 t2S tI tM tB tGu
theorem pick_t {ρ : Env} {b : BE} {y n : Out} (h : b.ev ρ = true) : (Out.split b y n).pick ρ = y.pick ρ := by
  show pickV (b.ev ρ) (y.pick ρ) (n.pick ρ) = _
  rw [h]; rfl
theorem pick_f {ρ : Env} {b : BE} {y n : Out} (h : b.ev ρ = false) : (Out.split b y n).pick ρ = n.pick ρ := by
  show pickV (b.ev ρ) (y.pick ρ) (n.pick ρ) = _
  rw [h]; rfl
theorem mem16 {x : Int} (h1 : ¬ x < 1) (h6 : ¬ 6 < x) : x ∈ kinds6 := by
  have : x = 1 ∨ x = 2 ∨ x = 3 ∨ x = 4 ∨ x = 5 ∨ x = 6 := by omega
  rcases this with rfl | rfl | rfl | rfl | rfl | rfl <;> simp [kinds6]
theorem gu_pick (c : Con) (ρ : Env) : ∃ fc : Dec, fc.holds ρ ∧ (tGuA c).pick ρ = (tGu c fc).pick ρ := by
  unfold tGuA
  cases hz : zT.ev ρ
  · exact ⟨[(zT, false)], decCons nilDec hz, pick_f hz⟩
  · cases hl : lowT.ev ρ
    · cases hh : highT.ev ρ
      · have m1 : ¬ ρ.i 6 < 1 := of_decide_eq_false hl
        have m6 : ¬ 6 < ρ.i 6 := of_decide_eq_false hh
        have hm : (IE.var 6).ev ρ ∈ kinds6 := mem16 m1 m6
        have e0 := (pick_t (y := _) (n := tGu c [(zT, false)]) hz).trans ((pick_f (y := tGu c [(lowT, true), (zT, true)]) hl).trans ((pick_f (y := tGu c [(highT, true), (zT, true)]) hh).trans (casesO_pick (f := tGuK c) hm)))
        have h6 : Dec.holds ρ (fc6' ((IE.var 6).ev ρ)) := decCons (decCons nilDec hz) (decide_eq_true rfl)
        rw [e0]
        unfold tGuK
        cases h7 : n7.ev ρ
        · cases hm7 : m7.ev ρ
          · exact ⟨_, decCons (decCons h6 h7) hm7, (pick_f h7).trans (pick_f hm7)⟩
          · exact ⟨_, decCons (decCons h6 h7) hm7, (pick_f h7).trans (pick_t hm7)⟩
        · exact ⟨_, decCons h6 h7, pick_t h7⟩
      · exact ⟨_, decCons (decCons nilDec hz) hh, (pick_t hz).trans ((pick_f hl).trans (pick_t hh))⟩
    · exact ⟨_, decCons (decCons nilDec hz) hl, (pick_t hz).trans (pick_t hl)⟩
attribute [local irreducible] tGuA
theorem facT_holds {ρ : Env} (h2 : 0 ≤ ρ.i 2 ∧ ρ.i 2 ≤ 31) (h4 : 0 < ρ.i 4) : Dec.holds ρ facT := by
  obtain ⟨a1, a2⟩ := rng_ok (ρ := ρ) (bd := fun _ => none) (fun i lo hi h => by cases h) (.bits .and .i64 (.var 31) (.lit 65535)) 0 65535 (by decide)
  obtain ⟨n1, n2⟩ := rng_ok (ρ := ρ) (bd := fun _ => none) (fun i lo hi h => by cases h) n16 0 65535 (by decide)
  have i1 : 0 ≤ iE.ev ρ := Int.tmod_nonneg _ a1
  have i2 : iE.ev ρ < ρ.i 4 := Int.tmod_lt_of_pos _ h4
  have k1 : 0 ≤ kE.ev ρ := Int.tmod_nonneg _ n1
  have k2 : kE.ev ρ < ρ.i 4 := Int.tmod_lt_of_pos _ h4
  have g1 : 0 ≤ hE.ev ρ := Int.tmod_nonneg _ n1
  have g2 : hE.ev ρ < ρ.i 2 + 1 := Int.tmod_lt_of_pos _ (show (0 : Int) < ρ.i 2 + 1 by omega)
  intro p hp
  simp only [facT, List.mem_cons, List.not_mem_nil, or_false] at hp
  rcases hp with rfl | rfl | rfl | rfl | rfl | rfl | rfl | rfl | rfl | rfl
  · exact decide_eq_false (show ¬ (ρ.i 4 < (iE.ev ρ + 1) + (ρ.i 4 - (iE.ev ρ + 1))) by omega)
  · exact decide_eq_false (show ¬ (ρ.i 4 - (iE.ev ρ + 1) < 0) by omega)
  · exact decide_eq_false (show ¬ (ρ.i 4 < iE.ev ρ + (ρ.i 4 - iE.ev ρ)) by omega)
  · exact decide_eq_false (show ¬ (ρ.i 4 - iE.ev ρ < 0) by omega)
  · exact decide_eq_true i2
  · exact decide_eq_false (show ¬ (iE.ev ρ < 0) by omega)
  · exact decide_eq_true k2
  · exact decide_eq_false (show ¬ (kE.ev ρ < 0) by omega)
  · exact decide_eq_false (show ¬ (ρ.i 2 < hE.ev ρ) by omega)
  · exact decide_eq_false (show ¬ (hE.ev ρ < 0) by omega)
theorem cTu_pre : ∀ k, (cTu k).pre = tuPre k := fun _ => rfl
theorem cTu_bds : ∀ k, (cTu k).bds = tuB := fun _ => rfl
theorem facK_holds {ρ : Env} {k : Nat} (h2 : ρ.ok (bdL tuB)) (h3 : Dec.holds ρ (tuPre k)) : Dec.holds ρ (facK k) := by
  unfold facK
  unfold tuPre at h3
  split
  · rename_i hk
    rw [hk] at h3
    have hz : ¬ ρ.i 4 = 0 := of_decide_eq_false (h3 (z4, false) (by simp))
    have b4 := h2 4 0 199 rfl
    exact facT_holds (h2 2 0 31 rfl) (by omega)
  · exact nilDec
section
variable {G : Nat → Int → Int → Int → Int}
theorem cTu_ok {k : Nat} (hk : k < 12) : (cTu k).wf = true ∧ (cTu k).Ok PR G gh0 := by
  have r := List.all_eq_true.1 tu_run k (List.mem_range.2 hk)
  unfold okTu at r
  obtain ⟨r1, r2⟩ := and_split r
  have hf : ∀ ρ : Env, ρ.std G gh0 → ρ.ok (bdL (cTu k).bds) → (cTu k).pre.holds ρ → (facK k).holds ρ := fun ρ _ h2 h3 => facK_holds (by rw [← cTu_bds k]; exact h2) (by rw [← cTu_pre k]; exact h3)
  exact ⟨r2, Con.ok_of mixed knowNil hf (Con.leavesQ (facK k) hf _ (fun ρ _ h2 _ dec a b hd hab => qP_ok h2 hd hab) (by rw [cTu_pre]; exact r1))⟩
theorem saneG_ok : cSaneG.wf = true ∧ cSaneG.Ok PR G gh0 := by
  obtain ⟨r1, r2⟩ := and_split saneG
  exact ⟨r2, Con.of_run mixed ConsOk.nil 100 30 r1⟩
variable (h : RecG G) (hf : Flg G)
include h in
theorem gu_ends {ρ : Env} (h1 : ρ.std G gh0) (h2 : ρ.ok (bdL cGuP.bds)) : ∀ e s m, (tGuA cGuP).pick ρ = some (e, s) → cGuP.endsA s = some m → m.hold ρ := by
  obtain ⟨r1, r2⟩ := and_split runGuP
  exact Con.def_ends (c := cGuP) (dec := []) r1 ⟨by decide, by decide⟩ h.g h1.1 h2 nilDec
include hf
theorem kG_ok : kG.Ok PR G gh0 := by
  obtain ⟨w1, w2⟩ := and_split wfFl
  exact ⟨ConsOk.cons w1 (cFlags_ok hf) (ConsOk.cons w2 (cFlagsR_ok hf) ConsOk.nil), fun c hc => by cases hc⟩
theorem cGuZ_ok : cGuZ.wf = true ∧ cGuZ.Ok PR G gh0 := by
  obtain ⟨r1, r2⟩ := and_split runGuZ
  exact ⟨r2, runP_ok (kG_ok hf) r1⟩
include h
theorem cGuP_ok : cGuP.wf = true ∧ cGuP.Ok PR G gh0 := by
  obtain ⟨r1, r2⟩ := and_split runGuP
  obtain ⟨r2, r3⟩ := and_split r2
  obtain ⟨r3, r4⟩ := and_split r3
  refine ⟨r3, Con.ok_any (L := 40) (pol := none') (pure := no') (d := 20) fun ρ h1 h2 h3 => ?_⟩
  obtain ⟨e, s, q, p1, p2, p3⟩ := Con.def_holds (c := cGuP) (dec := []) r1 ⟨by decide, by decide⟩ h2 nilDec (by rw [h1.1]; exact h.g)
  obtain ⟨fc, f1, f2⟩ := gu_pick cGuP ρ
  rw [f2] at p1
  unfold tGu at p1
  exact ⟨kG, fc, kG_ok hf, f1, e, s, _, q, p1, p2, p3⟩
theorem cGuR_ok : cGuR.wf = true ∧ cGuR.Ok PR G gh0 := by
  obtain ⟨r1, r2⟩ := and_split runGuP
  obtain ⟨r2, r3⟩ := and_split r2
  obtain ⟨r3, r4⟩ := and_split r3
  refine ⟨r4, Con.ok_any (L := 40) (pol := none') (pure := no') (d := 20) fun ρ h1 h2 h3 => ?_⟩
  obtain ⟨e, s, at', q, p1, p2, p3⟩ := Con.agreeLeaves (c := cGuR) (GH := gh0) [] (fun _ _ _ _ => nilDec) (o := tGuA cGuP) (o' := tGuA cGuR) (ends := cGuP.endsA) (fun ρ h1 h2 _ => gu_ends h h1 h2) runGuR ρ h1 h2 h3
  obtain ⟨fc, f1, f2⟩ := gu_pick cGuR ρ
  rw [f2] at p1
  unfold tGu at p1
  exact ⟨kG, fc, kG_ok hf, f1, e, s, at', q, p1, p2, p3⟩
theorem KG_ok : KG.Ok PR G gh0 := by
  refine ⟨consC saneG_ok (consC (cMade_ok h) (consC (cGuP_ok h hf) (consC (cGuR_ok h hf) (consC (cGuZ_ok hf) fun c hc => ?_)))), fun c hc => by cases hc⟩
  obtain ⟨k, hk, rfl⟩ := List.mem_map.1 hc
  exact cTu_ok (List.mem_range.1 hk)
theorem cLG_ok (b : Bool) {k : Nat} (hk : k < 12) : (cLG b k).Ok PR G gh0 := by
  have r : okLG b k = true := by
    cases b
    · by_cases h6 : k < 6
      · exact List.all_eq_true.1 lg0 k (by simp; omega)
      · exact List.all_eq_true.1 lg1 k (by simp; omega)
    · by_cases h6 : k < 6
      · exact List.all_eq_true.1 lg2 k (by simp; omega)
      · exact List.all_eq_true.1 lg3 k (by simp; omega)
  exact Con.of_treeP mixed (KG_ok h hf) 100 none' no' 30 4 r
end
end
end Go.Proofs.Ythcfcjkljglgfaa
