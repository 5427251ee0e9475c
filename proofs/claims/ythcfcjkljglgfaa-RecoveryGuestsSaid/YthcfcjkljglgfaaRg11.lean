/- RecoveryGuests: there are such functions; the law in one contract. No condition. -/
import Derived.Test.YthcfcjkljglgfaaRg10
set_option linter.unusedVariables false
set_option linter.unusedSimpArgs false
namespace Go.Proofs.Ythcfcjkljglgfaa
open Go Go.Sx
set_option maxRecDepth 1000000
noncomputable section
attribute [local irreducible] tWord tSource t1 t1S t2 t2S tI tM tB tGu tGuA
def G00 (c : Nat) (x y z : Int) : Int := if c = 40 then flgI x y z else pairI x y
theorem G00_packs : Packs G00 := fun _ _ _ => rfl
theorem only_or {α : Type} {l : List α} {n : α} {P : α → Prop} (h : ∀ x ∈ l, P x) (k : P n) : ∀ x ∈ l ++ [n], P x := fun x hx => by
  rcases List.mem_append.1 hx with hx | hx
  · exact h x hx
  · rcases List.mem_cons.1 hx with rfl | hx
    · exact k
    · cases hx
def fam (n : Nat) (F : Nat → Fns) (t : Nat → RT) : List (Fns × RT × Nat) := (List.range n).map fun i => (F (i + 1), t i, (F (i + 1)).KR)
theorem fam_mem {n : Nat} {F : Nat → Fns} {t : Nat → RT} {i : Nat} (hi : i < n) : (F (i + 1), t i, (F (i + 1)).KR) ∈ fam n F t := List.mem_map.2 ⟨i, List.mem_range.2 hi, rfl⟩
def allF (ta tb : RT) (tc : Nat → RT) (td : RT) (te : Nat → RT) (tf tg : RT) (th : Nat → RT) (ti tj : RT) : List (Fns × RT × Nat) :=
  [(FSo, ta, 150), (FWo, tb, 152)] ++ (fam 3 FL1 tc ++ ([(F1S, td, 168)] ++ (fam 3 FL2 te ++ ([(F2S, tf, 178), (FI, tg, 180)] ++ (fam 12 FM th ++ [(FB, ti, 216), (FG, tj, 220)])))))
theorem allF_ex (ta tb : RT) (tc : Nat → RT) (td : RT) (te : Nat → RT) (tf tg : RT) (th : Nat → RT) (ti tj : RT) (ha : ta.only (memV FSo.vars) 150 = true) (hb : tb.only (memV FWo.vars) 152 = true) (hc : ∀ i, i < 3 → (tc i).only (memV (FL1 (i + 1)).vars) (FL1 (i + 1)).KR = true) (hd : td.only (memV F1S.vars) 168 = true) (he : ∀ i, i < 3 → (te i).only (memV (FL2 (i + 1)).vars) (FL2 (i + 1)).KR = true)
    (hf : tf.only (memV F2S.vars) 178 = true) (hg : tg.only (memV FI.vars) 180 = true) (hh : ∀ i, i < 12 → (th i).only (memV (FM (i + 1)).vars) (FM (i + 1)).KR = true) (hi : ti.only (memV FB.vars) 216 = true) (hj : tj.only (memV FG.vars) 220 = true) :
    ∃ G, Flg G ∧ ∀ x ∈ allF ta tb tc td te tf tg th ti tj, x.1.Def G x.2.1 := by
  obtain ⟨G, _, b, _, d⟩ := exists_defs (allF ta tb tc td te tf tg th ti tj) 150 G00 G00_packs (by rfl) (fun x hx => by
    unfold allF at hx
    simp only [List.mem_append, List.mem_cons, List.not_mem_nil, or_false] at hx
    rcases hx with (rfl | rfl) | hx | rfl | hx | (rfl | rfl) | hx | (rfl | rfl)
    · exact ha
    · exact hb
    · obtain ⟨i, h1, rfl⟩ := List.mem_map.1 hx
      exact hc i (List.mem_range.1 h1)
    · exact hd
    · obtain ⟨i, h1, rfl⟩ := List.mem_map.1 hx
      exact he i (List.mem_range.1 h1)
    · exact hf
    · exact hg
    · obtain ⟨i, h1, rfl⟩ := List.mem_map.1 hx
      exact hh i (List.mem_range.1 h1)
    · exact hi
    · exact hj)
  refine ⟨G, fun k x y => by rw [b 40 (by decide)]; rfl, d⟩
theorem recG_ex : ∃ G, RecG G ∧ Flg G := by
  obtain ⟨G, hf, d⟩ := allF_ex (cSource.rows FSo tSource) (cWord.rows FWo tWord) (fun n => (c1 (n + 1)).rows (FL1 (n + 1)) (t1 n)) (c1S.rows F1S (casesO (.var 6) t1S [0, 1, 2, 3])) (fun n => (c2 (n + 1)).rows (FL2 (n + 1)) (t2 n)) (c2S.rows F2S (casesO (.var 6) t2S [0, 1, 2, 3])) (cInstr.rows FI tI) (fun j => (cM (j + 1)).rows (FM (j + 1)) (tM j)) (cMade.rows FB tB) (cGuP.rows FG (tGuA cGuP))
    (and3 source_run).2.1 (and3 word_run).2.1 (fun i hi => by
      have r : ok1 i = true := by
        match i, hi with
        | 0, _ => exact run1_0
        | 1, _ => exact run1_1
        | 2, _ => exact run1_2
      exact (and3 r).2.1)
    (and3 run1S).2.1 (fun i hi => by
      have r : ok2 i = true := by
        match i, hi with
        | 0, _ => exact run2_0
        | 1, _ => exact run2_1
        | 2, _ => exact run2_2
      exact (and3 r).2.1)
    (and3 run2S).2.1 (and3 runI).2.1 (fun i hi => (and3 (List.all_eq_true.1 runM i (List.mem_range.2 hi))).2.1) (and3 runB).2.1 (and_split (and_split runGuP).2).1
  refine ⟨G, { so := d (FSo, _, 150) ?_, wo := d (FWo, _, 152) ?_, l1 := fun n hn => d (FL1 (n + 1), _, (FL1 (n + 1)).KR) ?_, s1 := d (F1S, _, 168) ?_, l2 := fun n hn => d (FL2 (n + 1), _, (FL2 (n + 1)).KR) ?_, s2 := d (F2S, _, 178) ?_, i := d (FI, _, 180) ?_, m := fun j hj => d (FM (j + 1), _, (FM (j + 1)).KR) ?_, b := d (FB, _, 216) ?_, g := d (FG, _, 220) ?_ }, hf⟩
  · exact List.mem_append_left _ (List.mem_cons_self ..)
  · exact List.mem_append_left _ (List.mem_cons_of_mem _ (List.mem_cons_self ..))
  · exact List.mem_append_right _ (List.mem_append_left _ (fam_mem (t := fun n => (c1 (n + 1)).rows (FL1 (n + 1)) (t1 n)) hn))
  · exact List.mem_append_right _ (List.mem_append_right _ (List.mem_append_left _ (List.mem_cons_self ..)))
  · exact List.mem_append_right _ (List.mem_append_right _ (List.mem_append_right _ (List.mem_append_left _ (fam_mem (t := fun n => (c2 (n + 1)).rows (FL2 (n + 1)) (t2 n)) hn))))
  · exact List.mem_append_right _ (List.mem_append_right _ (List.mem_append_right _ (List.mem_append_right _ (List.mem_append_left _ (List.mem_cons_self ..)))))
  · exact List.mem_append_right _ (List.mem_append_right _ (List.mem_append_right _ (List.mem_append_right _ (List.mem_append_left _ (List.mem_cons_of_mem _ (List.mem_cons_self ..))))))
  · exact List.mem_append_right _ (List.mem_append_right _ (List.mem_append_right _ (List.mem_append_right _ (List.mem_append_right _ (List.mem_append_left _ (fam_mem (t := fun j => (cM (j + 1)).rows (FM (j + 1)) (tM j)) hj))))))
  · exact List.mem_append_right _ (List.mem_append_right _ (List.mem_append_right _ (List.mem_append_right _ (List.mem_append_right _ (List.mem_append_right _ (List.mem_cons_self ..))))))
  · exact List.mem_append_right _ (List.mem_append_right _ (List.mem_append_right _ (List.mem_append_right _ (List.mem_append_right _ (List.mem_append_right _ (List.mem_cons_of_mem _ (List.mem_cons_self ..)))))))
/-! the law -/
def cLawG : Con := { g := 4, args := [.sliceS 0 (.lit 0) (.var 1) 1 false, .agg [uV .i64 2, uV .i64 3, uV .i64 4], bigV], os := [numO'], bds := lgB, res := .bool (.lit true), os' := [numO'] }
theorem lA_in (ρ : Env) (b : Bool) : 0 ≤ (lA b).ev ρ := by
  cases b
  · exact (rng_ok (ρ := ρ) (bd := fun _ => none) (fun i lo hi h => by cases h) (lA false) 0 31 (by kernel_rfl)).1
  · exact (rng_ok (ρ := ρ) (bd := fun _ => none) (fun i lo hi h => by cases h) (lA true) 0 31 (by kernel_rfl)).1
theorem lO_in (ρ : Env) (b : Bool) : 0 ≤ (lO b).ev ρ := by
  cases b
  · exact (rng_ok (ρ := ρ) (bd := fun _ => none) (fun i lo hi h => by cases h) (lO false) 0 199 (by kernel_rfl)).1
  · exact (rng_ok (ρ := ρ) (bd := fun _ => none) (fun i lo hi h => by cases h) (lO true) 0 199 (by kernel_rfl)).1
theorem facG_lo {b : Bool} {k : Nat} (hk : k ≤ 10) : facG b k = (.lt (.lit 150) (.var 1), b) :: [(.eq (lO b) (.lit 0), false), (.lt (.sub (lO b) (.lit 1)) (.lit 0), false), (.eq modG (.lit (.ofNat k)), true), (.lt (lA b) (hG' b), false)] := by
  unfold facG
  rw [Nat.ble_eq_true_of_le hk]
theorem cLawG_ok {G : Nat → Int → Int → Int → Int} (h : RecG G) (hf : Flg G) : cLawG.Ok PR G gh0 := by
  intro ρ h1 h2 _
  have key : ∀ b : Bool, (BE.lt (.lit 150) (.var 1)).ev ρ = b → Con.OkAt cLawG (callR PR cLawG.g) ρ := by
    intro b hb
    have la := lA_in ρ b
    have lo := lO_in ρ b
    by_cases h0 : (lO b).ev ρ = 0
    · exact cLG_ok h hf b (k := 11) (by decide) ρ h1 h2 (show Dec.holds ρ ((BE.lt (.lit 150) (.var 1), b) :: [(.eq (lO b) (.lit 0), true)]) from decCons (decCons nilDec (show (BE.eq (lO b) (.lit 0)).ev ρ = true from decide_eq_true h0)) hb)
    · have m0 : 0 ≤ (IE.add (.rem (.var 2) (.lit 11)) (.lit 11)).ev ρ := by
        show 0 ≤ (ρ.i 2).tmod 11 + 11
        have := Int.lt_tmod_of_pos (ρ.i 2) (show (0 : Int) < 11 by decide)
        omega
      have m1 : 0 ≤ modG.ev ρ := Int.tmod_nonneg _ m0
      have m2 : modG.ev ρ < 11 := Int.tmod_lt_of_pos _ (show (0 : Int) < 11 by decide)
      obtain ⟨k, hk⟩ := Int.eq_ofNat_of_zero_le m1
      have n0 : 0 ≤ (IE.bits .and .i64 (.var 4) (.lit 65535)).ev ρ := (rng_ok (ρ := ρ) (bd := fun _ => none) (fun i lo hi h => by cases h) (.bits .and .i64 (.var 4) (.lit 65535)) 0 65535 (by decide)).1
      have g2 : (hG' b).ev ρ < (lA b).ev ρ + 1 := Int.tmod_lt_of_pos _ (show (0 : Int) < (lA b).ev ρ + 1 by omega)
      refine cLG_ok h hf b (k := k) (by omega) ρ h1 h2 ?_
      show Dec.holds ρ (facG b k)
      rw [facG_lo (by omega)]
      have q1 : (BE.lt (lA b) (hG' b)).ev ρ = false := decide_eq_false (show ¬ (lA b).ev ρ < (hG' b).ev ρ by omega)
      have q2 : (BE.eq modG (.lit (.ofNat k))).ev ρ = true := decide_eq_true (show modG.ev ρ = Int.ofNat k from hk)
      have q3 : (BE.lt (.sub (lO b) (.lit 1)) (.lit 0)).ev ρ = false := decide_eq_false (show ¬ ((lO b).ev ρ - 1 < 0) by omega)
      have q4 : (BE.eq (lO b) (.lit 0)).ev ρ = false := decide_eq_false h0
      intro p hp
      simp only [List.mem_cons, List.not_mem_nil, or_false] at hp
      rcases hp with rfl | rfl | rfl | rfl | rfl
      · exact hb
      · exact q4
      · exact q3
      · exact q2
      · exact q1
  exact key _ rfl
end
end Go.Proofs.Ythcfcjkljglgfaa
