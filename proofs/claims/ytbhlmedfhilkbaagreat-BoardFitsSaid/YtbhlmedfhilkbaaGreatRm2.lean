/- The reference's memory: the contracts of Fetch, Load, Store. No condition. -/
import Derived.Test.YtbhlmedfhilkbaaGreatRm1
set_option linter.unusedSimpArgs false
set_option linter.unusedVariables false
set_option linter.unusedSectionVars false
namespace Go.Proofs.YtbhlmedfhilkbaaGreat
open Go Go.Sx
set_option maxRecDepth 1000000
noncomputable section
theorem selF' (a b x y : Int) : selI false a b x y = if a = b then x else y := by simp [selI]
theorem selL' (a b x y : Int) : selI true a b x y = if a < b then x else y := by simp [selI]
theorem right_bits : ∀ n : Nat, n < 8 → ∀ r : Int, (r = 1 ∨ r = 2 ∨ r = 4) → (((n : Int).tdiv r).tmod 2 = 1 ↔ bitsI .and .i64 (n : Int) r ≠ 0) := by
 intro n hn r hr
 have : n = 0 ∨ n = 1 ∨ n = 2 ∨ n = 3 ∨ n = 4 ∨ n = 5 ∨ n = 6 ∨ n = 7 := by omega
 rcases this with rfl | rfl | rfl | rfl | rfl | rfl | rfl | rfl <;> rcases hr with rfl | rfl | rfl <;> decide
section
variable {ρ : Env} (h2 : ρ.ok (bdL [u32B 1])) (hm : memOk (ρ.i 0)) (h14 : d14.ev ρ = dataR (ρ.i 0)) (h15 : d15.ev ρ = imgR (ρ.i 0)) (h16 : d16.ev ρ = rgtR (ρ.i 0))
include h2 hm
omit h2 hm in
theorem in_iff (a : Int) : (a < (lenE.ev ρ)) ↔ inM (ρ.i 0) a = true := by
 show a < mN (ρ.i 0) * 256 ↔ decide (a / 256 < mN (ρ.i 0)) = true
 rw [decide_eq_true_iff]
 omega
include h16 in
theorem kE_ev (i : Nat) {r : Int} (hr : r = 1 ∨ r = 2 ∨ r = 4) : (kE i r).ev ρ = if okS (ρ.i 0) (ad (ρ.i 1) i) r = true then 1 else 0 := by
 obtain ⟨e1, e2, e3⟩ := adE_ev h2 i
 show selI true ((adE i).ev ρ) (lenE.ev ρ) (selI false ((IntKind.i64.wrap ((IntKind.i64.wrap (rowGet (d16.ev ρ) ((IE.quo (adE i) (.lit 256)).ev ρ))).tdiv r)).tmod 2) 1 1 0) 0 = _
 have hq : (IE.quo (adE i) (.lit 256)).ev ρ = ad (ρ.i 1) i / 256 := by
   show ((adE i).ev ρ).tdiv 256 = _
   rw [e1]
   exact Int.tdiv_eq_ediv_of_nonneg e2
 rw [selL', selF', hq, e1, h16]
 generalize ad (ρ.i 1) i = a at *
 unfold okS
 by_cases hin : a < lenE.ev ρ
 · rw [if_pos hin, (in_iff a).1 hin, Bool.true_and]
   have hp : a / 256 < mN (ρ.i 0) := of_decide_eq_true ((in_iff a).1 hin)
   obtain ⟨p, hpe⟩ := Int.eq_ofNat_of_zero_le (show 0 ≤ a / 256 by omega)
   have hpn : p < (mN (ρ.i 0)).toNat := by omega
   have hr7 := hm.r p hpn
   have e : rowGet (ρ.i 0) (a / 256 * 4 + 2) = mR (ρ.i 0) p := by
     rw [hpe]
     show rowGet (ρ.i 0) ((p : Int) * 4 + 2) = rowGet (ρ.i 0) ((4 * p + 2 : Nat) : Int)
     congr 1
     omega
   have e' : rowGet (rgtR (ρ.i 0)) (a / 256) = mR (ρ.i 0) p := by rw [hpe]; exact rgtR_get hpn
   obtain ⟨n, hn⟩ := Int.eq_ofNat_of_zero_le hr7.1
   have hw : IntKind.i64.wrap (mR (ρ.i 0) p) = mR (ρ.i 0) p := wrap_id .i64 _ (by show (-9223372036854775808 : Int) ≤ _; omega) (by show _ ≤ (9223372036854775807 : Int); omega)
   rw [e, e', hw, hn]
   have hb := right_bits n (by omega) r hr
   have hw2 : IntKind.i64.wrap ((n : Int).tdiv r) = (n : Int).tdiv r := by
     have : n = 0 ∨ n = 1 ∨ n = 2 ∨ n = 3 ∨ n = 4 ∨ n = 5 ∨ n = 6 ∨ n = 7 := by omega
     rcases this with rfl | rfl | rfl | rfl | rfl | rfl | rfl | rfl <;> rcases hr with rfl | rfl | rfl <;> decide
   rw [hw2]
   by_cases h : ((n : Int).tdiv r).tmod 2 = 1
   · rw [if_pos h, if_pos (decide_eq_true (hb.1 h))]
   · rw [if_neg h, if_neg (by rw [decide_eq_true_iff]; exact fun q => h (hb.2 q))]
 · have : inM (ρ.i 0) a = false := by
     cases hc : inM (ρ.i 0) a with
     | true => exact absurd ((in_iff a).2 hc) hin
     | false => rfl
   rw [if_neg hin, this]
   rfl
end
section
variable {G : Nat → Int → Int → Int → Int} (hG : Base G) {ρ : Env} (h1 : ρ.std G gh) (h2 : ρ.ok (bdL [u32B 1])) (hm : memOk (ρ.i 0)) 
include hG h1
omit h1 in
theorem base_rows : ∀ M y z, G 14 M y z = dataR M ∧ G 15 M y z = imgR M ∧ G 16 M y z = rgtR M := fun M y z => ⟨hG 14 (by decide) M y z, hG 15 (by decide) M y z, hG 16 (by decide) M y z⟩
theorem d_ev : d14.ev ρ = dataR (ρ.i 0) ∧ d15.ev ρ = imgR (ρ.i 0) ∧ d16.ev ρ = rgtR (ρ.i 0) := by
 refine ⟨?_, ?_, ?_⟩
 · show fnI ρ 14 (ρ.i 0) 0 0 = _
   rw [fn_big (by decide), h1.1]; exact (base_rows hG _ _ _).1
 · show fnI ρ 15 (ρ.i 0) 0 0 = _
   rw [fn_big (by decide), h1.1]; exact (base_rows hG _ _ _).2.1
 · show fnI ρ 16 (ρ.i 0) 0 0 = _
   rw [fn_big (by decide), h1.1]; exact (base_rows hG _ _ _).2.2
include h2 hm
theorem nOk_ev {r : Int} (hr : r = 1 ∨ r = 2 ∨ r = 4) : ∀ n i, (nOk r i (n + 1)).ev ρ = (allE r i (n + 1)).ev ρ ∧ ((allE r i (n + 1)).ev ρ = 1 ∨ (allE r i (n + 1)).ev ρ = 0) := by
 intro n
 induction n with
 | zero =>
   intro i
   show selI false ((kE i r).ev ρ) 1 1 0 = (okI i r (.lit 1) (.lit 0)).ev ρ ∧ ((okI i r (.lit 1) (.lit 0)).ev ρ = 1 ∨ (okI i r (.lit 1) (.lit 0)).ev ρ = 0)
   rw [okI_ev hG h1 h2, kE_ev h2 hm (d_ev hG h1).2.2 i hr, selF']
   cases okS (ρ.i 0) (ad (ρ.i 1) i) r <;> simp [IE.ev]
 | succ n ih =>
   intro i
   obtain ⟨q1, q2⟩ := ih (i + 1)
   have e : (nOk r i (n + 1 + 1)).ev ρ = selI false ((kE i r).ev ρ) 1 (selI false ((nOk r (i + 1) (n + 1)).ev ρ) 1 1 0) 0 := rfl
   have e' : (allE r i (n + 1 + 1)).ev ρ = (okI i r (allE r (i + 1) (n + 1)) (.lit 0)).ev ρ := rfl
   rw [e, e', okI_ev hG h1 h2, kE_ev h2 hm (d_ev hG h1).2.2 i hr, selF', selF', q1]
   cases okS (ρ.i 0) (ad (ρ.i 1) i) r
   · simp [IE.ev]
   · rcases q2 with q | q <;> rw [q] <;> simp
theorem rAt_ev {r : Int} (hr : r = 1 ∨ r = 2 ∨ r = 4) : ∀ n i, (rAt r i n).ev ρ = (atE r i n).ev ρ := by
 intro n
 induction n with
 | zero => intro i; rfl
 | succ n ih =>
   intro i
   have e : (rAt r i (n + 1)).ev ρ = selI false ((kE i r).ev ρ) 1 ((rAt r (i + 1) n).ev ρ) ((adE i).ev ρ) := rfl
   have e' : (atE r i (n + 1)).ev ρ = (okI i r (atE r (i + 1) n) (adE i)).ev ρ := rfl
   rw [e, e', okI_ev hG h1 h2, kE_ev h2 hm (d_ev hG h1).2.2 i hr, selF', ih]
   cases okS (ρ.i 0) (ad (ρ.i 1) i) r <;> simp
omit hm in
theorem all_in {r : Int} : ∀ n i, (allE r i n).ev ρ = 1 → ∀ j, j < n → inM (ρ.i 0) (ad (ρ.i 1) (i + j : Nat)) = true := by
 intro n
 induction n with
 | zero => intro i _ j hj; cases hj
 | succ n ih =>
   intro i h j hj
   have e' : (allE r i (n + 1)).ev ρ = (okI i r (allE r (i + 1) n) (.lit 0)).ev ρ := rfl
   rw [e', okI_ev hG h1 h2] at h
   split at h
   · rename_i hk
     cases j with
     | zero =>
       unfold okS at hk
       simp only [Bool.and_eq_true] at hk
       exact hk.1
     | succ j =>
       have := ih (i + 1) h j (by omega)
       rwa [show i + 1 + j = i + (j + 1) by omega] at this
   · have h : (0 : Int) = 1 := h
     omega
theorem rB_ev (i : Nat) (hin : inM (ρ.i 0) (ad (ρ.i 1) i) = true) : (rB i).ev ρ = (pkE i).ev ρ := by
 obtain ⟨e1, e2, e3⟩ := adE_ev h2 i
 show IntKind.u8.wrap (rowGet (d14.ev ρ) ((adE i).ev ρ)) = IntKind.u8.wrap (fnI ρ 20 (ρ.i 0) ((adE i).ev ρ) 0)
 rw [fn_ev hG h1 (by decide) (by decide), (d_ev hG h1).1, e1]
 generalize ad (ρ.i 1) i = a at *
 have hlt := (in_iff a).2 hin
 obtain ⟨n, rfl⟩ := Int.eq_ofNat_of_zero_le e2
 have hn : n < 256 * (mN (ρ.i 0)).toNat := by
   have : (n : Int) < mN (ρ.i 0) * 256 := hlt
   omega
 rw [dataR_get hn]
 show _ = IntKind.u8.wrap (pkS (ρ.i 0) (n : Int))
 unfold pkS
 rw [if_pos hin, wrap_byte (byte_wrap _)]
 congr 1
 show rowGet (ρ.i 0) ((4 * n : Nat) : Int) = _
 congr 1
 omega
theorem obL_ok {n : Nat} (hn : n = 1 ∨ n = 4) : obsOk ρ (obL n) := by
 have hok : (nOk 1 0 n).ev ρ = (allE 1 0 n).ev ρ ∧ ((allE 1 0 n).ev ρ = 1 ∨ (allE 1 0 n).ev ρ = 0) := by
   rcases hn with rfl | rfl
   · exact nOk_ev hG h1 h2 hm (.inl rfl) 0 0
   · exact nOk_ev hG h1 h2 hm (.inl rfl) 3 0
 intro o ho _
 simp only [obL, List.mem_cons, List.not_mem_nil, or_false] at ho
 rcases ho with rfl | rfl | rfl
 · show selI false ((allE 1 0 n).ev ρ) 1 ((ldW n).ev ρ) 0 = selI false ((nOk 1 0 n).ev ρ) 1 ((rW n).ev ρ) 0
   rw [hok.1]
   rcases hok.2 with h | h
   · have hb : ∀ j, j < n → (rB j).ev ρ = (pkE j).ev ρ := fun j hj => rB_ev hG h1 h2 hm j (by
       have := all_in hG h1 h2 n 0 h j hj
       rwa [Nat.zero_add] at this)
     have : (ldW n).ev ρ = (rW n).ev ρ := by
       rcases hn with rfl | rfl
       · exact (hb 0 (by decide)).symm
       · show (((pkE 3).ev ρ * 256 + (pkE 2).ev ρ) * 256 + (pkE 1).ev ρ) * 256 + (pkE 0).ev ρ = (((rB 3).ev ρ * 256 + (rB 2).ev ρ) * 256 + (rB 1).ev ρ) * 256 + (rB 0).ev ρ
         rw [hb 0 (by decide), hb 1 (by decide), hb 2 (by decide), hb 3 (by decide)]
     rw [this]
   · rw [h, selF', selF', if_neg (by decide), if_neg (by decide)]
 · exact (rAt_ev hG h1 h2 hm (.inl rfl) n 0).symm
 · show selI false ((allE 1 0 n).ev ρ) 1 1 0 = selI false ((nOk 1 0 n).ev ρ) 1 1 0
   rw [hok.1]
end
section
variable {G : Nat → Int → Int → Int → Int} (hG : Base G)
include hG
theorem rLoad_ok {n : Nat} (hn : n = 1 ∨ n = 4) : (rLoad n).Ok PR G gh := by
 refine refCon (el := rfT) (k := 2) (c := rLoad n) (Me' := .var 0) (De := d14) (Re := d16) (Ce := d15) rfl (base_rows hG) rfl rfl (by rcases hn with rfl | rfl <;> rfl) rfl (fun coh ρ h1 h2 h3 hm hc => ?_) fun ρ h1 h2 h3 hm => ?_
 · refine Con.at_treeX (k := 12) (L := 300) (pol := none') (pure := no') (d := 12) (facts := []) (obs := obL n) mixed (K := ⟨[], []⟩) knowNil h1 h2 h3 nilDec (obL_ok hG h1 h2 hm hn) ?_
   have h := load_run
   simp only [Bool.and_eq_true] at h
   obtain ⟨a, b, c, d⟩ := h
   rcases hn with rfl | rfl
   · cases coh
     · exact b
     · exact a
   · cases coh
     · exact d
     · exact c
 · obtain ⟨e14, e15, e16⟩ := d_ev hG h1
   rw [e14, e15, e16]
   exact refNext.refl hm
end
end
end Go.Proofs.YtbhlmedfhilkbaaGreat
