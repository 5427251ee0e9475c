/- The reference's memory: the contracts of Fetch, Store, Sync hold. No condition. -/
import Derived.Test.YtbhlmedfhilkbaaGreatRm3
set_option linter.unusedSimpArgs false
set_option linter.unusedVariables false
set_option linter.unusedSectionVars false
namespace Go.Proofs.YtbhlmedfhilkbaaGreat
open Go Go.Sx
set_option maxRecDepth 1000000
noncomputable section
/-! Fetch -/
section
variable {G : Nat → Int → Int → Int → Int} (hG : Base G)
include hG
omit hG in
theorem ad0 {ρ : Env} (h2 : ρ.ok (bdL [u32B 1])) : ad (ρ.i 1) (0 : Nat) = ρ.i 1 := (adE_ev h2 0).1.symm
theorem obF_val {ρ : Env} (h1 : ρ.std G gh) (h2 : ρ.ok (bdL [u32B 1])) (hm : memOk (ρ.i 0)) (d : IE) {X : Int} (hX : okS (ρ.i 0) (ρ.i 1) 4 = true → rowGet (d.ev ρ) (ρ.i 1) = X ∧ cdS (ρ.i 0) (ρ.i 1) = IntKind.u8.wrap X) :
   (IE.sel false (f22 4) (.lit 1) cdE (.lit 0)).ev ρ = (IE.sel false (kE 0 4) (.lit 1) (.sel true (.var 1) lenE (.wrap .u8 (.fn 0 d (.var 1) (.lit 0))) (.lit 0)) (.lit 0)).ev ρ := by
 obtain ⟨e14, e15, e16⟩ := d_ev hG h1
 have hk := kE_ev h2 hm e16 0 (r := 4) (.inr (.inr rfl))
 rw [ad0 h2] at hk
 have hf : (f22 4).ev ρ = b2 (okS (ρ.i 0) (ρ.i 1) 4) := ok_fn hG h1 (.var 1) 4
 show selI false ((f22 4).ev ρ) 1 (cdE.ev ρ) 0 = selI false ((kE 0 4).ev ρ) 1 (selI true (ρ.i 1) (lenE.ev ρ) (IntKind.u8.wrap (rowGet (d.ev ρ) (ρ.i 1))) 0) 0
 rw [hf, hk, selF', selF', selL']
 cases ho : okS (ρ.i 0) (ρ.i 1) 4
 · rfl
 · obtain ⟨x1, x2⟩ := hX ho
   have hin : inM (ρ.i 0) (ρ.i 1) = true := by
     unfold okS at ho
     simp only [Bool.and_eq_true] at ho
     exact ho.1
   rw [if_pos ((in_iff (ρ := ρ) (ρ.i 1)).2 hin), x1, show cdE.ev ρ = IntKind.u8.wrap X from (cd_ev hG h1 h2).trans x2]
   rfl
theorem obF_ok {ρ : Env} (h1 : ρ.std G gh) (h2 : ρ.ok (bdL [u32B 1])) (hm : memOk (ρ.i 0)) {coh : Bool} (hc : mCoh (ρ.i 0) = coh) : obsOk ρ (obF coh) := by
 obtain ⟨e14, e15, e16⟩ := d_ev hG h1
 have hk := kE_ev h2 hm e16 0 (r := 4) (.inr (.inr rfl))
 rw [ad0 h2] at hk
 have hf : (f22 4).ev ρ = b2 (okS (ρ.i 0) (ρ.i 1) 4) := ok_fn hG h1 (.var 1) 4
 obtain ⟨q1, q2, _⟩ := pos_div h2 rfl
 obtain ⟨n, hn⟩ := Int.eq_ofNat_of_zero_le q1
 have inl : okS (ρ.i 0) (ρ.i 1) 4 = true → inM (ρ.i 0) (ρ.i 1) = true ∧ n < 256 * (mN (ρ.i 0)).toNat := fun ho => by
   have hin : inM (ρ.i 0) (ρ.i 1) = true := by
     unfold okS at ho
     simp only [Bool.and_eq_true] at ho
     exact ho.1
   have : ρ.i 1 < mN (ρ.i 0) * 256 := (in_iff (ρ := ρ) (ρ.i 1)).2 hin
   exact ⟨hin, by omega⟩
 intro o ho _
 simp only [obF, List.mem_cons, List.not_mem_nil, or_false] at ho
 rcases ho with rfl | rfl | rfl
 · cases coh
   · refine obF_val hG h1 h2 hm d15 (X := mC (ρ.i 0) n) fun ho => ?_
     obtain ⟨a, b⟩ := inl ho
     refine ⟨by rw [e15, hn]; exact imgR_get b, ?_⟩
     unfold cdS
     rw [if_pos a, hc, hn]
     show IntKind.u8.wrap (rowGet (ρ.i 0) ((n : Int) * 4 + 1)) = IntKind.u8.wrap (rowGet (ρ.i 0) ((4 * n + 1 : Nat) : Int))
     rw [show ((4 * n + 1 : Nat) : Int) = (n : Int) * 4 + 1 by omega]
   · refine obF_val hG h1 h2 hm d14 (X := mD (ρ.i 0) n) fun ho => ?_
     obtain ⟨a, b⟩ := inl ho
     refine ⟨by rw [e14, hn]; exact dataR_get b, ?_⟩
     unfold cdS
     rw [if_pos a, hc, hn]
     show IntKind.u8.wrap (rowGet (ρ.i 0) ((n : Int) * 4)) = IntKind.u8.wrap (rowGet (ρ.i 0) ((4 * n : Nat) : Int))
     rw [show ((4 * n : Nat) : Int) = (n : Int) * 4 by omega]
 · show selI false ((f22 4).ev ρ) 1 0 (ρ.i 1) = selI false ((kE 0 4).ev ρ) 1 0 (ρ.i 1)
   rw [hf, hk]
   cases okS (ρ.i 0) (ρ.i 1) 4 <;> rfl
 · show selI false ((f22 4).ev ρ) 1 1 0 = selI false (selI false ((kE 0 4).ev ρ) 1 1 0) 1 1 0
   rw [hf, hk]
   cases okS (ρ.i 0) (ρ.i 1) 4 <;> rfl
theorem rFetch_ok : rFetch.Ok PR G gh := by
 refine refCon (el := rfT) (k := 2) (c := rFetch) (Me' := .var 0) (De := d14) (Re := d16) (Ce := d15) rfl (base_rows hG) rfl rfl rfl rfl (fun coh ρ h1 h2 h3 hm hc => ?_) fun ρ h1 h2 h3 hm => ?_
 · refine Con.at_treeX (k := 12) (L := 300) (pol := none') (pure := no') (d := 12) (facts := []) (obs := obF coh) mixed (K := ⟨[], []⟩) knowNil h1 h2 h3 nilDec (obF_ok hG h1 h2 hm hc) ?_
   have h := fetch_run
   simp only [Bool.and_eq_true] at h
   cases coh
   · exact h.2
   · exact h.1
 · obtain ⟨e14, e15, e16⟩ := d_ev hG h1
   rw [e14, e15, e16]
   exact refNext.refl hm
end
/-! Store -/
theorem ad_nn (a : Int) (i : Int) : 0 ≤ ad a i ∧ ad a i ≤ 4294967295 := wrap_mem .u32 _
theorem st_step {M Mk D R C a b : Int} (h : refNext M Mk D R C) (h0 : 0 ≤ a) (hin : inM M a = true) (hb : isByte b) : refNext M (stS Mk a b) (rowSet D a b) R C := by
 obtain ⟨n, rfl⟩ := Int.eq_ofNat_of_zero_le h0
 have hink : inM Mk (n : Int) = true := by
   unfold inM at *
   rw [h.n]; exact hin
 have e : stS Mk (n : Int) b = rowSet Mk ((4 * n : Nat) : Int) b := by
   unfold stS
   rw [if_pos hink, show ((4 * n : Nat) : Int) = (n : Int) * 4 by omega]
 have g : ∀ j : Nat, rowGet (stS Mk (n : Int) b) (j : Nat) = if j = 4 * n then b else rowGet Mk j := fun j => by
   rw [e]; exact rowGet_byte hb
 have eN : mN (stS Mk n b) = mN Mk := by
   show rowGet _ ((3 : Nat) : Int) = _
   rw [g, if_neg (by omega)]; rfl
 have eC : mCoh (stS Mk n b) = mCoh Mk := by
   unfold mCoh
   rw [g, if_neg (by omega)]
 have eD : ∀ j, mD (stS Mk n b) j = if j = n then b else mD Mk j := fun j => by
   unfold mD
   rw [g]
   by_cases hj : j = n
   · rw [if_pos hj, if_pos (by omega)]
   · rw [if_neg hj, if_neg (by omega)]
 have eI : ∀ j, mC (stS Mk n b) j = mC Mk j := fun j => by
   unfold mC
   rw [g, if_neg (by omega)]
 have eR : ∀ j, mR (stS Mk n b) j = mR Mk j := fun j => by
   unfold mR
   rw [g, if_neg (by omega)]
 refine ⟨⟨by rw [eN]; exact h.ok.n, fun p j hp hj => ?_, fun hc p j hp hj => ?_, fun p hp => ?_, by rw [e]; exact h.ok.k.set (.inr (.inr (.inl ⟨n, by have hx : (n : Int) / 256 < mN Mk := of_decide_eq_true hink; omega, .inl rfl⟩))) (by omega) (by omega)⟩, eN.trans h.n, eC.trans h.coh, fun j hj => ?_, fun j hj => ?_, fun hc j hj => ?_⟩
 · rw [eN] at hp
   rw [eD]
   split
   · exact hb
   · exact h.ok.d p j hp hj
 · rw [eN] at hp
   rw [eC] at hc
   rw [eI]
   exact h.ok.c hc p j hp hj
 · rw [eN] at hp
   rw [eR]
   exact h.ok.r p hp
 · rw [eD, rowGet_byte hb]
   split
   · rfl
   · exact h.d j hj
 · rw [eR]; exact h.r j hj
 · rw [eI]; exact h.c hc j hj
section
variable {G : Nat → Int → Int → Int → Int} (hG : Base G) {ρ : Env} (h1 : ρ.std G gh) (h2 : ρ.ok (bdL [u32B 1, u32B 2])) (hm : memOk (ρ.i 0))
include hG h1 h2 hm
omit hG h1 hm in
theorem h2' : ρ.ok (bdL [u32B 1]) := fun i lo hi h => by
 match i with
 | 1 => exact h2 1 lo hi h
 | 0 => cases h
 | i + 2 => cases h
theorem obS_ok {n : Nat} (hn : n = 1 ∨ n = 4) : obsOk ρ (obS n) := by
 have hok : (nOk 2 0 n).ev ρ = (allE 2 0 n).ev ρ := by
   rcases hn with rfl | rfl
   · exact (nOk_ev hG h1 (h2' h2) hm (.inr (.inl rfl)) 0 0).1
   · exact (nOk_ev hG h1 (h2' h2) hm (.inr (.inl rfl)) 3 0).1
 intro o ho _
 simp only [obS, List.mem_cons, List.not_mem_nil, or_false] at ho
 rcases ho with rfl | rfl
 · exact (rAt_ev hG h1 (h2' h2) hm (.inr (.inl rfl)) n 0).symm
 · show selI false ((allE 2 0 n).ev ρ) 1 1 0 = selI false ((nOk 2 0 n).ev ρ) 1 1 0
   rw [hok]
omit hG h1 hm in
theorem v2_ev : ∀ i : Nat, i < 4 → (v2 i).ev ρ = ρ.i 2 / ((256 ^ i : Nat) : Int) := by
 obtain ⟨q1, q2⟩ := h2 2 0 4294967295 rfl
 have e1 : (v2 1).ev ρ = ρ.i 2 / 256 := Int.tdiv_eq_ediv_of_nonneg q1
 have e2 : (v2 2).ev ρ = ρ.i 2 / 65536 := by
   show ((v2 1).ev ρ).tdiv 256 = _
   rw [e1, Int.tdiv_eq_ediv_of_nonneg (by omega)]
   omega
 have e3 : (v2 3).ev ρ = ρ.i 2 / 16777216 := by
   show ((v2 2).ev ρ).tdiv 256 = _
   rw [e2, Int.tdiv_eq_ediv_of_nonneg (by omega)]
   omega
 intro i hi
 have : i = 0 ∨ i = 1 ∨ i = 2 ∨ i = 3 := by omega
 rcases this with rfl | rfl | rfl | rfl
 · show ρ.i 2 = ρ.i 2 / 1
   omega
 · exact e1
 · exact e2
 · exact e3
omit hG h1 hm in
theorem bt_ev {i : Nat} (hi : i < 4) : (btE i).ev ρ = IntKind.u8.wrap ((v2 i).ev ρ) := by
 obtain ⟨q1, q2⟩ := h2 2 0 4294967295 rfl
 show IntKind.u8.wrap ((ρ.i 2).tdiv ((256 ^ i : Nat) : Int)) = _
 rw [Int.tdiv_eq_ediv_of_nonneg q1, v2_ev h2 i hi]
theorem st_next {n : Nat} (hn : n = 1 ∨ n = 4) : refNext (ρ.i 0) ((rStore n).os'.head?.elim 0 fun o => match o with | .ghost _ [e] _ => e.ev ρ | _ => 0) ((stDe n).ev ρ) (d16.ev ρ) (d15.ev ρ) := by
 obtain ⟨e14, e15, e16⟩ := d_ev hG h1
 have hok : (nOk 2 0 n).ev ρ = (allE 2 0 n).ev ρ ∧ ((allE 2 0 n).ev ρ = 1 ∨ (allE 2 0 n).ev ρ = 0) := by
   rcases hn with rfl | rfl
   · exact nOk_ev hG h1 (h2' h2) hm (.inr (.inl rfl)) 0 0
   · exact nOk_ev hG h1 (h2' h2) hm (.inr (.inl rfl)) 3 0
 show refNext (ρ.i 0) (selI false ((allE 2 0 n).ev ρ) 1 ((stW n).ev ρ) (ρ.i 0)) (selI false ((nOk 2 0 n).ev ρ) 1 ((setE n).ev ρ) (d14.ev ρ)) (d16.ev ρ) (d15.ev ρ)
 rw [hok.1]
 have r0 := refNext.refl hm
 rw [← e14, ← e15, ← e16] at r0
 rcases hok.2 with h | h
 · rw [h, selF', selF', if_pos rfl, if_pos rfl]
   have hin : ∀ j, j < n → inM (ρ.i 0) (ad (ρ.i 1) (j : Nat)) = true := fun j hj => by
     have := all_in hG h1 (h2' h2) n 0 h j hj
     rwa [Nat.zero_add] at this
   have step : ∀ (j : Nat) (Me De : IE), j < n → refNext (ρ.i 0) (Me.ev ρ) (De.ev ρ) (d16.ev ρ) (d15.ev ρ) → refNext (ρ.i 0) ((IE.fn 30 Me (adE j) (btE j)).ev ρ) ((IE.fn 1 De (adE j) (.wrap .u8 (v2 j))).ev ρ) (d16.ev ρ) (d15.ev ρ) := by
     intro j Me De hj hr
     show refNext (ρ.i 0) (fnI ρ 30 (Me.ev ρ) ((adE j).ev ρ) ((btE j).ev ρ)) (rowSet (De.ev ρ) ((adE j).ev ρ) (IntKind.u8.wrap ((v2 j).ev ρ))) _ _
     rw [fn_ev hG h1 (by decide) (by decide), (adE_ev (h2' h2) j).1, bt_ev h2 (by omega)]
     exact st_step hr (ad_nn _ _).1 (hin j hj) (byte_wrap _)
   rcases hn with rfl | rfl
   · exact step 0 (.var 0) d14 (by decide) r0
   · have h3 := step 3 _ _ (by decide) (step 2 _ _ (by decide) (step 1 _ _ (by decide) (step 0 (.var 0) d14 (by decide) r0)))
     have e3 : (v2 3).ev ρ = IntKind.u8.wrap ((v2 3).ev ρ) := by
       obtain ⟨q1, q2⟩ := h2 2 0 4294967295 rfl
       have := v2_ev h2 3 (by decide)
       have e : ((256 ^ 3 : Nat) : Int) = 16777216 := rfl
       rw [e] at this
       exact (wrap_id .u8 _ (by show (0 : Int) ≤ _; omega) (by show _ ≤ (255 : Int); omega)).symm
     have e : (setE 4).ev ρ = (IE.fn 1 (.fn 1 (.fn 1 (.fn 1 d14 (adE 0) (.wrap .u8 (v2 0))) (adE 1) (.wrap .u8 (v2 1))) (adE 2) (.wrap .u8 (v2 2))) (adE 3) (.wrap .u8 (v2 3))).ev ρ := by
       show rowSet _ _ ((v2 3).ev ρ) = rowSet _ _ (IntKind.u8.wrap ((v2 3).ev ρ))
       rw [← e3]
     rw [e]
     exact h3
 · rw [h, selF', selF', if_neg (by decide), if_neg (by decide)]
   exact r0
end
section
variable {G : Nat → Int → Int → Int → Int} (hG : Base G)
include hG
theorem rStore_ok {n : Nat} (hn : n = 1 ∨ n = 4) : (rStore n).Ok PR G gh := by
 refine refCon (el := rfT) (k := 2) (c := rStore n) (Me' := .sel false (allE 2 0 n) (.lit 1) (stW n) (.var 0)) (De := stDe n) (Re := d16) (Ce := d15) rfl (base_rows hG) rfl rfl (by rcases hn with rfl | rfl <;> rfl) rfl (fun coh ρ h1 h2 h3 hm hc => ?_) fun ρ h1 h2 h3 hm => st_next hG h1 h2 hm hn
 refine Con.at_treeX (k := 12) (L := 300) (pol := none') (pure := no') (d := 12) (facts := []) (obs := obS n) mixed (K := ⟨[], []⟩) knowNil h1 h2 h3 nilDec (obS_ok hG h1 h2 hm hn) ?_
 have h := store_run1
 have h' := store_run4
 simp only [Bool.and_eq_true] at h h'
 rcases hn with rfl | rfl
 · cases coh
   · exact h.2
   · exact h.1
 · cases coh
   · exact h'.2
   · exact h'.1
end
/-! Sync -/
theorem cpR_get {C D : Int} {i : Nat} : ∀ n j : Nat, rowGet (cpR C D i n) (j : Nat) = if i ≤ j ∧ j < i + n then IntKind.u8.wrap (rowGet D j) else rowGet C j := by
 intro n
 induction n with
 | zero => intro j; rw [if_neg (by omega)]; rfl
 | succ n ih =>
   intro j
   show rowGet (rowSet (cpR C D i n) ((i + n : Nat) : Int) (IntKind.u8.wrap (rowGet D ((i + n : Nat) : Int)))) (j : Nat) = _
   rw [rowGet_byte (byte_wrap _), ih]
   by_cases h : j = i + n
   · rw [if_pos h, if_pos (by omega), h]
   · rw [if_neg h]
     by_cases h' : i ≤ j ∧ j < i + n
     · rw [if_pos h', if_pos (by omega)]
     · rw [if_neg h', if_neg (by omega)]
theorem cpR_front {D : Int} : ∀ (n i : Nat) (C : Int), cpR C D i (n + 1) = cpR (rowSet C (i : Nat) (IntKind.u8.wrap (rowGet D (i : Nat)))) D (i + 1) n := by
 intro n
 induction n with
 | zero => intro i C; rfl
 | succ n ih =>
   intro i C
   show rowSet (cpR C D i (n + 1)) ((i + (n + 1) : Nat) : Int) _ = rowSet (cpR (rowSet C (i : Nat) _) D (i + 1) n) ((i + 1 + n : Nat) : Int) _
   rw [ih, show i + (n + 1) = i + 1 + n by omega]
theorem sync_next {M : Int} {p : Nat} (hm : memOk M) (hp : p < (mN M).toNat) (hc : mCoh M = false) : refNext M (setN M (ixC p) (fun j => mD M (256 * p + j)) 256) (dataR M) (rgtR M) (cpR (imgR M) (dataR M) (256 * p) 256) := by
 have hx := memNext_im (g := fun j => mD M (256 * p + j)) (n := 256) hm hc hp (fun j => rowGet_in _ _) (Nat.le_refl _) (C := pgD M p) fun j hj => by rw [if_pos hj]; exact pgD_get' M p j hj
 generalize setN M (ixC p) (fun j => mD M (256 * p + j)) 256 = M' at *
 have eD : ∀ q j, q < (mN M).toNat → j < 256 → mD M' (256 * q + j) = mD M (256 * q + j) := fun q j hq hj => by
   by_cases h : q = p
   · subst h; rw [hx.d j hj]; exact pgD_get' M q j hj
   · exact (hx.other q j hq h hj).1
 have eC : ∀ q j, q < (mN M).toNat → j < 256 → mC M' (256 * q + j) = if q = p then mD M (256 * q + j) else mC M (256 * q + j) := fun q j hq hj => by
   by_cases h : q = p
   · subst h; rw [if_pos rfl, hx.c hc j hj]; exact pgD_get' M q j hj
   · rw [if_neg h]; exact (hx.other q j hq h hj).2 hc
 have eR : ∀ q, q < (mN M).toNat → mR M' q = mR M q := fun q hq => by
   by_cases h : q = p
   · subst h; exact hx.r.1
   · exact hx.rights q hq h
 have part : ∀ j, j < 256 * (mN M).toNat → 256 * (j / 256) + j % 256 = j ∧ j / 256 < (mN M).toNat ∧ j % 256 < 256 := fun j hj => ⟨Nat.div_add_mod j 256, by omega, Nat.mod_lt _ (by decide)⟩
 refine ⟨⟨by rw [hx.n]; exact hm.n, fun q j hq hj => ?_, fun _ q j hq hj => ?_, fun q hq => ?_, hx.k⟩, hx.n, hx.coh, fun j hj => ?_, fun j hj => ?_, fun _ j hj => ?_⟩
 · rw [hx.n] at hq
   rw [eD q j hq hj]
   exact hm.d q j hq hj
 · rw [hx.n] at hq
   rw [eC q j hq hj]
   split
   · exact hm.d q j hq hj
   · exact hm.c hc q j hq hj
 · rw [hx.n] at hq
   rw [eR q hq]
   exact hm.r q hq
 · obtain ⟨a, b, c⟩ := part j hj
   have := eD _ _ b c
   rw [a] at this
   rw [this, dataR_get hj]
 · rw [eR j hj, rgtR_get hj]
 · obtain ⟨a, b, c⟩ := part j hj
   have := eC _ _ b c
   rw [a] at this
   rw [this, cpR_get]
   by_cases h : j / 256 = p
   · rw [if_pos h, if_pos (by omega), dataR_get hj, wrap_byte (hm.byte hj).1]
   · rw [if_neg h, if_neg (by omega), imgR_get hj]
section
variable {G : Nat → Int → Int → Int → Int} (hG : Base G)
include hG
theorem cpE_ev {ρ : Env} (h1 : ρ.std G gh) {c i e : IE} {x y : Nat} (hi : i.ev ρ = x) (he : e.ev ρ = y) : (cpE c i e).ev ρ = cpR (c.ev ρ) (d14.ev ρ) x (y - x) := by
 show fnI ρ 36 (c.ev ρ) (d14.ev ρ) (fnI ρ 9 (i.ev ρ) (e.ev ρ) 0) = _
 rw [fn_ev hG h1 (by decide) (by decide), fn_ev hG h1 (by decide) (by decide), hi, he]
 show cpR _ _ (unpI (pairI x y)).1.toNat ((unpI (pairI x y)).2.toNat - (unpI (pairI x y)).1.toNat) = _
 rw [unpI_pair]
 rfl
theorem lSy_ok : lSy.Ok PR G gh := by
 refine LCon.ok_of (c := lSy) (L := 20) (pol := none') (pure := no') (d := 12) (facts := []) (μ := μSy) mixed (K := ⟨[], []⟩) knowNil wfSy rfl (fun _ _ _ _ => nilDec) (Con.leavesX [] (fun _ _ _ _ => nilDec) 12 obSy (fun ρ h1 h2 h3 => ?_) sy_run)
 obtain ⟨p1, p2⟩ := h2 5 0 4294967295 rfl
 obtain ⟨i1, i2⟩ := h2 7 0 4294967551 rfl
 obtain ⟨p, hp⟩ := Int.eq_ofNat_of_zero_le p1
 obtain ⟨i, hi⟩ := Int.eq_ofNat_of_zero_le i1
 have e1 : v7.ev ρ = (i : Nat) := hi
 have e2 : e256.ev ρ = ((p + 256 : Nat) : Int) := by
   show ρ.i 5 + 256 = _
   rw [hp]; omega
 intro o ho hd
 simp only [obSy, List.mem_cons, List.not_mem_nil, or_false] at ho
 rcases ho with rfl | rfl
 · have h : ¬ v7.ev ρ < e256.ev ρ := of_decide_eq_false (hd _ (List.mem_cons_self ..))
   rw [e1, e2] at h
   show (cpE v4 v7 e256).ev ρ = v4.ev ρ
   rw [cpE_ev hG h1 e1 e2, show p + 256 - i = 0 by omega]
   rfl
 · have h : v7.ev ρ < e256.ev ρ := of_decide_eq_true (hd _ (List.mem_cons_self ..))
   rw [e1, e2] at h
   have e3 : (IE.add v7 (.lit 1)).ev ρ = ((i + 1 : Nat) : Int) := by
     show v7.ev ρ + 1 = _
     rw [e1]; omega
   show (cpE v4 v7 e256).ev ρ = (cpE (.fn 1 v4 v7 (.wrap .u8 (.fn 0 d14 v7 (.lit 0)))) (.add v7 (.lit 1)) e256).ev ρ
   rw [cpE_ev hG h1 e1 e2, cpE_ev hG h1 e3 e2, show p + 256 - i = (p + 256 - (i + 1)) + 1 by omega, cpR_front]
   show _ = cpR (rowSet (v4.ev ρ) (v7.ev ρ) (IntKind.u8.wrap (rowGet (d14.ev ρ) (v7.ev ρ)))) _ _ _
   rw [e1]
omit hG in
theorem syF_ok {ρ : Env} (h2 : ρ.ok (bdL [u32B 1])) : ∃ v, (syF v).holds ρ ∧ v = inM (ρ.i 0) (ρ.i 1) := by
 obtain ⟨q1, q2, q3⟩ := pos_div h2 rfl
 have hlen : lenE.ev ρ = mN (ρ.i 0) * 256 := rfl
 have hN : nE.ev ρ = mN (ρ.i 0) := rfl
 have hq : pB.ev ρ = ρ.i 1 / 256 * 256 := by
   show pgE.ev ρ * 256 = _
   rw [q3]
 refine ⟨_, ?_, rfl⟩
 cases h : inM (ρ.i 0) (ρ.i 1) with
 | true =>
   have h := of_decide_eq_true h
   refine decCons (decCons (decCons nilDec (t := .lt pgE nE) (v := true) (decide_eq_true ?_)) (t := .lt (.add pB (.lit 255)) lenE) (v := true) (decide_eq_true ?_)) (t := .lt (.var 1) lenE) (v := true) (decide_eq_true ?_)
   · rw [q3, hN]; exact h
   · show pB.ev ρ + 255 < lenE.ev ρ
     rw [hq, hlen]; omega
   · show ρ.i 1 < lenE.ev ρ
     rw [hlen]; omega
 | false =>
   have h := of_decide_eq_false h
   refine decCons (decCons nilDec (t := .lt pgE nE) (v := false) (decide_eq_false ?_)) (t := .lt (.var 1) lenE) (v := false) (decide_eq_false ?_)
   · rw [q3, hN]; exact h
   · show ¬ ρ.i 1 < lenE.ev ρ
     rw [hlen]; omega
theorem rSync_ok : rSync.Ok PR G gh := by
 have kn : Know.Ok PR G gh ⟨[], [lSy]⟩ := ⟨ConsOk.nil, fun c hc => by
   rw [List.mem_singleton.1 hc]
   exact ⟨wfSy, lSy_ok hG⟩⟩
 have hrun := sync_run
 simp only [Bool.and_eq_true] at hrun
 obtain ⟨a1, a2, a3, a4⟩ := hrun
 refine refCon2 (el := rfT) (k := 2) (c := rSync) (Me' := syM) rfl (base_rows hG) rfl rfl rfl rfl (fun coh ρ h1 h2 h3 hm hc => ?_)
 obtain ⟨v, hv, hvi⟩ := syF_ok (ρ := ρ) h2
 refine ⟨d14, d16, imgE v coh, ?_, ?_⟩
 · refine Con.at_treeX (k := 12) (L := 20) (pol := none') (pure := no') (d := 12) (facts := syF v) (obs := []) mixed (K := ⟨[], [lSy]⟩) kn h1 h2 h3 hv (fun _ ho => by cases ho) ?_
   cases v <;> cases coh
   · exact a4
   · exact a3
   · exact a2
   · exact a1
 · obtain ⟨e14, e15, e16⟩ := d_ev hG h1
   obtain ⟨q1, q2, q3⟩ := pos_div h2 rfl
   rw [e14, e16]
   have r0 := refNext.refl hm
   rw [syM_ev hG h1]
   unfold syS
   cases v
   · rw [← hvi]
     show refNext (ρ.i 0) (ρ.i 0) _ _ (d15.ev ρ)
     rw [e15]
     exact r0
   · rw [← hvi, hc]
     cases coh
     · have hin : ρ.i 1 / 256 < mN (ρ.i 0) := of_decide_eq_true hvi.symm
       obtain ⟨p, hp⟩ := Int.eq_ofNat_of_zero_le (show 0 ≤ ρ.i 1 / 256 by omega)
       have hpn : p < (mN (ρ.i 0)).toNat := by omega
       have hpB : pB.ev ρ = ((256 * p : Nat) : Int) := by
         show pgE.ev ρ * 256 = _
         rw [q3, hp]; omega
       have hpE : (IE.add pB (.lit 256)).ev ρ = ((256 * p + 256 : Nat) : Int) := by
         show pB.ev ρ + 256 = _
         rw [hpB]; omega
       have hce : (imgE true false).ev ρ = cpR (imgR (ρ.i 0)) (dataR (ρ.i 0)) (256 * p) 256 := by
         show (cpE d15 pB (.add pB (.lit 256))).ev ρ = _
         rw [cpE_ev hG h1 hpB hpE, e14, e15, show 256 * p + 256 - 256 * p = 256 by omega]
       rw [hce, hp]
       show refNext (ρ.i 0) (setN (ρ.i 0) (ixC p) (fun j => mD (ρ.i 0) (256 * p + j)) 256) _ _ _
       exact sync_next hm hpn hc
     · show refNext (ρ.i 0) (ρ.i 0) _ _ (d15.ev ρ)
       rw [e15]
       exact r0
end
end
end Go.Proofs.YtbhlmedfhilkbaaGreat
