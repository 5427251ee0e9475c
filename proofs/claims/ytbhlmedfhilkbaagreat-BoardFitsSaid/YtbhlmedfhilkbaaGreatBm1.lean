/- A memory filled with the pages of another one is that one. No condition. -/
import Derived.Test.YtbhlmedfhilkbaaGreatBp2
import Derived.Test.YtbhlmedfhilkbaaGreatBc0
set_option linter.unusedSimpArgs false
set_option linter.unusedVariables false
set_option linter.unusedSectionVars false
namespace Go.Proofs.YtbhlmedfhilkbaaGreat
open Go Go.Sx
set_option maxRecDepth 1000000
noncomputable section
theorem ad_small {a i : Nat} (h : a + i < 4294967296) : ad (a : Nat) (i : Nat) = ((a + i : Nat) : Int) := by
 unfold ad
 have : IntKind.u32.wrap ((a : Int) + (i : Int)) = (a : Int) + (i : Int) := wrap_id .u32 _ (by simp only [kLo]; omega) (by simp only [kHi]; omega)
 rw [this]
 omega
theorem poD_get {d N : Int} {a : Nat} : ∀ (k i : Nat) (D : Int), (a + (i + k) < 4294967296) → ((a + (i + k) : Nat) : Int) ≤ N → ∀ j : Nat, rowGet (poD D a d N i k) j = if a + i ≤ j ∧ j < a + (i + k) then IntKind.u8.wrap (rowGet d ((j - a : Nat) : Int)) else rowGet D j := by
 intro k
 induction k with
 | zero =>
   intro i D h1 h2 j
   rw [if_neg (by omega)]
   rfl
 | succ k ih =>
   intro i D h1 h2 j
   show rowGet (poD (if ad a i < N then rowSet D (ad a i) (IntKind.u8.wrap (rowGet d i)) else D) a d N (i + 1) k) j = _
   rw [ad_small (by omega), if_pos (by omega), ih (i + 1) _ (by omega) (by omega), rowGet_byte (byte_wrap _)]
   by_cases h : j = a + i
   · subst h
     rw [if_neg (by omega), if_pos rfl, if_pos (by omega), show a + i - a = i by omega]
   · by_cases h' : a + (i + 1) ≤ j ∧ j < a + (i + 1 + k)
     · rw [if_pos h', if_pos (by omega)]
     · rw [if_neg h', if_neg h, if_neg (by omega)]
/-- The first p pages are those of M; behind them there is nothing. -/
structure Filled (M Mk : Int) (p : Nat) : Prop where
 ok : memOk Mk
 n : mN Mk = mN M
 coh : mCoh Mk = mCoh M
 d : ∀ a, a < 256 * (mN M).toNat → mD Mk a = if a < 256 * p then mD M a else 0
 c : mCoh M = false → ∀ a, a < 256 * (mN M).toNat → mC Mk a = if a < 256 * p then mC M a else 0
 r : ∀ q, q < (mN M).toNat → mR Mk q = if q < p then mR M q else 0
/-- The content of page p is put. -/
theorem filled_data {M Mk row : Int} {p : Nat} (h : Filled M Mk p) (hm : memOk M) (hp : p < (mN M).toNat) (hrow : ∀ j, j < 256 → rowGet row (j : Nat) = mD M (256 * p + j)) : memOk (poF Mk (256 * p : Nat) row 0 256) ∧ mN (poF Mk (256 * p : Nat) row 0 256) = mN M ∧ mCoh (poF Mk (256 * p : Nat) row 0 256) = mCoh M ∧
   (∀ a, a < 256 * (mN M).toNat → mD (poF Mk (256 * p : Nat) row 0 256) a = if a < 256 * (p + 1) then mD M a else 0) ∧ (mCoh M = false → ∀ a, a < 256 * (mN M).toNat → mC (poF Mk (256 * p : Nat) row 0 256) a = if a < 256 * p then mC M a else 0) ∧ ∀ q, q < (mN M).toNat → mR (poF Mk (256 * p : Nat) row 0 256) q = if q < p then mR M q else 0 := by
 have hn := hm.n
 have x := po_next (a := (256 * p : Nat)) (d := row) (fun i => (ad_nn _ _).1) 256 0 Mk (dataR Mk) (refNext.refl h.ok)
 generalize poF Mk (256 * p : Nat) row 0 256 = M' at *
 have eN : (mN Mk).toNat = (mN M).toNat := by rw [h.n]
 refine ⟨x.ok, x.n.trans h.n, x.coh.trans h.coh, fun a ha => ?_, fun hc a ha => ?_, fun q hq => ?_⟩
 · rw [x.d a (by rw [eN]; exact ha), poD_get 256 0 _ (by omega) (by rw [h.n]; omega) a]
   by_cases h1 : 256 * p + 0 ≤ a ∧ a < 256 * p + (0 + 256)
   · rw [if_pos h1, if_pos (by omega), hrow (a - 256 * p) (by omega), show 256 * p + (a - 256 * p) = a by omega]
     exact wrap_byte (hm.byte ha).1
   · rw [if_neg h1, dataR_get (by rw [eN]; exact ha), h.d a ha]
     by_cases h2 : a < 256 * p
     · rw [if_pos h2, if_pos (by omega)]
     · rw [if_neg h2, if_neg (by omega)]
 · rw [x.c (by rw [h.coh]; exact hc) a (by rw [eN]; exact ha), imgR_get (by rw [eN]; exact ha), h.c hc a ha]
 · rw [x.r q (by rw [eN]; exact hq), rgtR_get (by rw [eN]; exact hq), h.r q hq]
theorem bits7 {r : Int} (h : 0 ≤ r ∧ r ≤ 7) : bitsI .and .i64 r 7 = r := by
 obtain ⟨n, rfl⟩ := Int.eq_ofNat_of_zero_le h.1
 match n, h.2 with
 | 0, _ => decide
 | 1, _ => decide
 | 2, _ => decide
 | 3, _ => decide
 | 4, _ => decide
 | 5, _ => decide
 | 6, _ => decide
 | 7, _ => decide
 | n + 8, h => exact absurd h (by omega)
/-- The rights of page p are set, at last. -/
theorem filled_rights {M Mk : Int} {p : Nat} (ok : memOk Mk) (n : mN Mk = mN M) (coh : mCoh Mk = mCoh M) (d : ∀ a, a < 256 * (mN M).toNat → mD Mk a = if a < 256 * (p + 1) then mD M a else 0) (c : mCoh M = false → ∀ a, a < 256 * (mN M).toNat → mC Mk a = if a < 256 * (p + 1) then mC M a else 0) (r : ∀ q, q < (mN M).toNat → mR Mk q = if q < p then mR M q else 0)
   (hm : memOk M) (hp : p < (mN M).toNat) : Filled M (prS Mk p (mR M p)) (p + 1) := by
 have hr := hm.r p hp
 have eN : (mN Mk).toNat = (mN M).toNat := by rw [n]
 have e : prS Mk p (mR M p) = rowSet Mk ((4 * p + 2 : Nat) : Int) (mR M p) := by
   unfold prS
   rw [if_pos ⟨by omega, by rw [n]; omega⟩, bits7 hr, show ((p : Int) * 4 + 2) = ((4 * p + 2 : Nat) : Int) by omega]
 rw [e]
 have x := pr_next (r := mR M p) ok (by rw [eN]; exact hp) hr
 generalize rowSet Mk ((4 * p + 2 : Nat) : Int) (mR M p) = M' at *
 refine ⟨x.ok, x.n.trans n, x.coh.trans coh, fun a ha => ?_, fun hc a ha => ?_, fun q hq => ?_⟩
 · rw [x.d a (by rw [eN]; exact ha), dataR_get (by rw [eN]; exact ha), d a ha]
 · rw [x.c (by rw [coh]; exact hc) a (by rw [eN]; exact ha), imgR_get (by rw [eN]; exact ha), c hc a ha]
 · rw [x.r q (by rw [eN]; exact hq), rowGet_byte ⟨hr.1, by omega⟩]
   by_cases h1 : q = p
   · subst h1
     rw [if_pos rfl, if_pos (by omega)]
   · rw [if_neg h1, rgtR_get (by rw [eN]; exact hq), r q hq]
     by_cases h2 : q < p
     · rw [if_pos h2, if_pos (by omega)]
     · rw [if_neg h2, if_neg (by omega)]
/-- The image of page p is put. -/
theorem filled_image {M Mk row : Int} {p : Nat} (ok : memOk Mk) (n : mN Mk = mN M) (coh : mCoh Mk = mCoh M) (hc : mCoh M = false) (d : ∀ a, a < 256 * (mN M).toNat → mD Mk a = if a < 256 * (p + 1) then mD M a else 0) (c : ∀ a, a < 256 * (mN M).toNat → mC Mk a = if a < 256 * p then mC M a else 0) (r : ∀ q, q < (mN M).toNat → mR Mk q = if q < p then mR M q else 0)
   (hm : memOk M) (hp : p < (mN M).toNat) (hrow : ∀ j, j < 256 → rowGet row (j : Nat) = mC M (256 * p + j)) : memOk (scS Mk p row 256) ∧ mN (scS Mk p row 256) = mN M ∧ mCoh (scS Mk p row 256) = mCoh M ∧
   (∀ a, a < 256 * (mN M).toNat → mD (scS Mk p row 256) a = if a < 256 * (p + 1) then mD M a else 0) ∧ (∀ a, a < 256 * (mN M).toNat → mC (scS Mk p row 256) a = if a < 256 * (p + 1) then mC M a else 0) ∧ ∀ q, q < (mN M).toNat → mR (scS Mk p row 256) q = if q < p then mR M q else 0 := by
 have eN : (mN Mk).toNat = (mN M).toNat := by rw [n]
 have hcK : mCoh Mk = false := coh.trans hc
 have e : scS Mk p row 256 = setN Mk (ixC p) (fun j => IntKind.u8.wrap (rowGet row j)) 256 := by
   unfold scS
   rw [if_pos ⟨⟨by omega, by rw [n]; omega⟩, hcK⟩, Int.toNat_natCast]
   rfl
 rw [e]
 have bw : ∀ j : Nat, inRow (IntKind.u8.wrap (rowGet row j)) := fun j => by
   have := byte_wrap (rowGet row j)
   obtain ⟨a, b⟩ := this
   unfold inRow
   omega
 have x := memNext_im (g := fun j => IntKind.u8.wrap (rowGet row j)) (n := 256) ok hcK (by rw [eN]; exact hp) bw (Nat.le_refl _) (C := (rowOf ((List.range 256).map fun j => IntKind.u8.wrap (rowGet row (j : Nat))) : Nat)) fun j hj => by
   rw [if_pos hj]
   exact rowGet_of _ j _ (by simp [hj]) (bw j)
 generalize setN Mk (ixC p) (fun j => IntKind.u8.wrap (rowGet row j)) 256 = M' at *
 have part : ∀ a, a < 256 * (mN M).toNat → 256 * (a / 256) + a % 256 = a ∧ a / 256 < (mN M).toNat ∧ a % 256 < 256 := fun a ha => ⟨Nat.div_add_mod a 256, by omega, Nat.mod_lt _ (by decide)⟩
 have eD : ∀ a, a < 256 * (mN M).toNat → mD M' a = mD Mk a := fun a ha => by
   obtain ⟨e1, e2, e3⟩ := part a ha
   rw [← e1]
   by_cases h : a / 256 = p
   · rw [h, x.d _ e3, pgD_get' _ _ _ e3]
   · exact (x.other _ _ (by rw [eN]; exact e2) h e3).1
 have eC : ∀ a, a < 256 * (mN M).toNat → mC M' a = if a / 256 = p then mC M a else mC Mk a := fun a ha => by
   obtain ⟨e1, e2, e3⟩ := part a ha
   by_cases h : a / 256 = p
   · rw [if_pos h]
     have e4 : 256 * p + a % 256 = a := by omega
     have := x.c hcK (a % 256) e3
     rw [e4] at this
     rw [this, rowGet_of _ (a % 256) (IntKind.u8.wrap (rowGet row ((a % 256 : Nat) : Int))) (by simp [e3]) (bw _), hrow _ e3, e4]
     exact wrap_byte ((hm.byte ha).2 hc)
   · rw [if_neg h]
     have := (x.other (a / 256) (a % 256) (by rw [eN]; exact e2) h e3).2 hcK
     rw [e1] at this
     exact this
 have eR : ∀ q, q < (mN M).toNat → mR M' q = mR Mk q := fun q hq => by
   by_cases h : q = p
   · subst h; exact x.r.1
   · exact x.rights q (by rw [eN]; exact hq) h
 have cV : ∀ a, a < 256 * (mN M).toNat → mC M' a = if a < 256 * (p + 1) then mC M a else 0 := fun a ha => by
   rw [eC a ha, c a ha]
   by_cases h : a / 256 = p
   · rw [if_pos h, if_pos (by omega)]
   · rw [if_neg h]
     by_cases h2 : a < 256 * p
     · rw [if_pos h2, if_pos (by omega)]
     · rw [if_neg h2, if_neg (by omega)]
 have z : isByte 0 := ⟨Int.le_refl 0, by decide⟩
 have nn : mN M' = mN M := x.n.trans n
 refine ⟨⟨by rw [nn]; exact hm.n, fun q j hq hj => ?_, fun _ q j hq hj => ?_, fun q hq => ?_, x.k⟩, nn, x.coh.trans coh, fun a ha => by rw [eD a ha, d a ha], cV, fun q hq => by rw [eR q hq, r q hq]⟩
 · rw [nn] at hq
   rw [eD _ (by omega), d _ (by omega)]
   split
   · exact hm.d q j hq hj
   · exact z
 · rw [nn] at hq
   rw [cV _ (by omega)]
   split
   · exact hm.c hc q j hq hj
   · exact z
 · rw [nn] at hq
   rw [eR q hq, r q hq]
   split
   · exact hm.r q hq
   · exact ⟨Int.le_refl 0, by decide⟩
theorem filled_start {M : Int} (hn : mN M = 6) : Filled M (newM (6 : Nat) (b2 (mCoh M))) 0 := by
 have n4 : (0 : Int) ≤ ((6 : Nat) : Int) ∧ ((6 : Nat) : Int) ≤ 4096 := ⟨by decide, by decide⟩
 have hb := b2_01 (mCoh M)
 refine ⟨newM_ok n4 hb, by rw [newM_n n4 hb, hn]; rfl, by rw [newM_c n4 hb]; exact b2_coh _, fun a _ => ?_, fun _ a _ => ?_, fun q _ => ?_⟩
 · rw [(newM_d n4 hb a).1, if_neg (by omega)]
 · rw [(newM_d n4 hb a).2.1, if_neg (by omega)]
 · rw [(newM_d n4 hb q).2.2, if_neg (by omega)]
theorem filled_end {M Mk : Int} (h : Filled M Mk 6) (hm : memOk M) (hn : mN M = 6) : Mk = M := by
 have e : (mN M).toNat = 6 := by rw [hn]; rfl
 refine hm.ext h.ok h.n h.coh (fun a ha => ?_) (fun hc a ha => ?_) fun p hp => ?_
 · rw [h.d a ha, if_pos (by omega)]
 · rw [h.c hc a ha, if_pos (by omega)]
 · rw [h.r p hp, if_pos (by omega)]
end
end Go.Proofs.YtbhlmedfhilkbaaGreat
namespace Go.Proofs.YtbhlmedfhilkbaaGreat
open Go Go.Sx
set_option maxRecDepth 1000000
noncomputable section
abbrev kPT : TypeId := 139
abbrev qPT : TypeId := 90
def n6 : BE × Bool := (.eq nE (.lit 6), true)
def pgS (p : Nat) : IE := match p with
 | 0 => d14
 | p + 1 => .fn 2 d14 (.lit (256 * (p + 1) : Nat)) (.lit 256)
def imS (p : Nat) : IE := match p with
 | 0 => d15
 | p + 1 => .fn 2 d15 (.lit (256 * (p + 1) : Nat)) (.lit 256)
def rgS (p : Nat) : IE := .wrap .i64 (.fn 0 d16 (.lit p) (.lit 0))
def puE (M : IE) (p : Nat) : IE := .fn 38 M (.fn 9 (.lit (256 * p : Nat)) (pgS p) (.lit 0)) (.fn 9 (.lit 0) (.lit 256) (.lit 0))
def flK : Nat → IE
 | 0 => nlE true
 | p + 1 => .fn 31 (puE (flK p) p) (.lit p) (rgS p)
def flQ : Nat → IE
 | 0 => nlE false
 | p + 1 => .fn 31 (.fn 34 (puE (flQ p) p) (.lit p) (.fn 9 (imS p) (.lit 256) (.lit 0))) (.lit p) (rgS p)
def cFillK : Con := { g := 87, args := [.iface kPT pm, .ptr (some (2, 0))], os := [kcpuO st0, .ghost 0 [nlE true] .nil, .ghost 2 [.var 0] .nil], pre := [n6, (cohB, true)], res := .tuple [], os' := [kcpuO st0, .ghost 0 [.var 0] .nil, .ghost 2 [.var 0] .nil] }
def kFillK : Know := ⟨[cPoke 0, cProtect 0], []⟩
def cFillQ : Con := { g := 87, args := [.iface qPT pm, .ptr (some (1, 0))], os := [.ghost 1 [nlE false] (treeAt st0 2), .ghost 2 [.var 0] .nil], pre := [n6, (cohB, false)], res := .tuple [], os' := [.ghost 1 [.var 0] (treeAt st0 2), .ghost 2 [.var 0] .nil] }
def kFillQ : Know := ⟨[cPoke 1, cProtect 1, cSetC 1], []⟩
def obFK : List (Dec × IE × IE) := [([], .var 0, flK 6)]
def obFQ : List (Dec × IE × IE) := [([], .var 0, flQ 6)]
def peekOk (c : Con) (i : Nat) (coh : Bool) (K : Know) (obs : List (Dec × IE × IE)) : Bool := ((c.peek 6 rfT i (.var 0) coh).tree PR K 40 none' no' 12 []).all (fun dec e s => c.leaf (qX (bdL c.bds) 12 obs) dec e (s.unpeek i 2 (.var 0))) (c.peek 6 rfT i (.var 0) coh).pre
theorem fill_run : (peekOk cFillK 2 true kFillK obFK && (peekOk cFillQ 1 false kFillQ obFQ && (cFillK.wf && (cFillQ.wf && ((cProtect 0).wf && (cProtect 1).wf))))) = true := by kernel_rfl
section
variable {G : Nat → Int → Int → Int → Int} (hG : Base G)
include hG
omit hG in
theorem n6_ev {ρ : Env} {d : Dec} (h : Dec.holds ρ (n6 :: d)) : mN (ρ.i 0) = 6 := of_decide_eq_true (h n6 (List.mem_cons_self ..))
omit hG in
theorem coh_at {ρ : Env} {d : Dec} {v : Bool} (h : Dec.holds ρ (n6 :: (cohB, v) :: d)) : mCoh (ρ.i 0) = v := h (cohB, v) (by simp)
theorem pgS_row {ρ : Env} (h1 : ρ.std G gh) (hn : mN (ρ.i 0) = 6) {p : Nat} (hp : p < 6) (j : Nat) (hj : j < 256) : rowGet ((pgS p).ev ρ) (j : Nat) = mD (ρ.i 0) (256 * p + j) ∧ rowGet ((imS p).ev ρ) (j : Nat) = mC (ρ.i 0) (256 * p + j) := by
 obtain ⟨e14, e15, e16⟩ := d_ev hG h1
 have e : (mN (ρ.i 0)).toNat = 6 := by rw [hn]; rfl
 match p, hp with
 | 0, _ =>
   refine ⟨?_, ?_⟩
   · show rowGet (d14.ev ρ) (j : Nat) = _
     rw [e14, Nat.mul_zero, Nat.zero_add]
     exact dataR_get (by omega)
   · show rowGet (d15.ev ρ) (j : Nat) = _
     rw [e15, Nat.mul_zero, Nat.zero_add]
     exact imgR_get (by omega)
 | p + 1, hp =>
   refine ⟨?_, ?_⟩
   · show rowGet (rowCut (d14.ev ρ) ((256 * (p + 1) : Nat) : Int) ((256 : Nat) : Int)) (j : Nat) = _
     rw [rowGet_cut _ _ _ _ hj, e14]
     exact dataR_get (by omega)
   · show rowGet (rowCut (d15.ev ρ) ((256 * (p + 1) : Nat) : Int) ((256 : Nat) : Int)) (j : Nat) = _
     rw [rowGet_cut _ _ _ _ hj, e15]
     exact imgR_get (by omega)
theorem rgS_ev {ρ : Env} (h1 : ρ.std G gh) (hm : memOk (ρ.i 0)) (hn : mN (ρ.i 0) = 6) {p : Nat} (hp : p < 6) : (rgS p).ev ρ = mR (ρ.i 0) p := by
 obtain ⟨e14, e15, e16⟩ := d_ev hG h1
 have e : (mN (ρ.i 0)).toNat = 6 := by rw [hn]; rfl
 show IntKind.i64.wrap (rowGet (d16.ev ρ) (p : Nat)) = _
 rw [e16, rgtR_get (by omega)]
 have := hm.r p (by omega)
 exact wrap_id .i64 _ (by simp only [kLo]; omega) (by simp only [kHi]; omega)
theorem puE_ev {ρ : Env} (h1 : ρ.std G gh) (M : IE) (p : Nat) : (puE M p).ev ρ = poF (M.ev ρ) ((256 * p : Nat) : Int) ((pgS p).ev ρ) 0 256 := by
 show fnI ρ 38 (M.ev ρ) ((IE.fn 9 (.lit (256 * p : Nat)) (pgS p) (.lit 0)).ev ρ) ((IE.fn 9 (.lit 0) (.lit 256) (.lit 0)).ev ρ) = _
 rw [fn_ev hG h1 (by decide) (by decide), pair_ev hG h1, pair_ev hG h1]
 show poF _ (unpI (pairI ((256 * p : Nat) : Int) ((pgS p).ev ρ))).1 (unpI (pairI ((256 * p : Nat) : Int) ((pgS p).ev ρ))).2 (unpI (pairI 0 256)).1.toNat ((unpI (pairI 0 256)).2.toNat - (unpI (pairI 0 256)).1.toNat) = _
 rw [unpI_pair, unpI_pair]
 rfl
theorem prE_ev {ρ : Env} (h1 : ρ.std G gh) (M r : IE) (p : Nat) : (IE.fn 31 M (.lit p) r).ev ρ = prS (M.ev ρ) p (r.ev ρ) := by
 show fnI ρ 31 (M.ev ρ) p (r.ev ρ) = _
 rw [fn_ev hG h1 (by decide) (by decide)]
 rfl
theorem scE_ev {ρ : Env} (h1 : ρ.std G gh) (M d : IE) (p : Nat) : (IE.fn 34 M (.lit p) (.fn 9 d (.lit 256) (.lit 0))).ev ρ = scS (M.ev ρ) p (d.ev ρ) 256 := by
 show fnI ρ 34 (M.ev ρ) p ((IE.fn 9 d (.lit 256) (.lit 0)).ev ρ) = _
 rw [fn_ev hG h1 (by decide) (by decide), pair_ev hG h1]
 show scS _ _ (unpI (pairI (d.ev ρ) 256)).1 (unpI (pairI (d.ev ρ) 256)).2 = _
 rw [unpI_pair]
theorem flK_ok {ρ : Env} (h1 : ρ.std G gh) (hm : memOk (ρ.i 0)) (hn : mN (ρ.i 0) = 6) (hc : mCoh (ρ.i 0) = true) : ∀ p, p ≤ 6 → Filled (ρ.i 0) ((flK p).ev ρ) p := by
 intro p
 have e6 : (mN (ρ.i 0)).toNat = 6 := by rw [hn]; rfl
 induction p with
 | zero =>
   intro _
   have := filled_start hn
   rw [hc] at this
   show Filled _ ((nlE true).ev ρ) 0
   rw [nlE_ev hG true ρ h1]
   exact this
 | succ p ih =>
   intro hp
   have h := ih (by omega)
   show Filled _ ((IE.fn 31 (puE (flK p) p) (.lit p) (rgS p)).ev ρ) (p + 1)
   rw [prE_ev hG h1, puE_ev hG h1, rgS_ev hG h1 hm hn (by omega)]
   obtain ⟨a1, a2, a3, a4, a5, a6⟩ := filled_data h hm (by omega) (row := (pgS p).ev ρ) fun j hj => (pgS_row hG h1 hn (by omega) j hj).1
   exact filled_rights a1 a2 a3 a4 (fun h => by rw [hc] at h; cases h) a6 hm (by omega)
theorem flQ_ok {ρ : Env} (h1 : ρ.std G gh) (hm : memOk (ρ.i 0)) (hn : mN (ρ.i 0) = 6) (hc : mCoh (ρ.i 0) = false) : ∀ p, p ≤ 6 → Filled (ρ.i 0) ((flQ p).ev ρ) p := by
 intro p
 have e6 : (mN (ρ.i 0)).toNat = 6 := by rw [hn]; rfl
 induction p with
 | zero =>
   intro _
   have := filled_start hn
   rw [hc] at this
   show Filled _ ((nlE false).ev ρ) 0
   rw [nlE_ev hG false ρ h1]
   exact this
 | succ p ih =>
   intro hp
   have h := ih (by omega)
   show Filled _ ((IE.fn 31 (.fn 34 (puE (flQ p) p) (.lit p) (.fn 9 (imS p) (.lit 256) (.lit 0))) (.lit p) (rgS p)).ev ρ) (p + 1)
   rw [prE_ev hG h1, scE_ev hG h1, puE_ev hG h1, rgS_ev hG h1 hm hn (by omega)]
   obtain ⟨a1, a2, a3, a4, a5, a6⟩ := filled_data h hm (by omega) (row := (pgS p).ev ρ) fun j hj => (pgS_row hG h1 hn (by omega) j hj).1
   obtain ⟨b1, b2, b3, b4, b5, b6⟩ := filled_image a1 a2 a3 hc a4 (a5 hc) a6 hm (by omega) (row := (imS p).ev ρ) fun j hj => (pgS_row hG h1 hn (by omega) j hj).2
   exact filled_rights b1 b2 b3 b4 (fun _ => b5) b6 hm (by omega)
omit hG in
theorem not_coh {ρ : Env} {d : Dec} {v : Bool} (h : Dec.holds ρ ((pkC (.var 0), !v) :: n6 :: (cohB, v) :: d)) : False := by
 have a : mCoh (ρ.i 0) = !v := h (pkC (.var 0), !v) (by simp)
 have b : mCoh (ρ.i 0) = v := h (cohB, v) (by simp)
 rw [a] at b
 cases v <;> cases b
omit hG in
theorem tailD {ρ : Env} {p : BE × Bool} {d : Dec} (h : Dec.holds ρ (p :: d)) : Dec.holds ρ d := fun q hq => h q (List.mem_cons_of_mem _ hq)
theorem cFillK_ok : cFillK.Ok PR G gh := by
 have h := fill_run
 simp only [Bool.and_eq_true] at h
 have kn : kFillK.Ok PR G gh := knowOk (by
   show ([cPoke 0, cProtect 0].all Con.wf) = true
   simp only [List.all_cons, List.all_nil, Bool.and_true, (cPoke_ok hG (k := 0) (by decide)).1, h.2.2.2.2.1]) (allC (cPoke_ok hG (k := 0) (by decide)).2 (allC (cProtect_ok hG (by decide)) allN))
 refine Con.ok_peekT mixed kn (k := 2) (i := 2) (N := 6) (el := rfT) (M := .var 0) (by decide) rfl rfl (base_rows hG) (fun ρ _ h3 => n6_ev h3) (fun ρ B W f w args' hr ha => ptr_arg ha (x := 1) (i := 2) (o := 0) rfl) 40 none' no' 12 12 (fun _ => obFK) (fun coh ρ h1 h2 h3 hm => ?_) fun coh => ?_
 · have h3' := tailD h3
   refine obs_cons (fun _ => ?_) obs_nil
   exact (filled_end (flK_ok hG h1 hm (n6_ev h3') (coh_at h3') 6 (Nat.le_refl _)) hm (n6_ev h3')).symm
 · cases coh
   · exact .inl fun ρ _ h3 => not_coh (v := true) h3
   · exact .inr h.1
theorem cFillQ_ok : cFillQ.Ok PR G gh := by
 have h := fill_run
 simp only [Bool.and_eq_true] at h
 have hs := rPages_run
 simp only [Bool.and_eq_true] at hs
 have kn : kFillQ.Ok PR G gh := knowOk (by
   show ([cPoke 1, cProtect 1, cSetC 1].all Con.wf) = true
   simp only [List.all_cons, List.all_nil, Bool.and_true, (cPoke_ok hG (k := 1) (by decide)).1, h.2.2.2.2.2, hs.2.2.2.2.2]) (allC (cPoke_ok hG (k := 1) (by decide)).2 (allC (cProtect_ok hG (by decide)) (allC (cSetC_ok hG (by decide)) allN)))
 refine Con.ok_peekT mixed kn (k := 2) (i := 1) (N := 6) (el := rfT) (M := .var 0) (by decide) rfl rfl (base_rows hG) (fun ρ _ h3 => n6_ev h3) (fun ρ B W f w args' hr ha => ptr_arg ha (x := 1) (i := 1) (o := 0) rfl) 40 none' no' 12 12 (fun _ => obFQ) (fun coh ρ h1 h2 h3 hm => ?_) fun coh => ?_
 · have h3' := tailD h3
   refine obs_cons (fun _ => ?_) obs_nil
   exact (filled_end (flQ_ok hG h1 hm (n6_ev h3') (coh_at h3') 6 (Nat.le_refl _)) hm (n6_ev h3')).symm
 · cases coh
   · exact .inr h.2.1
   · exact .inl fun ρ _ h3 => not_coh (v := false) h3
end
end
end Go.Proofs.YtbhlmedfhilkbaaGreat
namespace Go.Proofs.YtbhlmedfhilkbaaGreat
open Go Go.Sx
set_option maxRecDepth 1000000
noncomputable section
def kcpuAt (l : List AVal) (j : Nat) : AObj := .cells (treeAt (.ptr (some (j, 0)) :: l) 0) 172 true 25
def brdL (l : List AVal) : AObj := .cells (treeAt l 0) 55 false 5
def machL (l : List AVal) (j : Nat) : AObj := .cells (treeAt (l ++ [.ptr (some (j, 0))]) 0) 138 false 25
def cpuL (l : List AVal) (j : Nat) : AObj := .cells (treeAt (l ++ [.ptr (some (j, 0))]) 0) 68 false 25
def st90 : List AVal := stCells (.var 90)
def d90 (k : IntKind) (j : Nat) : IE := .wrap k (.fn 0 (.var 90) (.lit (.ofNat j)) (.lit 0))
def mx0 (e : IE) : IE := .sel true e (.lit 0) (.lit 0) e
/-- The state that SetState sets. -/
def stN (e : Nat → IE) (isK : Bool) (j : Nat) : AVal := match isK with
 | true => match Nat.ble 9 j && Nat.ble j 16 with
   | true => .int .u32 (.lit 0)
   | false => match Nat.beq j 17 with
     | true => .int .u32 (.bits .and .u32 (e 17) (.lit 15))
     | false => match Nat.ble 22 j with
       | true => .int .i64 (mx0 (e j))
       | false => .int .u32 (e j)
 | false => match Nat.beq j 1 || Nat.beq j 17 with
   | true => .int .u32 (.lit 0)
   | false => match Nat.ble 22 j with
     | true => .int .i64 (mx0 (e j))
     | false => .int .u32 (e j)
def e90 (j : Nat) : IE := d90 (match Nat.ble 22 j with | true => .i64 | false => .u32) j
def stNs (isK : Bool) : List AVal := (List.range 24).map (stN e90 isK)
def rPages6 : Con := { rPages with pre := [n6], res := .int .i64 (.lit 6) }
def osK : List AObj := [brdL [.ptr (some (1, 0)), .ptr none], machL st90 2, .ghost 2 [.var 0] .nil]
def cMachK : Con := { g := 40, args := [pm], os := osK, pre := [n6, (cohB, true)], res := .tuple [.iface kPT (.ptr (some (3, 0))), .bool (.lit true)], os' := osK ++ [kcpuAt (stNs true) 4, .ghost 0 [.var 0] .nil] }
def kMachK : Know := ⟨[cNewK, cNewQ, cFillK, rPages6], []⟩
def osQ : List AObj := [brdL [.ptr none, .ptr (some (1, 0))], cpuL st90 2, .ghost 2 [.var 0] .nil]
def cMachQ : Con := { g := 40, args := [pm], os := osQ, pre := [n6, (cohB, false)], res := .tuple [.iface qPT (.ptr (some (3, 0))), .bool (.lit true)], os' := osQ ++ [.ghost 1 [.var 0] (treeAt (stNs false) 2)] }
def kMachQ : Know := ⟨[cNewK, cNewQ, cFillQ, rPages6], []⟩
theorem mach_run : (runP cMachK kMachK 20 12 12 && (runP cMachQ kMachQ 20 12 12 && (cMachK.wf && (cMachQ.wf && (kMachK.cons.all Con.wf && kMachQ.cons.all Con.wf))))) = true := by kernel_rfl
section
variable {G : Nat → Int → Int → Int → Int} (hG : Base G)
include hG
theorem rPages6_ok : rPages6.Ok PR G gh := by
 refine conWeakP (c := rPages) (q := [(.lit 6, nE)]) rfl rfl rfl rfl (rPages_ok hG) rfl fun ρ h1 h2 h3 => ⟨h2, nilDec, fun p hp => ?_⟩
 rw [List.mem_singleton.1 hp]
 exact (n6_ev (ρ := ρ) (d := []) h3).symm
theorem cMachK_ok : cMachK.Ok PR G gh := by
 have h := mach_run
 simp only [Bool.and_eq_true] at h
 exact runP_ok (knowOk h.2.2.2.2.1 (allC (cNewK_ok hG) (allC (cNewQ_ok hG) (allC (cFillK_ok hG) (allC (rPages6_ok hG) allN))))) h.1
theorem cMachQ_ok : cMachQ.Ok PR G gh := by
 have h := mach_run
 simp only [Bool.and_eq_true] at h
 exact runP_ok (knowOk h.2.2.2.2.2 (allC (cNewK_ok hG) (allC (cNewQ_ok hG) (allC (cFillQ_ok hG) (allC (rPages6_ok hG) allN))))) h.2.1
end
end
end Go.Proofs.YtbhlmedfhilkbaaGreat
