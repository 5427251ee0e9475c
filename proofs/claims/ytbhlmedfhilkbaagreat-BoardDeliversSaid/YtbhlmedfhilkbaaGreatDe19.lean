/- BoardDelivers: what is known of the word, of the vector, of an address; which run is taken; the contracts and the functions. No condition. -/
import Derived.Test.YtbhlmedfhilkbaaGreatDe10
import Derived.Test.YtbhlmedfhilkbaaGreatDe11
import Derived.Test.YtbhlmedfhilkbaaGreatDe12
import Derived.Test.YtbhlmedfhilkbaaGreatDe13
import Derived.Test.YtbhlmedfhilkbaaGreatDe14
import Derived.Test.YtbhlmedfhilkbaaGreatDe15
import Derived.Test.YtbhlmedfhilkbaaGreatDe16
import Derived.Test.YtbhlmedfhilkbaaGreatDe17
import Derived.Test.YtbhlmedfhilkbaaGreatDe18
import Derived.Test.YtbhlmedfhilkbaaGreatSg
set_option linter.unusedVariables false
set_option linter.unusedSimpArgs false
namespace Go.Proofs.YtbhlmedfhilkbaaGreat
open Go Go.Sx
set_option maxRecDepth 1000000
noncomputable section
theorem nilD9 {ρ : Env} : Dec.holds ρ [] := fun p hp => by cases hp
section
variable {G : Nat → Int → Int → Int → Int} {I : Nat → Int} {n : Nat} (hP : Pro G I n) (hn : n ≤ 54) {ρ : Env} (h1 : ρ.g = G)
include hP hn h1
theorem wF_ok : (wF n).holds ρ := by
  have ew := wC_ev hP h1 hn
  obtain ⟨q1, q2⟩ := mdI_in (x := I 4) (modC_pos n)
  obtain ⟨d1, d2⟩ := mdI_in (x := I 1) (m := 16) (by decide)
  obtain ⟨a1, a2⟩ := mdI_in (x := I 2) (m := 16) (by decide)
  obtain ⟨b1, b2⟩ := mdI_in (x := I 3) (m := 16) (by decide)
  have hm : modC n = match shpOf n with
    | .i | .u | .s => 262144
    | .j | .l => 4194304
    | .g => 4
    | .c => 5
    | _ => 1 := rfl
  generalize mdI (I 4) (modC n) = m at *
  generalize mdI (I 1) 16 = d at *
  generalize mdI (I 2) 16 = a at *
  generalize mdI (I 3) 16 = b at *
  have w0 : 0 ≤ wC.ev ρ := (wrap_mem .u32 _).1
  have quo : ∀ k : Int, (IE.quo wC (.lit k)).ev ρ = wC.ev ρ / k := fun k => Int.tdiv_eq_ediv_of_nonneg w0
  have rem : ∀ k : Int, (IE.rem wC (.lit k)).ev ρ = wC.ev ρ % k := fun k => Int.tmod_eq_emod_of_nonneg w0
  have top : wC.ev ρ / 67108864 = n := by
    rw [ew]
    unfold wordI
    cases hs : shpOf n <;> rw [hs] at hm <;> simp only at hm ⊢ <;> omega
  have head : ∀ l : Dec, l.holds ρ → Dec.holds ρ ((.eq (.quo wC (.lit 67108864)) (.lit (.ofNat n)), true) :: l) := fun l hl => decCons hl (decide_eq_true (by rw [quo]; exact top))
  have fa : (IE.rem (.quo wC (.lit 262144)) (.lit 16)).ev ρ = wC.ev ρ / 262144 % 16 := by
    show ((IE.quo wC (.lit 262144)).ev ρ).tmod 16 = _
    rw [quo]
    exact Int.tmod_eq_emod_of_nonneg (by omega)
  unfold wF preD
  unfold wordI at ew
  cases hs : shpOf n <;> rw [hs] at hm ew <;> simp only at hm ew
  · refine head _ (decCons nilD9 (decide_eq_true ?_))
    show (IE.quo wC (.lit 16384)).ev ρ * 16384 = wC.ev ρ
    rw [quo]; omega
  · exact head _ nilD9
  · exact head _ nilD9
  · exact head _ nilD9
  · exact head _ nilD9
  · refine head _ (decCons nilD9 (decide_eq_true ?_))
    show (IE.quo wC (.lit 67108864)).ev ρ * 67108864 + (IE.rem wC (.lit 262144)).ev ρ = wC.ev ρ
    rw [quo, rem]; omega
  · refine head _ (decCons nilD9 (decide_eq_true ?_))
    show (IE.quo wC (.lit 67108864)).ev ρ * 67108864 = wC.ev ρ
    rw [quo]; omega
  · refine head _ (decCons nilD9 (decide_eq_true ?_))
    show (IE.quo wC (.lit 67108864)).ev ρ * 67108864 + (IE.rem (.quo wC (.lit 262144)) (.lit 16)).ev ρ * 262144 = wC.ev ρ
    rw [quo, fa]; omega
  · refine head _ (decCons (decCons nilD9 (v := false) (t := .lt (.lit 3) (.rem wC (.lit 262144))) (decide_eq_false ?_)) (decide_eq_true ?_))
    · show ¬ 3 < (IE.rem wC (.lit 262144)).ev ρ
      rw [rem]; omega
    · show (IE.quo wC (.lit 4194304)).ev ρ * 4194304 + (IE.rem wC (.lit 262144)).ev ρ = wC.ev ρ
      rw [quo, rem]; omega
  · refine head _ (decCons (decCons nilD9 (v := false) (t := .lt (.lit 4) (.rem wC (.lit 262144))) (decide_eq_false ?_)) (decide_eq_true ?_))
    · show ¬ 4 < (IE.rem wC (.lit 262144)).ev ρ
      rw [rem]; omega
    · show (IE.quo wC (.lit 67108864)).ev ρ * 67108864 + (IE.rem (.quo wC (.lit 262144)) (.lit 16)).ev ρ * 262144 + (IE.rem wC (.lit 262144)).ev ρ = wC.ev ρ
      rw [quo, fa, rem]; omega
omit hn in
theorem preN_ok (hi : ∀ i : Nat, i < 5 → ρ.i i = I i) : preN.holds ρ := by
  have e : ∀ i : Nat, i < 5 → (BE.eq (.var i) (nC i)).ev ρ = true := fun i h => decide_eq_true (by
    rw [nC_ev hP h1]
    exact hi i h)
  exact decCons (decCons (decCons (decCons nilD9 (e 4 (by decide))) (e 3 (by decide))) (e 2 (by decide))) (e 1 (by decide))
end
theorem vF_ok {x : Int} (h0 : 0 ≤ x) : ∃ j, j < 4 ∧ ∀ ρ : Env, ρ.i 5 = x → (vF j).holds ρ := by
  have ev : ∀ ρ : Env, ρ.i 5 = x → vE.ev ρ = (x / 4 * 4 + 1024) % 4294967296 := fun ρ h => by
    show IntKind.u32.wrap ((ρ.i 5).tdiv 4 * 4 + 1024) = _
    rw [h, Int.tdiv_eq_ediv_of_nonneg h0, wrap_eq]
    rfl
  have lt : ∀ (ρ : Env) (k : Int), (BE.lt vE (.lit k)).ev ρ = decide (vE.ev ρ < k) := fun _ _ => rfl
  have gt : ∀ (ρ : Env) (k : Int), (BE.lt (.lit k) vE).ev ρ = decide (k < vE.ev ρ) := fun _ _ => rfl
  have eq : ∀ ρ : Env, (BE.eq vE (.lit 0)).ev ρ = decide (vE.ev ρ = 0) := fun _ => rfl
  by_cases c0 : (x / 4 * 4 + 1024) % 4294967296 = 0
  · exact ⟨0, by decide, fun ρ h => decCons nilD9 (by rw [eq, ev ρ h]; exact decide_eq_true c0)⟩
  · have z : ∀ ρ : Env, ρ.i 5 = x → (BE.eq vE (.lit 0)).ev ρ = false := fun ρ h => by rw [eq, ev ρ h]; exact decide_eq_false c0
    by_cases c1 : (x / 4 * 4 + 1024) % 4294967296 < 256
    · exact ⟨1, by decide, fun ρ h => decCons (decCons (decCons nilD9 (by rw [gt, ev ρ h]; exact decide_eq_false (by omega))) (by rw [lt, ev ρ h]; exact decide_eq_false (by omega))) (z ρ h)⟩
    · by_cases c2 : (x / 4 * 4 + 1024) % 4294967296 < 512
      · exact ⟨2, by decide, fun ρ h => decCons (decCons (decCons nilD9 (by rw [gt, ev ρ h]; exact decide_eq_false (by omega))) (by rw [lt, ev ρ h]; exact decide_eq_false (by omega))) (z ρ h)⟩
      · exact ⟨3, by decide, fun ρ h => decCons (decCons nilD9 (by rw [lt, ev ρ h]; exact decide_eq_false (by omega))) (z ρ h)⟩
theorem pF_ok (ρ : Env) : ∃ p, p < 3 ∧ (pF p).holds ρ := by
  have h0 : 0 ≤ aE.ev ρ := (wrap_mem .u32 _).1
  have q : (IE.quo aE (.lit 256)).ev ρ = aE.ev ρ / 256 := Int.tdiv_eq_ediv_of_nonneg h0
  have lt : ∀ k : Int, (BE.lt aE (.lit k)).ev ρ = decide (aE.ev ρ < k) := fun _ => rfl
  have eq : ∀ k : Int, (BE.eq (.quo aE (.lit 256)) (.lit k)).ev ρ = decide (aE.ev ρ / 256 = k) := fun k => by rw [← q]; rfl
  by_cases c0 : aE.ev ρ < 256
  · exact ⟨0, by decide, decCons (decCons (decCons nilD9 (by rw [lt]; exact decide_eq_true c0)) (by rw [lt]; exact decide_eq_true (by omega))) (by rw [eq]; exact decide_eq_true (by omega))⟩
  · by_cases c1 : aE.ev ρ < 512
    · exact ⟨1, by decide, decCons (decCons (decCons nilD9 (by rw [lt]; exact decide_eq_false c0)) (by rw [lt]; exact decide_eq_true c1)) (by rw [eq]; exact decide_eq_true (by omega))⟩
    · exact ⟨2, by decide, decCons nilD9 (by rw [lt]; exact decide_eq_false c1)⟩
/-! which run is taken -/
abbrev at9 (I : Nat → Int) (G : Nat → Int → Int → Int → Int) : Env := { i := I, b := fun _ => false, g := G, gh := gh }
def Says9 (c j : Nat) (ρ : Env) : Prop := ∃ dec : Dec, Dec.holds ρ dec ∧ oSays CD (smKnow CD (K9 c j)) 600 20 none' no' 5 (symArgs pksD 0) .nil 0 dec = true
theorem pAll19 : ∀ j p, j < 4 → p < 3 → sayP 19 j p = true
  | 0, 0, _, _ => p19_0_0
  | 0, 1, _, _ => p19_0_1
  | 0, 2, _, _ => p19_0_2
  | 1, 0, _, _ => p19_1_0
  | 1, 1, _, _ => p19_1_1
  | 1, 2, _, _ => p19_1_2
  | 2, 0, _, _ => p19_2_0
  | 2, 1, _, _ => p19_2_1
  | 2, 2, _, _ => p19_2_2
  | 3, 0, _, _ => p19_3_0
  | 3, 1, _, _ => p19_3_1
  | 3, 2, _, _ => p19_3_2
  | j + 4, _, h, _ => absurd h (by omega)
  | 0, p + 3, _, h => absurd h (by omega)
  | 1, p + 3, _, h => absurd h (by omega)
  | 2, p + 3, _, h => absurd h (by omega)
  | 3, p + 3, _, h => absurd h (by omega)
theorem pAll20 : ∀ j p, j < 4 → p < 3 → sayP 20 j p = true
  | 0, 0, _, _ => p20_0_0
  | 0, 1, _, _ => p20_0_1
  | 0, 2, _, _ => p20_0_2
  | 1, 0, _, _ => p20_1_0
  | 1, 1, _, _ => p20_1_1
  | 1, 2, _, _ => p20_1_2
  | 2, 0, _, _ => p20_2_0
  | 2, 1, _, _ => p20_2_1
  | 2, 2, _, _ => p20_2_2
  | 3, 0, _, _ => p20_3_0
  | 3, 1, _, _ => p20_3_1
  | 3, 2, _, _ => p20_3_2
  | j + 4, _, h, _ => absurd h (by omega)
  | 0, p + 3, _, h => absurd h (by omega)
  | 1, p + 3, _, h => absurd h (by omega)
  | 2, p + 3, _, h => absurd h (by omega)
  | 3, p + 3, _, h => absurd h (by omega)
theorem pAll21 : ∀ j p, j < 4 → p < 3 → sayP 21 j p = true
  | 0, 0, _, _ => p21_0_0
  | 0, 1, _, _ => p21_0_1
  | 0, 2, _, _ => p21_0_2
  | 1, 0, _, _ => p21_1_0
  | 1, 1, _, _ => p21_1_1
  | 1, 2, _, _ => p21_1_2
  | 2, 0, _, _ => p21_2_0
  | 2, 1, _, _ => p21_2_1
  | 2, 2, _, _ => p21_2_2
  | 3, 0, _, _ => p21_3_0
  | 3, 1, _, _ => p21_3_1
  | 3, 2, _, _ => p21_3_2
  | j + 4, _, h, _ => absurd h (by omega)
  | 0, p + 3, _, h => absurd h (by omega)
  | 1, p + 3, _, h => absurd h (by omega)
  | 2, p + 3, _, h => absurd h (by omega)
  | 3, p + 3, _, h => absurd h (by omega)
theorem pAll22 : ∀ j p, j < 4 → p < 3 → sayP 22 j p = true
  | 0, 0, _, _ => p22_0_0
  | 0, 1, _, _ => p22_0_1
  | 0, 2, _, _ => p22_0_2
  | 1, 0, _, _ => p22_1_0
  | 1, 1, _, _ => p22_1_1
  | 1, 2, _, _ => p22_1_2
  | 2, 0, _, _ => p22_2_0
  | 2, 1, _, _ => p22_2_1
  | 2, 2, _, _ => p22_2_2
  | 3, 0, _, _ => p22_3_0
  | 3, 1, _, _ => p22_3_1
  | 3, 2, _, _ => p22_3_2
  | j + 4, _, h, _ => absurd h (by omega)
  | 0, p + 3, _, h => absurd h (by omega)
  | 1, p + 3, _, h => absurd h (by omega)
  | 2, p + 3, _, h => absurd h (by omega)
  | 3, p + 3, _, h => absurd h (by omega)
theorem bAll : ∀ j, j < 4 → sayB j false = true
  | 0, _ => b0_0
  | 1, _ => b0_1
  | 2, _ => b0_2
  | 3, _ => b0_3
  | j + 4, h => absurd h (by omega)
theorem dAll32 : ∀ j, j < 4 → sayD 32 j = true
  | 0, _ => d32_0
  | 1, _ => d32_1
  | 2, _ => d32_2
  | 3, _ => d32_3
  | j + 4, h => absurd h (by omega)
theorem dAll33 : ∀ j, j < 4 → sayD 33 j = true
  | 0, _ => d33_0
  | 1, _ => d33_1
  | 2, _ => d33_2
  | 3, _ => d33_3
  | j + 4, h => absurd h (by omega)
theorem pick9 {c : Nat} (hc : c < 39) {X : Prop} (free : sayE c = true → X) (paged : (∀ j p, j < 4 → p < 3 → sayP c j p = true) → X) (bound : (∀ j, j < 4 → sayD c j = true) → X) (nine : c = 9 → X) : X := by
  have h : c = 0 ∨ c = 1 ∨ c = 2 ∨ c = 3 ∨ c = 4 ∨ c = 5 ∨ c = 6 ∨ c = 7 ∨ c = 8 ∨ c = 9 ∨ c = 10 ∨ c = 11 ∨ c = 12 ∨ c = 13 ∨ c = 14 ∨ c = 15 ∨ c = 16 ∨ c = 17 ∨ c = 18 ∨ c = 19 ∨ c = 20 ∨ c = 21 ∨ c = 22 ∨ c = 23 ∨ c = 24 ∨ c = 25 ∨ c = 26 ∨ c = 27 ∨ c = 28 ∨ c = 29 ∨ c = 30 ∨ c = 31 ∨ c = 32 ∨ c = 33 ∨ c = 34 ∨ c = 35 ∨ c = 36 ∨ c = 37 ∨ c = 38 := by omega
  rcases h with h | h | h | h | h | h | h | h | h | h | h | h | h | h | h | h | h | h | h | h | h | h | h | h | h | h | h | h | h | h | h | h | h | h | h | h | h | h | h
  · subst h; exact free e0
  · subst h; exact free e1
  · subst h; exact free e2
  · subst h; exact free e3
  · subst h; exact free e4
  · subst h; exact free e5
  · subst h; exact free e6
  · subst h; exact free e7
  · subst h; exact free e8
  · exact nine h
  · subst h; exact free e10
  · subst h; exact free e11
  · subst h; exact free e12
  · subst h; exact free e13
  · subst h; exact free e14
  · subst h; exact free e15
  · subst h; exact free e16
  · subst h; exact free e17
  · subst h; exact free e18
  · subst h; exact paged pAll19
  · subst h; exact paged pAll20
  · subst h; exact paged pAll21
  · subst h; exact paged pAll22
  · subst h; exact free e23
  · subst h; exact free e24
  · subst h; exact free e25
  · subst h; exact free e26
  · subst h; exact free e27
  · subst h; exact free e28
  · subst h; exact free e29
  · subst h; exact free e30
  · subst h; exact free e31
  · subst h; exact bound dAll32
  · subst h; exact bound dAll33
  · subst h; exact free e34
  · subst h; exact free e35
  · subst h; exact free e36
  · subst h; exact free e37
  · subst h; exact free e38
theorem goes9 {c : Nat} (hc : c < 39) {I : Nat → Int} (hi : mdI (I 0) 39 = (c : Nat)) (h5 : 0 ≤ I 5) : ∃ j, j < 4 ∧ ∀ G, Pro G I (opAt c) → Says9 c j (at9 I G) := by
  have hn : opAt c ≤ 54 := ops_top (opAt_mem hc)
  have hx : ∀ G, (BE.eq idxE (.lit (.ofNat c))).ev (at9 I G) = true := fun G => decide_eq_true hi
  have hE : ∀ G, Pro G I (opAt c) → (facE c).holds (at9 I G) := fun G hP => decCons (holds_app (preN_ok hP rfl fun _ _ => rfl) (wF_ok hP hn rfl)) (hx G)
  obtain ⟨j, hj, hv⟩ := vF_ok h5
  have hD : ∀ G, Pro G I (opAt c) → (facD c j).holds (at9 I G) := fun G hP => decCons (holds_app (preN_ok hP rfl fun _ _ => rfl) (holds_app (wF_ok hP hn rfl) (hv _ rfl))) (hx G)
  refine pick9 hc (fun h => ⟨0, by decide, fun G hP => ⟨facE c, hE G hP, h⟩⟩) (fun h => ⟨j, hj, fun G hP => ?_⟩) (fun h => ⟨j, hj, fun G hP => ⟨facD c j, hD G hP, h j hj⟩⟩) fun h => ?_
  · obtain ⟨p, hp, hpF⟩ := pF_ok (at9 I G)
    exact ⟨pF p ++ facD c j, holds_app hpF (hD G hP), h j p hj hp⟩
  · subst h
    have eb : ∀ G, Pro G I (opAt 9) → (BE.eq (fB.rep toW) (.lit 1)).ev (at9 I G) = decide (((wordI (opAt 9) (mdI (I 1) 16) (mdI (I 2) 16) (mdI (I 3) 16) (mdI (I 4) (modC (opAt 9)))).tdiv 16384).tmod 16 = 1) := fun G hP => by
      rw [← wC_ev hP rfl hn (ρ := at9 I G)]
      rfl
    cases e : decide (((wordI (opAt 9) (mdI (I 1) 16) (mdI (I 2) 16) (mdI (I 3) 16) (mdI (I 4) (modC (opAt 9)))).tdiv 16384).tmod 16 = 1) with
    | true => exact ⟨0, by decide, fun G hP => ⟨bF true ++ facE 9, holds_app (decCons nilD9 ((eb G hP).trans e)) (hE G hP), b0E⟩⟩
    | false => exact ⟨j, hj, fun G hP => ⟨bF false ++ facD 9 j, holds_app (decCons nilD9 ((eb G hP).trans e)) (hD G hP), bAll j hj⟩⟩
/-! the contracts -/
def okDc (n : Nat) : Bool := (cDc 189 n).wf && ((cDc 121 n).wf && (okP n && okRf n))
theorem dc_all : opsL.all okDc = true := by kernel_rfl
section
variable {G : Nat → Int → Int → Int → Int}
theorem kP_ok {n : Nat} (hn : n ≤ 54) : (kP n).Ok PR G gh := by
  have hm : (Int.ofNat n) ∈ ops64 := List.mem_map.2 ⟨n, List.mem_range.2 (by omega), rfl⟩
  exact ⟨ConsOk.cons (cOf_ok (G := G) hm).1 (cOf_ok hm).2 (ConsOk.cons (by kernel_rfl) (cSign_ok 18 (.inr (.inl rfl))) (ConsOk.cons (by kernel_rfl) (cSign_ok 22 (.inr (.inr rfl))) ConsOk.nil)), fun _ h => by cases h⟩
theorem kRf_ok : kRf.Ok PR G gh :=
  ⟨ConsOk.cons (by kernel_rfl) (cSignRef_ok 18 (.inl rfl)) (ConsOk.cons (by kernel_rfl) (cSignRef_ok 22 (.inr rfl)) ConsOk.nil), fun _ h => by cases h⟩
theorem cDc_ok {n : Nat} (hn : n ∈ opsL) : ((cDc 189 n).wf = true ∧ (cDc 189 n).Ok PR G gh) ∧ (cDc 121 n).wf = true ∧ (cDc 121 n).Ok PR G gh := by
  have h := List.all_eq_true.1 dc_all n hn
  simp only [okDc, Bool.and_eq_true] at h
  exact ⟨⟨h.1, runK_ok (kP_ok (ops_top hn)) h.2.2.1⟩, h.2.1, runK_ok kRf_ok h.2.2.2⟩
/-- What the loop behind the first delivery does, by where the vector points. -/
def rtV : Nat → RT
  | 0 => .bad
  | 1 => (cDel 7 (.lit 0) 4 252).rows FV (rS 7 (.lit 0) 4 252)
  | 2 => (cDel 5 (.var 1) 256 511).rows FV (rS 5 (.var 1) 256 511)
  | _ => (cDel 5 (.var 1) 512 4294967295).rows FV (rS 5 (.var 1) 512 4294967295)
structure Six (j : Nat) (G : Nat → Int → Int → Int → Int) : Prop where
  p : FP.Def G (rtPk 169 FP)
  c : FC.Def G (rtPk 167 FC)
  q : FQ.Def G (rtCt "Peek" FQ)
  k : FK.Def G (rtCt "Code" FK)
  v : FV.Def G (rtV j)
theorem lDs_ok {j : Nat} (hj : j < 4) (h : FV.Def G (rtV j)) : ∀ c ∈ lDs j, c.con.wf = true ∧ c.Ok PR G gh := by
  intro c hc
  match j, hj with
  | 0, _ => cases hc
  | 1, _ => rw [List.mem_singleton.1 hc]; exact ⟨wf0, lDel_ok wf0 ok0 h⟩
  | 2, _ => rw [List.mem_singleton.1 hc]; exact ⟨wf1, lDel_ok wf1 ok1 h⟩
  | 3, _ => rw [List.mem_singleton.1 hc]; exact ⟨wf2, lDel_ok wf2 ok2 h⟩
theorem K9_ok {c j : Nat} (hc : c < 39) (hj : j < 4) {I : Nat → Int} (hP : Pro G I (opAt c)) (h : Six j G) : (K9 c j).Ok PR G gh := by
  have hK : kPk.Ok PR G gh := kPk_ok h.p h.c
  have hD := cDc_ok (G := G) (opAt_mem hc)
  refine ⟨ConsOk.cons wfSane sane (ConsOk.cons (cMadeP_ok hP hc).1 (cMadeP_ok hP hc).2 (ConsOk.cons (cEncP_ok hP hc).1 (cEncP_ok hP hc).2 (ConsOk.cons hD.1.1 hD.1.2 (ConsOk.cons hD.2.1 hD.2.2 hK.1)))), fun x hx => ?_⟩
  rcases List.mem_append.1 hx with hx | hx
  · exact lDs_ok hj h.v x hx
  · simp only [List.mem_cons, List.not_mem_nil, or_false] at hx
    rcases hx with rfl | rfl
    · exact ⟨wfQ, lCt_ok hK (by decide) wfQ ctP_def h.q⟩
    · exact ⟨wfK, lCt_ok hK (by decide) wfK ctC_def h.k⟩
end
def GB9 (I : Nat → Int) (n : Nat) : Nat → Int → Int → Int → Int := fun c x y _ =>
  if c = 9 then pairI x y else if c = 120 then I x.toNat else if c = 121 then (if x = 4 then mdI (I 4) (modC n) else mdI (I x.toNat) 16) else if c = 122 then wordI n (mdI (I 1) 16) (mdI (I 2) 16) (mdI (I 3) 16) (mdI (I 4) (modC n)) else 0
theorem rtV_only {j : Nat} (hj : j < 4) : (rtV j).only (memV FV.vars) 114 = true := by
  match j, hj with
  | 0, _ => rfl
  | 1, _ => exact on0
  | 2, _ => exact on1
  | 3, _ => exact on2
theorem six (I : Nat → Int) (n : Nat) {j : Nat} (hj : j < 4) : ∃ G, Pro G I n ∧ Six j G := by
  obtain ⟨G, a, _, _, d⟩ := exists_defs [(FP, rtPk 169 FP, 102), (FC, rtPk 167 FC, 104), (FQ, rtCt "Peek" FQ, 106), (FK, rtCt "Code" FK, 108), (FV, rtV j, 114)] 0 (GB9 I n) (fun _ _ _ => rfl) (by show fnsChain 0 [(FP, 102), (FC, 104), (FQ, 106), (FK, 108), (FV, 114)] = true; decide) (fun x hx => by
    simp only [List.mem_cons, List.not_mem_nil, or_false] at hx
    rcases hx with rfl | rfl | rfl | rfl | rfl
    · exact pk_only
    · exact cd_only
    · exact ctP_only
    · exact ctC_only
    · exact rtV_only hj)
  have far : ∀ c, 119 < c → G c = GB9 I n c := fun c h => a c (fun x hx => by
    simp only [List.mem_cons, List.not_mem_nil, or_false] at hx
    rcases hx with rfl | rfl | rfl | rfl | rfl
    · exact ⟨by show c ≠ 102; omega, by show c ≠ 103; omega⟩
    · exact ⟨by show c ≠ 104; omega, by show c ≠ 105; omega⟩
    · exact ⟨by show c ≠ 106; omega, by show c ≠ 107; omega⟩
    · exact ⟨by show c ≠ 108; omega, by show c ≠ 109; omega⟩
    · exact ⟨by show c ≠ 114; omega, by show c ≠ 115; omega⟩)
  refine ⟨G, ⟨fun i => ?_, fun j hj => ?_, ?_, ?_⟩, d (FP, rtPk 169 FP, 102) (by simp), d (FC, rtPk 167 FC, 104) (by simp), d (FQ, rtCt "Peek" FQ, 106) (by simp), d (FK, rtCt "Code" FK, 108) (by simp), d (FV, rtV j, 114) (by simp)⟩
  · rw [far 120 (by decide)]
    show I (Int.toNat i) = I i
    rw [Int.toNat_natCast]
  · rw [far 121 (by decide)]
    show (if (j : Int) = 4 then mdI (I 4) (modC n) else mdI (I (Int.toNat j)) 16) = _
    rw [if_neg (by omega), Int.toNat_natCast]
  · rw [far 121 (by decide)]
    rfl
  · rw [far 122 (by decide)]
    rfl
end
end Go.Proofs.YtbhlmedfhilkbaaGreat
