/- Flags: the contracts of the program's and of the reference's function. No condition. -/
import Derived.Test.YthcfcjkljglgfaaFl1
set_option linter.unusedVariables false
set_option linter.unusedSimpArgs false
namespace Go.Proofs.Ythcfcjkljglgfaa
open Go Go.Sx
set_option maxRecDepth 1000000
noncomputable section
theorem selF (a b x y : Int) : selI false a b x y = if a = b then x else y := by simp [selI]
theorem selL (a b x y : Int) : selI true a b x y = if a < b then x else y := by simp [selI]
def baseI (R : Int) : Int := (if 2147483648 ≤ R then 8 else 0) + (if R = 0 then 4 else 0)
theorem base_ev {ρ : Env} {r : IE} {R : Int} (hr : r.ev ρ = R) : (baseE r).ev ρ = baseI R := by
  show selI false (r.ev ρ) 0 (bitsI .or .u32 (selI true (r.ev ρ) 2147483648 0 8) 4) (selI true (r.ev ρ) 2147483648 0 8) = _
  rw [hr, selF, selL]
  unfold baseI
  by_cases h1 : R = 0
  · subst h1; rfl
  · rw [if_neg h1, if_neg h1]
    by_cases h2 : R < 2147483648
    · rw [if_pos h2, if_neg (by omega)]; rfl
    · rw [if_neg h2, if_pos (by omega)]; rfl
theorem baseI_in (R : Int) : baseI R = 0 ∨ baseI R = 4 ∨ baseI R = 8 ∨ baseI R = 12 := by
  unfold baseI
  split <;> split <;> simp
theorem or2 {B : Int} (h : B = 0 ∨ B = 4 ∨ B = 8 ∨ B = 12) : bitsI .or .u32 B 2 = B + 2 := by
  rcases h with rfl | rfl | rfl | rfl <;> rfl
theorem or1 {B : Int} (h : B = 0 ∨ B = 4 ∨ B = 8 ∨ B = 12) (c : Bool) : bitsI .or .u32 (B + if c = true then 2 else 0) 1 = (B + if c = true then 2 else 0) + 1 := by
  rcases h with rfl | rfl | rfl | rfl <;> cases c <;> rfl
theorem rawProg_ev {ρ : Env} {s x y : IE} {S : Int} {X Y : Nat} (hs : s.ev ρ = S) (hx : x.ev ρ = X) (hy : y.ev ρ = Y) (lx : X < 4294967296) (ly : Y < 4294967296) :
    (rawProg s x y).ev ρ = flgP (S % 4294967296) (decide (4294967296 ≤ S)) (decide ((2147483648 ≤ X ↔ S % 4294967296 < 2147483648) ∧ (2147483648 ≤ Y ↔ S % 4294967296 < 2147483648))) := by
  have hr : (IE.wrap .u32 s).ev ρ = S % 4294967296 := by
    show IntKind.u32.wrap (s.ev ρ) = _
    rw [hs, wrap_eq]
    rfl
  obtain ⟨R, hR⟩ := Int.eq_ofNat_of_zero_le (show 0 ≤ S % 4294967296 by omega)
  have lr : R < 4294967296 := by omega
  have hb := base_ev (ρ := ρ) hr
  have hw : (IE.sel true s n32 (baseE (.wrap .u32 s)) (.bits .or .u32 (baseE (.wrap .u32 s)) (.lit 2))).ev ρ = baseI (S % 4294967296) + if decide (4294967296 ≤ S) = true then 2 else 0 := by
    show selI true (s.ev ρ) 4294967296 ((baseE (.wrap .u32 s)).ev ρ) (bitsI .or .u32 ((baseE (.wrap .u32 s)).ev ρ) 2) = _
    rw [hs, hb, selL, or2 (baseI_in _)]
    by_cases h : S < 4294967296
    · rw [if_pos h, if_neg (by simp; omega), Int.add_zero]
    · rw [if_neg h, if_pos (by simp; omega)]
  show selI false (bitsI .and .u32 (bitsI .and .u32 (bitsI .xor .u32 (x.ev ρ) ((IE.wrap .u32 s).ev ρ)) (bitsI .xor .u32 (y.ev ρ) ((IE.wrap .u32 s).ev ρ))) 2147483648) 0 ((IE.sel true s n32 (baseE (.wrap .u32 s)) (.bits .or .u32 (baseE (.wrap .u32 s)) (.lit 2))).ev ρ) (bitsI .or .u32 ((IE.sel true s n32 (baseE (.wrap .u32 s)) (.bits .or .u32 (baseE (.wrap .u32 s)) (.lit 2))).ev ρ) 1) = _
  rw [hw, hr, hx, hy, selF, or1 (baseI_in _), hR]
  have hv := over_nat lx ly lr
  show _ = baseI R + _ + _
  by_cases h : ((2147483648 ≤ X ↔ R < 2147483648) ∧ (2147483648 ≤ Y ↔ R < 2147483648))
  · rw [if_neg (fun e => hv.1 e h)]
    have h' : ((2147483648 ≤ X ↔ (R : Int) < 2147483648) ∧ (2147483648 ≤ Y ↔ (R : Int) < 2147483648)) := ⟨⟨fun q => by have := h.1.1 q; omega, fun q => h.1.2 (by omega)⟩, ⟨fun q => by have := h.2.1 q; omega, fun q => h.2.2 (by omega)⟩⟩
    rw [decide_eq_true h']
    rfl
  · rw [if_pos (hv.2 h)]
    have h' : ¬ ((2147483648 ≤ X ↔ (R : Int) < 2147483648) ∧ (2147483648 ≤ Y ↔ (R : Int) < 2147483648)) := fun q => h ⟨⟨fun z => by have := q.1.1 z; omega, fun z => q.1.2 (by omega)⟩, ⟨fun z => by have := q.2.1 z; omega, fun z => q.2.2 (by omega)⟩⟩
    rw [decide_eq_false h']
    simp
theorem rawRef_ev {ρ : Env} {r s1 s2 t : IE} {R S T : Int} {Z : Int} (hr : r.ev ρ = R) (h1 : s1.ev ρ = S) (h2 : s2.ev ρ = Z) (ht : t.ev ρ = T) (h0 : 0 ≤ R) :
    (rawRef r s1 s2 t).ev ρ = flgP R (decide (Z ≤ S)) (outI T) := by
  have o : ∀ x y : Int, (IE.sel false (.sel true t (.lit (.negSucc 2147483647)) (.lit 1) (.sub (.lit 1) (.sel true t n31 (.lit 1) (.lit 0)))) (.lit 1) (.lit x) (.lit y)).ev ρ = if outI T = true then x else y := by
    intro x y
    show selI false (selI true (t.ev ρ) (-2147483648) 1 (1 - selI true (t.ev ρ) 2147483648 1 0)) 1 x y = _
    rw [ht, selF, selL, selL]
    unfold outI
    by_cases a : T < -2147483648
    · rw [if_pos a, if_pos rfl, decide_eq_true (Or.inl a : T < -2147483648 ∨ 2147483648 ≤ T)]; rfl
    · rw [if_neg a]
      by_cases b : T < 2147483648
      · rw [if_pos b, if_neg (by decide), decide_eq_false (show ¬ (T < -2147483648 ∨ 2147483648 ≤ T) by omega)]; rfl
      · rw [if_neg b, if_pos (by decide), decide_eq_true (Or.inr (by omega) : T < -2147483648 ∨ 2147483648 ≤ T)]; rfl
  have c : ∀ p q x y : Int, (IE.sel true s1 s2 (IE.sel false (.sel true t (.lit (.negSucc 2147483647)) (.lit 1) (.sub (.lit 1) (.sel true t n31 (.lit 1) (.lit 0)))) (.lit 1) (.lit p) (.lit q)) (IE.sel false (.sel true t (.lit (.negSucc 2147483647)) (.lit 1) (.sub (.lit 1) (.sel true t n31 (.lit 1) (.lit 0)))) (.lit 1) (.lit x) (.lit y))).ev ρ = if decide (Z ≤ S) = true then (if outI T = true then x else y) else (if outI T = true then p else q) := by
    intro p q x y
    show selI true (s1.ev ρ) (s2.ev ρ) (IE.ev ρ _) (IE.ev ρ _) = _
    rw [o, o, h1, h2, selL]
    by_cases a : S < Z
    · rw [if_pos a, decide_eq_false (show ¬ Z ≤ S by omega)]; rfl
    · rw [if_neg a, decide_eq_true (show Z ≤ S by omega)]; rfl
  show selI true (r.ev ρ) 2147483648 (selI false (r.ev ρ) 0 (IE.ev ρ _) (IE.ev ρ _)) (IE.ev ρ _) = _
  rw [c, c, c, hr, selL, selF]
  unfold flgP
  by_cases a : R < 2147483648
  · rw [if_pos a, if_neg (show ¬ 2147483648 ≤ R by omega)]
    by_cases b : R = 0
    · rw [if_pos b, if_pos b]
      cases decide (Z ≤ S) <;> cases outI T <;> rfl
    · rw [if_neg b, if_neg b]
      cases decide (Z ≤ S) <;> cases outI T <;> rfl
  · rw [if_neg a, if_pos (show 2147483648 ≤ R by omega), if_neg (show ¬ R = 0 by omega)]
    cases decide (Z ≤ S) <;> cases outI T <;> rfl
theorem flgP_eq {r r' : Int} {c c' v v' : Bool} (h1 : r = r') (h2 : c = c') (h3 : v = v') : flgP r c v = flgP r' c' v' := by rw [h1, h2, h3]
theorem neg_ev {ρ : Env} {b : Nat} (h : ρ.i 2 = b) (hb : b < 4294967296) : negE.ev ρ = ((4294967295 - b : Nat) : Int) := by
  show bitsI .xor .u32 4294967295 (ρ.i 2) = _
  rw [h, show (4294967295 : Int) = ((4294967295 : Nat) : Int) from rfl, (bits_nat (by decide) hb).1]
  have : 4294967295 ^^^ b = 4294967295 - b := by
    refine Nat.eq_of_testBit_eq fun i => ?_
    have e : 4294967295 - b = 2 ^ 32 - (b + 1) := by omega
    rw [Nat.testBit_xor, e, Nat.testBit_two_pow_sub_succ hb, show (4294967295 : Nat) = 2 ^ 32 - 1 from rfl, Nat.testBit_two_pow_sub_one]
    by_cases hi : i < 32
    · simp [hi]
    · have : b.testBit i = false := Nat.testBit_lt_two_pow (Nat.lt_of_lt_of_le hb (Nat.pow_le_pow_right (n := 2) (by decide) (show 32 ≤ i by omega)))
      simp [hi, this]
  rw [this]
theorem progE_ev {ρ : Env} {a b : Nat} (ha : ρ.i 1 = a) (hb : ρ.i 2 = b) (la : a < 4294967296) (lb : b < 4294967296) {k : Int} (hk : k ∈ ([0, 1, 2, 3, 4, 5] : List Int)) : (progE k).ev ρ = flgI k a b := by
  have e1 : (IE.var 1).ev ρ = a := ha
  have e2 : (IE.var 2).ev ρ = b := hb
  have en := neg_ev hb lb
  have ln : 4294967295 - b < 4294967296 := by omega
  simp only [List.mem_cons, List.not_mem_nil, or_false] at hk
  rcases hk with rfl | rfl | rfl | rfl | rfl | rfl
  · show bitsI .and .u32 (ρ.i 1) 15 = (a : Int) % 16
    rw [ha, show (15 : Int) = ((15 : Nat) : Int) from rfl, (bits_nat la (by decide)).2.1]
    have : a &&& 15 = a % 16 := Nat.and_two_pow_sub_one_eq_mod a 4
    rw [this]
    rfl
  · refine (rawProg_ev (S := a + b) (by show ρ.i 1 + ρ.i 2 = _; rw [ha, hb]) e1 e2 la lb).trans (flgP_eq rfl rfl ?_)
    unfold outI sgnI
    congr 1; apply propext
    split <;> split <;> omega
  · refine (rawProg_ev (S := a + b + 1) (by show ρ.i 1 + ρ.i 2 + 1 = _; rw [ha, hb]) e1 e2 la lb).trans (flgP_eq rfl rfl ?_)
    unfold outI sgnI
    congr 1; apply propext
    split <;> split <;> omega
  · refine (rawProg_ev (S := a + ((4294967295 - b : Nat) : Int) + 1) (by show ρ.i 1 + negE.ev ρ + 1 = _; rw [ha, en]) e1 en la ln).trans (flgP_eq (by omega) (by congr 1; apply propext; omega) ?_)
    unfold outI sgnI
    congr 1; apply propext
    split <;> split <;> omega
  · refine (rawProg_ev (S := a + ((4294967295 - b : Nat) : Int)) (by show ρ.i 1 + negE.ev ρ = _; rw [ha, en]) e1 en la ln).trans (flgP_eq (by omega) (by congr 1; apply propext; omega) ?_)
    unfold outI sgnI
    congr 1; apply propext
    split <;> split <;> omega
  · refine (base_ev e1).trans ?_
    show baseI a = flgP a false false
    unfold baseI flgP
    simp
theorem refE_ev {ρ : Env} {a b : Nat} (ha : ρ.i 1 = a) (hb : ρ.i 2 = b) (la : a < 4294967296) (lb : b < 4294967296) {k : Int} (hk : k ∈ ([0, 1, 2, 3, 4, 5] : List Int)) : (refE k).ev ρ = flgI k a b := by
  have e1 : (IE.var 1).ev ρ = a := ha
  have e2 : (IE.var 2).ev ρ = b := hb
  have s1 : (sgn1 1).ev ρ = sgnI a := by
    show selI true (ρ.i 1) 2147483648 (ρ.i 1) (ρ.i 1 - 4294967296) = _
    rw [ha, selL]; rfl
  have s2 : (sgn1 2).ev ρ = sgnI b := by
    show selI true (ρ.i 2) 2147483648 (ρ.i 2) (ρ.i 2 - 4294967296) = _
    rw [hb, selL]; rfl
  have w : ∀ x : Int, IntKind.u32.wrap x = x % 4294967296 := fun x => by rw [wrap_eq]; rfl
  simp only [List.mem_cons, List.not_mem_nil, or_false] at hk
  rcases hk with rfl | rfl | rfl | rfl | rfl | rfl
  · show bitsI .and .u32 (ρ.i 1) 15 = (a : Int) % 16
    rw [ha, show (15 : Int) = ((15 : Nat) : Int) from rfl, (bits_nat la (by decide)).2.1]
    have : a &&& 15 = a % 16 := Nat.and_two_pow_sub_one_eq_mod a 4
    rw [this]
    rfl
  · exact rawRef_ev (R := (a + b : Int) % 4294967296) (by show IntKind.u32.wrap (ρ.i 1 + ρ.i 2) = _; rw [ha, hb, w]) (S := a + b) (by show ρ.i 1 + ρ.i 2 = _; rw [ha, hb]) (Z := 4294967296) rfl (T := sgnI a + sgnI b) (by show (sgn1 1).ev ρ + (sgn1 2).ev ρ = _; rw [s1, s2]) (by omega)
  · refine (rawRef_ev (R := (a + b + 1 : Int) % 4294967296) (by show IntKind.u32.wrap (IntKind.u32.wrap (ρ.i 1 + ρ.i 2) + 1) = _; rw [ha, hb, w, w]; omega) (S := a + b + 1) (by show ρ.i 1 + ρ.i 2 + 1 = _; rw [ha, hb]) (Z := 4294967296) rfl (T := sgnI a + sgnI b + 1) (by show (sgn1 1).ev ρ + (sgn1 2).ev ρ + 1 = _; rw [s1, s2]) (by omega)).trans rfl
  · refine (rawRef_ev (R := (a - b : Int) % 4294967296) (by show IntKind.u32.wrap (ρ.i 1 - ρ.i 2) = _; rw [ha, hb, w]) (S := a) (Z := b) e1 e2 (T := sgnI a - sgnI b) (by show (sgn1 1).ev ρ - (sgn1 2).ev ρ = _; rw [s1, s2]) (by omega)).trans rfl
  · refine (rawRef_ev (R := (a - b - 1 : Int) % 4294967296) (by show IntKind.u32.wrap (IntKind.u32.wrap (ρ.i 1 - ρ.i 2) - 1) = _; rw [ha, hb, w, w]; omega) (S := a) (Z := b + 1) e1 (by show ρ.i 2 + 1 = _; rw [hb]) (T := sgnI a - sgnI b - 1) (by show (sgn1 1).ev ρ - (sgn1 2).ev ρ - 1 = _; rw [s1, s2]) (by omega)).trans rfl
  · show selI true (ρ.i 1) 2147483648 (selI false (ρ.i 1) 0 4 0) 8 = flgP a false false
    rw [ha, selL, selF]
    unfold flgP
    by_cases h1 : (a : Int) < 2147483648
    · rw [if_pos h1, if_neg (show ¬ (2147483648 : Int) ≤ a by omega)]
      by_cases h2 : (a : Int) = 0
      · simp only [if_pos h2]; rfl
      · simp only [if_neg h2]; rfl
    · rw [if_neg h1, if_pos (show (2147483648 : Int) ≤ a by omega), if_neg (show ¬ (a : Int) = 0 by omega)]
      rfl
/-! the contracts -/
/-- The function 40 is the flags'. -/
def Flg (G : Nat → Int → Int → Int → Int) : Prop := ∀ k a b, G 40 k a b = flgI k a b
def flE : IE := .wrap .u32 (.fn 40 (.var 0) (.var 1) (.var 2))
def cFl (g : FuncId) : Con := { g := g, args := [uV .i64 0, uV .u32 1, uV .u32 2], bds := [(0, 0, 4294967295), u32B 1, u32B 2], res := .int .u32 flE }
def flNo : Dec := [(.eq (.var 0) (.lit 5), false), (.eq (.var 0) (.lit 4), false), (.eq (.var 0) (.lit 3), false), (.eq (.var 0) (.lit 2), false), (.eq (.var 0) (.lit 1), false), (.eq (.var 0) (.lit 0), false)]
def cFl0 (g : FuncId) : Con := { cFl g with pre := flNo, res := .int .u32 (.lit 0) }
def okFl0 (g : FuncId) : Bool := ((cFl0 g).tree PR ⟨[], []⟩ 40 none' no' 12 []).all ((cFl0 g).leaf (qN (bdL (cFl g).bds) [])) flNo
theorem fl0 : (okFl0 40 && okFl0 32) = true := by kernel_rfl
section
variable {G : Nat → Int → Int → Int → Int} {GH : Nat → Ghost} (hG : Flg G)
include hG
theorem flE_ev {ρ : Env} (h : ρ.g = G) : flE.ev ρ = flgI (ρ.i 0) (ρ.i 1) (ρ.i 2) := by
  have q := flgI_in (ρ.i 0) (ρ.i 1) (ρ.i 2)
  show IntKind.u32.wrap (fnI ρ 40 (ρ.i 0) (ρ.i 1) (ρ.i 2)) = _
  rw [fn_big (by decide), h, hG]
  exact wrap_id .u32 _ q.1 (by show _ ≤ (4294967295 : Int); omega)
theorem cFlAt {g : FuncId} {e : Int → IE} (he : ∀ (ρ : Env) (a b : Nat) (k : Int), ρ.i 1 = a → ρ.i 2 = b → a < 4294967296 → b < 4294967296 → k ∈ ([0, 1, 2, 3, 4, 5] : List Int) → (e k).ev ρ = flgI k a b) (h : ([0, 1, 2, 3, 4, 5] : List Int).all (okFl g e) = true) {k : Int} (hk : k ∈ ([0, 1, 2, 3, 4, 5] : List Int)) (pre : Dec) : Con.Ok PR G GH { cFl g with pre := (.eq (.var 0) (.lit k), true) :: pre } := by
  have hr : (cFlR g k (e k)).Ok PR G GH := Con.of_tree mixed knowNil 40 none' no' 12 [] (fun _ _ _ _ => nilDec) [] (fun _ _ _ _ o ho => by cases ho) (List.all_eq_true.1 h k hk)
  refine Con.weak (c := cFlR g k (e k)) rfl rfl rfl hr fun ρ h1 h2 h3 => ?_
  have h0 : ρ.i 0 = k := of_decide_eq_true (h3 (.eq (.var 0) (.lit k), true) (List.mem_cons_self ..))
  obtain ⟨a0, a1⟩ := h2 1 0 4294967295 rfl
  obtain ⟨b0, b1⟩ := h2 2 0 4294967295 rfl
  obtain ⟨a, ha⟩ := Int.eq_ofNat_of_zero_le a0
  obtain ⟨b, hb⟩ := Int.eq_ofNat_of_zero_le b0
  refine ⟨fun i lo hi hx => ?_, (fun p hp => by cases hp), fun f x hx => ⟨hx.1, fun i v v' q q' => ?_⟩, fun f v hv => VRel.ints ?_ hv⟩
  · match i with
    | 0 => cases hx
    | 1 => exact h2 1 lo hi hx
    | 2 => exact h2 2 lo hi hx
    | i + 3 => cases hx
  · match i with
    | 0 =>
      have := hx.2 0 (.int .i64 (.var 0)) v' rfl q'
      cases q
      exact VRel.ints (show (IE.lit k).ev ρ = (IE.var 0).ev ρ from h0.symm) this
    | 1 => exact hx.2 1 v v' q q'
    | 2 => exact hx.2 2 v v' q q'
    | i + 3 => cases q
  · rw [flE_ev hG h1.1, he ρ a b k ha hb (by omega) (by omega) hk, h0, ha, hb]
theorem cFl_ok' {g : FuncId} {e : Int → IE} (he : ∀ (ρ : Env) (a b : Nat) (k : Int), ρ.i 1 = a → ρ.i 2 = b → a < 4294967296 → b < 4294967296 → k ∈ ([0, 1, 2, 3, 4, 5] : List Int) → (e k).ev ρ = flgI k a b) (h : ([0, 1, 2, 3, 4, 5] : List Int).all (okFl g e) = true) (h' : okFl0 g = true) : (cFl g).Ok PR G GH := by
  have hr : (cFl0 g).Ok PR G GH := Con.of_tree mixed knowNil 40 none' no' 12 [] (fun _ _ _ _ => nilDec) [] (fun _ _ _ _ o ho => by cases ho) h'
  have last : Con.Ok PR G GH { cFl g with pre := flNo } := Con.weak (c := cFl0 g) rfl rfl rfl hr fun ρ h1 h2 h3 => by
    refine ⟨h2, h3, fun f x hx => hx, fun f v hv => VRel.ints ?_ hv⟩
    have n : ∀ k : Int, (BE.eq (.var 0) (.lit k), false) ∈ flNo → ¬ ρ.i 0 = k := fun k hk => of_decide_eq_false (h3 _ hk)
    rw [flE_ev hG h1.1]
    unfold flgI
    rw [if_neg (n 0 (by simp [flNo])), if_neg (n 1 (by simp [flNo])), if_neg (n 2 (by simp [flNo])), if_neg (n 3 (by simp [flNo])), if_neg (n 4 (by simp [flNo])), if_neg (n 5 (by simp [flNo]))]
    rfl
  have at' : ∀ k : Int, k ∈ ([0, 1, 2, 3, 4, 5] : List Int) → ∀ pre : Dec, Con.Ok PR G GH { cFl g with pre := (.eq (.var 0) (.lit k), true) :: pre } := fun k hk pre => cFlAt hG he h hk pre
  exact Con.split (c := cFl g) (at' 0 (by simp) []) (Con.split (c := { cFl g with pre := [(.eq (.var 0) (.lit 0), false)] }) (at' 1 (by simp) _) (Con.split (c := { cFl g with pre := [(.eq (.var 0) (.lit 1), false), (.eq (.var 0) (.lit 0), false)] }) (at' 2 (by simp) _) (Con.split (c := { cFl g with pre := [(.eq (.var 0) (.lit 2), false), (.eq (.var 0) (.lit 1), false), (.eq (.var 0) (.lit 0), false)] }) (at' 3 (by simp) _) (Con.split (c := { cFl g with pre := [(.eq (.var 0) (.lit 3), false), (.eq (.var 0) (.lit 2), false), (.eq (.var 0) (.lit 1), false), (.eq (.var 0) (.lit 0), false)] }) (at' 4 (by simp) _) (Con.split (c := { cFl g with pre := [(.eq (.var 0) (.lit 4), false), (.eq (.var 0) (.lit 3), false), (.eq (.var 0) (.lit 2), false), (.eq (.var 0) (.lit 1), false), (.eq (.var 0) (.lit 0), false)] }) (at' 5 (by simp) _) last)))))
/-- The program's flags. -/
theorem cFlags_ok : (cFl 40).Ok PR G GH := cFl_ok' hG (fun ρ a b k h1 h2 h3 h4 h5 => progE_ev h1 h2 h3 h4 h5) fl_prog (by have := fl0; simp only [Bool.and_eq_true] at this; exact this.1)
/-- The reference's. -/
theorem cFlagsR_ok : (cFl 32).Ok PR G GH := cFl_ok' hG (fun ρ a b k h1 h2 h3 h4 h5 => refE_ev h1 h2 h3 h4 h5) fl_ref (by have := fl0; simp only [Bool.and_eq_true] at this; exact this.2)
end
theorem wfFl : ((cFl 40).wf && (cFl 32).wf) = true := by kernel_rfl
end
end Go.Proofs.Ythcfcjkljglgfaa
