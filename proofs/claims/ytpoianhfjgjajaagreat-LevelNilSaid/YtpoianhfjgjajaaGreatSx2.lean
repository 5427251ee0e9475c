/- Smart constructors of symbolic integers and tests, with their laws. No condition. -/
import Derived.Test.YtpoianhfjgjajaaGreatSx1
namespace Go.Sx

abbrev Bd := Nat → Option (Int × Int)
def Env.ok (ρ : Env) (bd : Bd) : Prop := ∀ i lo hi, bd i = some (lo, hi) → lo ≤ ρ.i i ∧ ρ.i i ≤ hi

/-- The greatest number, shifted. -/
def shrTop (k : IntKind) (b : IE) (h : Int) : Int :=
  match b with
  | .lit (.ofNat n) => h / ((2 ^ (min n k.bits) : Nat) : Int)
  | _ => h
theorem shrTop_ok {ρ : Env} {k : IntKind} {b : IE} {x h : Int} (h0 : 0 ≤ x) (hx : x ≤ h) : x / 2 ^ (min (b.ev ρ).toNat k.bits) ≤ shrTop k b h := by
  unfold shrTop
  split
  · rename_i n
    have e : ((2 ^ (min n k.bits) : Nat) : Int) = 2 ^ (min n k.bits) := by simp
    rw [e]
    have hp : (0 : Int) < 2 ^ (min n k.bits) := Int.pow_pos (by omega)
    show x / 2 ^ (min n k.bits) ≤ _
    exact Int.ediv_le_ediv hp hx
  · have := Int.ediv_le_self (2 ^ (min (b.ev ρ).toNat k.bits)) h0
    omega
def rng (bd : Bd) : IE → Option (Int × Int)
  | .lit n => some (n, n)
  | .var i => bd i
  | .add a b => match rng bd a, rng bd b with
    | some (l, h), some (l', h') => some (l + l', h + h')
    | _, _ => none
  | .sub a b => match rng bd a, rng bd b with
    | some (l, h), some (l', h') => some (l - h', h - l')
    | _, _ => none
  | .mul a b => match rng bd a, rng bd b with
    | some (l, h), some (l', h') => if intLe 0 l && intLe 0 l' then some (l * l', h * h') else none
    | _, _ => none
  | .wrap k _ => some (kLo k, kHi k)
  | .bits .and k _ (.lit m) => if intLe 0 m && intLe m (kHi k) then some (0, m) else some (kLo k, kHi k)
  | .bits _ k _ _ => some (kLo k, kHi k)
  | .quo a (.lit m) => match rng bd a with
    | some (l, h) => if intLe 0 l && intLe 1 m then some (l / m, h / m) else none
    | none => none
  | .rem a (.lit m) => match rng bd a with
    | some (l, _) => if intLe 1 m then (if intLe 0 l then some (0, m - 1) else some (1 - m, m - 1)) else none
    | none => if intLe 1 m then some (1 - m, m - 1) else none
  | .shl k _ _ => some (kLo k, kHi k)
  | .shr k a b => match rng bd a with
    | some (l, h) => if intLe 0 l then some (0, shrTop k b h) else none
    | none => none
  | .sel _ _ _ x y => match rng bd x, rng bd y with
    | some (l, h), some (l', h') => some (if intLe l l' then l else l', if intLe h h' then h' else h)
    | _, _ => none
  | _ => none

theorem bitsI_mem (op : BinOp) (k : IntKind) (x y : Int) : kLo k ≤ bitsI op k x y ∧ bitsI op k x y ≤ kHi k := by
  unfold bitsI
  cases op <;> exact wrap_mem _ _

theorem wrap_small (k : IntKind) (n m : Nat) (h : n ≤ m) (hm : (m : Int) ≤ kHi k) : k.wrap (n : Int) = n :=
  wrap_id k _ (by cases k <;> simp [kLo] <;> omega) (by omega)

theorem bitsI_and (k : IntKind) (x : Int) (m : Nat) (hm : (m : Int) ≤ kHi k) : 0 ≤ bitsI .and k x m ∧ bitsI .and k x m ≤ m := by
  have h1 : (BitVec.ofInt k.bits x &&& BitVec.ofInt k.bits (m : Int)).toNat ≤ m := by
    rw [BitVec.toNat_and]
    refine Nat.le_trans Nat.and_le_right ?_
    rw [BitVec.ofInt_natCast, BitVec.toNat_ofNat]
    exact Nat.mod_le _ _
  simp only [bitsI]
  rw [wrap_small k _ m h1 hm]
  omega

theorem rng_ok {ρ : Env} {bd : Bd} (hρ : ρ.ok bd) (e : IE) : ∀ lo hi, rng bd e = some (lo, hi) → lo ≤ e.ev ρ ∧ e.ev ρ ≤ hi := by
  induction e with
  | lit n => intro lo hi h; simp [rng] at h; simp [IE.ev]; omega
  | var i => intro lo hi h; exact hρ i lo hi h
  | add a b iha ihb =>
    intro lo hi h
    simp only [rng] at h
    split at h
    · rename_i l hh l' hh' ha hb
      have h1 := iha _ _ ha; have h2 := ihb _ _ hb
      simp at h; simp only [IE.ev]; omega
    · cases h
  | sub a b iha ihb =>
    intro lo hi h
    simp only [rng] at h
    split at h
    · rename_i l hh l' hh' ha hb
      have h1 := iha _ _ ha; have h2 := ihb _ _ hb
      simp at h; simp only [IE.ev]; omega
    · cases h
  | mul a b iha ihb =>
    intro lo hi h
    simp only [rng] at h
    split at h
    · rename_i l hh l' hh' ha hb
      have h1 := iha _ _ ha; have h2 := ihb _ _ hb
      split at h
      · rename_i hc
        simp [intLe_iff] at hc h
        obtain ⟨rfl, rfl⟩ := h
        simp only [IE.ev]
        exact ⟨Int.mul_le_mul h1.1 h2.1 hc.2 (by omega), Int.mul_le_mul h1.2 h2.2 (by omega) (by omega)⟩
      · cases h
    · cases h
  | wrap k a _ => intro lo hi h; simp [rng] at h; obtain ⟨rfl, rfl⟩ := h; exact wrap_mem _ _
  | bits op k a b _ _ =>
    intro lo hi h
    have gen : some (kLo k, kHi k) = some (lo, hi) → lo ≤ (IE.bits op k a b).ev ρ ∧ (IE.bits op k a b).ev ρ ≤ hi := by
      intro h; simp at h; obtain ⟨rfl, rfl⟩ := h; exact bitsI_mem _ _ _ _
    by_cases hop : op = .and
    · subst hop
      cases b with
      | lit m =>
        simp only [rng] at h
        split at h
        · rename_i hc
          simp [intLe_iff] at hc h
          obtain ⟨rfl, rfl⟩ := h
          obtain ⟨m, rfl⟩ := Int.eq_ofNat_of_zero_le hc.1
          exact bitsI_and k _ m hc.2
        · exact gen h
      | _ => exact gen (by simpa [rng] using h)
    · refine gen ?_
      cases op <;> simp [rng] at h hop ⊢ <;> exact h
  | quo a b iha _ =>
    intro lo hi h
    cases b with
    | lit m =>
      simp only [rng] at h
      split at h
      · rename_i l hh ha
        have h1 := iha _ _ ha
        split at h
        · rename_i hc
          simp [intLe_iff] at hc h
          obtain ⟨rfl, rfl⟩ := h
          simp only [IE.ev]
          rw [Int.tdiv_eq_ediv_of_nonneg (by omega)]
          exact ⟨Int.ediv_le_ediv (by omega) h1.1, Int.ediv_le_ediv (by omega) h1.2⟩
        · cases h
      · cases h
    | _ => simp [rng] at h
  | rem a b iha _ =>
    intro lo hi h
    cases b with
    | lit m =>
      simp only [rng] at h
      have gen : 1 ≤ m → 1 - m ≤ (a.ev ρ).tmod m ∧ (a.ev ρ).tmod m ≤ m - 1 := by
        intro hm
        have h1 := Int.tmod_lt_of_pos (a.ev ρ) (show 0 < m by omega)
        have h2 := Int.lt_tmod_of_pos (a.ev ρ) (show 0 < m by omega)
        omega
      split at h
      · rename_i l hh ha
        have h1 := iha _ _ ha
        split at h
        · rename_i hc
          simp [intLe_iff] at hc
          have hg := gen hc
          split at h
          · rename_i hl
            simp [intLe_iff] at hl h
            obtain ⟨rfl, rfl⟩ := h
            simp only [IE.ev]
            exact ⟨Int.tmod_nonneg _ (by omega), hg.2⟩
          · simp at h
            obtain ⟨rfl, rfl⟩ := h
            exact hg
        · cases h
      · split at h
        · rename_i hc
          simp [intLe_iff] at hc h
          obtain ⟨rfl, rfl⟩ := h
          exact gen hc
        · cases h
    | _ => simp [rng] at h
  | shl k a b _ _ => intro lo hi h; simp [rng] at h; obtain ⟨rfl, rfl⟩ := h; exact wrap_mem _ _
  | shr k a b iha _ =>
    intro lo hi h
    simp only [rng] at h
    split at h
    · rename_i l hh ha
      have h1 := iha _ _ ha
      split at h
      · rename_i hc
        simp [intLe_iff] at hc h
        obtain ⟨rfl, rfl⟩ := h
        simp only [IE.ev, shrI]
        have hp : (0 : Int) < 2 ^ (min (b.ev ρ).toNat k.bits) := Int.pow_pos (by omega)
        rw [Int.fdiv_eq_ediv_of_nonneg _ (by omega)]
        have h0 : 0 ≤ a.ev ρ := by omega
        exact ⟨Int.ediv_nonneg h0 (by omega), shrTop_ok h0 h1.2⟩
      · cases h
    · cases h
  | fn => intro lo hi h; simp [rng] at h
  | sel s a b x y _ _ ihx ihy =>
    intro lo hi h
    simp only [rng] at h
    split at h
    · rename_i l hh l' hh' hx hy
      have h1 := ihx _ _ hx; have h2 := ihy _ _ hy
      simp only [intLe_iff, decide_eq_true_eq] at h
      simp only [Option.some.injEq, Prod.mk.injEq] at h
      obtain ⟨h3, h4⟩ := h
      simp only [IE.ev, selI]
      split <;> split at h3 <;> split at h4 <;> omega
    · cases h

/-! constructors -/
def mkAdd : IE → IE → IE
  | .lit x, .lit y => .lit (x + y)
  | .lit x, b =>
    match intEq x 0 with
    | true => b
    | false => .add (.lit x) b
  | a, .lit y =>
    match intEq y 0 with
    | true => a
    | false => .add a (.lit y)
  | a, b => .add a b
def mkSub : IE → IE → IE
  | .lit x, .lit y => .lit (x - y)
  | a, .lit y =>
    match intEq y 0 with
    | true => a
    | false => .sub a (.lit y)
  | a, b => .sub a b
def mkMul : IE → IE → IE
  | .lit x, .lit y => .lit (x * y)
  | a, .lit y =>
    match intEq y 1 with
    | true => a
    | false => .mul a (.lit y)
  | a, b => .mul a b
def fits (k : IntKind) : Option (Int × Int) → Bool
  | some (l, h) => intLe (kLo k) l && intLe h (kHi k)
  | none => false
theorem fits_ok {ρ : Env} {bd : Bd} (hρ : ρ.ok bd) {k : IntKind} {e : IE} (h : fits k (rng bd e) = true) : kLo k ≤ e.ev ρ ∧ e.ev ρ ≤ kHi k := by
  unfold fits at h
  split at h
  · rename_i l hh hr
    simp [intLe_iff] at h
    have := rng_ok hρ _ _ _ hr
    omega
  · cases h

/-! linear forms, modulo a power of two -/
def pow2 : IntKind → Int
  | .u8 | .i8 => 256
  | .u16 | .i16 => 65536
  | .u32 | .i32 => 4294967296
  | .u64 | .i64 => 18446744073709551616
def kb : IntKind → Nat
  | .u8 | .i8 => 8
  | .u16 | .i16 => 16
  | .u32 | .i32 => 32
  | .u64 | .i64 => 64
theorem pow2_dvd {k j : IntKind} (h : Nat.ble (kb k) (kb j) = true) : pow2 k ∣ pow2 j := by
  cases k <;> cases j <;> first | (exact absurd h (by decide)) | decide
theorem wrap_dvd (k : IntKind) (n : Int) : pow2 k ∣ k.wrap n - n := by
  rw [wrap_eq]
  cases k <;> simp only [wrapL, pow2] <;> (try split) <;> omega
theorem wrap_congr (k : IntKind) {x y : Int} (h : pow2 k ∣ x - y) : k.wrap x = k.wrap y := by
  rw [wrap_eq, wrap_eq]
  obtain ⟨q, hq⟩ := h
  cases k <;> simp only [wrapL, pow2] at * <;> (repeat' split) <;> omega
theorem eq_of_range (k : IntKind) {x y : Int} (h : pow2 k ∣ x - y) (hx : kLo k ≤ x ∧ x ≤ kHi k) (hy : kLo k ≤ y ∧ y ≤ kHi k) : x = y := by
  rw [← wrap_id k x hx.1 hx.2, ← wrap_id k y hy.1 hy.2]
  exact wrap_congr k h
abbrev Lin := List (IE × Int)
def linEv (ρ : Env) : Lin → Int
  | [] => 0
  | (a, s) :: l => s * a.ev ρ + linEv ρ l
def addAtom (e : IE) (s : Int) : Lin → Lin
  | [] => [(e, s)]
  | (a, t) :: l => if a.eq e then (a, t + s) :: l else (a, t) :: addAtom e s l
theorem addAtom_ev (ρ : Env) (e : IE) (s : Int) (l : Lin) : linEv ρ (addAtom e s l) = s * e.ev ρ + linEv ρ l := by
  induction l with
  | nil => rfl
  | cons p l ih =>
    obtain ⟨a, t⟩ := p
    unfold addAtom
    split
    · rename_i h
      simp only [linEv, IE.eq_eq h, Int.add_mul]
      omega
    · simp only [linEv, ih]
      omega
def linOf (k : IntKind) : IE → Int → Lin → Int → Lin × Int
  | .lit n, s, l, c => (l, c + s * n)
  | .add a b, s, l, c => linOf k b s (linOf k a s l c).1 (linOf k a s l c).2
  | .sub a b, s, l, c => linOf k b (-s) (linOf k a s l c).1 (linOf k a s l c).2
  | .wrap j a, s, l, c => if Nat.ble (kb k) (kb j) then linOf k a s l c else (addAtom (.wrap j a) s l, c)
  | .mul (.lit n) b, s, l, c => linOf k b (s * n) l c
  | .mul a (.lit n), s, l, c => linOf k a (s * n) l c
  | e, s, l, c => (addAtom e s l, c)
theorem linOf_ok (ρ : Env) (k : IntKind) (e : IE) : ∀ (s : Int) (l : Lin) (c : Int), pow2 k ∣ (linEv ρ (linOf k e s l c).1 + (linOf k e s l c).2) - (s * e.ev ρ + (linEv ρ l + c)) := by
  have atom : ∀ (e : IE) (s : Int) (l : Lin) (c : Int), pow2 k ∣ (linEv ρ (addAtom e s l, c).1 + (addAtom e s l, c).2) - (s * e.ev ρ + (linEv ρ l + c)) := by
    intro e s l c
    have : (linEv ρ (addAtom e s l, c).1 + (addAtom e s l, c).2) - (s * e.ev ρ + (linEv ρ l + c)) = 0 := by
      simp only [addAtom_ev]
      omega
    rw [this]
    exact Int.dvd_zero _
  induction e with
  | lit n =>
    intro s l c
    have : (linEv ρ (linOf k (.lit n) s l c).1 + (linOf k (.lit n) s l c).2) - (s * (IE.lit n).ev ρ + (linEv ρ l + c)) = 0 := by
      simp only [linOf, IE.ev]
      omega
    rw [this]
    exact Int.dvd_zero _
  | add a b iha ihb =>
    intro s l c
    have h1 := iha s l c
    have h2 := ihb s (linOf k a s l c).1 (linOf k a s l c).2
    have h3 := Int.dvd_add h1 h2
    have e : ∀ R, R - (s * (IE.add a b).ev ρ + (linEv ρ l + c)) = (linEv ρ (linOf k a s l c).1 + (linOf k a s l c).2 - (s * a.ev ρ + (linEv ρ l + c))) + (R - (s * b.ev ρ + (linEv ρ (linOf k a s l c).1 + (linOf k a s l c).2))) := by
      intro R
      simp only [IE.ev, Int.mul_add]
      omega
    rw [e]
    exact h3
  | sub a b iha ihb =>
    intro s l c
    have h1 := iha s l c
    have h2 := ihb (-s) (linOf k a s l c).1 (linOf k a s l c).2
    have h3 := Int.dvd_add h1 h2
    have e : ∀ R, R - (s * (IE.sub a b).ev ρ + (linEv ρ l + c)) = (linEv ρ (linOf k a s l c).1 + (linOf k a s l c).2 - (s * a.ev ρ + (linEv ρ l + c))) + (R - (-s * b.ev ρ + (linEv ρ (linOf k a s l c).1 + (linOf k a s l c).2))) := by
      intro R
      simp only [IE.ev, Int.mul_sub, Int.neg_mul]
      omega
    rw [e]
    exact h3
  | wrap j a iha =>
    intro s l c
    unfold linOf
    split
    · rename_i h
      have h1 := iha s l c
      have h2 : pow2 k ∣ s * (j.wrap (a.ev ρ) - a.ev ρ) := Int.dvd_trans (Int.dvd_trans (pow2_dvd h) (wrap_dvd j _)) (Int.dvd_mul_left _ _)
      have h3 := Int.dvd_sub h1 h2
      have e : ∀ R, R - (s * (IE.wrap j a).ev ρ + (linEv ρ l + c)) = (R - (s * a.ev ρ + (linEv ρ l + c))) - s * (j.wrap (a.ev ρ) - a.ev ρ) := by
        intro R
        simp only [IE.ev, Int.mul_sub]
        omega
      rw [e]
      exact h3
    · exact atom _ s l c
  | mul a b iha ihb =>
    intro s l c
    cases a with
    | lit n =>
      have h := ihb (s * n) l c
      have e : s * (IE.mul (.lit n) b).ev ρ = s * n * b.ev ρ := by simp only [IE.ev, Int.mul_assoc]
      rw [e]
      exact h
    | _ =>
      cases b with
      | lit n =>
        have h := iha (s * n) l c
        have e : ∀ x y z : Int, x * (y * z) = x * z * y := fun x y z => by rw [Int.mul_comm y z, Int.mul_assoc]
        simp only [IE.ev, e] at h ⊢
        exact h
      | _ => exact atom _ s l c
  | var i => intro s l c; exact atom _ s l c
  | bits => intro s l c; exact atom _ s l c
  | quo => intro s l c; exact atom _ s l c
  | rem => intro s l c; exact atom _ s l c
  | shl => intro s l c; exact atom _ s l c
  | shr => intro s l c; exact atom _ s l c
  | fn => intro s l c; exact atom _ s l c
  | sel => intro s l c; exact atom _ s l c
def trim (k : IntKind) : Lin → Lin
  | [] => []
  | (a, s) :: l => if intEq (s % pow2 k) 0 then trim k l else (a, s) :: trim k l
theorem trim_ok (ρ : Env) (k : IntKind) (l : Lin) : pow2 k ∣ linEv ρ l - linEv ρ (trim k l) := by
  induction l with
  | nil => exact Int.dvd_zero _
  | cons p l ih =>
    obtain ⟨a, s⟩ := p
    unfold trim
    split
    · rename_i h
      have hs : pow2 k ∣ s := Int.dvd_of_emod_eq_zero (intEq_eq h)
      have h2 : pow2 k ∣ s * a.ev ρ := Int.dvd_trans hs (Int.dvd_mul_right _ _)
      have h3 := Int.dvd_add h2 ih
      have e : linEv ρ ((a, s) :: l) - linEv ρ (trim k l) = s * a.ev ρ + (linEv ρ l - linEv ρ (trim k l)) := by
        simp only [linEv]
        omega
      rw [e]
      exact h3
    · have e : linEv ρ ((a, s) :: l) - linEv ρ ((a, s) :: trim k l) = linEv ρ l - linEv ρ (trim k l) := by
        simp only [linEv]
        omega
      rw [e]
      exact ih
def linWrap (bd : Bd) (k : IntKind) (e : IE) : IE :=
  match linOf k e 1 [] 0 with
  | (l, c) =>
    match trim k l with
    | [] => .lit (wrapF k c)
    | [(a, s)] =>
      match intEq (c % pow2 k) 0 && (intEq (s % pow2 k) 1 && fits k (rng bd a)) with
      | true => a
      | false => .wrap k e
    | _ => .wrap k e
theorem linWrap_ev {ρ : Env} {bd : Bd} (hρ : ρ.ok bd) (k : IntKind) (e : IE) : (linWrap bd k e).ev ρ = k.wrap (e.ev ρ) := by
  unfold linWrap
  have h0 := linOf_ok ρ k e 1 [] 0
  generalize linOf k e 1 [] 0 = r at h0
  obtain ⟨l, c⟩ := r
  have h1 := trim_ok ρ k l
  simp only [linEv, Int.one_mul] at h0
  simp only
  split
  · rename_i ht
    rw [ht] at h1
    simp only [linEv] at h1
    show wrapF k c = _
    rw [wrapF_eq]
    refine wrap_congr k ?_
    have := Int.dvd_sub h1 h0
    have e' : linEv ρ l - 0 - (linEv ρ l + c - (e.ev ρ + (0 + 0))) = -(c - e.ev ρ) := by omega
    rw [e'] at this
    exact Int.dvd_neg.1 this
  · rename_i a s ht
    rw [ht] at h1
    simp only [linEv] at h1
    split
    · rename_i hc
      simp only [Bool.and_eq_true] at hc
      obtain ⟨hc, hs, hf⟩ := hc
      have hc' : pow2 k ∣ c := Int.dvd_of_emod_eq_zero (intEq_eq hc)
      have hr := fits_ok hρ hf
      have hs' : pow2 k ∣ s - 1 := by
        have := intEq_eq hs
        have h5 := Int.emod_add_mul_ediv s (pow2 k)
        rw [this] at h5
        exact ⟨s / pow2 k, by omega⟩
      have hsa : pow2 k ∣ (s - 1) * a.ev ρ := Int.dvd_trans hs' (Int.dvd_mul_right _ _)
      rw [← wrap_id k (a.ev ρ) hr.1 hr.2]
      refine wrap_congr k ?_
      have h2 := Int.dvd_sub h1 h0
      have h3 := Int.dvd_add (Int.dvd_add h2 hc') hsa
      have e' : linEv ρ l - (s * a.ev ρ + 0) - (linEv ρ l + c - (e.ev ρ + (0 + 0))) + c + (s - 1) * a.ev ρ = -(a.ev ρ - e.ev ρ) := by
        rw [Int.sub_mul]
        omega
      rw [e'] at h3
      exact Int.dvd_neg.1 h3
    · rfl
  · rfl
def linKind (ra rb : Option (Int × Int)) : Option IntKind :=
  if fits .u32 ra && fits .u32 rb then some .u32 else if fits .i64 ra && fits .i64 rb then some .i64 else if fits .u64 ra && fits .u64 rb then some .u64 else none
/-- Are two expressions equal, as linear forms? -/
def linSame (bd : Bd) (a b : IE) : Option Bool :=
  match linKind (rng bd a) (rng bd b) with
  | none => none
  | some k =>
    match linOf k b (-1) (linOf k a 1 [] 0).1 (linOf k a 1 [] 0).2 with
    | (l, c) =>
      match trim k l with
      | [] => some (intEq (c % pow2 k) 0)
      | _ => none
theorem linKind_ok {ρ : Env} {bd : Bd} (hρ : ρ.ok bd) {a b : IE} {k : IntKind} (h : linKind (rng bd a) (rng bd b) = some k) : (kLo k ≤ a.ev ρ ∧ a.ev ρ ≤ kHi k) ∧ (kLo k ≤ b.ev ρ ∧ b.ev ρ ≤ kHi k) := by
  unfold linKind at h
  split at h
  · rename_i q
    simp only [Bool.and_eq_true] at q
    cases h
    exact ⟨fits_ok hρ q.1, fits_ok hρ q.2⟩
  · split at h
    · rename_i q
      simp only [Bool.and_eq_true] at q
      cases h
      exact ⟨fits_ok hρ q.1, fits_ok hρ q.2⟩
    · split at h
      · rename_i q
        simp only [Bool.and_eq_true] at q
        cases h
        exact ⟨fits_ok hρ q.1, fits_ok hρ q.2⟩
      · cases h
theorem linSame_ok {ρ : Env} {bd : Bd} (hρ : ρ.ok bd) {a b : IE} {v : Bool} (h : linSame bd a b = some v) : decide (a.ev ρ = b.ev ρ) = v := by
  unfold linSame at h
  split at h
  · cases h
  · rename_i k hk
    obtain ⟨ha, hb⟩ := linKind_ok hρ hk
    have h1 := linOf_ok ρ k a 1 [] 0
    have h2 := linOf_ok ρ k b (-1) (linOf k a 1 [] 0).1 (linOf k a 1 [] 0).2
    generalize linOf k b (-1) (linOf k a 1 [] 0).1 (linOf k a 1 [] 0).2 = r at h h2
    obtain ⟨l, c⟩ := r
    have h3 := trim_ok ρ k l
    simp only at h h2
    split at h
    · rename_i ht
      rw [ht] at h3
      cases h
      simp only [linEv, Int.one_mul] at h1 h3
      have h4 := Int.dvd_sub (Int.dvd_add h1 h2) h3
      have e : linEv ρ (linOf k a 1 [] 0).1 + (linOf k a 1 [] 0).2 - (a.ev ρ + (0 + 0)) + (linEv ρ l + c - (-1 * b.ev ρ + (linEv ρ (linOf k a 1 [] 0).1 + (linOf k a 1 [] 0).2))) - (linEv ρ l - 0) = c - (a.ev ρ - b.ev ρ) := by omega
      rw [e] at h4
      cases hc : intEq (c % pow2 k) 0
      · apply decide_eq_false
        intro he
        have h5 : pow2 k ∣ c := by
          have e' : c - (a.ev ρ - b.ev ρ) = c := by omega
          rw [e'] at h4
          exact h4
        have := Int.emod_eq_zero_of_dvd h5
        rw [this] at hc
        cases hc
      · apply decide_eq_true
        have h5 : pow2 k ∣ c := Int.dvd_of_emod_eq_zero (intEq_eq hc)
        have h6 := Int.dvd_sub h5 h4
        have e' : c - (c - (a.ev ρ - b.ev ρ)) = a.ev ρ - b.ev ρ := by omega
        rw [e'] at h6
        exact eq_of_range k h6 ha hb
    · cases h
def mkWrap (bd : Bd) (k : IntKind) : IE → IE
  | .lit n => .lit (wrapF k n)
  | e => if fits k (rng bd e) then e else linWrap bd k e
theorem mkWrap_ev {ρ : Env} {bd : Bd} (hρ : ρ.ok bd) (k : IntKind) (e : IE) : (mkWrap bd k e).ev ρ = k.wrap (e.ev ρ) := by
  unfold mkWrap
  split
  · exact wrapF_eq _ _
  · split
    · rename_i h
      have := fits_ok hρ h
      exact (wrap_id k _ this.1 this.2).symm
    · exact linWrap_ev hρ k e
theorem mkAdd_ev (ρ : Env) (a b : IE) : (mkAdd a b).ev ρ = a.ev ρ + b.ev ρ := by
  unfold mkAdd
  split
  · rfl
  · split
    · rename_i h; simp [IE.ev, intEq_eq h]
    · rfl
  · split
    · rename_i h; simp [IE.ev, intEq_eq h]
    · rfl
  · rfl
theorem mkSub_ev (ρ : Env) (a b : IE) : (mkSub a b).ev ρ = a.ev ρ - b.ev ρ := by
  unfold mkSub
  split
  · rfl
  · split
    · rename_i h; simp [IE.ev, intEq_eq h]
    · rfl
  · rfl
theorem mkMul_ev (ρ : Env) (a b : IE) : (mkMul a b).ev ρ = a.ev ρ * b.ev ρ := by
  unfold mkMul
  split
  · rfl
  · split
    · rename_i h; simp [IE.ev, intEq_eq h]
    · rfl
  · rfl
def natLe (a b : Nat) : Bool := Nat.ble a b
def bitsN (op : BinOp) (a b : Nat) : Nat :=
  match op with
  | .and => Nat.land a b
  | .or => Nat.lor a b
  | .xor => Nat.xor a b
  | _ => Nat.xor a (Nat.land a b)
def kTop : IntKind → Nat
  | .i8 => 127 | .i16 => 32767 | .i32 => 2147483647 | .i64 => 9223372036854775807
  | .u8 => 255 | .u16 => 65535 | .u32 => 4294967295 | .u64 => 18446744073709551615
def kPow : IntKind → Nat
  | .i8 => 7 | .i16 => 15 | .i32 => 31 | .i64 => 63 | .u8 => 8 | .u16 => 16 | .u32 => 32 | .u64 => 64
theorem kTop_pow (k : IntKind) : kTop k + 1 = 2 ^ kPow k := by cases k <;> rfl
theorem kTop_hi (k : IntKind) : (kTop k : Int) = kHi k := by cases k <;> rfl
theorem kPow_bits (k : IntKind) : kPow k ≤ k.bits := by cases k <;> decide
theorem bitsN_lt (op : BinOp) (k : IntKind) (a b : Nat) (ha : a ≤ kTop k) (hb : b ≤ kTop k) : bitsN op a b ≤ kTop k := by
  have hp := kTop_pow k
  have ha' : a < 2 ^ kPow k := by omega
  have hb' : b < 2 ^ kPow k := by omega
  have h1 := Nat.and_lt_two_pow a hb'
  have h2 := Nat.or_lt_two_pow ha' hb'
  have h3 := Nat.xor_lt_two_pow ha' hb'
  have h4 := Nat.xor_lt_two_pow ha' h1
  unfold bitsN
  cases op <;> simp only [] <;> first | (show a &&& b ≤ _; omega) | (show a ||| b ≤ _; omega) | (show a ^^^ b ≤ _; omega) | (show a ^^^ (a &&& b) ≤ _; omega)
theorem and_not_nat (n a b : Nat) (ha : a < 2 ^ n) (hb : b < 2 ^ n) : (BitVec.ofNat n a &&& ~~~ BitVec.ofNat n b).toNat = a ^^^ (a &&& b) := by
  apply Nat.eq_of_testBit_eq
  intro i
  rw [BitVec.toNat_and, Nat.testBit_and, Nat.testBit_xor, Nat.testBit_and, BitVec.toNat_ofNat, Nat.mod_eq_of_lt ha, BitVec.toNat_not, BitVec.toNat_ofNat, Nat.mod_eq_of_lt hb]
  rw [show 2 ^ n - 1 - b = 2 ^ n - (b + 1) by omega, Nat.testBit_two_pow_sub_succ hb]
  by_cases hi : i < n
  · cases a.testBit i <;> cases b.testBit i <;> simp [hi]
  · have : a.testBit i = false := Nat.testBit_lt_two_pow (Nat.lt_of_lt_of_le ha (Nat.pow_le_pow_right (by omega) (by omega)))
    simp [this]
theorem bitsI_nat (op : BinOp) (k : IntKind) (a b : Nat) (ha : a ≤ kTop k) (hb : b ≤ kTop k) : bitsI op k a b = bitsN op a b := by
  have hp := kTop_pow k
  have hle : 2 ^ kPow k ≤ 2 ^ k.bits := Nat.pow_le_pow_right (by omega) (kPow_bits k)
  have ha' : a < 2 ^ k.bits := by omega
  have hb' : b < 2 ^ k.bits := by omega
  have hw : ∀ m : Nat, m ≤ kTop k → k.wrap (m : Int) = m := fun m hm => wrap_small k m (kTop k) hm (by rw [kTop_hi]; exact Int.le_refl _)
  have hn := bitsN_lt op k a b ha hb
  have e1 : (BitVec.ofNat k.bits a &&& BitVec.ofNat k.bits b).toNat = Nat.land a b := by
    rw [BitVec.toNat_and, BitVec.toNat_ofNat, BitVec.toNat_ofNat, Nat.mod_eq_of_lt ha', Nat.mod_eq_of_lt hb']; rfl
  have e2 : (BitVec.ofNat k.bits a ||| BitVec.ofNat k.bits b).toNat = Nat.lor a b := by
    rw [BitVec.toNat_or, BitVec.toNat_ofNat, BitVec.toNat_ofNat, Nat.mod_eq_of_lt ha', Nat.mod_eq_of_lt hb']; rfl
  have e3 : (BitVec.ofNat k.bits a ^^^ BitVec.ofNat k.bits b).toNat = Nat.xor a b := by
    rw [BitVec.toNat_xor, BitVec.toNat_ofNat, BitVec.toNat_ofNat, Nat.mod_eq_of_lt ha', Nat.mod_eq_of_lt hb']; rfl
  have e4 := and_not_nat k.bits a b ha' hb'
  unfold bitsI
  simp only [BitVec.ofInt_natCast]
  unfold bitsN at hn ⊢
  cases op <;> simp only [e1, e2, e3, e4] <;> exact hw _ hn
def litBits (op : BinOp) (k : IntKind) : Int → Int → Int
  | .ofNat a, .ofNat b =>
    match natLe a (kTop k) && natLe b (kTop k) with
    | true => .ofNat (bitsN op a b)
    | false => bitsI op k (.ofNat a) (.ofNat b)
  | a, b => bitsI op k a b
theorem litBits_eq (op : BinOp) (k : IntKind) (a b : Int) : litBits op k a b = bitsI op k a b := by
  unfold litBits
  split
  · rename_i a b
    cases h : natLe a (kTop k) && natLe b (kTop k)
    · rfl
    · simp [natLe] at h
      exact (bitsI_nat op k a b h.1 h.2).symm
  · rfl
theorem ofInt_wrap (k : IntKind) (z : BitVec k.bits) : BitVec.ofInt k.bits (k.wrap (z.toNat : Int)) = z := by
  apply BitVec.eq_of_toNat_eq
  rw [BitVec.toNat_ofInt]
  have h := wrap_dvd k (z.toNat : Int)
  have hz := z.isLt
  revert h hz
  generalize z.toNat = n
  intro h hz
  have hp : ((2 ^ k.bits : Nat) : Int) = pow2 k := by cases k <;> rfl
  rw [hp]
  have hp2 : (n : Int) < pow2 k := by rw [← hp]; exact Int.ofNat_lt.2 hz
  have h0 : 0 < pow2 k := by cases k <;> decide
  have e : k.wrap (n : Int) % pow2 k = (n : Int) := by
    have h1 : k.wrap (n : Int) % pow2 k = (n : Int) % pow2 k := Int.emod_eq_emod_iff_emod_sub_eq_zero.2 (Int.emod_eq_zero_of_dvd h)
    rw [h1, Int.emod_eq_of_lt (Int.natCast_nonneg n) hp2]
  rw [e]
  exact Int.toNat_natCast n
theorem bitsI_and_and (k : IntKind) (x m n : Int) : bitsI .and k (bitsI .and k x m) n = bitsI .and k x (bitsI .and k m n) := by
  unfold bitsI
  simp only
  rw [ofInt_wrap, ofInt_wrap, BitVec.and_assoc]
/-- One mask behind another. -/
def mkMask (k : IntKind) (a : IE) (n : Int) : IE :=
  match a with
  | .bits .and j b (.lit m) =>
    match kindEq j k with
    | true => .bits .and k b (.lit (litBits .and k m n))
    | false => .bits .and k a (.lit n)
  | _ => .bits .and k a (.lit n)
theorem mkMask_ev (ρ : Env) (k : IntKind) (a : IE) (n : Int) : (mkMask k a n).ev ρ = bitsI .and k (a.ev ρ) n := by
  unfold mkMask
  split
  · rename_i j b m
    split
    · rename_i h
      rw [kindEq_eq h]
      show bitsI .and k (b.ev ρ) (litBits .and k m n) = bitsI .and k (bitsI .and k (b.ev ρ) m) n
      rw [litBits_eq, bitsI_and_and]
    · rfl
  · rfl
def mkBits (op : BinOp) (k : IntKind) : IE → IE → IE
  | .lit a, .lit b => .lit (litBits op k a b)
  | a, .lit b =>
    match op with
    | .and => mkMask k a b
    | o => .bits o k a (.lit b)
  | a, b => .bits op k a b
theorem mkBits_ev (ρ : Env) (op : BinOp) (k : IntKind) (a b : IE) : (mkBits op k a b).ev ρ = bitsI op k (a.ev ρ) (b.ev ρ) := by
  unfold mkBits
  split
  · exact litBits_eq _ _ _ _
  · split
    · exact mkMask_ev ρ k a _
    · rfl
  · rfl
def mkQuo : IE → IE → IE
  | .lit x, .lit y => .lit (x.tdiv y)
  | a, b => .quo a b
def mkRem : IE → IE → IE
  | .lit x, .lit y => .lit (x.tmod y)
  | a, b => .rem a b
theorem mkQuo_ev (ρ : Env) (a b : IE) : (mkQuo a b).ev ρ = (a.ev ρ).tdiv (b.ev ρ) := by
  unfold mkQuo; split <;> rfl
theorem mkRem_ev (ρ : Env) (a b : IE) : (mkRem a b).ev ρ = (a.ev ρ).tmod (b.ev ρ) := by
  unfold mkRem; split <;> rfl
def mkShl (k : IntKind) : IE → IE → IE
  | .lit x, .lit (.ofNat n) => .lit (wrapF k (x * ((2 ^ (min n k.bits) : Nat) : Int)))
  | a, b => .shl k a b
def mkShr (k : IntKind) : IE → IE → IE
  | .lit x, .lit (.ofNat n) => .lit (x.fdiv ((2 ^ (min n k.bits) : Nat) : Int))
  | a, b => .shr k a b
theorem mkShl_ev (ρ : Env) (k : IntKind) (a b : IE) : (mkShl k a b).ev ρ = shlI k (a.ev ρ) (b.ev ρ) := by
  unfold mkShl; split
  · simp [IE.ev, shlI, wrapF_eq]
  · rfl
theorem mkShr_ev (ρ : Env) (k : IntKind) (a b : IE) : (mkShr k a b).ev ρ = shrI k (a.ev ρ) (b.ev ρ) := by
  unfold mkShr; split
  · simp [IE.ev, shrI]
  · rfl

/-! tests -/
inductive BE where
  | lit (b : Bool)
  | var (i : Nat)
  | eq (a b : IE)
  | lt (a b : IE)
  | not (a : BE)
  deriving Inhabited
def BE.ev (ρ : Env) : BE → Bool
  | .lit b => b
  | .var i => ρ.b i
  | .eq a b => decide (a.ev ρ = b.ev ρ)
  | .lt a b => decide (a.ev ρ < b.ev ρ)
  | .not a => !(a.ev ρ)
def BE.same : BE → BE → Bool
  | .lit a, .lit b => a == b
  | .var i, .var j => Nat.beq i j
  | .eq a b, .eq c d => a.eq c && b.eq d
  | .lt a b, .lt c d => a.eq c && b.eq d
  | .not a, .not b => a.same b
  | _, _ => false
theorem BE.same_eq {a b : BE} (h : a.same b = true) : a = b := by
  induction a generalizing b with
  | lit a => cases b <;> simp [BE.same] at h; rw [h]
  | var i => cases b <;> simp [BE.same] at h; rw [h]
  | eq a b => cases b <;> simp [BE.same] at h; rw [IE.eq_eq h.1, IE.eq_eq h.2]
  | lt a b => cases b <;> simp [BE.same] at h; rw [IE.eq_eq h.1, IE.eq_eq h.2]
  | not a ih => cases b <;> simp [BE.same] at h; rw [ih h]
def mkNot : BE → BE
  | .lit b => .lit (!b)
  | .not a => a
  | a => .not a
theorem mkNot_ev (ρ : Env) (a : BE) : (mkNot a).ev ρ = !(a.ev ρ) := by
  unfold mkNot; split <;> simp [BE.ev]
def apartR : Option (Int × Int) → Option (Int × Int) → Bool
  | some (l, h), some (l', h') => intLt h l' || intLt h' l
  | _, _ => false
def mkEqS (bd : Bd) (a b : IE) : BE :=
  if a.eq b then .lit true else if apartR (rng bd a) (rng bd b) then .lit false else
    match linSame bd a b with
    | some v => .lit v
    | none => .eq a b
def mkEq (bd : Bd) : IE → IE → BE
  | .lit x, .lit y => .lit (intEq x y)
  | .lit x, b => mkEqS bd b (.lit x)
  | a, b => mkEqS bd a b
theorem mkEqS_ev {ρ : Env} {bd : Bd} (hρ : ρ.ok bd) (a b : IE) : (mkEqS bd a b).ev ρ = decide (a.ev ρ = b.ev ρ) := by
  unfold mkEqS
  split
  · rename_i h; rw [IE.eq_eq h]; simp [BE.ev]
  · split
    · rename_i h
      unfold apartR at h
      split at h
      · rename_i l hh l' hh' ha hb
        have h1 := rng_ok hρ a _ _ ha
        have h2 := rng_ok hρ b _ _ hb
        simp [intLt_iff] at h
        simp [BE.ev]
        omega
      · cases h
    · split
      · rename_i v hv
        exact (linSame_ok hρ hv).symm
      · rfl
theorem mkEq_ev {ρ : Env} {bd : Bd} (hρ : ρ.ok bd) (a b : IE) : (mkEq bd a b).ev ρ = decide (a.ev ρ = b.ev ρ) := by
  unfold mkEq
  split
  · rename_i x y
    show intEq x y = decide (x = y)
    exact intEq_iff
  · rw [mkEqS_ev hρ]; simp [eq_comm]
  · exact mkEqS_ev hρ _ _
def mkLtS (bd : Bd) (a b : IE) : BE :=
  match rng bd a, rng bd b with
  | some (l, h), some (l', h') => if intLt h l' then .lit true else if intLe h' l then .lit false else if a.eq b then .lit false else .lt a b
  | _, _ => if a.eq b then .lit false else .lt a b
def mkLt (bd : Bd) : IE → IE → BE
  | .lit x, .lit y => .lit (intLt x y)
  | a, b => mkLtS bd a b
theorem mkLt_ev {ρ : Env} {bd : Bd} (hρ : ρ.ok bd) (a b : IE) : (mkLt bd a b).ev ρ = decide (a.ev ρ < b.ev ρ) := by
  unfold mkLt
  split
  · rename_i x y
    show intLt x y = decide (x < y)
    exact intLt_iff
  · unfold mkLtS
    split
    · rename_i l hh l' hh' ha hb
      have h1 := rng_ok hρ _ _ _ ha
      have h2 := rng_ok hρ _ _ _ hb
      split
      · rename_i h; simp [intLt_iff] at h; simp [BE.ev]; omega
      · split
        · rename_i h; simp [intLe_iff] at h; simp [BE.ev]; omega
        · split
          · rename_i h; rw [IE.eq_eq h]; simp [BE.ev]
          · rfl
    · split
      · rename_i h; rw [IE.eq_eq h]; simp [BE.ev]
      · rfl

def mkFn (c : Nat) : IE → IE → IE → IE
  | .lit x, .lit y, .lit z =>
    match fnL c x y z with
    | some v => .lit v
    | none => .fn c (.lit x) (.lit y) (.lit z)
  | x, y, z => .fn c x y z
theorem mkFn_ev (ρ : Env) (c : Nat) (x y z : IE) : (mkFn c x y z).ev ρ = fnI ρ c (x.ev ρ) (y.ev ρ) (z.ev ρ) := by
  unfold mkFn
  split
  · rename_i x y z
    split
    · rename_i v hv
      simp [IE.ev, fnI, hv]
    · rfl
  · rfl
def mkSel (bd : Bd) (s : Bool) (a b x y : IE) : IE :=
  match (if s then mkLt bd a b else mkEq bd a b) with
  | .lit true => x
  | .lit false => y
  | _ => if x.eq y then x else .sel s a b x y
theorem mkSel_ev {ρ : Env} {bd : Bd} (hρ : ρ.ok bd) (s : Bool) (a b x y : IE) : (mkSel bd s a b x y).ev ρ = selI s (a.ev ρ) (b.ev ρ) (x.ev ρ) (y.ev ρ) := by
  have key : (if s then mkLt bd a b else mkEq bd a b).ev ρ = (if s then decide (a.ev ρ < b.ev ρ) else decide (a.ev ρ = b.ev ρ)) := by
    cases s
    · exact mkEq_ev hρ a b
    · exact mkLt_ev hρ a b
  unfold mkSel
  split
  · rename_i h
    rw [h] at key
    cases s <;> simp [BE.ev] at key <;> simp [selI] <;> intro h' <;> omega
  · rename_i h
    rw [h] at key
    cases s <;> simp [BE.ev] at key <;> simp [selI] <;> intro h' <;> omega
  · split
    · rename_i h
      rw [IE.eq_eq h]
      simp [selI]
    · rfl

/-- Assumed outcomes of tests. -/
abbrev Dec := List (BE × Bool)
def Dec.holds (ρ : Env) (dec : Dec) : Prop := ∀ p ∈ dec, p.1.ev ρ = p.2
def Dec.look : Dec → BE → Option Bool
  | [], _ => none
  | (c, v) :: rest, b => if c.same b then some v else Dec.look rest b
theorem Dec.look_ok {ρ : Env} {dec : Dec} (h : dec.holds ρ) {b : BE} {v : Bool} (hl : dec.look b = some v) : b.ev ρ = v := by
  induction dec with
  | nil => cases hl
  | cons p rest ih =>
    obtain ⟨c, u⟩ := p
    simp only [Dec.look] at hl
    split at hl
    · rename_i hs
      cases hl
      rw [← BE.same_eq hs]
      exact h (c, v) (by simp)
    · exact ih (fun p hp => h p (by simp [hp])) hl
/-- The bounds that the assumed outcomes put on an expression. -/
def optMax (a : Option Int) (n : Int) : Option Int :=
  match a with
  | none => some n
  | some m => if intLt m n then some n else some m
def optMin (a : Option Int) (n : Int) : Option Int :=
  match a with
  | none => some n
  | some m => if intLt n m then some n else some m
def bump (a : Option Int) (n : Int) : Option Int :=
  match a with
  | none => none
  | some m => if intEq m n then some (m + 1) else some m
def drop1 (a : Option Int) (n : Int) : Option Int :=
  match a with
  | none => none
  | some m => if intEq m n then some (m - 1) else some m
def narrow (e : IE) : Dec → Option Int × Option Int
  | [] => (none, none)
  | (.eq a (.lit n), true) :: rest => if a.eq e then (some n, some n) else narrow e rest
  | (.eq a (.lit n), false) :: rest => if a.eq e then (bump (narrow e rest).1 n, drop1 (narrow e rest).2 n) else narrow e rest
  | (.lt a (.lit n), true) :: rest => if a.eq e then ((narrow e rest).1, optMin (narrow e rest).2 (n - 1)) else narrow e rest
  | (.lt a (.lit n), false) :: rest => if a.eq e then (optMax (narrow e rest).1 n, (narrow e rest).2) else narrow e rest
  | (.lt (.lit n) a, true) :: rest => if a.eq e then (optMax (narrow e rest).1 (n + 1), (narrow e rest).2) else narrow e rest
  | (.lt (.lit n) a, false) :: rest => if a.eq e then ((narrow e rest).1, optMin (narrow e rest).2 n) else narrow e rest
  | _ :: rest => narrow e rest
def within (r : Option Int × Option Int) (x : Int) : Prop := (∀ lo, r.1 = some lo → lo ≤ x) ∧ (∀ hi, r.2 = some hi → x ≤ hi)
theorem optMax_ok {a : Option Int} {n x : Int} (h : ∀ lo, a = some lo → lo ≤ x) (hn : n ≤ x) : ∀ lo, optMax a n = some lo → lo ≤ x := by
  intro lo hlo
  unfold optMax at hlo
  split at hlo
  · cases hlo; exact hn
  · rename_i m
    split at hlo
    · cases hlo; exact hn
    · cases hlo; exact h _ rfl
theorem optMin_ok {a : Option Int} {n x : Int} (h : ∀ hi, a = some hi → x ≤ hi) (hn : x ≤ n) : ∀ hi, optMin a n = some hi → x ≤ hi := by
  intro hi hhi
  unfold optMin at hhi
  split at hhi
  · cases hhi; exact hn
  · rename_i m
    split at hhi
    · cases hhi; exact hn
    · cases hhi; exact h _ rfl
theorem bump_ok {a : Option Int} {n x : Int} (h : ∀ lo, a = some lo → lo ≤ x) (hn : x ≠ n) : ∀ lo, bump a n = some lo → lo ≤ x := by
  intro lo hlo
  unfold bump at hlo
  split at hlo
  · cases hlo
  · rename_i m
    have := h m rfl
    split at hlo
    · rename_i he
      have := intEq_eq he
      cases hlo
      omega
    · cases hlo; exact this
theorem drop1_ok {a : Option Int} {n x : Int} (h : ∀ hi, a = some hi → x ≤ hi) (hn : x ≠ n) : ∀ hi, drop1 a n = some hi → x ≤ hi := by
  intro hi hhi
  unfold drop1 at hhi
  split at hhi
  · cases hhi
  · rename_i m
    have := h m rfl
    split at hhi
    · rename_i he
      have := intEq_eq he
      cases hhi
      omega
    · cases hhi; exact this
theorem ev_eq_t {ρ : Env} {a : IE} {n : Int} : (BE.eq a (.lit n)).ev ρ = true ↔ a.ev ρ = n := decide_eq_true_iff
theorem ev_eq_f {ρ : Env} {a : IE} {n : Int} : (BE.eq a (.lit n)).ev ρ = false ↔ ¬ a.ev ρ = n := decide_eq_false_iff_not
theorem ev_lt_t {ρ : Env} {a : IE} {n : Int} : (BE.lt a (.lit n)).ev ρ = true ↔ a.ev ρ < n := decide_eq_true_iff
theorem ev_lt_f {ρ : Env} {a : IE} {n : Int} : (BE.lt a (.lit n)).ev ρ = false ↔ ¬ a.ev ρ < n := decide_eq_false_iff_not
theorem ev_gt_t {ρ : Env} {a : IE} {n : Int} : (BE.lt (.lit n) a).ev ρ = true ↔ n < a.ev ρ := decide_eq_true_iff
theorem ev_gt_f {ρ : Env} {a : IE} {n : Int} : (BE.lt (.lit n) a).ev ρ = false ↔ ¬ n < a.ev ρ := decide_eq_false_iff_not
theorem narrow_ok {ρ : Env} (e : IE) : ∀ {dec : Dec}, dec.holds ρ → within (narrow e dec) (e.ev ρ) := by
  intro dec
  induction dec with
  | nil => intro _; exact ⟨fun _ h => (by cases h), fun _ h => (by cases h)⟩
  | cons p rest ih =>
    intro h
    have hr := ih (fun p hp => h p (by simp [hp]))
    have hp := h p (by simp)
    obtain ⟨b, v⟩ := p
    unfold narrow
    split
    · rename_i he; cases he
    · rename_i a n rest' he
      cases he
      split
      · rename_i hs
        rw [IE.eq_eq hs] at hp
        replace hp := ev_eq_t.1 hp
        exact ⟨fun lo hl => (by cases hl; omega), fun hi hl => (by cases hl; omega)⟩
      · exact hr
    · rename_i a n rest' he
      cases he
      split
      · rename_i hs
        rw [IE.eq_eq hs] at hp
        replace hp := ev_eq_f.1 hp
        exact ⟨bump_ok hr.1 hp, drop1_ok hr.2 hp⟩
      · exact hr
    · rename_i a n rest' he
      cases he
      split
      · rename_i hs
        rw [IE.eq_eq hs] at hp
        replace hp := ev_lt_t.1 hp
        exact ⟨hr.1, optMin_ok hr.2 (by omega)⟩
      · exact hr
    · rename_i a n rest' he
      cases he
      split
      · rename_i hs
        rw [IE.eq_eq hs] at hp
        replace hp := ev_lt_f.1 hp
        exact ⟨optMax_ok hr.1 (by omega), hr.2⟩
      · exact hr
    · rename_i a n rest' _ he
      cases he
      split
      · rename_i hs
        rw [IE.eq_eq hs] at hp
        replace hp := ev_gt_t.1 hp
        exact ⟨optMax_ok hr.1 (by omega), hr.2⟩
      · exact hr
    · rename_i a n rest' _ he
      cases he
      split
      · rename_i hs
        rw [IE.eq_eq hs] at hp
        replace hp := ev_gt_f.1 hp
        exact ⟨hr.1, optMin_ok hr.2 (by omega)⟩
      · exact hr
    · rename_i he
      cases he
      exact hr
def byEq (r : Option Int × Option Int) (n : Int) : Option Bool :=
  match r with
  | (some lo, some hi) =>
    if intLt n lo then some false else if intLt hi n then some false else if intEq lo n then (if intEq hi n then some true else none) else none
  | (some lo, none) => if intLt n lo then some false else none
  | (none, some hi) => if intLt hi n then some false else none
  | _ => none
def byLt (r : Option Int × Option Int) (n : Int) : Option Bool :=
  match r with
  | (some lo, some hi) => if intLt hi n then some true else if intLt lo n then none else some false
  | (some lo, none) => if intLt lo n then none else some false
  | (none, some hi) => if intLt hi n then some true else none
  | _ => none
def byGt (r : Option Int × Option Int) (n : Int) : Option Bool :=
  match r with
  | (some lo, some hi) => if intLt n lo then some true else if intLt n hi then none else some false
  | (some lo, none) => if intLt n lo then some true else none
  | (none, some hi) => if intLt n hi then none else some false
  | _ => none
def byRange (dec : Dec) : BE → Option Bool
  | .eq a (.lit n) => byEq (narrow a dec) n
  | .lt a (.lit n) => byLt (narrow a dec) n
  | .lt (.lit n) a => byGt (narrow a dec) n
  | _ => none
theorem byRange_ok {ρ : Env} {dec : Dec} (h : dec.holds ρ) {b : BE} {v : Bool} (hv : byRange dec b = some v) : b.ev ρ = v := by
  unfold byRange at hv
  split at hv
  · rename_i a n
    have hn := narrow_ok a h
    revert hn hv
    generalize narrow a dec = r
    obtain ⟨r1, r2⟩ := r
    intro hv hn
    have h1 := hn.1
    have h2 := hn.2
    simp only at h1 h2
    cases r1 <;> cases r2 <;> simp only [byEq] at hv
    · cases hv
    · rename_i hi
      have h2 := h2 hi rfl
      split at hv
      · rename_i q; rw [intLt_iff] at q; simp at q; cases hv; first | exact ev_eq_t.2 (by omega) | exact ev_eq_f.2 (by omega)
      · cases hv
    · rename_i lo
      have h1 := h1 lo rfl
      split at hv
      · rename_i q; rw [intLt_iff] at q; simp at q; cases hv; first | exact ev_eq_t.2 (by omega) | exact ev_eq_f.2 (by omega)
      · cases hv
    · rename_i lo hi
      have h1 := h1 lo rfl
      have h2 := h2 hi rfl
      split at hv
      · rename_i q; rw [intLt_iff] at q; simp at q; cases hv; first | exact ev_eq_t.2 (by omega) | exact ev_eq_f.2 (by omega)
      · split at hv
        · rename_i q; rw [intLt_iff] at q; simp at q; cases hv; first | exact ev_eq_t.2 (by omega) | exact ev_eq_f.2 (by omega)
        · split at hv
          · rename_i q1
            have q1 := intEq_eq q1
            split at hv
            · rename_i q2
              have q2 := intEq_eq q2
              cases hv
              exact ev_eq_t.2 (by omega)
            · cases hv
          · cases hv
  · rename_i a n
    have hn := narrow_ok a h
    revert hn hv
    generalize narrow a dec = r
    obtain ⟨r1, r2⟩ := r
    intro hv hn
    have h1 := hn.1
    have h2 := hn.2
    simp only at h1 h2
    cases r1 <;> cases r2 <;> simp only [byLt] at hv
    · cases hv
    · rename_i hi
      have h2 := h2 hi rfl
      split at hv
      · rename_i q; rw [intLt_iff] at q; simp at q; cases hv; first | exact ev_lt_t.2 (by omega) | exact ev_lt_f.2 (by omega)
      · cases hv
    · rename_i lo
      have h1 := h1 lo rfl
      split at hv
      · cases hv
      · rename_i q; rw [intLt_iff] at q; simp at q; cases hv; first | exact ev_lt_t.2 (by omega) | exact ev_lt_f.2 (by omega)
    · rename_i lo hi
      have h1 := h1 lo rfl
      have h2 := h2 hi rfl
      split at hv
      · rename_i q; rw [intLt_iff] at q; simp at q; cases hv; first | exact ev_lt_t.2 (by omega) | exact ev_lt_f.2 (by omega)
      · split at hv
        · cases hv
        · rename_i q; rw [intLt_iff] at q; simp at q; cases hv; first | exact ev_lt_t.2 (by omega) | exact ev_lt_f.2 (by omega)
  · rename_i n a _
    have hn := narrow_ok a h
    revert hn hv
    generalize narrow a dec = r
    obtain ⟨r1, r2⟩ := r
    intro hv hn
    have h1 := hn.1
    have h2 := hn.2
    simp only at h1 h2
    cases r1 <;> cases r2 <;> simp only [byGt] at hv
    · cases hv
    · rename_i hi
      have h2 := h2 hi rfl
      split at hv
      · cases hv
      · rename_i q; rw [intLt_iff] at q; simp at q; cases hv; first | exact ev_gt_t.2 (by omega) | exact ev_gt_f.2 (by omega)
    · rename_i lo
      have h1 := h1 lo rfl
      split at hv
      · rename_i q; rw [intLt_iff] at q; simp at q; cases hv; first | exact ev_gt_t.2 (by omega) | exact ev_gt_f.2 (by omega)
      · cases hv
    · rename_i lo hi
      have h1 := h1 lo rfl
      have h2 := h2 hi rfl
      split at hv
      · rename_i q; rw [intLt_iff] at q; simp at q; cases hv; first | exact ev_gt_t.2 (by omega) | exact ev_gt_f.2 (by omega)
      · split at hv
        · cases hv
        · rename_i q; rw [intLt_iff] at q; simp at q; cases hv; first | exact ev_gt_t.2 (by omega) | exact ev_gt_f.2 (by omega)
  · cases hv
def Dec.ask (dec : Dec) (b : BE) : Option Bool :=
  match dec.look b with
  | some v => some v
  | none => byRange dec b
theorem Dec.ask_ok {ρ : Env} {dec : Dec} (h : dec.holds ρ) {b : BE} {v : Bool} (hl : dec.ask b = some v) : b.ev ρ = v := by
  unfold Dec.ask at hl
  split at hl
  · rename_i u hu
    cases hl
    exact Dec.look_ok h hu
  · exact byRange_ok h hl
def settle (dec : Dec) : BE → Option Bool
  | .lit b => some b
  | .not a => match settle dec a with
    | some b => some (!b)
    | none => none
  | b => dec.ask b
theorem settle_ok {ρ : Env} {dec : Dec} (h : dec.holds ρ) (b : BE) : ∀ v, settle dec b = some v → b.ev ρ = v := by
  induction b with
  | lit b => intro v hv; simp [settle] at hv; exact hv
  | not a ih =>
    intro v hv
    simp only [settle] at hv
    split at hv
    · rename_i u hu; cases hv; simp [BE.ev, ih _ hu]
    · cases hv
  | var i => intro v hv; exact Dec.ask_ok h hv
  | eq a b => intro v hv; exact Dec.ask_ok h hv
  | lt a b => intro v hv; exact Dec.ask_ok h hv
/-- The number that an expression is known to be. -/
def Dec.num (e : IE) : Dec → Option Int
  | [] => none
  | (.eq a (.lit n), true) :: rest => if a.eq e then some n else Dec.num e rest
  | _ :: rest => Dec.num e rest
def asLit (dec : Dec) : IE → Option Int
  | .lit n => some n
  | e => Dec.num e dec
theorem Dec.num_ok {ρ : Env} (e : IE) : ∀ {dec : Dec}, dec.holds ρ → ∀ {n : Int}, Dec.num e dec = some n → e.ev ρ = n := by
  intro dec
  induction dec with
  | nil => intro _ n h; cases h
  | cons p rest ih =>
    intro h n hn
    have hr : Dec.holds ρ rest := fun p hp => h p (by simp [hp])
    unfold Dec.num at hn
    split at hn
    · cases ‹_ = []›
    · rename_i a m rest' he
      cases he
      split at hn
      · rename_i hs
        cases hn
        have := h (.eq a (.lit n), true) (by simp)
        rw [← IE.eq_eq hs]
        exact of_decide_eq_true this
      · exact ih hr hn
    · rename_i q rest' _ he
      cases he
      exact ih hr hn
theorem asLit_ok {ρ : Env} {dec : Dec} (h : dec.holds ρ) {e : IE} {n : Int} (hn : asLit dec e = some n) : e.ev ρ = n := by
  unfold asLit at hn
  split at hn
  · cases hn; rfl
  · exact Dec.num_ok _ h hn
end Go.Sx
