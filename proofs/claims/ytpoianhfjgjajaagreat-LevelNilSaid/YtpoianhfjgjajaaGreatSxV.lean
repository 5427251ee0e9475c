/- Tests decided by cases: choices within expressions parted one by one. No condition. -/
import Derived.Test.YtpoianhfjgjajaaGreatSxT
set_option linter.unusedSimpArgs false
set_option linter.unusedVariables false
namespace Go.Sx
noncomputable section

/-- j, where m + 1 is 2 to the j. -/
def maskBits (m : Nat) : Nat → Option Nat
  | 0 => none
  | j + 1 =>
    match Nat.beq (2 ^ j) (m + 1) with
    | true => some j
    | false => maskBits m j
theorem maskBits_ok {m : Nat} : ∀ {n j : Nat}, maskBits m n = some j → m = 2 ^ j - 1 := by
  intro n
  induction n with
  | zero => intro j h; cases h
  | succ n ih =>
    intro j h
    unfold maskBits at h
    split at h
    · rename_i hb
      cases h
      have := Nat.eq_of_beq_eq_true hb
      omega
    · exact ih h
/-- A mask as a remainder. -/
def maskRem (bd : Bd) (k : IntKind) (a : IE) : Int → Option IE
  | .ofNat m =>
    match natLe m (kTop k), maskBits m 64 with
    | true, some _ =>
      match rng bd a with
      | some (l, h) => if intLe 0 l && intLe h (kHi k) then some (mkRem a (.lit (.ofNat (m + 1)))) else none
      | none => none
    | _, _ => none
  | _ => none
theorem maskRem_ev {ρ : Env} {bd : Bd} (hρ : ρ.ok bd) {k : IntKind} {a z : IE} {m : Int} (h : maskRem bd k a m = some z) : z.ev ρ = bitsI .and k (a.ev ρ) m := by
  unfold maskRem at h
  split at h
  · rename_i m
    split at h
    · rename_i j hm hj
      split at h
      · rename_i l u hr
        split at h
        · rename_i hc
          cases h
          obtain ⟨c1, c2⟩ := and_split hc
          have hb := rng_ok hρ a l u hr
          have c1 : (0 : Int) ≤ l := by simpa [intLe_iff] using c1
          have c2 : u ≤ kHi k := by simpa [intLe_iff] using c2
          rw [mkRem_ev]
          have h0 : 0 ≤ a.ev ρ := by omega
          obtain ⟨x, hx⟩ := Int.eq_ofNat_of_zero_le h0
          have hxk : x ≤ kTop k := by
            have : (x : Int) ≤ kHi k := by omega
            rw [← kTop_hi] at this
            omega
          have hm' : m ≤ kTop k := by simpa [natLe] using hm
          rw [hx]
          show (x : Int).tmod ((m + 1 : Nat) : Int) = bitsI .and k (x : Int) (m : Int)
          rw [bitsI_nat .and k x m hxk hm']
          have e := maskBits_ok hj
          subst e
          show (x : Int).tmod ((2 ^ j - 1 + 1 : Nat) : Int) = ((Nat.land x (2 ^ j - 1) : Nat) : Int)
          have e2 : 2 ^ j - 1 + 1 = 2 ^ j := Nat.sub_add_cancel (Nat.one_le_two_pow)
          rw [e2]
          have e3 : Nat.land x (2 ^ j - 1) = x % 2 ^ j := Nat.and_two_pow_sub_one_eq_mod x j
          rw [e3]
          rfl
        · cases h
      · cases h
    · cases h
  · cases h
/-! quotients, shifts, joined bits -/
def loGe (bd : Bd) (a : IE) : Bool :=
  match rng bd a with
  | some (l, _) => intLe 0 l
  | none => false
theorem loGe_ok {ρ : Env} {bd : Bd} (hρ : ρ.ok bd) {a : IE} (h : loGe bd a = true) : 0 ≤ a.ev ρ := by
  unfold loGe at h
  split at h
  · rename_i l u hr
    have := rng_ok hρ a l u hr
    have h : (0 : Int) ≤ l := by simpa [intLe_iff] using h
    omega
  · cases h
def quoBy (bd : Bd) (n : Int) : IE → IE
  | .quo x (.lit m) =>
    match intLe 1 m && (intLe 1 n && loGe bd x) with
    | true => .quo x (.lit (m * n))
    | false => mkQuo (.quo x (.lit m)) (.lit n)
  | .mul x (.lit m) =>
    match intEq m n && intLe 1 n with
    | true => x
    | false => mkQuo (.mul x (.lit m)) (.lit n)
  | a => mkQuo a (.lit n)
theorem quoBy_ev {ρ : Env} {bd : Bd} (hρ : ρ.ok bd) (n : Int) (a : IE) : (quoBy bd n a).ev ρ = (a.ev ρ).tdiv n := by
  unfold quoBy
  split
  · rename_i x m
    split
    · rename_i hc
      obtain ⟨c1, c2⟩ := and_split hc
      obtain ⟨c2, c3⟩ := and_split c2
      have c1 : (1 : Int) ≤ m := by simpa [intLe_iff] using c1
      have c2 : (1 : Int) ≤ n := by simpa [intLe_iff] using c2
      have c3 := loGe_ok hρ c3
      show (x.ev ρ).tdiv (m * n) = ((x.ev ρ).tdiv m).tdiv n
      rw [Int.tdiv_eq_ediv_of_nonneg c3, Int.tdiv_eq_ediv_of_nonneg c3, Int.tdiv_eq_ediv_of_nonneg (Int.ediv_nonneg c3 (by omega)), Int.ediv_ediv_of_nonneg (by omega)]
    · exact mkQuo_ev ρ _ _
  · rename_i x m
    split
    · rename_i hc
      obtain ⟨c1, c2⟩ := and_split hc
      have c1 := intEq_eq c1
      have c2 : (1 : Int) ≤ n := by simpa [intLe_iff] using c2
      subst c1
      show x.ev ρ = (x.ev ρ * m).tdiv m
      rw [Int.mul_tdiv_cancel _ (by omega)]
    · exact mkQuo_ev ρ _ _
  · exact mkQuo_ev ρ _ _
/-- A quotient by a number; by 1 it is the thing itself. -/
def quo1 (bd : Bd) (n : Int) (a : IE) : IE :=
  match intEq n 1 with
  | true => a
  | false =>
    match rng bd a with
    | some (l, h) =>
      match intLe 0 l && intLt h n with
      | true => .lit 0
      | false => quoBy bd n a
    | none => quoBy bd n a
theorem quo1_ev {ρ : Env} {bd : Bd} (hρ : ρ.ok bd) (n : Int) (a : IE) : (quo1 bd n a).ev ρ = (a.ev ρ).tdiv n := by
  unfold quo1
  split
  · rename_i h
    rw [intEq_eq h, Int.tdiv_one]
  · split
    · rename_i l u hr
      split
      · rename_i hc
        obtain ⟨c1, c2⟩ := and_split hc
        rw [intLe_iff] at c1
        rw [intLt_iff] at c2
        have c1 := of_decide_eq_true c1
        have c2 := of_decide_eq_true c2
        obtain ⟨r1, r2⟩ := rng_ok hρ a _ _ hr
        exact (Int.tdiv_eq_zero_of_lt (by omega) (by omega)).symm
      · exact quoBy_ev hρ n a
    · exact quoBy_ev hρ n a
def nrmQuo (bd : Bd) (a b : IE) : IE :=
  match b with
  | .lit n => quo1 bd n a
  | b => mkQuo a b
theorem nrmQuo_ev {ρ : Env} {bd : Bd} (hρ : ρ.ok bd) (a b : IE) : (nrmQuo bd a b).ev ρ = (a.ev ρ).tdiv (b.ev ρ) := by
  unfold nrmQuo
  split
  · exact quo1_ev hρ _ a
  · exact mkQuo_ev ρ a _
def nrmShl (bd : Bd) (k : IntKind) (a b : IE) : IE :=
  match b with
  | .lit (.ofNat n) => mkWrap bd k (mkMul a (.lit ((2 ^ (min n k.bits) : Nat) : Int)))
  | b => mkShl k a b
theorem nrmShl_ev {ρ : Env} {bd : Bd} (hρ : ρ.ok bd) (k : IntKind) (a b : IE) : (nrmShl bd k a b).ev ρ = shlI k (a.ev ρ) (b.ev ρ) := by
  unfold nrmShl
  split
  · rename_i n
    rw [mkWrap_ev hρ, mkMul_ev]
    show k.wrap (a.ev ρ * ((2 ^ (min n k.bits) : Nat) : Int)) = k.wrap (a.ev ρ * 2 ^ (min (n : Int).toNat k.bits))
    rw [Int.toNat_natCast]
    push_cast
    rfl
  · exact mkShl_ev ρ k a _
def nrmShr (bd : Bd) (k : IntKind) (a b : IE) : IE :=
  match b with
  | .lit (.ofNat n) =>
    match loGe bd a with
    | true => quo1 bd ((2 ^ (min n k.bits) : Nat) : Int) a
    | false => mkShr k a b
  | b => mkShr k a b
theorem nrmShr_ev {ρ : Env} {bd : Bd} (hρ : ρ.ok bd) (k : IntKind) (a b : IE) : (nrmShr bd k a b).ev ρ = shrI k (a.ev ρ) (b.ev ρ) := by
  unfold nrmShr
  split
  · rename_i n
    split
    · rename_i h0
      have h0 := loGe_ok hρ h0
      rw [quo1_ev hρ]
      show (a.ev ρ).tdiv ((2 ^ (min n k.bits) : Nat) : Int) = (a.ev ρ).fdiv (2 ^ (min (n : Int).toNat k.bits))
      rw [Int.toNat_natCast, Int.tdiv_eq_ediv_of_nonneg h0, Int.fdiv_eq_ediv_of_nonneg _ (by exact_mod_cast Nat.zero_le _)]
      push_cast
      rfl
    · exact mkShr_ev ρ k a _
  · exact mkShr_ev ρ k a _
/-! remainders, digits put together again -/
def rcheck (bd : Bd) (m : Int) (a b : IE) : IE :=
  match rng bd a with
  | some (l, h) =>
    match intLe 0 l && intLt h m with
    | true => a
    | false => b
  | none => b
theorem rcheck_ev {ρ : Env} {bd : Bd} (hρ : ρ.ok bd) {m : Int} {a b : IE} (h : b.ev ρ = (a.ev ρ).tmod m) : (rcheck bd m a b).ev ρ = (a.ev ρ).tmod m := by
  unfold rcheck
  split
  · rename_i l u hr
    split
    · rename_i hc
      obtain ⟨c1, c2⟩ := and_split hc
      rw [intLe_iff] at c1
      rw [intLt_iff] at c2
      have c1 := of_decide_eq_true c1
      have c2 := of_decide_eq_true c2
      obtain ⟨r1, r2⟩ := rng_ok hρ a _ _ hr
      rw [Int.tmod_eq_emod_of_nonneg (by omega)]
      exact (Int.emod_eq_of_lt (by omega) (by omega)).symm
    · exact h
  · exact h
/-- Surely a multiple? -/
def multM (m : Int) : IE → Bool
  | .lit c => intEq (c % m) 0
  | .mul _ (.lit c) => intEq (c % m) 0
  | _ => false
theorem multM_ok {ρ : Env} {m : Int} {e : IE} (h : multM m e = true) : m ∣ e.ev ρ := by
  unfold multM at h
  split at h
  · exact Int.dvd_of_emod_eq_zero (intEq_eq h)
  · exact Int.dvd_trans (Int.dvd_of_emod_eq_zero (intEq_eq h)) (Int.dvd_mul_left _ _)
  · cases h
def remS (bd : Bd) (m : Int) : IE → IE
  | .add x y => rcheck bd m (.add x y) (match multM m y && (loGe bd x && loGe bd y) with
    | true => remS bd m x
    | false =>
      match multM m x && (loGe bd x && loGe bd y) with
      | true => remS bd m y
      | false => mkRem (.add x y) (.lit m))
  | .rem x (.lit n) => rcheck bd m (.rem x (.lit n)) (match intEq (n % m) 0 && (intLe 1 n && loGe bd x) with
    | true => .rem x (.lit m)
    | false => mkRem (.rem x (.lit n)) (.lit m))
  | .mul x (.lit n) => rcheck bd m (.mul x (.lit n)) (match intEq (n % m) 0 with
    | true => .lit 0
    | false => mkRem (.mul x (.lit n)) (.lit m))
  | .wrap k x => rcheck bd m (.wrap k x) (match (match k with | .u8 | .u16 | .u32 | .u64 => intEq (pow2 k % m) 0 && loGe bd x | _ => false) with
    | true => remS bd m x
    | false => mkRem (.wrap k x) (.lit m))
  | a => rcheck bd m a (mkRem a (.lit m))
theorem remS_ev {ρ : Env} {bd : Bd} (hρ : ρ.ok bd) {m : Int} (hm : 1 ≤ m) (a : IE) : (remS bd m a).ev ρ = (a.ev ρ).tmod m := by
  have base : ∀ a : IE, (rcheck bd m a (mkRem a (.lit m))).ev ρ = (a.ev ρ).tmod m := fun a => rcheck_ev hρ (mkRem_ev ρ a _)
  induction a with
  | add x y ihx ihy =>
    unfold remS
    refine rcheck_ev hρ ?_
    split
    · rename_i hc
      obtain ⟨c1, hc⟩ := and_split hc
      obtain ⟨c2, c3⟩ := and_split hc
      have c1 := multM_ok (ρ := ρ) c1
      have c2 := loGe_ok hρ c2
      have c3 := loGe_ok hρ c3
      obtain ⟨q, hq⟩ := c1
      rw [ihx]
      show _ = (x.ev ρ + y.ev ρ).tmod m
      rw [Int.tmod_eq_emod_of_nonneg c2, Int.tmod_eq_emod_of_nonneg (by omega), hq, Int.add_mul_emod_self_left]
    · split
      · rename_i hc
        obtain ⟨c1, hc⟩ := and_split hc
        obtain ⟨c2, c3⟩ := and_split hc
        have c1 := multM_ok (ρ := ρ) c1
        have c2 := loGe_ok hρ c2
        have c3 := loGe_ok hρ c3
        obtain ⟨q, hq⟩ := c1
        rw [ihy]
        show _ = (x.ev ρ + y.ev ρ).tmod m
        rw [Int.tmod_eq_emod_of_nonneg c3, Int.tmod_eq_emod_of_nonneg (by omega), hq, Int.add_comm, Int.add_mul_emod_self_left]
      · exact mkRem_ev ρ _ _
  | rem x n ihx _ =>
    cases n with
    | lit n' =>
      refine rcheck_ev hρ ?_
      split
      · rename_i hc
        obtain ⟨c1, hc⟩ := and_split hc
        obtain ⟨c2, c3⟩ := and_split hc
        have c1 := Int.dvd_of_emod_eq_zero (intEq_eq c1)
        rw [intLe_iff] at c2
        have c2 := of_decide_eq_true c2
        have c3 := loGe_ok hρ c3
        show (x.ev ρ).tmod m = ((x.ev ρ).tmod n').tmod m
        rw [Int.tmod_eq_emod_of_nonneg c3, Int.tmod_eq_emod_of_nonneg c3, Int.tmod_eq_emod_of_nonneg (Int.emod_nonneg _ (by omega)), Int.emod_emod_of_dvd _ c1]
      · exact mkRem_ev ρ _ _
    | _ => exact base _
  | mul x n _ _ =>
    cases n with
    | lit n =>
      refine rcheck_ev hρ ?_
      split
      · rename_i hc
        obtain ⟨q, hq⟩ := Int.dvd_of_emod_eq_zero (intEq_eq hc)
        show (0 : Int) = (x.ev ρ * n).tmod m
        rw [hq, ← Int.mul_assoc, Int.mul_right_comm, Int.mul_tmod_left]
      · exact mkRem_ev ρ _ _
    | _ => exact base _
  | wrap k x ih =>
    refine rcheck_ev hρ ?_
    split
    · rename_i hc
      have key : intEq (pow2 k % m) 0 = true ∧ loGe bd x = true ∧ k.wrap (x.ev ρ) = x.ev ρ % pow2 k := by
        cases k <;> first
          | (cases hc; done)
          | exact ⟨(and_split hc).1, (and_split hc).2, wrap_eq _ _⟩
      obtain ⟨k1, k2, k3⟩ := key
      have hx := loGe_ok hρ k2
      have hp : 0 < pow2 k := by cases k <;> decide
      rw [ih]
      show (x.ev ρ).tmod m = (k.wrap (x.ev ρ)).tmod m
      rw [k3, Int.tmod_eq_emod_of_nonneg hx, Int.tmod_eq_emod_of_nonneg (Int.emod_nonneg _ (by omega)), Int.emod_emod_of_dvd _ (Int.dvd_of_emod_eq_zero (intEq_eq k1))]
    · exact mkRem_ev ρ _ _
  | _ => exact base _
def nrmRem (bd : Bd) (a b : IE) : IE :=
  match b with
  | .lit m =>
    match intEq m 1 with
    | true => .lit 0
    | false =>
      match intLe 1 m with
      | true => remS bd m a
      | false => mkRem a (.lit m)
  | b => mkRem a b
theorem nrmRem_ev {ρ : Env} {bd : Bd} (hρ : ρ.ok bd) (a b : IE) : (nrmRem bd a b).ev ρ = (a.ev ρ).tmod (b.ev ρ) := by
  unfold nrmRem
  split
  · rename_i m
    split
    · rename_i h
      rw [intEq_eq h]
      exact (Int.tmod_one _).symm
    · split
      · rename_i h
        rw [intLe_iff] at h
        exact remS_ev hρ (of_decide_eq_true h) a
      · exact mkRem_ev ρ _ _
  · exact mkRem_ev ρ _ _
/-! sums in order -/
def partIE (p : Int × IE) : IE :=
  match intEq p.1 0 with
  | true => p.2
  | false =>
    match intEq p.1 1 with
    | true => p.2
    | false => .mul p.2 (.lit p.1)
def addParts : IE → List (Int × IE) → List (Int × IE)
  | .add x y, l => addParts x (addParts y l)
  | .mul x (.lit c), l =>
    match intEq c 0 with
    | true => (0, .lit 0) :: l
    | false => (c, x) :: l
  | .lit n, l => (0, .lit n) :: l
  | e, l => (1, e) :: l
def partsEv (ρ : Env) : List (Int × IE) → Int
  | [] => 0
  | p :: l => (partIE p).ev ρ + partsEv ρ l
theorem addParts_ev (ρ : Env) : ∀ (e : IE) (l : List (Int × IE)), partsEv ρ (addParts e l) = e.ev ρ + partsEv ρ l := by
  intro e
  induction e with
  | add x y ihx ihy =>
    intro l
    show partsEv ρ (addParts x (addParts y l)) = x.ev ρ + y.ev ρ + partsEv ρ l
    rw [ihx, ihy, Int.add_assoc]
  | mul x c _ _ =>
    intro l
    cases c with
    | lit c =>
      show partsEv ρ (match intEq c 0 with
        | true => (0, .lit 0) :: l
        | false => (c, x) :: l) = x.ev ρ * c + partsEv ρ l
      split
      · rename_i hc
        rw [intEq_eq hc]
        show (0 : Int) + partsEv ρ l = x.ev ρ * 0 + partsEv ρ l
        rw [Int.mul_zero]
      · rename_i hc
        show (partIE (c, x)).ev ρ + partsEv ρ l = x.ev ρ * c + partsEv ρ l
        unfold partIE
        simp only [hc]
        split
        · rename_i h1
          rw [intEq_eq h1, Int.mul_one]
        · rfl
    | _ => rfl
  | lit n => intro l; rfl
  | _ => intro l; rfl
def insPart (p : Int × IE) : List (Int × IE) → List (Int × IE)
  | [] => [p]
  | q :: l =>
    match intLt q.1 p.1 with
    | true => p :: q :: l
    | false => q :: insPart p l
theorem insPart_ev (ρ : Env) (p : Int × IE) : ∀ l, partsEv ρ (insPart p l) = (partIE p).ev ρ + partsEv ρ l := by
  intro l
  induction l with
  | nil => rfl
  | cons q l ih =>
    unfold insPart
    split
    · rfl
    · show (partIE q).ev ρ + partsEv ρ (insPart p l) = (partIE p).ev ρ + ((partIE q).ev ρ + partsEv ρ l)
      rw [ih]; omega
def sortParts : List (Int × IE) → List (Int × IE) → List (Int × IE)
  | [], acc => acc
  | p :: l, acc => sortParts l (insPart p acc)
theorem sortParts_ev (ρ : Env) : ∀ l acc, partsEv ρ (sortParts l acc) = partsEv ρ l + partsEv ρ acc := by
  intro l
  induction l with
  | nil => intro acc; show partsEv ρ acc = 0 + partsEv ρ acc; omega
  | cons p l ih =>
    intro acc
    show partsEv ρ (sortParts l (insPart p acc)) = (partIE p).ev ρ + partsEv ρ l + partsEv ρ acc
    rw [ih, insPart_ev]; omega
def sumParts : IE → List (Int × IE) → IE
  | e, [] => e
  | e, p :: l => sumParts (mkAdd e (partIE p)) l
theorem sumParts_ev (ρ : Env) : ∀ l e, (sumParts e l).ev ρ = e.ev ρ + partsEv ρ l := by
  intro l
  induction l with
  | nil => intro e; show e.ev ρ = e.ev ρ + 0; omega
  | cons p l ih =>
    intro e
    show (sumParts (mkAdd e (partIE p)) l).ev ρ = e.ev ρ + ((partIE p).ev ρ + partsEv ρ l)
    rw [ih, mkAdd_ev]; omega
def inOrder (e : IE) : IE :=
  match e with
  | .add x y =>
    match sortParts (addParts (.add x y) []) [] with
    | [] => .add x y
    | p :: l => sumParts (partIE p) l
  | e => e
theorem inOrder_ev (ρ : Env) (e : IE) : (inOrder e).ev ρ = e.ev ρ := by
  unfold inOrder
  split
  · rename_i x y
    have h := sortParts_ev ρ (addParts (.add x y) []) []
    rw [addParts_ev] at h
    split
    · rfl
    · rename_i p l hl
      rw [hl] at h
      rw [sumParts_ev]
      have h : (partIE p).ev ρ + partsEv ρ l = (IE.add x y).ev ρ + 0 + 0 := h
      omega
  · rfl
def nrmAdd0 (bd : Bd) (a b : IE) : IE :=
  match a with
  | .mul (.quo w (.lit n)) (.lit n') =>
    match b with
    | .mul (.rem (.quo w' (.lit m)) (.lit k)) (.lit m') =>
      match intEq n n' && (intEq m m' && (intEq n (m * k) && (w.eq w' && (intLe 1 m && (intLe 1 k && loGe bd w))))) with
      | true => .mul (.quo w (.lit m)) (.lit m)
      | false => mkAdd (.mul (.quo w (.lit n)) (.lit n')) (.mul (.rem (.quo w' (.lit m)) (.lit k)) (.lit m'))
    | .rem w' (.lit k) =>
      match intEq n n' && (intEq n k && (w.eq w' && (intLe 1 n && loGe bd w))) with
      | true => w
      | false => mkAdd (.mul (.quo w (.lit n)) (.lit n')) (.rem w' (.lit k))
    | b => mkAdd (.mul (.quo w (.lit n)) (.lit n')) b
  | a => mkAdd a b
theorem digits_join {x m k : Int} (hx : 0 ≤ x) (hm : 1 ≤ m) (hk : 1 ≤ k) : x / m * m = x / (m * k) * (m * k) + x / m % k * m := by
  have h1 := Int.emod_add_mul_ediv (x / m) k
  rw [Int.ediv_ediv_of_nonneg (by omega)] at h1
  have h2 : x / m * m = (x / m % k + k * (x / (m * k))) * m := by rw [h1]
  rw [h2, Int.add_mul, Int.add_comm]
  congr 1
  rw [Int.mul_comm k, Int.mul_assoc, Int.mul_comm k m]
theorem nrmAdd0_ev {ρ : Env} {bd : Bd} (hρ : ρ.ok bd) (a b : IE) : (nrmAdd0 bd a b).ev ρ = a.ev ρ + b.ev ρ := by
  unfold nrmAdd0
  split
  · rename_i w n n'
    split
    · rename_i w' m k m'
      split
      · rename_i hc
        obtain ⟨c1, hc⟩ := and_split hc
        obtain ⟨c2, hc⟩ := and_split hc
        obtain ⟨c3, hc⟩ := and_split hc
        obtain ⟨c4, hc⟩ := and_split hc
        obtain ⟨c5, hc⟩ := and_split hc
        obtain ⟨c6, c7⟩ := and_split hc
        have c1 := intEq_eq c1; have c2 := intEq_eq c2; have c3 := intEq_eq c3; have c4 := IE.eq_eq c4
        rw [intLe_iff] at c5 c6
        have c5 := of_decide_eq_true c5
        have c6 := of_decide_eq_true c6
        have c7 := loGe_ok hρ c7
        subst c1; subst c2; subst c4; subst c3
        show (w.ev ρ).tdiv m * m = (w.ev ρ).tdiv (m * k) * (m * k) + ((w.ev ρ).tdiv m).tmod k * m
        rw [Int.tdiv_eq_ediv_of_nonneg c7, Int.tdiv_eq_ediv_of_nonneg c7, Int.tmod_eq_emod_of_nonneg (Int.ediv_nonneg c7 (by omega))]
        exact digits_join c7 c5 c6
      · exact mkAdd_ev ρ _ _
    · rename_i w' k
      split
      · rename_i hc
        obtain ⟨c1, hc⟩ := and_split hc
        obtain ⟨c2, hc⟩ := and_split hc
        obtain ⟨c3, hc⟩ := and_split hc
        obtain ⟨c4, c5⟩ := and_split hc
        have c1 := intEq_eq c1; have c2 := intEq_eq c2; have c3 := IE.eq_eq c3
        rw [intLe_iff] at c4
        have c4 := of_decide_eq_true c4
        have c5 := loGe_ok hρ c5
        subst c1; subst c2; subst c3
        show w.ev ρ = (w.ev ρ).tdiv n * n + (w.ev ρ).tmod n
        rw [Int.tdiv_eq_ediv_of_nonneg c5, Int.tmod_eq_emod_of_nonneg c5, Int.mul_comm]
        exact (Int.mul_ediv_add_emod _ _).symm
      · exact mkAdd_ev ρ _ _
    · exact mkAdd_ev ρ _ _
  · exact mkAdd_ev ρ _ _
def nrmAdd (bd : Bd) (a b : IE) : IE := inOrder (nrmAdd0 bd a b)
theorem nrmAdd_ev {ρ : Env} {bd : Bd} (hρ : ρ.ok bd) (a b : IE) : (nrmAdd bd a b).ev ρ = a.ev ρ + b.ev ρ := (inOrder_ev ρ _).trans (nrmAdd0_ev hρ a b)
/-- j, where the expression is a multiple of 2 to the j. -/
def multOf1 : IE → Option Nat
  | .mul _ (.lit (.ofNat m)) => maskBits (m - 1) 64
  | .wrap k (.mul _ (.lit (.ofNat m))) =>
    match maskBits (m - 1) 64 with
    | some j =>
      match Nat.ble j (kb k) with
      | true => some j
      | false => none
    | none => none
  | _ => none
theorem multOf1_ok {ρ : Env} {e : IE} {j : Nat} (h : multOf1 e = some j) : ((2 ^ j : Nat) : Int) ∣ e.ev ρ ∨ e.ev ρ = 0 := by
  have base : ∀ (x : IE) (m j : Nat), maskBits (m - 1) 64 = some j → ((2 ^ j : Nat) : Int) ∣ x.ev ρ * (m : Int) := fun x m j hm => by
    have e := maskBits_ok hm
    have hp : 1 ≤ 2 ^ j := Nat.one_le_two_pow
    cases m with
    | zero => rw [Int.natCast_zero, Int.mul_zero]; exact Int.dvd_zero _
    | succ m =>
      have : m + 1 = 2 ^ j := by omega
      rw [this]
      exact Int.dvd_mul_left _ _
  unfold multOf1 at h
  split at h
  · rename_i x m
    exact .inl (base x m j h)
  · rename_i k x m
    split at h
    · rename_i j' hj
      split at h
      · rename_i hk
        cases h
        refine .inl ?_
        have h1 := base x m j hj
        have h2 := wrap_dvd k (x.ev ρ * m)
        have h3 : ((2 ^ j : Nat) : Int) ∣ pow2 k := by
          have hk := Nat.le_of_ble_eq_true hk
          have : pow2 k = ((2 ^ kb k : Nat) : Int) := by cases k <;> rfl
          rw [this]
          exact Int.natCast_dvd_natCast.2 (Nat.pow_dvd_pow 2 hk)
        have h4 := Int.dvd_trans h3 h2
        have := Int.dvd_add h4 h1
        rw [Int.sub_add_cancel] at this
        exact this
      · cases h
    · cases h
  · cases h
def multOf : IE → Option Nat
  | .add x y =>
    match multOf x, multOf1 y with
    | some i, some j => some (Nat.min i j)
    | _, _ => none
  | e => multOf1 e
theorem multOf_ok {ρ : Env} : ∀ {e : IE} {j : Nat}, multOf e = some j → ((2 ^ j : Nat) : Int) ∣ e.ev ρ ∨ e.ev ρ = 0 := by
  intro e
  induction e with
  | add x y ihx _ =>
    intro j h
    unfold multOf at h
    split at h
    · rename_i i k hi hk
      cases h
      have low : ∀ {a b : Nat} {z : Int}, a ≤ b → (((2 ^ b : Nat) : Int) ∣ z ∨ z = 0) → ((2 ^ a : Nat) : Int) ∣ z := fun {a b z} hab hz => by
        rcases hz with hz | rfl
        · exact Int.dvd_trans (Int.natCast_dvd_natCast.2 (Nat.pow_dvd_pow 2 hab)) hz
        · exact Int.dvd_zero _
      exact .inl (Int.dvd_add (low (Nat.min_le_left i k) (ihx hi)) (low (Nat.min_le_right i k) (multOf1_ok hk)))
    · cases h
  | _ => intro j h; exact multOf1_ok h
/-- Bits put together that do not meet. -/
def joinOfM (bd : Bd) (k : IntKind) (a b : IE) : Option IE :=
  match multOf a with
  | some j =>
    match rng bd a, rng bd b with
    | some (l, h), some (l', h') =>
      match intLe 0 l && (intLe h (kHi k) && (intLe 0 l' && (intLt h' ((2 ^ j : Nat) : Int) && intLe h' (kHi k)))) with
      | true => some (nrmAdd bd a b)
      | false => none
    | _, _ => none
  | none => none
theorem join_nat (j a b : Nat) (ha : 2 ^ j ∣ a) (hb : b < 2 ^ j) : a ||| b = a + b ∧ a ^^^ b = a + b := by
  obtain ⟨q, rfl⟩ := ha
  have h1 : 2 ^ j * q + b = 2 ^ j * q ||| b := Nat.two_pow_add_eq_or_of_lt hb q
  refine ⟨h1.symm, ?_⟩
  rw [h1]
  apply Nat.eq_of_testBit_eq
  intro i
  rw [Nat.testBit_xor, Nat.testBit_or]
  by_cases hi : i < j
  · rw [show (2 ^ j * q).testBit i = false by rw [Nat.testBit_two_pow_mul]; simp; omega]
    simp
  · rw [Nat.testBit_lt_two_pow (Nat.lt_of_lt_of_le hb (Nat.pow_le_pow_right (by decide) (by omega)))]
    simp
theorem joinOfM_ev {ρ : Env} {bd : Bd} (hρ : ρ.ok bd) {k : IntKind} {a b z : IE} (h : joinOfM bd k a b = some z) : z.ev ρ = bitsI .or k (a.ev ρ) (b.ev ρ) ∧ z.ev ρ = bitsI .xor k (a.ev ρ) (b.ev ρ) := by
  unfold joinOfM at h
  split at h
  · rename_i j hj
    split at h
    · rename_i l u l' u' hr hr'
      split at h
      · rename_i hc
        cases h
        obtain ⟨c1, hc⟩ := and_split hc
        obtain ⟨c2, hc⟩ := and_split hc
        obtain ⟨c3, hc⟩ := and_split hc
        obtain ⟨c4, c5⟩ := and_split hc
        have c1 : (0 : Int) ≤ l := by simpa [intLe_iff] using c1
        have c2 : u ≤ kHi k := by simpa [intLe_iff] using c2
        have c3 : (0 : Int) ≤ l' := by simpa [intLe_iff] using c3
        rw [intLt_iff] at c4
        have c4 : u' < ((2 ^ j : Nat) : Int) := of_decide_eq_true c4
        have c5 : u' ≤ kHi k := by simpa [intLe_iff] using c5
        have b1 := rng_ok hρ a _ _ hr
        have b2 := rng_ok hρ b _ _ hr'
        obtain ⟨x, hx⟩ := Int.eq_ofNat_of_zero_le (show 0 ≤ a.ev ρ by omega)
        obtain ⟨y, hy⟩ := Int.eq_ofNat_of_zero_le (show 0 ≤ b.ev ρ by omega)
        have kx : x ≤ kTop k := by
          have : (x : Int) ≤ kHi k := by omega
          rw [← kTop_hi] at this; omega
        have ky : y ≤ kTop k := by
          have : (y : Int) ≤ kHi k := by omega
          rw [← kTop_hi] at this; omega
        have hm : 2 ^ j ∣ x := by
          rcases multOf_ok (ρ := ρ) hj with h | h
          · rw [hx] at h; exact Int.natCast_dvd_natCast.1 h
          · rw [hx] at h; have : x = 0 := by omega
            subst this; exact Nat.dvd_zero _
        have hlt : y < 2 ^ j := by
          have : (y : Int) < ((2 ^ j : Nat) : Int) := by omega
          exact Int.ofNat_lt.1 this
        obtain ⟨e1, e2⟩ := join_nat j x y hm hlt
        rw [nrmAdd_ev hρ, hx, hy]
        refine ⟨?_, ?_⟩
        · rw [bitsI_nat .or k x y kx ky]
          show (x : Int) + y = ((Nat.lor x y : Nat) : Int)
          have : Nat.lor x y = x + y := e1
          rw [this]; rfl
        · rw [bitsI_nat .xor k x y kx ky]
          show (x : Int) + y = ((Nat.xor x y : Nat) : Int)
          have : Nat.xor x y = x + y := e2
          rw [this]; rfl
      · cases h
    · cases h
  · cases h
/-- Nothing joined to bits. -/
def zeroOf (bd : Bd) (k : IntKind) (a b : IE) : Option IE :=
  match a with
  | .lit z =>
    match intEq z 0, rng bd b with
    | true, some (l, h) =>
      match intLe 0 l && intLe h (kHi k) with
      | true => some b
      | false => none
    | _, _ => none
  | _ => none
theorem zeroOf_ev {ρ : Env} {bd : Bd} (hρ : ρ.ok bd) {k : IntKind} {a b z : IE} (h : zeroOf bd k a b = some z) : z.ev ρ = bitsI .or k (a.ev ρ) (b.ev ρ) ∧ z.ev ρ = bitsI .xor k (a.ev ρ) (b.ev ρ) := by
  unfold zeroOf at h
  split at h
  · split at h
    · rename_i l u hz hr
      split at h
      · rename_i hc
        cases h
        obtain ⟨c1, c2⟩ := and_split hc
        have c1 : (0 : Int) ≤ l := by simpa [intLe_iff] using c1
        have c2 : u ≤ kHi k := by simpa [intLe_iff] using c2
        have hb := rng_ok hρ b l u hr
        rw [intEq_eq hz]
        obtain ⟨n, hn⟩ := Int.eq_ofNat_of_zero_le (show 0 ≤ b.ev ρ by omega)
        have hle : n ≤ kTop k := by
          have := kTop_hi k
          omega
        show b.ev ρ = bitsI .or k 0 (b.ev ρ) ∧ b.ev ρ = bitsI .xor k 0 (b.ev ρ)
        rw [hn]
        have e1 := bitsI_nat .or k 0 n (Nat.zero_le _) hle
        have e2 := bitsI_nat .xor k 0 n (Nat.zero_le _) hle
        have z0 : ((0 : Nat) : Int) = 0 := rfl
        rw [z0] at e1 e2
        rw [e1, e2]
        refine ⟨?_, ?_⟩
        · show (n : Int) = (Nat.lor 0 n : Nat)
          have : Nat.lor 0 n = n := Nat.zero_or n
          rw [this]
        · show (n : Int) = (Nat.xor 0 n : Nat)
          have : Nat.xor 0 n = n := Nat.zero_xor n
          rw [this]
      · cases h
    · cases h
  · cases h
def joinOf (bd : Bd) (k : IntKind) (a b : IE) : Option IE :=
  match joinOfM bd k a b with
  | some z => some z
  | none => zeroOf bd k a b
theorem joinOf_ev {ρ : Env} {bd : Bd} (hρ : ρ.ok bd) {k : IntKind} {a b z : IE} (h : joinOf bd k a b = some z) : z.ev ρ = bitsI .or k (a.ev ρ) (b.ev ρ) ∧ z.ev ρ = bitsI .xor k (a.ev ρ) (b.ev ρ) := by
  unfold joinOf at h
  split at h
  · rename_i y hy
    cases h
    exact joinOfM_ev hρ hy
  · exact zeroOf_ev hρ h
/-- The low bits cleared. -/
def clearOf (bd : Bd) (k : IntKind) (a : IE) : Int → Option IE
  | .ofNat m =>
    match natLe m (kTop k), maskBits m 64 with
    | true, some _ =>
      match rng bd a with
      | some (l, h) =>
        match intLe 0 l && intLe h (kHi k) with
        | true => some (mkMul (quoBy bd ((m + 1 : Nat) : Int) a) (.lit ((m + 1 : Nat) : Int)))
        | false => none
      | none => none
    | _, _ => none
  | _ => none
theorem clear_nat (j a : Nat) : a ^^^ (a &&& (2 ^ j - 1)) = a / 2 ^ j * 2 ^ j := by
  rw [Nat.and_two_pow_sub_one_eq_mod]
  have h := Nat.div_add_mod a (2 ^ j)
  have hlt := Nat.mod_lt a (Nat.two_pow_pos j)
  have e : a = 2 ^ j * (a / 2 ^ j) ^^^ a % 2 ^ j := by
    rw [(join_nat j (2 ^ j * (a / 2 ^ j)) (a % 2 ^ j) (Nat.dvd_mul_right _ _) hlt).2]
    exact h.symm
  have e2 : (2 ^ j * (a / 2 ^ j) ^^^ a % 2 ^ j) ^^^ a % 2 ^ j = 2 ^ j * (a / 2 ^ j) := by
    rw [Nat.xor_assoc, Nat.xor_self, Nat.xor_zero]
  rw [← e] at e2
  rw [e2, Nat.mul_comm]
theorem clearOf_ev {ρ : Env} {bd : Bd} (hρ : ρ.ok bd) {k : IntKind} {a z : IE} {m : Int} (h : clearOf bd k a m = some z) : z.ev ρ = bitsI .andNot k (a.ev ρ) m := by
  unfold clearOf at h
  split at h
  · rename_i m
    split at h
    · rename_i j hm hj
      split at h
      · rename_i l u hr
        split at h
        · rename_i hc
          cases h
          obtain ⟨c1, c2⟩ := and_split hc
          have hb := rng_ok hρ a l u hr
          have c1 : (0 : Int) ≤ l := by simpa [intLe_iff] using c1
          have c2 : u ≤ kHi k := by simpa [intLe_iff] using c2
          obtain ⟨x, hx⟩ := Int.eq_ofNat_of_zero_le (show 0 ≤ a.ev ρ by omega)
          have hxk : x ≤ kTop k := by
            have : (x : Int) ≤ kHi k := by omega
            rw [← kTop_hi] at this
            omega
          have hm' : m ≤ kTop k := by simpa [natLe] using hm
          rw [mkMul_ev, quoBy_ev hρ, hx]
          show (x : Int).tdiv ((m + 1 : Nat) : Int) * ((m + 1 : Nat) : Int) = bitsI .andNot k (x : Int) (m : Int)
          rw [bitsI_nat .andNot k x m hxk hm']
          have e := maskBits_ok hj
          have e2 : m + 1 = 2 ^ j := by have : 1 ≤ 2 ^ j := Nat.one_le_two_pow; omega
          rw [e2]
          have := clear_nat j x
          show _ = ((Nat.xor x (Nat.land x m) : Nat) : Int)
          have e3 : Nat.xor x (Nat.land x m) = x / 2 ^ j * 2 ^ j := by rw [e]; exact this
          rw [e3]
          rfl
        · cases h
      · cases h
    · cases h
  · cases h
def nrmTop (bd : Bd) : IE → IE
  | .rem a b => nrmRem bd a b
  | z => z
theorem nrmTop_ev {ρ : Env} {bd : Bd} (hρ : ρ.ok bd) (z : IE) : (nrmTop bd z).ev ρ = z.ev ρ := by
  unfold nrmTop
  split
  · exact nrmRem_ev hρ _ _
  · rfl
def nrmBits (bd : Bd) (op : BinOp) (k : IntKind) (a b : IE) : IE :=
  match op with
  | .and =>
    match b with
    | .lit m =>
      match maskRem bd k a m with
      | some z => nrmTop bd z
      | none => mkBits .and k a (.lit m)
    | b => mkBits .and k a b
  | .andNot =>
    match b with
    | .lit m =>
      match clearOf bd k a m with
      | some z => z
      | none => mkBits .andNot k a (.lit m)
    | b => mkBits .andNot k a b
  | .or =>
    match joinOf bd k a b with
    | some z => z
    | none =>
      match joinOf bd k b a with
      | some z => z
      | none => mkBits .or k a b
  | .xor =>
    match joinOf bd k a b with
    | some z => z
    | none =>
      match joinOf bd k b a with
      | some z => z
      | none => mkBits .xor k a b
  | op => mkBits op k a b
theorem bitsI_comm (op : BinOp) (h : op = .or ∨ op = .xor) (k : IntKind) (x y : Int) : bitsI op k x y = bitsI op k y x := by
  rcases h with rfl | rfl
  · show k.wrap _ = k.wrap _
    rw [BitVec.or_comm]
  · show k.wrap _ = k.wrap _
    rw [BitVec.xor_comm]
theorem nrmBits_ev {ρ : Env} {bd : Bd} (hρ : ρ.ok bd) (op : BinOp) (k : IntKind) (a b : IE) : (nrmBits bd op k a b).ev ρ = bitsI op k (a.ev ρ) (b.ev ρ) := by
  unfold nrmBits
  split
  · split
    · split
      · rename_i z hz
        exact (nrmTop_ev hρ z).trans (maskRem_ev hρ hz)
      · exact mkBits_ev ρ _ k _ _
    · exact mkBits_ev ρ _ k _ _
  · split
    · split
      · rename_i z hz
        exact clearOf_ev hρ hz
      · exact mkBits_ev ρ _ k _ _
    · exact mkBits_ev ρ _ k _ _
  · split
    · rename_i z hz
      exact (joinOf_ev hρ hz).1
    · split
      · rename_i z hz
        rw [bitsI_comm .or (.inl rfl)]
        exact (joinOf_ev hρ hz).1
      · exact mkBits_ev ρ _ k _ _
  · split
    · rename_i z hz
      exact (joinOf_ev hρ hz).2
    · split
      · rename_i z hz
        rw [bitsI_comm .xor (.inr rfl)]
        exact (joinOf_ev hρ hz).2
      · exact mkBits_ev ρ _ k _ _
  · exact mkBits_ev ρ _ k _ _
/-- The sides of a test, without a number that is added. -/
def shft1 (a b : IE) : IE × IE :=
  match a with
  | .add x (.lit c) =>
    match b with
    | .lit n => (x, .lit (n - c))
    | b => (.add x (.lit c), b)
  | .sub (.lit c) x =>
    match b with
    | .lit n => (.lit (c - n), x)
    | b => (.sub (.lit c) x, b)
  | .lit n =>
    match b with
    | .add x (.lit c) => (.lit (n - c), x)
    | .sub (.lit c) x => (x, .lit (c - n))
    | b => (.lit n, b)
  | a => (a, b)
theorem shft1_ev (ρ : Env) (a b : IE) : (shft1 a b).1.ev ρ - (shft1 a b).2.ev ρ = a.ev ρ - b.ev ρ := by
  unfold shft1
  split
  · rename_i x c
    split
    · rename_i n
      show x.ev ρ - (n - c) = x.ev ρ + c - n
      omega
    · rfl
  · rename_i c x
    split
    · rename_i n
      show (c - n) - x.ev ρ = c - x.ev ρ - n
      omega
    · rfl
  · rename_i n
    split
    · rename_i x c
      show n - c - x.ev ρ = n - (x.ev ρ + c)
      omega
    · rename_i c x
      show x.ev ρ - (c - n) = n - (c - x.ev ρ)
      omega
    · rfl
  · rfl
def shft (a b : IE) : IE × IE := shft1 (shft1 a b).1 (shft1 a b).2
theorem shft_ev (ρ : Env) (a b : IE) : (shft a b).1.ev ρ - (shft a b).2.ev ρ = a.ev ρ - b.ev ρ := (shft1_ev ρ _ _).trans (shft1_ev ρ a b)
/-! differences that are numbers -/
def linX : IE → Int → Lin → Int → Lin × Int
  | .lit n, s, l, c => (l, c + s * n)
  | .add a b, s, l, c => linX b s (linX a s l c).1 (linX a s l c).2
  | .sub a b, s, l, c => linX b (-s) (linX a s l c).1 (linX a s l c).2
  | .mul a (.lit n), s, l, c => linX a (s * n) l c
  | e, s, l, c => (addAtom e s l, c)
theorem linX_ok (ρ : Env) (e : IE) : ∀ (s : Int) (l : Lin) (c : Int), linEv ρ (linX e s l c).1 + (linX e s l c).2 = s * e.ev ρ + (linEv ρ l + c) := by
  have atom : ∀ (e : IE) (s : Int) (l : Lin) (c : Int), linEv ρ (addAtom e s l) + c = s * e.ev ρ + (linEv ρ l + c) := fun e s l c => by
    rw [addAtom_ev]; omega
  induction e with
  | lit n => intro s l c; show linEv ρ l + (c + s * n) = s * n + (linEv ρ l + c); omega
  | add a b iha ihb =>
    intro s l c
    show linEv ρ (linX b s (linX a s l c).1 (linX a s l c).2).1 + (linX b s (linX a s l c).1 (linX a s l c).2).2 = s * (a.ev ρ + b.ev ρ) + (linEv ρ l + c)
    rw [ihb, iha, Int.mul_add]; omega
  | sub a b iha ihb =>
    intro s l c
    show linEv ρ (linX b (-s) (linX a s l c).1 (linX a s l c).2).1 + (linX b (-s) (linX a s l c).1 (linX a s l c).2).2 = s * (a.ev ρ - b.ev ρ) + (linEv ρ l + c)
    rw [ihb, iha, Int.mul_sub, Int.neg_mul]; omega
  | mul a b iha _ =>
    intro s l c
    cases b with
    | lit n =>
      show linEv ρ (linX a (s * n) l c).1 + (linX a (s * n) l c).2 = s * (a.ev ρ * n) + (linEv ρ l + c)
      rw [iha, Int.mul_assoc, Int.mul_comm n]
    | _ => exact atom _ s l c
  | _ => intro s l c; exact atom _ s l c
def allZero : Lin → Bool
  | [] => true
  | (_, s) :: l =>
    match intEq s 0 with
    | true => allZero l
    | false => false
theorem allZero_ev (ρ : Env) : ∀ {l : Lin}, allZero l = true → linEv ρ l = 0 := by
  intro l
  induction l with
  | nil => intro _; rfl
  | cons p l ih =>
    intro h
    obtain ⟨a, s⟩ := p
    unfold allZero at h
    split at h
    · rename_i hs
      rw [intEq_eq hs, ] at *
      show 0 * a.ev ρ + linEv ρ l = 0
      rw [ih h]; omega
    · cases h
def diffC (a b : IE) : Option Int :=
  match linX b (-1) (linX a 1 [] 0).1 (linX a 1 [] 0).2 with
  | (l, c) =>
    match allZero l with
    | true => some c
    | false => none
theorem diffC_ok {ρ : Env} {a b : IE} {c : Int} (h : diffC a b = some c) : a.ev ρ - b.ev ρ = c := by
  unfold diffC at h
  split at h
  rename_i l c' hl
  split at h
  · rename_i hz
    cases h
    have h1 := linX_ok ρ b (-1) (linX a 1 [] 0).1 (linX a 1 [] 0).2
    have h2 := linX_ok ρ a 1 [] 0
    rw [hl] at h1
    have h1 : linEv ρ l + c = -1 * b.ev ρ + (linEv ρ (linX a 1 [] 0).1 + (linX a 1 [] 0).2) := h1
    rw [h2, allZero_ev ρ hz] at h1
    have h3 : linEv ρ [] = 0 := rfl
    rw [h3] at h1
    omega
  · cases h
def nrmEq (bd : Bd) (a b : IE) : BE :=
  match diffC a b with
  | some c => .lit (intEq c 0)
  | none => mkEq bd (shft a b).1 (shft a b).2
def nrmLt (bd : Bd) (a b : IE) : BE :=
  match diffC a b with
  | some c => .lit (intLt c 0)
  | none => mkLt bd (shft a b).1 (shft a b).2
theorem nrmEq_ev {ρ : Env} {bd : Bd} (hρ : ρ.ok bd) (a b : IE) : (nrmEq bd a b).ev ρ = decide (a.ev ρ = b.ev ρ) := by
  unfold nrmEq
  split
  · rename_i c hc
    have := diffC_ok (ρ := ρ) hc
    show intEq c 0 = _
    rw [intEq_iff, decide_eq_decide]
    omega
  · rw [mkEq_ev hρ]
    have := shft_ev ρ a b
    rw [decide_eq_decide]
    omega
theorem nrmLt_ev {ρ : Env} {bd : Bd} (hρ : ρ.ok bd) (a b : IE) : (nrmLt bd a b).ev ρ = decide (a.ev ρ < b.ev ρ) := by
  unfold nrmLt
  split
  · rename_i c hc
    have := diffC_ok (ρ := ρ) hc
    show intLt c 0 = _
    rw [intLt_iff, decide_eq_decide]
    omega
  · rw [mkLt_ev hρ]
    have := shft_ev ρ a b
    rw [decide_eq_decide]
    omega
def nrmSel (bd : Bd) (dec : Dec) (s : Bool) (a b x y : IE) : IE :=
  match settle dec (match s with | true => nrmLt bd a b | false => nrmEq bd a b) with
  | some true => x
  | some false => y
  | none => mkSel bd s a b x y
theorem nrmSel_ev {ρ : Env} {bd : Bd} (hρ : ρ.ok bd) {dec : Dec} (hd : dec.holds ρ) (s : Bool) (a b x y : IE) : (nrmSel bd dec s a b x y).ev ρ = selI s (a.ev ρ) (b.ev ρ) (x.ev ρ) (y.ev ρ) := by
  have key : (match s with | true => nrmLt bd a b | false => nrmEq bd a b).ev ρ = (if s then decide (a.ev ρ < b.ev ρ) else decide (a.ev ρ = b.ev ρ)) := by
    cases s
    · exact nrmEq_ev hρ a b
    · exact nrmLt_ev hρ a b
  unfold nrmSel
  split
  · rename_i h
    have := settle_ok hd _ _ h
    rw [key] at this
    cases s <;> simp at this <;> simp [selI] <;> intro h' <;> omega
  · rename_i h
    have := settle_ok hd _ _ h
    rw [key] at this
    cases s <;> simp at this <;> simp [selI] <;> intro h' <;> omega
  · exact mkSel_ev hρ s a b x y
/-- A digit of a row that digits were put in. -/
def in80 : Option (Int × Int) → Bool
  | some (l, h) => intLe (-604462909807314587353088) l && intLt h 604462909807314587353088
  | none => false
theorem in80_ok {ρ : Env} {bd : Bd} (hρ : ρ.ok bd) {e : IE} (h : in80 (rng bd e) = true) : -604462909807314587353088 ≤ e.ev ρ ∧ e.ev ρ < 604462909807314587353088 := by
  unfold in80 at h
  split at h
  · rename_i l u hr
    obtain ⟨h1, h2⟩ := and_split h
    have := rng_ok hρ e l u hr
    have h1 : (-604462909807314587353088 : Int) ≤ l := by simpa [intLe_iff] using h1
    have h2 : u < 604462909807314587353088 := by simpa [intLt_iff] using h2
    omega
  · cases h
def getRow (bd : Bd) (i : Nat) : IE → IE
  | .fn c d j v =>
    match Nat.beq c 1, j with
    | true, .lit (.ofNat b) =>
      match Nat.beq i b with
      | true =>
        match in80 (rng bd v) with
        | true => v
        | false => mkFn 0 (.fn c d j v) (.lit (.ofNat i)) (.lit 0)
      | false => getRow bd i d
    | _, .lit (.ofNat b) =>
      match Nat.beq c 5 && Nat.blt i b with
      | true => getRow bd i d
      | false => mkFn 0 (.fn c d j v) (.lit (.ofNat i)) (.lit 0)
    | _, _ => mkFn 0 (.fn c d j v) (.lit (.ofNat i)) (.lit 0)
  | e => mkFn 0 e (.lit (.ofNat i)) (.lit 0)
theorem rowGet_set_ne (d v : Int) {i j : Nat} (h : j ≠ i) : rowGet (rowSet d i v) j = rowGet d j := by
  rw [rowGet_dig, rowSet_toNat, dig_put _ _ _ _ (rowDig_lt v), if_neg h, rowGet_dig]
theorem getRow_ev {ρ : Env} {bd : Bd} (hρ : ρ.ok bd) (i : Nat) (e : IE) : (getRow bd i e).ev ρ = rowGet (e.ev ρ) i := by
  have base : ∀ e : IE, (mkFn 0 e (.lit (.ofNat i)) (.lit 0)).ev ρ = rowGet (e.ev ρ) i := fun e => by rw [mkFn_ev]; rfl
  induction e with
  | fn c d j v ih _ _ =>
    unfold getRow
    split
    · have hc : c = 1 := Nat.eq_of_beq_eq_true (by assumption)
      rename_i b _ _
      subst hc
      have e1 : (IE.fn 1 d (.lit (.ofNat b)) v).ev ρ = rowSet (d.ev ρ) b (v.ev ρ) := rfl
      split
      · rename_i hib
        have hib := Nat.eq_of_beq_eq_true hib
        subst hib
        split
        · rename_i h8
          obtain ⟨h1, h2⟩ := in80_ok hρ h8
          rw [e1, rowGet_set _ _ _ _ h1 h2, if_pos rfl]
        · exact base _
      · rename_i hib
        have hib : i ≠ b := by intro e; simp [e] at hib
        rw [e1, rowGet_set_ne _ _ hib, ih]
    · rename_i b _ _
      split
      · rename_i hc
        obtain ⟨h1, h2⟩ := Bool.and_eq_true_iff.1 hc
        have h1 : c = 5 := Nat.eq_of_beq_eq_true h1
        subst h1
        have h2 : i < b := by simpa [Nat.blt_eq] using h2
        rw [ih]
        exact (rowGet_top _ _ _ _ h2).symm
      · exact base _
    · exact base _
  | _ => exact base _
/-- The digits from lo to hi are nothing. -/
def zeroCut (R lo hi : Nat) : Bool := Nat.beq (Nat.mod (Nat.shiftRight R (Nat.mul 80 lo)) (Nat.shiftLeft 1 (Nat.mul 80 (Nat.sub (Nat.succ hi) lo)))) 0
theorem rowGet_zero (j : Nat) : rowGet 0 j = 0 := by
  rw [rowGet_dig]
  show rowPut (dig 0 j) = 0
  unfold dig
  rw [Nat.zero_div, Nat.zero_mod]
  rfl
theorem zeroCut_ok {R lo hi : Nat} (h : zeroCut R lo hi = true) {j : Int} (h1 : (lo : Int) ≤ j) (h2 : j ≤ hi) : rowGet (R : Int) j = 0 := by
  obtain ⟨k, rfl⟩ := Int.eq_ofNat_of_zero_le (show 0 ≤ j by omega)
  have h := Nat.eq_of_beq_eq_true h
  have hc : rowCut (R : Int) lo ((hi + 1 - lo : Nat) : Int) = 0 := by
    unfold rowCut
    have e : ((Nat.mod (Nat.shiftRight ((R : Int)).toNat (Nat.mul 80 ((lo : Int)).toNat)) (Nat.shiftLeft 1 (Nat.mul 80 (((hi + 1 - lo : Nat) : Int)).toNat)) : Nat) : Int) = ((0 : Nat) : Int) := by
      rw [Int.toNat_natCast, Int.toNat_natCast, Int.toNat_natCast]
      exact congrArg _ h
    exact e
  have := rowGet_cut (R : Int) lo (hi + 1 - lo) (k - lo) (by omega)
  rw [hc, rowGet_zero, show lo + (k - lo) = k by omega] at this
  exact this.symm
theorem rowSet_zero {R lo : Nat} (h : Nat.blt R (Nat.shiftLeft 1 (Nat.mul 80 lo)) = true) {j : Int} (h1 : (lo : Int) ≤ j) : rowSet (R : Int) j 0 = R := by
  obtain ⟨k, rfl⟩ := Int.eq_ofNat_of_zero_le (show 0 ≤ j by omega)
  have h : R < 2 ^ (80 * lo) := by
    have : R < 1 <<< (80 * lo) := by simpa [Nat.blt_eq] using h
    rwa [Nat.shiftLeft_eq, Nat.one_mul] at this
  have hk : R < 2 ^ (80 * k) := Nat.lt_of_lt_of_le h (Nat.pow_le_pow_right (by decide) (by omega))
  have h0 : 0 ≤ rowSet (R : Int) k 0 := Int.natCast_nonneg _
  have e := rowSet_toNat (R : Int) 0 k
  rw [Int.toNat_natCast] at e
  have hd : dig R k = 0 := by unfold dig; rw [Nat.div_eq_of_lt hk]
  unfold put at e
  rw [hd] at e
  have hr : rowDig 0 = 0 := rfl
  rw [hr] at e
  omega
def nrmFn (bd : Bd) (c : Nat) (x y z : IE) : IE :=
  match Nat.beq c 0, y with
  | true, .lit (.ofNat i) => getRow bd i x
  | true, y =>
    match x, rng bd y with
    | .lit (.ofNat R), some (.ofNat lo, .ofNat hi) =>
      match zeroCut R lo hi with
      | true => .lit 0
      | false => mkFn c (.lit (.ofNat R)) y z
    | x, _ => mkFn c x y z
  | false, y =>
    match x, rng bd y, z with
    | .lit (.ofNat R), some (.ofNat lo, _), .lit (.ofNat 0) =>
      match Nat.beq c 1 && Nat.blt R (Nat.shiftLeft 1 (Nat.mul 80 lo)) with
      | true => .lit (.ofNat R)
      | false => mkFn c (.lit (.ofNat R)) y (.lit (.ofNat 0))
    | x, _, z => mkFn c x y z
theorem nrmFn_ev {ρ : Env} {bd : Bd} (hρ : ρ.ok bd) (c : Nat) (x y z : IE) : (nrmFn bd c x y z).ev ρ = fnI ρ c (x.ev ρ) (y.ev ρ) (z.ev ρ) := by
  unfold nrmFn
  split
  · rename_i i hc
    have hc := Nat.eq_of_beq_eq_true hc
    subst hc
    rw [getRow_ev hρ]
    rfl
  · rename_i hc _
    have hc := Nat.eq_of_beq_eq_true hc
    subst hc
    split
    · rename_i R lo hi hr
      split
      · rename_i hz
        obtain ⟨r1, r2⟩ := rng_ok hρ _ _ _ hr
        exact (zeroCut_ok hz r1 r2).symm
      · exact mkFn_ev _ _ _ _ _
    · exact mkFn_ev _ _ _ _ _
  · split
    · rename_i R lo _ hr
      split
      · rename_i hz
        obtain ⟨h1, h2⟩ := Bool.and_eq_true_iff.1 hz
        have h1 := Nat.eq_of_beq_eq_true h1
        subst h1
        obtain ⟨r1, r2⟩ := rng_ok hρ _ _ _ hr
        exact (rowSet_zero h2 r1).symm
      · exact mkFn_ev _ _ _ _ _
    · exact mkFn_ev _ _ _ _ _
/-- A number's row cut or set behind its end. -/
def cutD (bd : Bd) (d R : Nat) (y z : IE) : IE :=
  match Nat.beq d 1, z with
  | true, .lit (.ofNat 0) =>
    match rng bd y with
    | some (.ofNat lo, _) =>
      match Nat.blt R (Nat.shiftLeft 1 (Nat.mul 80 lo)) with
      | true => .lit (.ofNat R)
      | false => .fn d (.lit (.ofNat R)) y z
    | _ => .fn d (.lit (.ofNat R)) y z
  | _, z =>
    match Nat.beq d 2, y with
    | true, .lit (.ofNat 0) =>
      match rng bd z with
      | some (.ofNat lo, _) =>
        match Nat.blt R (Nat.shiftLeft 1 (Nat.mul 80 lo)) with
        | true => .lit (.ofNat R)
        | false => .fn d (.lit (.ofNat R)) (.lit (.ofNat 0)) z
      | _ => .fn d (.lit (.ofNat R)) (.lit (.ofNat 0)) z
    | _, y => .fn d (.lit (.ofNat R)) y z
theorem rowCut_all {R lo : Nat} (h : Nat.blt R (Nat.shiftLeft 1 (Nat.mul 80 lo)) = true) {j : Int} (h1 : (lo : Int) ≤ j) : rowCut (R : Int) 0 j = R := by
  obtain ⟨k, rfl⟩ := Int.eq_ofNat_of_zero_le (show 0 ≤ j by omega)
  have h : R < 2 ^ (80 * lo) := by
    have : R < 1 <<< (80 * lo) := by simpa [Nat.blt_eq] using h
    rwa [Nat.shiftLeft_eq, Nat.one_mul] at this
  have hk : R < 2 ^ (80 * k) := Nat.lt_of_lt_of_le h (Nat.pow_le_pow_right (by decide) (by omega))
  have e := rowCut_toNat (R : Int) 0 k
  have h0 : 0 ≤ rowCut (R : Int) 0 k := Int.natCast_nonneg _
  rw [Int.toNat_natCast, Nat.mul_zero, Nat.pow_zero, Nat.div_one, Nat.mod_eq_of_lt hk] at e
  have e0 : ((0 : Nat) : Int) = 0 := rfl
  rw [e0] at e
  omega
theorem cutD_ev {ρ : Env} {bd : Bd} (hρ : ρ.ok bd) (d R : Nat) (y z : IE) : (cutD bd d R y z).ev ρ = fnI ρ d (R : Int) (y.ev ρ) (z.ev ρ) := by
  unfold cutD
  split
  · rename_i hd
    have hd := Nat.eq_of_beq_eq_true hd
    subst hd
    split
    · rename_i lo _ hr
      split
      · rename_i hz
        obtain ⟨r1, r2⟩ := rng_ok hρ _ _ _ hr
        exact (rowSet_zero hz r1).symm
      · rfl
    · rfl
  · split
    · rename_i hd
      have hd := Nat.eq_of_beq_eq_true hd
      subst hd
      split
      · rename_i lo _ hr
        split
        · rename_i hz
          obtain ⟨r1, r2⟩ := rng_ok hρ _ _ _ hr
          exact (rowCut_all hz r1).symm
        · rfl
      · rfl
    · rfl
/-- The same, with what is known of the place. -/
def nrmFnD (bd : Bd) (dec : Dec) (c : Nat) (x y z : IE) : IE :=
  match nrmFn bd c x y z with
  | .fn d (.lit (.ofNat R)) y' z' =>
    match Nat.beq d 0, rng (bdN bd dec) y' with
    | true, some (.ofNat lo, .ofNat hi) =>
      match zeroCut R lo hi with
      | true => .lit 0
      | false => .fn d (.lit (.ofNat R)) y' z'
    | _, _ => cutD (bdN bd dec) d R y' z'
  | e => e
theorem nrmFnD_ev {ρ : Env} {bd : Bd} (hρ : ρ.ok bd) {dec : Dec} (hd : dec.holds ρ) (c : Nat) (x y z : IE) : (nrmFnD bd dec c x y z).ev ρ = fnI ρ c (x.ev ρ) (y.ev ρ) (z.ev ρ) := by
  rw [← nrmFn_ev hρ]
  unfold nrmFnD
  split
  · rename_i d R y' z' he
    rw [he]
    split
    · rename_i lo hi hc hr
      have hc := Nat.eq_of_beq_eq_true hc
      subst hc
      split
      · rename_i hz
        obtain ⟨r1, r2⟩ := rng_ok (bdN_ok hρ hd) _ _ _ hr
        exact (zeroCut_ok hz r1 r2).symm
      · rfl
    · exact cutD_ev (bdN_ok hρ hd) _ _ _ _
  · rfl
/-- A symbol, or the number that it is known to be. -/
def nrmVar (dec : Dec) (i : Nat) : IE :=
  match Dec.num (.var i) dec with
  | some n => .lit n
  | none => .var i
theorem nrmVar_ev {ρ : Env} {dec : Dec} (hd : dec.holds ρ) (i : Nat) : (nrmVar dec i).ev ρ = ρ.i i := by
  unfold nrmVar
  split
  · rename_i n h
    exact (Dec.num_ok (.var i) hd h).symm
  · rfl
def IE.nrm (bd : Bd) (dec : Dec) : IE → IE
  | .lit n => .lit n
  | .var i => nrmVar dec i
  | .add a b => nrmAdd bd (a.nrm bd dec) (b.nrm bd dec)
  | .sub a b => mkSub (a.nrm bd dec) (b.nrm bd dec)
  | .mul a b => mkMul (a.nrm bd dec) (b.nrm bd dec)
  | .wrap k a => mkWrap bd k (a.nrm bd dec)
  | .bits op k a b => nrmBits bd op k (a.nrm bd dec) (b.nrm bd dec)
  | .quo a b => nrmQuo bd (a.nrm bd dec) (b.nrm bd dec)
  | .rem a b => nrmRem bd (a.nrm bd dec) (b.nrm bd dec)
  | .shl k a b => nrmShl bd k (a.nrm bd dec) (b.nrm bd dec)
  | .shr k a b => nrmShr bd k (a.nrm bd dec) (b.nrm bd dec)
  | .fn c x y z => nrmFnD bd dec c (x.nrm bd dec) (y.nrm bd dec) (z.nrm bd dec)
  | .sel s a b x y => nrmSel bd dec s (a.nrm bd dec) (b.nrm bd dec) (x.nrm bd dec) (y.nrm bd dec)
theorem IE.nrm_ev {ρ : Env} {bd : Bd} (hρ : ρ.ok bd) {dec : Dec} (hd : dec.holds ρ) (e : IE) : (e.nrm bd dec).ev ρ = e.ev ρ := by
  induction e with
  | lit n => rfl
  | var i => exact nrmVar_ev hd i
  | add a b iha ihb => simp only [IE.nrm, nrmAdd_ev hρ, IE.ev, iha, ihb]
  | sub a b iha ihb => simp only [IE.nrm, mkSub_ev, IE.ev, iha, ihb]
  | mul a b iha ihb => simp only [IE.nrm, mkMul_ev, IE.ev, iha, ihb]
  | wrap k a iha => simp only [IE.nrm, mkWrap_ev hρ, IE.ev, iha]
  | bits op k a b iha ihb => simp only [IE.nrm, nrmBits_ev hρ, IE.ev, iha, ihb]
  | quo a b iha ihb => simp only [IE.nrm, nrmQuo_ev hρ, IE.ev, iha, ihb]
  | rem a b iha ihb => simp only [IE.nrm, nrmRem_ev hρ, IE.ev, iha, ihb]
  | shl k a b iha ihb => simp only [IE.nrm, nrmShl_ev hρ, IE.ev, iha, ihb]
  | shr k a b iha ihb => simp only [IE.nrm, nrmShr_ev hρ, IE.ev, iha, ihb]
  | fn c x y z ihx ihy ihz => simp only [IE.nrm, nrmFnD_ev hρ hd, IE.ev, ihx, ihy, ihz]
  | sel s a b x y iha ihb ihx ihy => simp only [IE.nrm, nrmSel_ev hρ hd, IE.ev, iha, ihb, ihx, ihy]
def BE.nrm (bd : Bd) (dec : Dec) : BE → BE
  | .lit b => .lit b
  | .var i => .var i
  | .eq a b => nrmEq bd (a.nrm bd dec) (b.nrm bd dec)
  | .lt a b => nrmLt bd (a.nrm bd dec) (b.nrm bd dec)
  | .not t => .not (t.nrm bd dec)
theorem BE.nrm_ev {ρ : Env} {bd : Bd} (hρ : ρ.ok bd) {dec : Dec} (hd : dec.holds ρ) (b : BE) : (b.nrm bd dec).ev ρ = b.ev ρ := by
  induction b with
  | lit v => rfl
  | var i => rfl
  | eq a b => simp only [BE.nrm, nrmEq_ev hρ, BE.ev, IE.nrm_ev hρ hd]
  | lt a b => simp only [BE.nrm, nrmLt_ev hρ, BE.ev, IE.nrm_ev hρ hd]
  | not t ih => simp only [BE.nrm, BE.ev, ih]
/-- The first choice within. -/
def IE.choice : IE → Option BE
  | .lit _ => none
  | .var _ => none
  | .add a b => match a.choice with | some t => some t | none => b.choice
  | .sub a b => match a.choice with | some t => some t | none => b.choice
  | .mul a b => match a.choice with | some t => some t | none => b.choice
  | .wrap _ a => a.choice
  | .bits _ _ a b => match a.choice with | some t => some t | none => b.choice
  | .quo a b => match a.choice with | some t => some t | none => b.choice
  | .rem a b => match a.choice with | some t => some t | none => b.choice
  | .shl _ a b => match a.choice with | some t => some t | none => b.choice
  | .shr _ a b => match a.choice with | some t => some t | none => b.choice
  | .fn _ x y z => match x.choice with
    | some t => some t
    | none => match y.choice with
      | some t => some t
      | none => z.choice
  | .sel s a b _ _ =>
    match a.choice with
    | some t => some t
    | none =>
      match b.choice with
      | some t => some t
      | none => some (match s with | true => .lt a b | false => .eq a b)
def BE.choice : BE → Option BE
  | .lit _ => none
  | .var _ => none
  | .eq a b => match a.choice with | some t => some t | none => b.choice
  | .lt a b => match a.choice with | some t => some t | none => b.choice
  | .not t => t.choice
/-- What the bounds tell of a test's sides. -/
def sideFacts (bd : Bd) (e : IE) (d : Dec) : Dec :=
  match e with
  | .lit _ => d
  | _ =>
    match rng bd e with
    | some (l, h) => (.lt e (.lit l), false) :: (.lt (.lit h) e, false) :: d
    | none => d
def facts (bd : Bd) (t : BE) (d : Dec) : Dec :=
  match t with
  | .eq a b => sideFacts bd a (sideFacts bd b d)
  | .lt a b => sideFacts bd a (sideFacts bd b d)
  | _ => d
theorem sideFacts_ok {ρ : Env} {bd : Bd} (hρ : ρ.ok bd) (e : IE) {d : Dec} (hd : d.holds ρ) : (sideFacts bd e d).holds ρ := by
  unfold sideFacts
  split
  · exact hd
  · split
    · rename_i l h hr
      have hb := rng_ok hρ e l h hr
      intro p hp
      rcases List.mem_cons.1 hp with rfl | hp
      · show decide (e.ev ρ < (IE.lit l).ev ρ) = false
        exact decide_eq_false (by show ¬ (e.ev ρ < l); omega)
      · rcases List.mem_cons.1 hp with rfl | hp
        · show decide ((IE.lit h).ev ρ < e.ev ρ) = false
          exact decide_eq_false (by show ¬ (h < e.ev ρ); omega)
        · exact hd p hp
    · exact hd
theorem facts_ok {ρ : Env} {bd : Bd} (hρ : ρ.ok bd) (t : BE) {d : Dec} (hd : d.holds ρ) : (facts bd t d).holds ρ := by
  unfold facts
  split
  · exact sideFacts_ok hρ _ (sideFacts_ok hρ _ hd)
  · exact sideFacts_ok hρ _ (sideFacts_ok hρ _ hd)
  · exact hd
def atomLo (bd : Bd) (a : IE) (s : Int) : Option Int :=
  match intEq s 0 with
  | true => some 0
  | false =>
    match rng bd a with
    | some (lo, hi) =>
      match intLt s 0 with
      | true => some (s * hi)
      | false => some (s * lo)
    | none => none
theorem atomLo_ok {ρ : Env} {bd : Bd} (hρ : ρ.ok bd) {a : IE} {s m : Int} (h : atomLo bd a s = some m) : m ≤ s * a.ev ρ := by
  unfold atomLo at h
  split at h
  · rename_i hs
    cases h
    rw [intEq_eq hs, Int.zero_mul]
    exact Int.le_refl _
  · split at h
    · rename_i lo hi hr
      obtain ⟨q1, q2⟩ := rng_ok hρ _ _ _ hr
      split at h
      · rename_i hs
        cases h
        rw [intLt_iff] at hs
        exact Int.mul_le_mul_of_nonpos_left (Int.le_of_lt (of_decide_eq_true hs)) q2
      · rename_i hs
        cases h
        rw [intLt_iff] at hs
        exact Int.mul_le_mul_of_nonneg_left q1 (Int.not_lt.1 (of_decide_eq_false hs))
    · cases h
def linLo (bd : Bd) : Lin → Option Int
  | [] => some 0
  | (a, s) :: l =>
    match atomLo bd a s with
    | some x =>
      match linLo bd l with
      | some y => some (x + y)
      | none => none
    | none => none
theorem linLo_ok {ρ : Env} {bd : Bd} (hρ : ρ.ok bd) : ∀ {l : Lin} {m : Int}, linLo bd l = some m → m ≤ linEv ρ l := by
  intro l
  induction l with
  | nil => intro m h; cases h; exact Int.le_refl _
  | cons p l ih =>
    intro m h
    obtain ⟨a, s⟩ := p
    unfold linLo at h
    split at h
    · rename_i x hx
      split at h
      · rename_i y hy
        cases h
        have q1 := atomLo_ok hρ hx
        have q2 := ih hy
        show x + y ≤ s * a.ev ρ + linEv ρ l
        omega
      · cases h
    · cases h
/-- The one difference is at least k. -/
def geK (bd : Bd) (a b : IE) (k : Int) : Bool :=
  match linX b (-1) (linX a 1 [] 0).1 (linX a 1 [] 0).2 with
  | (l, c) =>
    match linLo bd l with
    | some m => intLe k (m + c)
    | none => false
theorem geK_ok {ρ : Env} {bd : Bd} (hρ : ρ.ok bd) {a b : IE} {k : Int} (h : geK bd a b k = true) : k ≤ a.ev ρ - b.ev ρ := by
  unfold geK at h
  split at h
  rename_i l c hl
  split at h
  · rename_i m hm
    rw [intLe_iff] at h
    have h := of_decide_eq_true h
    have h0 := linLo_ok hρ hm
    have h1 := linX_ok ρ b (-1) (linX a 1 [] 0).1 (linX a 1 [] 0).2
    have h2 := linX_ok ρ a 1 [] 0
    rw [hl] at h1
    have h1 : linEv ρ l + c = -1 * b.ev ρ + (linEv ρ (linX a 1 [] 0).1 + (linX a 1 [] 0).2) := h1
    rw [h2] at h1
    have h3 : linEv ρ [] = 0 := rfl
    rw [h3] at h1
    omega
  · cases h
/-- What one comparison tells of another. -/
def relOne (bd : Bd) (a b c d : IE) : Bool → Option Bool
  | true =>
    match geK bd (.add b c) (.add a d) 0 with
    | true => some true
    | false =>
      match geK bd (.add a c) (.add b d) (-1) with
      | true => some false
      | false => none
  | false =>
    match geK bd (.add b d) (.add a c) 1 with
    | true => some true
    | false =>
      match geK bd (.add a d) (.add b c) 0 with
      | true => some false
      | false => none
theorem relOne_ok {ρ : Env} {bd : Bd} (hρ : ρ.ok bd) {a b c d : IE} {v u : Bool} (h : relOne bd a b c d v = some u) (hv : (BE.lt c d).ev ρ = v) : (BE.lt a b).ev ρ = u := by
  have hv : decide (c.ev ρ < d.ev ρ) = v := hv
  show decide (a.ev ρ < b.ev ρ) = u
  have e : ∀ x y : IE, (IE.add x y).ev ρ = x.ev ρ + y.ev ρ := fun _ _ => rfl
  cases v
  · have hv := of_decide_eq_false hv
    unfold relOne at h
    split at h
    · rename_i _ _ h1
      cases h1
    · split at h
      · rename_i h2
        cases h
        have := geK_ok hρ h2
        rw [e, e] at this
        exact decide_eq_true (by omega)
      · split at h
        · rename_i h2
          cases h
          have := geK_ok hρ h2
          rw [e, e] at this
          exact decide_eq_false (by omega)
        · cases h
  · have hv := of_decide_eq_true hv
    unfold relOne at h
    split at h
    · split at h
      · rename_i h2
        cases h
        have := geK_ok hρ h2
        rw [e, e] at this
        exact decide_eq_true (by omega)
      · split at h
        · rename_i h2
          cases h
          have := geK_ok hρ h2
          rw [e, e] at this
          exact decide_eq_false (by omega)
        · cases h
    · rename_i _ _ h1
      cases h1
def relate (bd : Bd) (a b : IE) : Dec → Option Bool
  | [] => none
  | (.lt c d, v) :: l =>
    match relOne bd a b c d v with
    | some u => some u
    | none => relate bd a b l
  | _ :: l => relate bd a b l
theorem relate_ok {ρ : Env} {bd : Bd} (hρ : ρ.ok bd) {a b : IE} {u : Bool} : ∀ (dec : Dec), dec.holds ρ → relate bd a b dec = some u → (BE.lt a b).ev ρ = u
  | [], _, h => by cases h
  | (.lt c d, v) :: l, hd, h => by
    unfold relate at h
    split at h
    · rename_i w hw
      cases h
      exact relOne_ok hρ hw (hd _ (List.mem_cons_self ..))
    · exact relate_ok hρ l (fun p hp => hd p (List.mem_cons_of_mem _ hp)) h
  | (.eq _ _, _) :: l, hd, h => relate_ok hρ l (fun p hp => hd p (List.mem_cons_of_mem _ hp)) h
  | (.lit _, _) :: l, hd, h => relate_ok hρ l (fun p hp => hd p (List.mem_cons_of_mem _ hp)) h
  | (.not _, _) :: l, hd, h => relate_ok hρ l (fun p hp => hd p (List.mem_cons_of_mem _ hp)) h
  | (.var _, _) :: l, hd, h => relate_ok hρ l (fun p hp => hd p (List.mem_cons_of_mem _ hp)) h
/-- A test that the outcomes settle; a comparison also by the comparisons that are known. -/
def settleR (bd : Bd) (dec : Dec) (b : BE) : Option Bool :=
  match settle dec b with
  | some v => some v
  | none =>
    match b with
    | .lt x y => relate bd x y dec
    | .eq x y =>
      match relate bd x y dec with
      | some true => some false
      | some false =>
        match relate bd y x dec with
        | some true => some false
        | some false => some true
        | none => none
      | none => none
    | _ => none
theorem settleR_ok {ρ : Env} {bd : Bd} (hρ : ρ.ok bd) {dec : Dec} (hd : dec.holds ρ) (b : BE) (v : Bool) (h : settleR bd dec b = some v) : b.ev ρ = v := by
  unfold settleR at h
  split at h
  · rename_i u hu
    cases h
    exact settle_ok hd _ _ hu
  · split at h
    · exact relate_ok hρ dec hd h
    · rename_i x y _
      have lt : ∀ {x y : IE} {u : Bool}, relate bd x y dec = some u → decide (x.ev ρ < y.ev ρ) = u := fun h => relate_ok hρ dec hd h
      split at h
      · rename_i h1
        cases h
        have h1 := of_decide_eq_true (lt h1)
        exact decide_eq_false (by omega)
      · rename_i h1
        have h1 := of_decide_eq_false (lt h1)
        split at h
        · rename_i h2
          cases h
          have h2 := of_decide_eq_true (lt h2)
          exact decide_eq_false (by omega)
        · rename_i h2
          cases h
          have h2 := of_decide_eq_false (lt h2)
          exact decide_eq_true (by omega)
        · cases h
      · cases h
    · cases h
/-- A test decided, if need be by cases. -/
def proveN (bd : Bd) : Nat → Dec → BE → Option Bool
  | 0, dec, b => settleR bd dec (b.nrm bd dec)
  | k + 1, dec, b =>
    match b.nrm bd dec with
    | .lit v => some v
    | b' =>
      match settleR bd dec b' with
      | some v => some v
      | none =>
        match b'.choice with
        | none => none
        | some t =>
          match settleR bd (facts bd t dec) t with
          | some v => proveN bd k ((t, v) :: facts bd t dec) b'
          | none =>
            match proveN bd k ((t, true) :: facts bd t dec) b' with
            | some true =>
              match proveN bd k ((t, false) :: facts bd t dec) b' with
              | some true => some true
              | _ => none
            | some false =>
              match proveN bd k ((t, false) :: facts bd t dec) b' with
              | some false => some false
              | _ => none
            | none => none
theorem decAdd {ρ : Env} {dec : Dec} (h : dec.holds ρ) {t : BE} {v : Bool} (ht : t.ev ρ = v) : Dec.holds ρ ((t, v) :: dec) := by
  intro p hp
  rcases List.mem_cons.1 hp with rfl | hp
  · exact ht
  · exact h p hp
theorem proveN_ok {ρ : Env} {bd : Bd} (hρ : ρ.ok bd) : ∀ (k : Nat) (dec : Dec) (b : BE) (v : Bool), dec.holds ρ → proveN bd k dec b = some v → b.ev ρ = v := by
  intro k
  induction k with
  | zero =>
    intro dec b v hd h
    rw [← BE.nrm_ev hρ hd b]
    exact settleR_ok hρ hd _ _ h
  | succ k ih =>
    intro dec b v hd h
    rw [← BE.nrm_ev hρ hd b]
    unfold proveN at h
    split at h
    · rename_i u hu
      cases h
      rw [hu]
      rfl
    · generalize b.nrm bd dec = b' at h ⊢
      split at h
      · rename_i u hu
        cases h
        exact settleR_ok hρ hd _ _ hu
      · split at h
        · cases h
        · rename_i t _
          have hf := facts_ok (bd := bd) hρ t hd
          split at h
          · rename_i u hu
            exact ih _ _ _ (decAdd hf (settleR_ok hρ hf _ _ hu)) h
          · have both : ∀ v, proveN bd k ((t, true) :: facts bd t dec) b' = some v → proveN bd k ((t, false) :: facts bd t dec) b' = some v → b'.ev ρ = v := by
              intro v h1 h2
              cases ht : t.ev ρ
              · exact ih _ _ _ (decAdd hf ht) h2
              · exact ih _ _ _ (decAdd hf ht) h1
            split at h
            · rename_i h1
              split at h
              · rename_i h2
                cases h
                exact both true h1 h2
              · cases h
            · rename_i h1
              split at h
              · rename_i h2
                cases h
                exact both false h1 h2
              · cases h
            · cases h
/-- The same; first as it stands. -/
def prove (bd : Bd) (k : Nat) (dec : Dec) (b : BE) : Option Bool :=
  match settle dec b with
  | some v => some v
  | none => proveN bd k dec b
theorem prove_ok {ρ : Env} {bd : Bd} (hρ : ρ.ok bd) (k : Nat) (dec : Dec) (b : BE) (v : Bool) (hd : dec.holds ρ) (h : prove bd k dec b = some v) : b.ev ρ = v := by
  unfold prove at h
  split at h
  · rename_i u hu
    cases h
    exact settle_ok hd _ _ hu
  · exact proveN_ok hρ k dec b v hd h
end
end Go.Sx
