/- Rows of tests at an index that is not known. No condition. -/
import Derived.Test.YtpoianhfjgjajaaGreatSx8
set_option linter.unusedSimpArgs false
set_option linter.unusedVariables false
namespace Go.Sx
open Go.RowKit (Below)
noncomputable section
/-- A test as 1 or 0. -/
def BE.num : BE → Option IE
  | .lit true => some (.lit 1)
  | .lit false => some (.lit 0)
  | .var _ => none
  | .eq a b => some (.sel false a b (.lit 1) (.lit 0))
  | .lt a b => some (.sel true a b (.lit 1) (.lit 0))
  | .not t =>
    match BE.num t with
    | some e => some (.sub (.lit 1) e)
    | none => none
theorem BE.num_ev {ρ : Env} : ∀ {b : BE} {z : IE}, b.num = some z → z.ev ρ = if b.ev ρ then 1 else 0 := by
  intro b
  induction b with
  | lit v => intro z h; cases v <;> (cases h; simp [BE.ev, IE.ev])
  | var i => intro z h; cases h
  | eq a b => intro z h; cases h; simp [IE.ev, selI, BE.ev]
  | lt a b => intro z h; cases h; simp [IE.ev, selI, BE.ev]
  | not t ih =>
    intro z h
    simp only [BE.num] at h
    split at h
    · rename_i e he
      cases h
      have := ih he
      cases ht : t.ev ρ <;> simp [IE.ev, this, BE.ev, ht]
    · cases h

theorem num_is {ρ : Env} {b : BE} {z : IE} (h : b.num = some z) {bd : Bd} (hb : ρ.ok bd) {y : IE} (hy : y.ev ρ = z.ev ρ) : (mkEq bd y (.lit 1)).ev ρ = b.ev ρ := by
  rw [mkEq_ev hb, hy, BE.num_ev h]
  cases b.ev ρ <;> rfl
def chainB (C : Ctx) (c0 : T AVal) (e : IE) (s c : Nat) : Nat → Nat → Option IE
  | 0, j =>
    match c0.get (j * s + c) with
    | some (.bool x) => x.num
    | _ => none
  | n + 1, j =>
    match c0.get (j * s + c) with
    | some (.bool x) =>
      match x.num, chainB C c0 e s c n (j + 1) with
      | some p, some y => some (mkSel C.bd false e (.lit (.ofNat j)) p y)
      | _, _ => none
    | _ => none
theorem chainB_ok {C : Ctx} {P : Program} {ρ : Env} (hC : C.Ok P ρ) {c0 : T AVal} {e : IE} {s c : Nat} : ∀ (n j : Nat) (y : IE), chainB C c0 e s c n j = some y → ∀ m : Nat, j ≤ m → m ≤ j + n → e.ev ρ = m →
    ∃ x z, c0.get (m * s + c) = some (.bool x) ∧ x.num = some z ∧ y.ev ρ = z.ev ρ := by
  intro n
  induction n with
  | zero =>
    intro j y h m h1 h2 hm
    have : m = j := by omega
    subst this
    simp only [chainB] at h
    split at h
    · rename_i x hx
      exact ⟨x, y, hx, h, rfl⟩
    · cases h
  | succ n ih =>
    intro j y h m h1 h2 hm
    simp only [chainB] at h
    split at h
    · rename_i x hx
      split at h
      · rename_i p z hp hz
        cases h
        rw [mkSel_ev hC.bd]
        simp only [selI, Bool.false_eq_true, if_false, IE.ev, Int.ofNat_eq_natCast]
        by_cases hj : m = j
        · subst hj
          rw [if_pos hm]
          exact ⟨x, p, hx, hp, rfl⟩
        · rw [if_neg (by omega)]
          exact ih _ _ hz m (by omega) (by omega) hm
      · cases h
    · cases h
def chainLB (C : Ctx) (e : IE) : List AVal → Nat → Option IE
  | [], _ => none
  | .bool x :: l, j =>
    match l with
    | [] => x.num
    | l =>
      match x.num, chainLB C e l (j + 1) with
      | some p, some y => some (mkSel C.bd false e (.lit (.ofNat j)) p y)
      | _, _ => none
  | _ :: _, _ => none
theorem chainLB_ok {C : Ctx} {P : Program} {ρ : Env} (hC : C.Ok P ρ) {e : IE} : ∀ (l : List AVal) (j : Nat) (y : IE), chainLB C e l j = some y → ∀ m : Nat, m < l.length → e.ev ρ = (j + m : Nat) →
    ∃ x z, l[m]? = some (.bool x) ∧ x.num = some z ∧ y.ev ρ = z.ev ρ := by
  intro l
  induction l with
  | nil => intro j y h; simp [chainLB] at h
  | cons a l ih =>
    intro j y h m hm he
    unfold chainLB at h
    split at h
    · rename_i heq; cases heq
    · rename_i x l' heq
      cases heq
      split at h
      · have : m = 0 := by simp at hm; omega
        subst this
        exact ⟨x, y, rfl, h, rfl⟩
      · split at h
        · rename_i p z hp hz
          cases h
          rw [mkSel_ev hC.bd]
          simp only [selI, Bool.false_eq_true, if_false, IE.ev, Int.ofNat_eq_natCast]
          cases m with
          | zero =>
            rw [if_pos (by simpa using he)]
            exact ⟨x, p, rfl, hp, rfl⟩
          | succ m =>
            rw [if_neg (by omega)]
            obtain ⟨u, q0, q1, q2, q3⟩ := ih _ _ hz m (by simpa using hm) (by omega)
            exact ⟨u, q0, by simpa using q1, q2, q3⟩
        · cases h
    · cases h
/-- A test put among others. -/
def updB (C : Ctx) (e x : IE) (s c : Nat) : Nat → Nat → T AVal → Option (T AVal)
  | 0, _, c0 => some c0
  | n + 1, j, c0 =>
    match c0.get (j * s + c) with
    | some (.bool y) =>
      match y.num with
      | some q => updB C e x s c n (j + 1) (c0.set (j * s + c) (.bool (mkEq C.bd (mkSel C.bd false e (.lit (.ofNat j)) x q) (.lit 1))))
      | none => none
    | _ => none
theorem updB_ok {C : Ctx} {P : Program} {ρ : Env} (hC : C.Ok P ρ) {e x : IE} {t : BE} (ht : t.num = some x) {s c : Nat} (hs : 0 < s) : ∀ (n j : Nat) (c0 c1 : T AVal), updB C e x s c n j c0 = some c1 → ∀ p v, c1.get p = some v →
    (∃ m y, j ≤ m ∧ m < j + n ∧ p = m * s + c ∧ c0.get p = some (.bool y) ∧ ∃ z, v = .bool z ∧ z.ev ρ = if e.ev ρ = (m : Int) then t.ev ρ else y.ev ρ) ∨ ((∀ m, j ≤ m → m < j + n → p ≠ m * s + c) ∧ c0.get p = some v) := by
  intro n
  induction n with
  | zero => intro j c0 c1 h p v hv; cases h; exact .inr ⟨fun m h1 h2 => by omega, hv⟩
  | succ n ih =>
    intro j c0 c1 h p v hv
    have inj : ∀ a b : Nat, a * s + c = b * s + c → a = b := fun a b hab => Nat.eq_of_mul_eq_mul_right hs (by omega)
    unfold updB at h
    split at h
    · rename_i y hy
      split at h
      · rename_i q hq
        have hz : (mkEq C.bd (mkSel C.bd false e (.lit (.ofNat j)) x q) (.lit 1)).ev ρ = if e.ev ρ = (j : Int) then t.ev ρ else y.ev ρ := by
          by_cases hj : e.ev ρ = (j : Int)
          · rw [if_pos hj]
            exact num_is ht hC.bd (by rw [mkSel_ev hC.bd]; simp [selI, IE.ev, hj])
          · rw [if_neg hj]
            exact num_is hq hC.bd (by rw [mkSel_ev hC.bd]; simp [selI, IE.ev, hj])
        rcases ih _ _ _ h p v hv with ⟨m', y', q1, q2, q3, q4, q5⟩ | ⟨q1, q2⟩
        · rcases T.get_set q4 with ⟨r1, r2⟩ | ⟨r1, r2⟩
          · exfalso
            have := inj m' j (by omega)
            omega
          · exact .inl ⟨m', y', by omega, by omega, q3, r2, q5⟩
        · rcases T.get_set q2 with ⟨r1, r2⟩ | ⟨r1, r2⟩
          · exact .inl ⟨j, y, Nat.le_refl _, by omega, r1, by rw [r1]; exact hy, _, r2.symm, hz⟩
          · refine .inr ⟨fun m' h1 h2 => ?_, r2⟩
            by_cases hj : m' = j
            · subst hj; exact r1
            · exact q1 m' (by omega) (by omega)
      · cases h
    · cases h
/-- The tests between are there. -/
theorem updB_there {C : Ctx} {e x : IE} {s c : Nat} (hs : 0 < s) : ∀ (n j : Nat) (c0 c1 : T AVal), updB C e x s c n j c0 = some c1 → ∀ m, j ≤ m → m < j + n → ∃ y, c0.get (m * s + c) = some (.bool y) := by
  intro n
  induction n with
  | zero => intro j c0 c1 h m h1 h2; omega
  | succ n ih =>
    intro j c0 c1 h m hm1 hm2
    unfold updB at h
    split at h
    · rename_i y hy
      split at h
      · by_cases hj : m = j
        · subst hj; exact ⟨y, hy⟩
        · obtain ⟨y', hy'⟩ := ih _ _ _ h m (by omega) (by omega)
          rcases T.get_set hy' with ⟨e1, e2⟩ | ⟨_, e2⟩
          · exact absurd (Nat.eq_of_mul_eq_mul_right hs (by omega)) hj
          · exact ⟨y', e2⟩
      · cases h
    · cases h
end
end Go.Sx
