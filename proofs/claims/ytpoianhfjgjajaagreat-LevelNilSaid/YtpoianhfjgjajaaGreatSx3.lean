/- Symbolic values, the abstract heap, and how both stand to the model's. No condition. -/
import Derived.Test.YtpoianhfjgjajaaGreatSx2
import Derived.WalkKit
namespace Go.Sx
open Go.RowKit (Below)

/-! a map from numbers, as a tree -/
inductive T (α : Type) where
  | nil
  | node (v : Option α) (l r : T α)
  deriving Inhabited
def T.getS {α : Type} : T α → Nat → Option α
  | .nil, _ => none
  | .node v l r, k =>
    match Nat.beq k 0 with
    | true => v
    | false =>
      match Nat.beq (k % 2) 1 with
      | true => l.getS ((k - 1) / 2)
      | false => r.getS ((k - 1) / 2)
/-- A subtree whose head has been reckoned. -/
def T.put {α : Type} (v : Option α) (l r : T α) : T α := .node v l r
def T.setFS {α : Type} (x : Option α) : Nat → T α → Nat → T α
  | 0, _, _ => .nil
  | f + 1, .nil, k =>
    match Nat.beq k 0 with
    | true => .node x .nil .nil
    | false =>
      match Nat.beq (k % 2) 1 with
      | true => match T.setFS x f .nil ((k - 1) / 2) with
        | .nil => .nil
        | .node a b c => .node none (.node a b c) .nil
      | false => match T.setFS x f .nil ((k - 1) / 2) with
        | .nil => .nil
        | .node a b c => .node none .nil (.node a b c)
  | f + 1, .node v l r, k =>
    match Nat.beq k 0 with
    | true => .node x l r
    | false =>
      match Nat.beq (k % 2) 1 with
      | true => match T.setFS x f l ((k - 1) / 2) with
        | .nil => .nil
        | .node a b c => .node v (.node a b c) r
      | false => match T.setFS x f r ((k - 1) / 2) with
        | .nil => .nil
        | .node a b c => .node v l (.node a b c)
theorem T.getS_nil {α : Type} (k : Nat) : (T.nil : T α).getS k = none := rfl
theorem T.getS_setFS {α : Type} (x : Option α) : ∀ (f : Nat) (t : T α) (k j : Nat) (y : α), (T.setFS x f t k).getS j = some y → (j = k ∧ x = some y) ∨ (j ≠ k ∧ t.getS j = some y) := by
  intro f
  induction f with
  | zero => intro t k j y h; simp [T.setFS, T.getS] at h
  | succ f ih =>
    have half : ∀ (k j : Nat), k ≠ 0 → j ≠ 0 → k % 2 = j % 2 → (k - 1) / 2 = (j - 1) / 2 → k = j := by intro k j; omega
    have main : ∀ (v : Option α) (l r : T α) (k j : Nat) (y : α), (match Nat.beq k 0 with
        | true => T.node x l r
        | false => match Nat.beq (k % 2) 1 with
          | true => match T.setFS x f l ((k - 1) / 2) with
            | .nil => .nil
            | .node a b c => .node v (.node a b c) r
          | false => match T.setFS x f r ((k - 1) / 2) with
            | .nil => .nil
            | .node a b c => .node v l (.node a b c)).getS j = some y → (j = k ∧ x = some y) ∨ (j ≠ k ∧ (T.node v l r).getS j = some y) := by
      intro v l r k j y h
      cases hk : Nat.beq k 0
      · simp only [hk] at h
        have hk0 : k ≠ 0 := by intro e; simp [e] at hk
        cases ho : Nat.beq (k % 2) 1
        · simp only [ho] at h
          have ho' : k % 2 ≠ 1 := by intro e; simp [e] at ho
          split at h
          · simp [T.getS] at h
          · rename_i a b c e
            simp only [T.getS] at h ⊢
            cases hj : Nat.beq j 0
            · simp only [hj] at h ⊢
              have hj0 : j ≠ 0 := by intro e; simp [e] at hj
              cases hjo : Nat.beq (j % 2) 1
              · simp only [hjo] at h ⊢
                have hjo' : j % 2 ≠ 1 := by intro e; simp [e] at hjo
                rcases ih r _ _ y (by rw [e]; simpa only [T.getS] using h) with ⟨e1, e2⟩ | ⟨e1, e2⟩
                · exact .inl ⟨(half k j hk0 hj0 (by omega) e1.symm).symm, e2⟩
                · exact .inr ⟨fun e => e1 (by rw [e]), e2⟩
              · simp only [hjo] at h ⊢
                have hjo' : j % 2 = 1 := Nat.eq_of_beq_eq_true hjo
                exact .inr ⟨fun e => ho' (by rw [← e]; exact hjo'), h⟩
            · simp only [hj] at h ⊢
              have hj0 : j = 0 := Nat.eq_of_beq_eq_true hj
              exact .inr ⟨fun e => hk0 (by omega), h⟩
        · simp only [ho] at h
          have ho' : k % 2 = 1 := Nat.eq_of_beq_eq_true ho
          split at h
          · simp [T.getS] at h
          · rename_i a b c e
            simp only [T.getS] at h ⊢
            cases hj : Nat.beq j 0
            · simp only [hj] at h ⊢
              have hj0 : j ≠ 0 := by intro e; simp [e] at hj
              cases hjo : Nat.beq (j % 2) 1
              · simp only [hjo] at h ⊢
                have hjo' : j % 2 ≠ 1 := by intro e; simp [e] at hjo
                exact .inr ⟨fun e => hjo' (by rw [e]; exact ho'), h⟩
              · simp only [hjo] at h ⊢
                have hjo' : j % 2 = 1 := Nat.eq_of_beq_eq_true hjo
                rcases ih l _ _ y (by rw [e]; simpa only [T.getS] using h) with ⟨e1, e2⟩ | ⟨e1, e2⟩
                · exact .inl ⟨(half k j hk0 hj0 (by omega) e1.symm).symm, e2⟩
                · exact .inr ⟨fun e => e1 (by rw [e]), e2⟩
            · simp only [hj] at h ⊢
              have hj0 : j = 0 := Nat.eq_of_beq_eq_true hj
              exact .inr ⟨fun e => hk0 (by omega), h⟩
      · simp only [hk] at h
        have hk0 : k = 0 := Nat.eq_of_beq_eq_true hk
        subst hk0
        simp only [T.getS] at h ⊢
        cases hj : Nat.beq j 0
        · simp only [hj] at h ⊢
          exact .inr ⟨fun e => by simp [e] at hj, h⟩
        · simp only [hj] at h ⊢
          exact .inl ⟨Nat.eq_of_beq_eq_true hj, h⟩
    intro t k j y h
    cases t with
    | nil =>
      rcases main none .nil .nil k j y (by simpa only [T.setFS] using h) with h1 | ⟨h1, h2⟩
      · exact .inl h1
      · exfalso
        simp only [T.getS] at h2
        cases hj : Nat.beq j 0 <;> simp only [hj] at h2
        · cases hjo : Nat.beq (j % 2) 1 <;> simp only [hjo] at h2 <;> cases h2
        · cases h2
    | node v l r => exact main v l r k j y (by simpa only [T.setFS] using h)
/-! the same, in few steps for the kernel -/
noncomputable def T.get {α : Type} (t : T α) : Nat → Option α :=
  T.rec (motive := fun _ => Nat → Option α) (fun _ => none)
    (fun v _ _ gl gr k => Bool.rec (motive := fun _ => Option α)
      (Bool.rec (motive := fun _ => Option α) (gr (Nat.div (Nat.sub k 1) 2)) (gl (Nat.div (Nat.sub k 1) 2)) (Nat.beq (Nat.mod k 2) 1))
      v (Nat.beq k 0)) t
noncomputable def T.setF {α : Type} (x : Option α) (f : Nat) : T α → Nat → T α :=
  Nat.rec (motive := fun _ => T α → Nat → T α) (fun _ _ => .nil)
    (fun _ ih t k => T.rec (motive := fun _ => T α)
      (Bool.rec (motive := fun _ => T α)
        (Bool.rec (motive := fun _ => T α)
          (T.rec (motive := fun _ => T α) .nil (fun a b c _ _ => .node none .nil (.node a b c)) (ih .nil (Nat.div (Nat.sub k 1) 2)))
          (T.rec (motive := fun _ => T α) .nil (fun a b c _ _ => .node none (.node a b c) .nil) (ih .nil (Nat.div (Nat.sub k 1) 2)))
          (Nat.beq (Nat.mod k 2) 1))
        (.node x .nil .nil) (Nat.beq k 0))
      (fun v l r _ _ => Bool.rec (motive := fun _ => T α)
        (Bool.rec (motive := fun _ => T α)
          (T.rec (motive := fun _ => T α) .nil (fun a b c _ _ => .node v l (.node a b c)) (ih r (Nat.div (Nat.sub k 1) 2)))
          (T.rec (motive := fun _ => T α) .nil (fun a b c _ _ => .node v (.node a b c) r) (ih l (Nat.div (Nat.sub k 1) 2)))
          (Nat.beq (Nat.mod k 2) 1))
        (.node x l r) (Nat.beq k 0)) t) f
theorem T.get_eq {α : Type} (t : T α) : ∀ k, t.get k = t.getS k := by
  induction t with
  | nil => intro k; rfl
  | node v l r ihl ihr =>
    intro k
    show (Bool.rec (motive := fun _ => Option α) (Bool.rec (motive := fun _ => Option α) (r.get (Nat.div (Nat.sub k 1) 2)) (l.get (Nat.div (Nat.sub k 1) 2)) (Nat.beq (Nat.mod k 2) 1)) v (Nat.beq k 0) : Option α) = _
    rw [ihl, ihr]
    simp only [T.getS]
    cases h0 : Nat.beq k 0
    · have e : Nat.mod k 2 = k % 2 := rfl
      rw [e]
      cases h1 : Nat.beq (k % 2) 1 <;> rfl
    · rfl
theorem T.setF_eq {α : Type} (x : Option α) : ∀ (f : Nat) (t : T α) (k : Nat), T.setF x f t k = T.setFS x f t k := by
  intro f
  induction f with
  | zero => intro t k; rfl
  | succ f ih =>
    intro t k
    have e : Nat.mod k 2 = k % 2 := rfl
    have e2 : Nat.div (Nat.sub k 1) 2 = (k - 1) / 2 := rfl
    cases t with
    | nil =>
      show (Bool.rec (motive := fun _ => T α) (Bool.rec (motive := fun _ => T α) (T.rec (motive := fun _ => T α) .nil (fun a b c _ _ => .node none .nil (.node a b c)) (T.setF x f .nil (Nat.div (Nat.sub k 1) 2))) (T.rec (motive := fun _ => T α) .nil (fun a b c _ _ => .node none (.node a b c) .nil) (T.setF x f .nil (Nat.div (Nat.sub k 1) 2))) (Nat.beq (Nat.mod k 2) 1)) (.node x .nil .nil) (Nat.beq k 0) : T α) = _
      rw [ih, e, e2]
      simp only [T.setFS]
      cases h0 : Nat.beq k 0
      · cases h1 : Nat.beq (k % 2) 1 <;> simp only [] <;> cases T.setFS x f .nil ((k - 1) / 2) <;> rfl
      · rfl
    | node v l r =>
      show (Bool.rec (motive := fun _ => T α) (Bool.rec (motive := fun _ => T α) (T.rec (motive := fun _ => T α) .nil (fun a b c _ _ => .node v l (.node a b c)) (T.setF x f r (Nat.div (Nat.sub k 1) 2))) (T.rec (motive := fun _ => T α) .nil (fun a b c _ _ => .node v (.node a b c) r) (T.setF x f l (Nat.div (Nat.sub k 1) 2))) (Nat.beq (Nat.mod k 2) 1)) (.node x l r) (Nat.beq k 0) : T α) = _
      rw [ih, ih, e, e2]
      simp only [T.setFS]
      cases h0 : Nat.beq k 0
      · cases h1 : Nat.beq (k % 2) 1
        · simp only []
          cases T.setFS x f r ((k - 1) / 2) <;> rfl
        · simp only []
          cases T.setFS x f l ((k - 1) / 2) <;> rfl
      · rfl
noncomputable def T.set {α : Type} (t : T α) (k : Nat) (x : α) : T α := T.setF (some x) 64 t k
noncomputable def T.del {α : Type} (t : T α) (k : Nat) : T α := T.setF none 64 t k
theorem T.get_nil {α : Type} (k : Nat) : (T.nil : T α).get k = none := rfl
theorem T.get_setF {α : Type} (x : Option α) (f : Nat) (t : T α) (k j : Nat) (y : α) (h : (T.setF x f t k).get j = some y) : (j = k ∧ x = some y) ∨ (j ≠ k ∧ t.get j = some y) := by
  rw [T.get_eq, T.setF_eq] at h
  rw [T.get_eq]
  exact T.getS_setFS x f t k j y h
theorem T.get_set {α : Type} {t : T α} {k j : Nat} {x y : α} (h : (t.set k x).get j = some y) : (j = k ∧ x = y) ∨ (j ≠ k ∧ t.get j = some y) := by
  rcases T.get_setF _ _ _ _ _ _ h with ⟨h1, h2⟩ | h
  · exact .inl ⟨h1, by simpa using h2⟩
  · exact .inr h
theorem T.get_del {α : Type} {t : T α} {k j : Nat} {y : α} (h : (t.del k).get j = some y) : j ≠ k ∧ t.get j = some y := by
  rcases T.get_setF _ _ _ _ _ _ h with ⟨_, h2⟩ | h
  · cases h2
  · exact h
end Go.Sx
