/- When two values are the same; the tree's other law. No condition. -/
import Derived.Test.YtpoianhfjgjajaaGreatSx17
set_option linter.unusedSimpArgs false
set_option linter.unusedVariables false
namespace Go.Sx
noncomputable section

/-! the other law of the tree -/
theorem T.setFS_node {α : Type} (x : Option α) : ∀ (f : Nat) (t : T α) (k : Nat), k + 1 < 2 ^ f → ∃ v l r, T.setFS x f t k = .node v l r := by
  intro f
  induction f with
  | zero => intro t k h; simp at h
  | succ f ih =>
    intro t k h
    have hp : 2 ^ (f + 1) = 2 * 2 ^ f := by rw [Nat.pow_succ, Nat.mul_comm]
    cases hk : Nat.beq k 0
    · have hk0 : k ≠ 0 := by intro e; simp [e] at hk
      have hs : (k - 1) / 2 + 1 < 2 ^ f := by omega
      cases t with
      | nil =>
        obtain ⟨v, l, r, e⟩ := ih .nil _ hs
        cases ho : Nat.beq (k % 2) 1 <;> simp [T.setFS, hk, ho, e]
      | node v l r =>
        obtain ⟨v1, l1, r1, e1⟩ := ih l _ hs
        obtain ⟨v2, l2, r2, e2⟩ := ih r _ hs
        cases ho : Nat.beq (k % 2) 1 <;> simp [T.setFS, hk, ho, e1, e2]
    · cases t <;> simp [T.setFS, hk]
theorem T.getS_setFS_ne {α : Type} (x : Option α) : ∀ (f : Nat) (t : T α) (k j : Nat), k + 1 < 2 ^ f → j ≠ k → (T.setFS x f t k).getS j = t.getS j := by
  intro f
  induction f with
  | zero => intro t k j h; simp at h
  | succ f ih =>
    intro t k j h hj
    have hp : 2 ^ (f + 1) = 2 * 2 ^ f := by rw [Nat.pow_succ, Nat.mul_comm]
    have hget0 : ∀ j, (T.nil : T α).getS j = none := fun _ => rfl
    cases hk : Nat.beq k 0
    · have hk0 : k ≠ 0 := by intro e; simp [e] at hk
      have hs : (k - 1) / 2 + 1 < 2 ^ f := by omega
      have sub : ∀ (u : T α), j ≠ 0 → j % 2 = k % 2 → (T.setFS x f u ((k - 1) / 2)).getS ((j - 1) / 2) = u.getS ((j - 1) / 2) := fun u h0 hm => ih u _ _ hs (by omega)
      cases t with
      | nil =>
        obtain ⟨v1, l1, r1, e1⟩ := T.setFS_node x f .nil _ hs
        have sub' := sub .nil
        rw [e1] at sub'
        cases ho : Nat.beq (k % 2) 1
        · have ho' : k % 2 ≠ 1 := by intro e; simp [e] at ho
          simp only [T.setFS, hk, ho, e1, T.getS]
          cases hj0 : Nat.beq j 0
          · have hj0' : j ≠ 0 := by intro e; simp [e] at hj0
            cases hjo : Nat.beq (j % 2) 1
            · have hjo' : j % 2 ≠ 1 := by intro e; simp [e] at hjo
              simp only []
              have := sub' hj0' (by omega)
              simpa only [T.getS] using this
            · rfl
          · rfl
        · have ho' : k % 2 = 1 := Nat.eq_of_beq_eq_true ho
          simp only [T.setFS, hk, ho, e1, T.getS]
          cases hj0 : Nat.beq j 0
          · have hj0' : j ≠ 0 := by intro e; simp [e] at hj0
            cases hjo : Nat.beq (j % 2) 1
            · rfl
            · have hjo' : j % 2 = 1 := Nat.eq_of_beq_eq_true hjo
              simp only []
              have := sub' hj0' (by omega)
              simpa only [T.getS] using this
          · rfl
      | node v l r =>
        cases ho : Nat.beq (k % 2) 1
        · have ho' : k % 2 ≠ 1 := by intro e; simp [e] at ho
          obtain ⟨v1, l1, r1, e1⟩ := T.setFS_node x f r _ hs
          have sub' := sub r
          rw [e1] at sub'
          simp only [T.setFS, hk, ho, e1, T.getS]
          cases hj0 : Nat.beq j 0
          · have hj0' : j ≠ 0 := by intro e; simp [e] at hj0
            cases hjo : Nat.beq (j % 2) 1
            · have hjo' : j % 2 ≠ 1 := by intro e; simp [e] at hjo
              simp only []
              have := sub' hj0' (by omega)
              simpa only [T.getS] using this
            · rfl
          · rfl
        · have ho' : k % 2 = 1 := Nat.eq_of_beq_eq_true ho
          obtain ⟨v1, l1, r1, e1⟩ := T.setFS_node x f l _ hs
          have sub' := sub l
          rw [e1] at sub'
          simp only [T.setFS, hk, ho, e1, T.getS]
          cases hj0 : Nat.beq j 0
          · have hj0' : j ≠ 0 := by intro e; simp [e] at hj0
            cases hjo : Nat.beq (j % 2) 1
            · rfl
            · have hjo' : j % 2 = 1 := Nat.eq_of_beq_eq_true hjo
              simp only []
              have := sub' hj0' (by omega)
              simpa only [T.getS] using this
          · rfl
    · have hk0 : k = 0 := Nat.eq_of_beq_eq_true hk
      subst hk0
      have hj0 : Nat.beq j 0 = false := by
        cases h0 : Nat.beq j 0
        · rfl
        · exact absurd (Nat.eq_of_beq_eq_true h0) hj
      cases t <;> simp only [T.setFS, T.getS, hj0]
      cases Nat.beq (j % 2) 1 <;> rfl
theorem T.get_set_ne {α : Type} {t : T α} {k j : Nat} {x : α} (hk : k < 4611686018427387904) (hj : j ≠ k) : (t.set k x).get j = t.get j := by
  have h : (2 : Nat) ^ 64 = 18446744073709551616 := by decide
  have e := T.getS_setFS_ne (some x) 64 t k j (by omega) hj
  rw [← T.setF_eq, ← T.get_eq, ← T.get_eq] at e
  exact e
theorem T.getS_setFS_same {α : Type} (x : Option α) : ∀ (f : Nat) (t : T α) (k : Nat), k + 1 < 2 ^ f → (T.setFS x f t k).getS k = x := by
  intro f
  induction f with
  | zero => intro t k h; simp at h
  | succ f ih =>
    intro t k h
    have hp : 2 ^ (f + 1) = 2 * 2 ^ f := by rw [Nat.pow_succ, Nat.mul_comm]
    cases hk : Nat.beq k 0
    · have hk0 : k ≠ 0 := by intro e; simp [e] at hk
      have hs : (k - 1) / 2 + 1 < 2 ^ f := by omega
      cases t with
      | nil =>
        have q := ih .nil _ hs
        obtain ⟨v1, l1, r1, e1⟩ := T.setFS_node x f .nil _ hs
        rw [e1] at q
        cases ho : Nat.beq (k % 2) 1 <;> simp only [T.setFS, hk, ho, e1, T.getS] <;> simpa only [T.getS] using q
      | node v l r =>
        have q1 := ih l _ hs
        have q2 := ih r _ hs
        obtain ⟨v1, l1, r1, e1⟩ := T.setFS_node x f l _ hs
        obtain ⟨v2, l2, r2, e2⟩ := T.setFS_node x f r _ hs
        rw [e1] at q1
        rw [e2] at q2
        cases ho : Nat.beq (k % 2) 1 <;> simp only [T.setFS, hk, ho, e1, e2, T.getS]
        · simpa only [T.getS] using q2
        · simpa only [T.getS] using q1
    · cases t <;> simp only [T.setFS, hk, T.getS]
theorem T.get_set_same {α : Type} {t : T α} {k : Nat} {x : α} (hk : k < 4611686018427387904) : (t.set k x).get k = some x := by
  have h : (2 : Nat) ^ 64 = 18446744073709551616 := by decide
  have e := T.getS_setFS_same (some x) 64 t k (by omega)
  rw [← T.setF_eq, ← T.get_eq] at e
  exact e

/-! the same value -/
theorem and_split {a b : Bool} (h : (a && b) = true) : a = true ∧ b = true := by
  cases a <;> cases b <;> simp at h ⊢
def ieList : List IE → List IE → Bool
  | [], [] => true
  | a :: l, b :: m =>
    match a.eq b with
    | true => ieList l m
    | false => false
  | _, _ => false
theorem ieList_eq : ∀ {l m : List IE}, ieList l m = true → l = m := by
  intro l
  induction l with
  | nil => intro m h; cases m with
    | nil => rfl
    | cons b m => cases h
  | cons a l ih =>
    intro m h
    cases m with
    | nil => cases h
    | cons b m =>
      simp only [ieList] at h
      split at h
      · rename_i e
        rw [IE.eq_eq e, ih h]
      · cases h
def fnSame : Fn → Fn → Bool
  | .func a, .func b => Nat.beq a b
  | .method a, .method b => a == b
  | _, _ => false
theorem fnSame_eq {a b : Fn} (h : fnSame a b = true) : a = b := by
  unfold fnSame at h
  split at h
  · rw [Nat.eq_of_beq_eq_true h]
  · rw [eq_of_beq h]
  · cases h
def posSame : Option (Nat × Nat) → Option (Nat × Nat) → Bool
  | none, none => true
  | some (a, b), some (c, d) => Nat.beq a c && Nat.beq b d
  | _, _ => false
theorem posSame_eq {a b : Option (Nat × Nat)} (h : posSame a b = true) : a = b := by
  unfold posSame at h
  split at h
  · rfl
  · obtain ⟨h1, h2⟩ := and_split h
    rw [Nat.eq_of_beq_eq_true h1, Nat.eq_of_beq_eq_true h2]
  · cases h
mutual
def AVal.same : AVal → AVal → Bool
  | .bool a, .bool b => a.same b
  | .int k a, .int j b => kindEq k j && a.eq b
  | .str a, .str b => ieList a b
  | .ptr a, .ptr b => posSame a b
  | .slice a l c g, .slice b l' c' g' => posSame a b && (Nat.beq l l' && (Nat.beq c c' && Nat.beq g g'))
  | .map none, .map none => true
  | .map (some a), .map (some b) => Nat.beq a b
  | .func a l m, .func b l' m' => fnSame a b && (sameList l l' && sameList m m')
  | .nilFunc, .nilFunc => true
  | .iface t a, .iface u b => Nat.beq t u && a.same b
  | .nilIface, .nilIface => true
  | .agg l, .agg m => sameList l m
  | .tuple l, .tuple m => sameList l m
  | .ptrE i a s c, .ptrE j b t d => Nat.beq i j && (a.eq b && (Nat.beq s t && Nat.beq c d))
  | .sliceS i a b s nn, .sliceS j c d t nn' => Nat.beq i j && (a.eq c && (b.eq d && (Nat.beq s t && (nn == nn'))))
  | .strS a b, .strS c d => a.eq c && b.eq d
  | .sliceA i a s, .sliceA j b t => Nat.beq i j && (a.eq b && Nat.beq s t)
  | _, _ => false
def sameList : List AVal → List AVal → Bool
  | [], [] => true
  | a :: l, b :: m =>
    match a.same b with
    | true => sameList l m
    | false => false
  | _, _ => false
end
mutual
theorem AVal.same_eq : ∀ {a b : AVal}, a.same b = true → a = b := by
  intro a b h
  cases a with
  | bool a => cases b <;> simp only [AVal.same] at h <;> first | (cases h; done) | rw [BE.same_eq h]
  | int k a => cases b <;> simp only [AVal.same] at h <;> first | (cases h; done) | (obtain ⟨h1, h2⟩ := and_split h; rw [kindEq_eq h1, IE.eq_eq h2])
  | str a => cases b <;> simp only [AVal.same] at h <;> first | (cases h; done) | rw [ieList_eq h]
  | ptr a => cases b <;> simp only [AVal.same] at h <;> first | (cases h; done) | rw [posSame_eq h]
  | slice a l c g => cases b <;> simp only [AVal.same] at h <;> first | (cases h; done) | (obtain ⟨h1, h2⟩ := and_split h; obtain ⟨h2, h3⟩ := and_split h2; obtain ⟨h3, h4⟩ := and_split h3; rw [posSame_eq h1, Nat.eq_of_beq_eq_true h2, Nat.eq_of_beq_eq_true h3, Nat.eq_of_beq_eq_true h4])
  | map a =>
    cases b with
    | map b => cases a <;> cases b <;> simp only [AVal.same] at h <;> first | rfl | (cases h; done) | rw [Nat.eq_of_beq_eq_true h]
    | _ => cases a <;> simp only [AVal.same] at h <;> cases h
  | func a l m => cases b <;> simp only [AVal.same] at h <;> first | (cases h; done) | (obtain ⟨h1, h2⟩ := and_split h; obtain ⟨h2, h3⟩ := and_split h2; rw [fnSame_eq h1, sameList_eq h2, sameList_eq h3])
  | nilFunc => cases b <;> simp only [AVal.same] at h <;> first | (cases h; done) | rfl
  | iface t a => cases b <;> simp only [AVal.same] at h <;> first | (cases h; done) | (obtain ⟨h1, h2⟩ := and_split h; rw [Nat.eq_of_beq_eq_true h1, AVal.same_eq h2])
  | nilIface => cases b <;> simp only [AVal.same] at h <;> first | (cases h; done) | rfl
  | agg l => cases b <;> simp only [AVal.same] at h <;> first | (cases h; done) | rw [sameList_eq h]
  | tuple l => cases b <;> simp only [AVal.same] at h <;> first | (cases h; done) | rw [sameList_eq h]
  | ptrE i a s c => cases b <;> simp only [AVal.same] at h <;> first | (cases h; done) | (obtain ⟨h1, h2⟩ := and_split h; obtain ⟨h2, h3⟩ := and_split h2; obtain ⟨h3, h4⟩ := and_split h3; rw [Nat.eq_of_beq_eq_true h1, IE.eq_eq h2, Nat.eq_of_beq_eq_true h3, Nat.eq_of_beq_eq_true h4])
  | sliceS i a c s nn => cases b <;> simp only [AVal.same] at h <;> first | (cases h; done) | (obtain ⟨h1, h2⟩ := and_split h; obtain ⟨h2, h3⟩ := and_split h2; obtain ⟨h3, h4⟩ := and_split h3; obtain ⟨h4, h5⟩ := and_split h4; rw [Nat.eq_of_beq_eq_true h1, IE.eq_eq h2, IE.eq_eq h3, Nat.eq_of_beq_eq_true h4, eq_of_beq h5])
  | strS a c => cases b <;> simp only [AVal.same] at h <;> first | (cases h; done) | (obtain ⟨h1, h2⟩ := and_split h; rw [IE.eq_eq h1, IE.eq_eq h2])
  | sliceA i a s => cases b <;> simp only [AVal.same] at h <;> first | (cases h; done) | (obtain ⟨h1, h2⟩ := and_split h; obtain ⟨h2, h3⟩ := and_split h2; rw [Nat.eq_of_beq_eq_true h1, IE.eq_eq h2, Nat.eq_of_beq_eq_true h3])
theorem sameList_eq : ∀ {l m : List AVal}, sameList l m = true → l = m := by
  intro l m h
  cases l with
  | nil => cases m <;> simp only [sameList] at h <;> first | (cases h; done) | rfl
  | cons a l =>
    cases m with
    | nil => simp only [sameList] at h; cases h
    | cons b m =>
      simp only [sameList] at h
      split at h
      · rename_i e
        rw [AVal.same_eq e, sameList_eq h]
      · cases h
end
def optSame : Option AVal → Option AVal → Bool
  | none, none => true
  | some a, some b => a.same b
  | _, _ => false
theorem optSame_eq {a b : Option AVal} (h : optSame a b = true) : a = b := by
  unfold optSame at h
  split at h
  · rfl
  · rw [AVal.same_eq h]
  · cases h
def T.same : T AVal → T AVal → Bool
  | .nil, .nil => true
  | .node a l r, .node b l' r' => optSame a b && (l.same l' && r.same r')
  | _, _ => false
theorem T.same_eq : ∀ {t u : T AVal}, t.same u = true → t = u := by
  intro t
  induction t with
  | nil => intro u h; cases u <;> simp only [T.same] at h <;> first | rfl | (cases h; done)
  | node v l r ihl ihr =>
    intro u h
    cases u <;> simp only [T.same] at h
    · cases h
    · obtain ⟨h1, h2⟩ := and_split h
      obtain ⟨h2, h3⟩ := and_split h2
      rw [optSame_eq h1, ihl h2, ihr h3]
def bEq : Bool → Bool → Bool
  | true, true => true
  | false, false => true
  | _, _ => false
def AObj.same : AObj → AObj → Bool
  | .cells c e o t, .cells c' e' o' t' => c.same c' && (Nat.beq e e' && (bEq o o' && Nat.beq t t'))
  | .arr ks c n o, .arr ks' c' n' o' => kindsSame ks ks' && (c.eq c' && (n.eq n' && bEq o o'))
  | .ghost k vs c, .ghost k' vs' c' => Nat.beq k k' && (ieList vs vs' && c.same c')
  | .win i s c e o, .win i' s' c' e' o' => i.eq i' && (Nat.beq s s' && (c.same c' && (Nat.beq e e' && bEq o o')))
  | _, _ => false
theorem bEq_eq {a b : Bool} (h : bEq a b = true) : a = b := by cases a <;> cases b <;> simp [bEq] at h ⊢
theorem AObj.same_eq {a b : AObj} (h : a.same b = true) : a = b := by
  cases a with
  | map es => cases b <;> simp only [AObj.same] at h <;> cases h
  | ghost k vs c =>
    cases b <;> simp only [AObj.same] at h <;> first
      | (cases h; done)
      | (obtain ⟨h1, h2⟩ := and_split h
         obtain ⟨h2, h3⟩ := and_split h2
         rw [Nat.eq_of_beq_eq_true h1, ieList_eq h2, T.same_eq h3])
  | col s c k code m d n => cases b <;> simp only [AObj.same] at h <;> cases h
  | it0 => cases b <;> simp only [AObj.same] at h <;> cases h
  | win idx s c e o =>
    cases b <;> simp only [AObj.same] at h <;> first
      | (cases h; done)
      | (obtain ⟨h1, h2⟩ := and_split h
         obtain ⟨h2, h3⟩ := and_split h2
         obtain ⟨h3, h4⟩ := and_split h3
         obtain ⟨h4, h5⟩ := and_split h4
         rw [IE.eq_eq h1, Nat.eq_of_beq_eq_true h2, T.same_eq h3, Nat.eq_of_beq_eq_true h4, bEq_eq h5])
  | arr ks c n o =>
    cases b <;> simp only [AObj.same] at h <;> first
      | (cases h; done)
      | (obtain ⟨h1, h2⟩ := and_split h
         obtain ⟨h2, h3⟩ := and_split h2
         obtain ⟨h3, h4⟩ := and_split h3
         rw [kindsSame_eq h1, IE.eq_eq h2, IE.eq_eq h3, bEq_eq h4])
  | cells c e o t =>
    cases b <;> simp only [AObj.same] at h <;> first
      | (cases h; done)
      | (obtain ⟨h1, h2⟩ := and_split h
         obtain ⟨h2, h3⟩ := and_split h2
         obtain ⟨h3, h4⟩ := and_split h3
         rw [T.same_eq h1, Nat.eq_of_beq_eq_true h2, bEq_eq h3, Nat.eq_of_beq_eq_true h4])
end
end Go.Sx
