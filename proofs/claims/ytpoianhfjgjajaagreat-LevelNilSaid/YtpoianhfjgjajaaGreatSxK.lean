/- Contracts shown by runs: what a run ends with against what the contract says, pair by pair. No condition. -/
import Derived.Test.YtpoianhfjgjajaaGreatSxD
set_option linter.unusedSimpArgs false
set_option linter.unusedVariables false
namespace Go.Sx
open Go.RowKit (Below)
noncomputable section

abbrev Prs := List (IE × IE)
def Prs.hold (ρ : Env) (l : Prs) : Prop := ∀ p ∈ l, p.1.ev ρ = p.2.ev ρ
theorem Prs.hold_app {ρ : Env} {l m : Prs} (h : (l ++ m).hold ρ) : l.hold ρ ∧ m.hold ρ := ⟨fun p hp => h p (by simp [hp]), fun p hp => h p (by simp [hp])⟩
def both : Option Prs → Option Prs → Option Prs
  | some a, some b => some (a ++ b)
  | _, _ => none
theorem both_some {a b : Option Prs} {l : Prs} (h : both a b = some l) : ∃ x y, a = some x ∧ b = some y ∧ l = x ++ y := by
  unfold both at h
  split at h
  · cases h; exact ⟨_, _, rfl, rfl, rfl⟩
  · cases h
mutual
def AVal.pairs : AVal → AVal → Option Prs
  | .int k a, v =>
    match v with
    | .int j b =>
      match kindEq k j with
      | true => some [(a, b)]
      | false => none
    | _ => none
  | .bool x, v =>
    match v with
    | .bool y =>
      match x.num, y.num with
      | some a, some b => some [(a, b)]
      | _, _ => none
    | _ => none
  | .agg l, v =>
    match v with
    | .agg m => pairsL l m
    | _ => none
  | .tuple l, v =>
    match v with
    | .tuple m => pairsL l m
    | _ => none
  | .iface t a, v =>
    match v with
    | .iface u b =>
      match Nat.beq t u with
      | true => a.pairs b
      | false => none
    | _ => none
  | .sliceS i a b s nn, v =>
    match v with
    | .sliceS j c d t nn' =>
      match Nat.beq i j && (Nat.beq s t && bEq nn nn') with
      | true => some [(a, c), (b, d)]
      | false => none
    | _ => none
  | .sliceA i a s, v =>
    match v with
    | .sliceA j b t =>
      match Nat.beq i j && Nat.beq s t with
      | true => some [(a, b)]
      | false => none
    | .slice none 0 0 0 => some [(a, .lit 0)]
    | _ => none
  | .strS a b, v =>
    match v with
    | .strS c d => some [(a, c), (b, d)]
    | _ => none
  | .ptrE i a s c, v =>
    match v with
    | .ptrE j b t d =>
      match Nat.beq i j && (Nat.beq s t && Nat.beq c d) with
      | true => some [(a, b)]
      | false => none
    | _ => none
  | x, v =>
    match x.same v with
    | true => some []
    | false => none
def pairsL : List AVal → List AVal → Option Prs
  | [], m =>
    match m with
    | [] => some []
    | _ => none
  | a :: l, m =>
    match m with
    | [] => none
    | b :: m => both (a.pairs b) (pairsL l m)
end
theorem pairsL_get : ∀ {l m : List AVal} {q : Prs}, pairsL l m = some q → l.length = m.length ∧ ∀ (i : Nat) (a : AVal), l[i]? = some a → ∃ b r, m[i]? = some b ∧ a.pairs b = some r ∧ ∀ p ∈ r, p ∈ q := by
  intro l
  induction l with
  | nil =>
    intro m q h
    cases m with
    | nil => exact ⟨rfl, fun i a ha => by simp at ha⟩
    | cons b m => simp [pairsL] at h
  | cons x l ih =>
    intro m q h
    cases m with
    | nil => simp [pairsL] at h
    | cons b m =>
      obtain ⟨r1, r2, h1, h2, rfl⟩ := both_some (show both (x.pairs b) (pairsL l m) = some q from h)
      obtain ⟨q1, q2⟩ := ih h2
      refine ⟨by simp [q1], fun i a ha => ?_⟩
      cases i with
      | zero => simp at ha; subst ha; exact ⟨b, r1, rfl, h1, fun p hp => by simp [hp]⟩
      | succ i =>
        obtain ⟨b', r, p1, p2, p3⟩ := q2 i a (by simpa using ha)
        exact ⟨b', r, by simpa using p1, p2, fun p hp => by simp [p3 p hp]⟩
theorem AVal.pairs_ok {ρ : Env} {f : Ren} {b : AVal} {v : Value} (h : VRel ρ f b v) : ∀ {a : AVal} {l : Prs}, a.pairs b = some l → l.hold ρ → VRel ρ f a v := by
  have lists : ∀ {m : List AVal} {vs : Array Value}, vs.size = m.length → (∀ (i : Nat) (b : AVal) (v : Value), m[i]? = some b → vs[i]? = some v → ∀ {a : AVal} {l : Prs}, a.pairs b = some l → l.hold ρ → VRel ρ f a v) → ∀ {l : List AVal} {q : Prs}, pairsL l m = some q → q.hold ρ →
      vs.size = l.length ∧ ∀ (i : Nat) (a : AVal) (v : Value), l[i]? = some a → vs[i]? = some v → VRel ρ f a v := by
    intro m vs hs ih l q hl hq
    obtain ⟨h1, h2⟩ := pairsL_get hl
    refine ⟨by omega, fun i a v ha hv => ?_⟩
    obtain ⟨b, r, hb, hc, hr⟩ := h2 i a ha
    exact ih i b v hb hv hc fun p hp => hq p (hr p hp)
  have other : ∀ {b : AVal} {v : Value}, VRel ρ f b v → ∀ {a : AVal} {l : Prs}, (match a.same b with | true => some ([] : Prs) | false => none) = some l → VRel ρ f a v := by
    intro b v hb a l h
    split at h
    · rename_i hs
      rw [AVal.same_eq hs]
      exact hb
    · cases h
  induction h with
  | bool b =>
    intro a l h hl
    cases a <;> simp only [AVal.pairs] at h <;> first | exact other (.bool b) h | (cases h; done) | skip
    rename_i x
    split at h
    · rename_i p q hp hq
      cases h
      have h1 := BE.num_ev (ρ := ρ) hp
      have h2 := BE.num_ev (ρ := ρ) hq
      have h3 : p.ev ρ = q.ev ρ := hl (p, q) (by simp)
      rw [h1, h2] at h3
      have : x.ev ρ = b.ev ρ := by cases hx : x.ev ρ <;> cases hb : b.ev ρ <;> simp [hx, hb] at h3 ⊢
      rw [← this]
      exact .bool _
    · cases h
  | int k e =>
    intro a l h hl
    cases a <;> simp only [AVal.pairs] at h <;> first | exact other (.int k e) h | (cases h; done) | skip
    split at h
    · rename_i hk
      cases h
      have e := hl _ (List.mem_cons_self ..)
      simp only at e
      rw [← kindEq_eq hk, ← e]
      exact .int _ _
    · cases h
  | str hs => intro a l h hl; cases a <;> simp only [AVal.pairs] at h <;> first | exact other (.str hs) h | (cases h; done)
  | nilPtr => intro a l h hl; cases a <;> simp only [AVal.pairs] at h <;> first | exact other .nilPtr h | (cases h; done)
  | ptr hh => intro a l h hl; cases a <;> simp only [AVal.pairs] at h <;> first | exact other (.ptr hh) h | (cases h; done)
  | nilSlice =>
    intro a l h hl
    cases a <;> simp only [AVal.pairs] at h <;> first | exact other .nilSlice h | (cases h; done) | skip
    cases h
    exact .sliceN (hl _ (List.mem_cons_self ..))
  | slice hh => intro a l h hl; cases a <;> simp only [AVal.pairs] at h <;> first | exact other (.slice hh) h | (cases h; done)
  | sliceG hh hn hc hs => intro a l h hl; cases a <;> simp only [AVal.pairs] at h <;> first | exact other (.sliceG hh hn hc hs) h | (cases h; done)
  | sliceE hh hg hs => intro a l h hl; cases a <;> simp only [AVal.pairs] at h <;> first | exact other (.sliceE hh hg hs) h | (cases h; done)
  | nilMap => intro a l h hl; cases a <;> simp only [AVal.pairs] at h <;> first | exact other .nilMap h | (cases h; done)
  | map hh => intro a l h hl; cases a <;> simp only [AVal.pairs] at h <;> first | exact other (.map hh) h | (cases h; done)
  | func ha hb ha' hb' iha ihb => intro a l h hl; cases a <;> simp only [AVal.pairs] at h <;> first | exact other (.func ha hb ha' hb') h | (cases h; done)
  | nilFunc => intro a l h hl; cases a <;> simp only [AVal.pairs] at h <;> first | exact other .nilFunc h | (cases h; done)
  | iface hh ih =>
    intro a l h hl
    cases a <;> simp only [AVal.pairs] at h <;> first | exact other (.iface hh) h | (cases h; done) | skip
    split at h
    · rename_i hk
      rw [Nat.eq_of_beq_eq_true hk]
      exact .iface (ih h hl)
    · cases h
  | nilIface => intro a l h hl; cases a <;> simp only [AVal.pairs] at h <;> first | exact other .nilIface h | (cases h; done)
  | agg ha ha' ih =>
    intro a l h hl
    cases a <;> simp only [AVal.pairs] at h <;> first | exact other (.agg ha ha') h | (cases h; done) | skip
    have p := lists ha ih h hl
    exact .agg p.1 p.2
  | tuple ha ha' ih =>
    intro a l h hl
    cases a <;> simp only [AVal.pairs] at h <;> first | exact other (.tuple ha ha') h | (cases h; done) | skip
    have p := lists ha ih h hl
    exact .tuple p.1 p.2
  | ptrE hh h0 =>
    intro a l h hl
    cases a <;> simp only [AVal.pairs] at h <;> first | exact other (.ptrE hh h0) h | (cases h; done) | skip
    split at h
    · rename_i hk
      cases h
      obtain ⟨k1, k2⟩ := and_split hk
      obtain ⟨k2, k3⟩ := and_split k2
      have e := hl _ (List.mem_cons_self ..)
      simp only at e
      rw [Nat.eq_of_beq_eq_true k1, Nat.eq_of_beq_eq_true k2, Nat.eq_of_beq_eq_true k3, ← e]
      exact .ptrE hh (by rw [e]; exact h0)
    · cases h
  | sliceS hh h0 h1 h2 =>
    intro a l h hl
    cases a <;> simp only [AVal.pairs] at h <;> first | exact other (.sliceS hh h0 h1 h2) h | (cases h; done) | skip
    split at h
    · rename_i hk
      cases h
      obtain ⟨k1, k2⟩ := and_split hk
      obtain ⟨k2, k3⟩ := and_split k2
      have e1 := hl _ (List.mem_cons_self ..)
      have e2 := hl _ (List.mem_cons_of_mem _ (List.mem_cons_self ..))
      simp only at e1 e2
      rw [Nat.eq_of_beq_eq_true k1, Nat.eq_of_beq_eq_true k2, bEq_eq k3, ← e1, ← e2]
      exact .sliceS hh (by rw [e1]; exact h0) (by rw [e2]; exact h1) (by rw [e2]; exact h2)
    · cases h
  | sliceZ h1 h2 =>
    intro a l h hl
    cases a <;> simp only [AVal.pairs] at h <;> first | exact other (.sliceZ h1 h2) h | (cases h; done) | skip
    split at h
    · rename_i hk
      cases h
      obtain ⟨k1, k2⟩ := and_split hk
      obtain ⟨k2, k3⟩ := and_split k2
      have e2 := hl _ (List.mem_cons_of_mem _ (List.mem_cons_self ..))
      simp only at e2
      rw [Nat.eq_of_beq_eq_true k1, Nat.eq_of_beq_eq_true k2, bEq_eq k3]
      exact .sliceZ (by rw [e2]; exact h1) h2
    · cases h
  | sliceA hh h0 h1 h2 =>
    intro a l h hl
    cases a <;> simp only [AVal.pairs] at h <;> first | exact other (.sliceA hh h0 h1 h2) h | (cases h; done) | skip
    split at h
    · rename_i hk
      cases h
      obtain ⟨k1, k2⟩ := and_split hk
      have e1 := hl _ (List.mem_cons_self ..)
      simp only at e1
      rw [Nat.eq_of_beq_eq_true k1, Nat.eq_of_beq_eq_true k2, ← e1]
      exact .sliceA hh (by rw [e1]; exact h0) (by rw [e1]; exact h1) h2
    · cases h
  | sliceN h1 =>
    intro a l h hl
    cases a <;> simp only [AVal.pairs] at h <;> first | exact other (.sliceN h1) h | (cases h; done) | skip
    split at h
    · rename_i hk
      cases h
      have e1 := hl _ (List.mem_cons_self ..)
      simp only at e1
      exact .sliceN (by rw [e1]; exact h1)
    · cases h
  | strS h1 h2 =>
    intro a l h hl
    cases a <;> simp only [AVal.pairs] at h <;> first | exact other (.strS h1 h2) h | (cases h; done) | skip
    cases h
    have e1 := hl _ (List.mem_cons_self ..)
    have e2 := hl _ (List.mem_cons_of_mem _ (List.mem_cons_self ..))
    simp only at e1 e2
    exact .strS (by rw [e2]; exact h1) fun j b hb => by rw [e1]; exact h2 j b hb

/-! trees and objects -/
def T.gather {α : Type} (g : Nat → α → Option Prs) : T α → Nat → Nat → Option Prs
  | .nil, _, _ => some []
  | .node v l r, a, b => both (match v with
    | none => some []
    | some x => g b x) (both (T.gather g l (2 * a) (a + b)) (T.gather g r (2 * a) (2 * a + b)))
theorem T.gather_get {α : Type} {g : Nat → α → Option Prs} : ∀ (t : T α) (a b : Nat) (q : Prs), T.gather g t a b = some q → ∀ (k : Nat) (x : α), t.getS k = some x → ∃ r, g (a * k + b) x = some r ∧ ∀ p ∈ r, p ∈ q := by
  intro t
  induction t with
  | nil => intro a b q _ k x h; simp [T.getS] at h
  | node v l r ihl ihr =>
    intro a b q h k x hx
    obtain ⟨q1, q23, h1, h23, rfl⟩ := both_some (show both _ _ = some q from h)
    obtain ⟨q2, q3, h2, h3, rfl⟩ := both_some h23
    simp only [T.getS] at hx
    cases hk : Nat.beq k 0
    · simp only [hk] at hx
      have hk0 : k ≠ 0 := by intro e; simp [e] at hk
      cases ho : Nat.beq (k % 2) 1
      · simp only [ho] at hx
        have ho' : k % 2 ≠ 1 := by intro e; simp [e] at ho
        obtain ⟨r', p1, p2⟩ := ihr _ _ _ h3 _ _ hx
        have e : 2 * a * ((k - 1) / 2) + (2 * a + b) = a * k + b := by
          have e1 : k = 2 * ((k - 1) / 2) + 2 := by omega
          generalize (k - 1) / 2 = m at *
          subst e1
          rw [Nat.mul_add, ← Nat.mul_assoc, Nat.mul_comm a 2]
          omega
        rw [e] at p1
        exact ⟨r', p1, fun p hp => by simp [p2 p hp]⟩
      · simp only [ho] at hx
        have ho' : k % 2 = 1 := Nat.eq_of_beq_eq_true ho
        obtain ⟨r', p1, p2⟩ := ihl _ _ _ h2 _ _ hx
        have e : 2 * a * ((k - 1) / 2) + (a + b) = a * k + b := by
          have e1 : k = 2 * ((k - 1) / 2) + 1 := by omega
          generalize (k - 1) / 2 = m at *
          subst e1
          rw [Nat.mul_add, ← Nat.mul_assoc, Nat.mul_comm a 2]
          omega
        rw [e] at p1
        exact ⟨r', p1, fun p hp => by simp [p2 p hp]⟩
    · simp only [hk] at hx
      have hk0 : k = 0 := Nat.eq_of_beq_eq_true hk
      subst hk0 hx
      exact ⟨q1, by simpa using h1, fun p hp => by simp [hp]⟩
theorem T.gather_all {α : Type} {g : Nat → α → Option Prs} {t : T α} {q : Prs} (h : T.gather g t 1 0 = some q) {k : Nat} {x : α} (hx : t.get k = some x) : ∃ r, g k x = some r ∧ ∀ p ∈ r, p ∈ q := by
  have := T.gather_get t 1 0 q h k x (by rw [← T.get_eq]; exact hx)
  simpa using this
def cellPrs (c : T AVal) (k : Nat) (v : AVal) : Option Prs :=
  match c.get k with
  | some u => v.pairs u
  | none => none
def prsIE : List IE → List IE → Option Prs
  | [], m =>
    match m with
    | [] => some []
    | _ => none
  | a :: l, m =>
    match m with
    | [] => none
    | b :: m => both (some [(a, b)]) (prsIE l m)
theorem prsIE_ev {ρ : Env} : ∀ {l m : List IE} {q : Prs}, prsIE l m = some q → q.hold ρ → l.map (·.ev ρ) = m.map (·.ev ρ) := by
  intro l
  induction l with
  | nil =>
    intro m q h _
    cases m with
    | nil => rfl
    | cons b m => simp [prsIE] at h
  | cons a l ih =>
    intro m q h hq
    cases m with
    | nil => simp [prsIE] at h
    | cons b m =>
      obtain ⟨r1, r2, h1, h2, rfl⟩ := both_some (show both _ _ = some q from h)
      cases h1
      obtain ⟨k1, k2⟩ := Prs.hold_app hq
      simp only [List.map_cons, ih h2 k2, k1 (a, b) (by simp)]
def AObj.pairs : AObj → AObj → Option Prs
  | .cells c e o t, v =>
    match v with
    | .cells c' e' o' t' =>
      match Nat.beq e e' && (bEq o o' && Nat.beq t t') with
      | true => T.gather (cellPrs c') c 1 0
      | false => none
    | _ => none
  | .arr ks c n o, v =>
    match v with
    | .arr ks' c' n' o' =>
      match kindsSame ks ks' && bEq o o' with
      | true => some [(c, c'), (n, n')]
      | false => none
    | _ => none
  | .ghost k vs c, v =>
    match v with
    | .ghost k' vs' c' =>
      match Nat.beq k k' with
      | true => both (prsIE vs vs') (T.gather (cellPrs c') c 1 0)
      | false => none
    | _ => none
  | .map es, v =>
    match v with
    | .map es' =>
      match sameEs es es' with
      | true => some []
      | false => none
    | _ => none
  | .win i s c e o, v =>
    match v with
    | .win i' s' c' e' o' =>
      match Nat.beq s s' && (Nat.beq e e' && bEq o o') with
      | true => both (some [(i, i')]) (T.gather (cellPrs c') c 1 0)
      | false => none
    | _ => none
  | .col s c k code m d n, v =>
    match v with
    | .col s' c' k' code' m' d' n' =>
      match Nat.beq s s' && (Nat.beq c c' && (kindEq k k' && (Nat.beq m m' && Nat.beq d d'))) with
      | true => some [(code, code'), (n, n')]
      | false => none
    | _ => none
  | .it0, v =>
    match v with
    | .it0 => some []
    | _ => none
section
variable {ρ : Env} {f : Ren} {B : Nat → Prop} {w : World} {L : Loc}
theorem cellPrs_ok {c c' : T AVal} {q : Prs} (h : T.gather (cellPrs c') c 1 0 = some q) (hq : q.hold ρ) {k : Nat} {v : AVal} (hv : c.get k = some v) : ∃ u, c'.get k = some u ∧ ∀ x, VRel ρ f u x → VRel ρ f v x := by
  obtain ⟨r, h1, h2⟩ := T.gather_all h hv
  unfold cellPrs at h1
  split at h1
  · rename_i u hu
    exact ⟨u, hu, fun x hx => AVal.pairs_ok hx h1 fun p hp => hq p (h2 p hp)⟩
  · cases h1
theorem AObj.pairs_ok {o o' : AObj} {q : Prs} (h : o.pairs o' = some q) (hq : q.hold ρ) (ho : ORel ρ f B w L o') : ORel ρ f B w L o ∧ o.own = o'.own ∧ ∀ b, o.foot ρ w L b ↔ o'.foot ρ w L b := by
  cases o with
  | cells c e ow t =>
    cases o' <;> simp only [AObj.pairs] at h <;> first | (cases h; done) | skip
    split at h
    · rename_i hk
      obtain ⟨k1, k2⟩ := and_split hk
      obtain ⟨k2, k3⟩ := and_split k2
      have k1 := Nat.eq_of_beq_eq_true k1
      have k2 := bEq_eq k2
      have k3 := Nat.eq_of_beq_eq_true k3
      subst k1 k2 k3
      obtain ⟨cs, fr, q1, q2, q3, q4⟩ := ho
      refine ⟨⟨cs, fr, q1, q2, q3, fun j v hj => ?_⟩, rfl, fun _ => Iff.rfl⟩
      obtain ⟨u, hu, hk⟩ := cellPrs_ok (f := f) h hq hj
      obtain ⟨p1, v', p2, p3⟩ := q4 _ _ hu
      exact ⟨p1, v', p2, hk _ p3⟩
    · cases h
  | arr ks c n ow =>
    cases o' <;> simp only [AObj.pairs] at h <;> first | (cases h; done) | skip
    split at h
    · rename_i hk
      cases h
      obtain ⟨k1, k2⟩ := and_split hk
      have k1 := kindsSame_eq k1
      have k2 := bEq_eq k2
      subst k1 k2
      have e1 := hq _ (List.mem_cons_self ..)
      have e2 := hq _ (List.mem_cons_of_mem _ (List.mem_cons_self ..))
      simp only at e1 e2
      obtain ⟨cs, el, fr, q1, q2, q3, q4⟩ := ho
      refine ⟨⟨cs, el, fr, q1, q2, q3, fun j c k hj hk => ?_⟩, rfl, fun _ => Iff.rfl⟩
      rw [e2] at hj
      rw [e1]
      exact q4 j c k hj hk
    · cases h
  | ghost k vs c =>
    cases o' <;> simp only [AObj.pairs] at h <;> first | (cases h; done) | skip
    split at h
    · rename_i hk
      have k1 := Nat.eq_of_beq_eq_true hk
      subst k1
      obtain ⟨r1, r2, h1, h2, rfl⟩ := both_some h
      obtain ⟨m1, m2⟩ := Prs.hold_app hq
      have e1 := prsIE_ev h1 m1
      obtain ⟨⟨q0, q1⟩, qb, cs, el, fr, q2, q3, q4, q5⟩ := ho
      refine ⟨⟨⟨by rw [e1]; exact q0, q1⟩, qb, cs, el, fr, q2, q3, q4, fun j v hj => ?_⟩, rfl, fun _ => Iff.rfl⟩
      obtain ⟨u, hu, hk⟩ := cellPrs_ok (f := f) h2 m2 hj
      obtain ⟨p1, v', p2, p3⟩ := q5 _ _ hu
      exact ⟨p1, v', p2, hk _ p3⟩
    · cases h
  | map es =>
    cases o' <;> simp only [AObj.pairs] at h <;> first | (cases h; done) | skip
    split at h
    · rename_i hk
      rw [sameEs_eq hk]
      exact ⟨ho, rfl, fun _ => Iff.rfl⟩
    · cases h
  | it0 =>
    cases o' <;> simp only [AObj.pairs] at h <;> first | (cases h; done) | skip
    exact ⟨ho, rfl, fun _ => Iff.rfl⟩
  | col s c k code m d n =>
    cases o' <;> simp only [AObj.pairs] at h <;> first | (cases h; done) | skip
    split at h
    · rename_i hk
      cases h
      obtain ⟨k1, hk⟩ := and_split hk
      obtain ⟨k2, hk⟩ := and_split hk
      obtain ⟨k3, hk⟩ := and_split hk
      obtain ⟨k4, k5⟩ := and_split hk
      have k1 := Nat.eq_of_beq_eq_true k1
      have k2 := Nat.eq_of_beq_eq_true k2
      have k3 := kindEq_eq k3
      have k4 := Nat.eq_of_beq_eq_true k4
      have k5 := Nat.eq_of_beq_eq_true k5
      subst k1 k2 k3 k4 k5
      have e1 := hq _ (List.mem_cons_self ..)
      have e2 := hq _ (List.mem_cons_of_mem _ (List.mem_cons_self ..))
      simp only at e1 e2
      obtain ⟨cs, el, fr, q1, q2⟩ := ho
      refine ⟨⟨cs, el, fr, q1, fun j hj => ?_⟩, rfl, fun _ => Iff.rfl⟩
      rw [e2] at hj
      rw [e1]
      exact q2 j hj
    · cases h
  | win i s c e ow =>
    cases o' <;> simp only [AObj.pairs] at h <;> first | (cases h; done) | skip
    split at h
    · rename_i hk
      obtain ⟨k1, k2⟩ := and_split hk
      obtain ⟨k2, k3⟩ := and_split k2
      have k1 := Nat.eq_of_beq_eq_true k1
      have k2 := Nat.eq_of_beq_eq_true k2
      have k3 := bEq_eq k3
      subst k1 k2 k3
      obtain ⟨r1, r2, h1, h2, rfl⟩ := both_some h
      cases h1
      obtain ⟨m1, m2⟩ := Prs.hold_app hq
      have e1 := m1 _ (List.mem_cons_self ..)
      simp only at e1
      obtain ⟨cs, fr, q1, q2, q3, q0, q4⟩ := ho
      refine ⟨⟨cs, fr, q1, q2, q3, by rw [e1]; exact q0, fun j v hj => ?_⟩, rfl, fun _ => Iff.rfl⟩
      obtain ⟨u, hu, hk⟩ := cellPrs_ok (f := f) h2 m2 hj
      obtain ⟨v', p2, p3⟩ := q4 _ _ hu
      rw [e1]
      exact ⟨v', p2, hk _ p3⟩
    · cases h
end

/-! what a run ends with against a contract -/
/-- The run's number of a block of the contract. -/
def runB (n : Nat) (at' : List Nat) : Nat → Nat := fun i =>
  match Nat.blt i n with
  | true => i
  | false =>
    match at'[i - n]? with
    | some j => j
    | none => 0
def objsPrs (h : T AObj) (π : Nat → Nat) : Nat → List AObj → Option Prs
  | _, [] => some []
  | i, o :: os =>
    match o.dead with
    | true => objsPrs h π (i + 1) os
    | false =>
      match h.get (π i) with
      | some a => both ((putR .var π o).pairs (pickO o.own a)) (objsPrs h π (i + 1) os)
      | none => none
def deadAt (os' : List AObj) (j : Nat) : Bool :=
  match os'[j]? with
  | some o => o.dead
  | none => false
/-- New blocks: made by the run, or in the place of one of which nothing is said. -/
def atOk (n nx : Nat) (dd : Nat → Bool) : List Nat → Bool
  | [] => true
  | j :: l =>
    match Nat.blt j nx && (Nat.ble n j || dd j), memL j l with
    | true, false => atOk n nx dd l
    | _, _ => false
/-- The pairs that have to be equal. -/
def Con.ends (c : Con) (at' : List Nat) (s : ASt) : Option Prs :=
  match s.tm.get 0 with
  | none => none
  | some v =>
    match atOk c.os.length s.nx (deadAt c.os') at' && (Nat.beq (Nat.add c.os.length at'.length) c.os'.length && (withinList (Nat.blt · c.os'.length) [c.res] && objsIn (Nat.blt · c.os'.length) c.os')) with
    | true => both ((c.res.rep .var (runB c.os.length at')).pairs v) (objsPrs s.hp (runB c.os.length at') 0 c.os')
    | false => none
theorem objsPrs_get {h : T AObj} {π : Nat → Nat} : ∀ {os : List AObj} {i : Nat} {q : Prs}, objsPrs h π i os = some q → ∀ (k : Nat) (o : AObj), os[k]? = some o → o.dead = false → ∃ a r, h.get (π (i + k)) = some a ∧ (putR .var π o).pairs (pickO o.own a) = some r ∧ ∀ p ∈ r, p ∈ q := by
  intro os
  induction os with
  | nil => intro i q _ k o hk; simp at hk
  | cons x os ih =>
    intro i q h k o hk hd
    simp only [objsPrs] at h
    split at h
    · rename_i hx
      cases k with
      | zero => simp at hk; subst hk; rw [hx] at hd; cases hd
      | succ k =>
        obtain ⟨a', r', p1, p2, p3⟩ := ih h k o (by simpa using hk) hd
        exact ⟨a', r', by rw [show i + (k + 1) = i + 1 + k by omega]; exact p1, p2, p3⟩
    · split at h
      · rename_i a ha
        obtain ⟨r1, r2, e1, e2, rfl⟩ := both_some h
        cases k with
        | zero => simp at hk; subst hk; exact ⟨a, r1, ha, e1, fun p hp => List.mem_append_left _ hp⟩
        | succ k =>
          obtain ⟨a', r', p1, p2, p3⟩ := ih e2 k o (by simpa using hk) hd
          exact ⟨a', r', by rw [show i + (k + 1) = i + 1 + k by omega]; exact p1, p2, fun p hp => List.mem_append_right _ (p3 p hp)⟩
      · cases h
theorem atOk_get {n nx : Nat} {dd : Nat → Bool} : ∀ {l : List Nat}, atOk n nx dd l = true → (∀ (k j : Nat), l[k]? = some j → (n ≤ j ∨ dd j = true) ∧ j < nx) ∧ ∀ (k k' j : Nat), l[k]? = some j → l[k']? = some j → k = k' := by
  intro l
  induction l with
  | nil => intro _; exact ⟨fun k j h => by simp at h, fun k k' j h => by simp at h⟩
  | cons x l ih =>
    intro h
    simp only [atOk] at h
    split at h
    · rename_i h1 h2
      obtain ⟨r1, r2⟩ := ih h
      obtain ⟨h1a, h1b⟩ := and_split h1
      have hm := memL_ok h2
      have h1b : n ≤ x ∨ dd x = true := by
        cases hb : Nat.ble n x
        · rw [hb] at h1b
          exact .inr (by simpa using h1b)
        · exact .inl (Nat.le_of_ble_eq_true hb)
      refine ⟨fun k j hk => ?_, fun k k' j hk hk' => ?_⟩
      · cases k with
        | zero => simp at hk; subst hk; exact ⟨h1b, by simpa [Nat.blt_eq] using h1a⟩
        | succ k => exact r1 k j (by simpa using hk)
      · cases k with
        | zero =>
          cases k' with
          | zero => rfl
          | succ k' => simp at hk hk'; subst hk; exact absurd hk' (hm k')
        | succ k =>
          cases k' with
          | zero => simp at hk hk'; subst hk'; exact absurd hk (hm k)
          | succ k' => rw [r2 k k' j (by simpa using hk) (by simpa using hk')]
    · cases h
theorem rep_var (ρ : Env) : ρ.rep IE.var = ρ := rfl
/-- One outcome of a run. -/
def RGoes (R : RunR) (ρ : Env) (B : Nat → Prop) (W : World) (args : List AVal) (h : T AObj) (nx : Nat) (s : ASt) : Prop := nx ≤ s.nx ∧
  ∀ f w args', HRel ρ B W f h w → LRel ρ f args args' → Fresh f nx s.nx →
    R args' w fun v' w' => ∃ f', f.le f' ∧ Outside f f' nx s.nx ∧ HRel ρ B W f' s.hp w' ∧ ∀ v, s.tm.get 0 = some v → VRel ρ f' v v'
theorem CallGoes.toR {P : Program} {ρ : Env} {B : Nat → Prop} {W : World} {g : FuncId} {args : List AVal} {h : T AObj} {nx : Nat} {s : ASt} (k : CallGoes P ρ B W g args h nx s) : RGoes (callR P g) ρ B W args h nx s :=
  ⟨k.1, fun f w args' h1 h2 h3 => (k.2 f w args' h1 h2 h3).mono fun e w' ⟨v', f', e1, e2, e3, e4, e5⟩ => ⟨v', e1, f', e2, e3, e4, e5⟩⟩
/-- A run that ends as the contract says. -/
theorem Con.at_ends {R : RunR} (hR : RMono R) {ρ : Env} {c : Con} {s : ASt} {at' : List Nat} {q : Prs} (hgo : ∀ B W, RGoes R ρ B W c.args (treeOf c.os 0 .nil) c.os.length s) (hends : c.ends at' s = some q) (hq : q.hold ρ) : c.OkAt R ρ := by
  intro B W f w args' hr ha hn
  unfold Con.ends at hends
  split at hends
  · cases hends
  · rename_i v hv
    split at hends
    · rename_i hck
      obtain ⟨k1, hck⟩ := and_split hck
      obtain ⟨k2, hck⟩ := and_split hck
      obtain ⟨k3, k4⟩ := and_split hck
      have k2 := Nat.eq_of_beq_eq_true k2
      have k2 : c.os.length + at'.length = c.os'.length := k2
      obtain ⟨r1, r2, e1, e2, rfl⟩ := both_some hends
      obtain ⟨q1, q2⟩ := Prs.hold_app hq
      obtain ⟨a1, a2⟩ := atOk_get k1
      have hw : c.res.within (Nat.blt · c.os'.length) = true := (and_split k3).1
      generalize hπ : runB c.os.length at' = π at *
      have dd0 : ∀ i, deadAt c.os' i = true → ∃ o, c.os'[i]? = some o ∧ o.dead = true := fun i hi => by
        unfold deadAt at hi
        split at hi
        · rename_i o ho; exact ⟨o, ho, hi⟩
        · cases hi
      have pold : ∀ i, i < c.os.length → π i = i := fun i hi => by
        rw [← hπ]; unfold runB
        rw [show Nat.blt i c.os.length = true by simp [Nat.blt_eq, hi]]
      have pnew : ∀ i, c.os.length ≤ i → i < c.os'.length → ∃ j, at'[i - c.os.length]? = some j ∧ π i = j := fun i hi hlt => by
        have : at'[i - c.os.length]? = some (at'[i - c.os.length]'(by omega)) := List.getElem?_eq_getElem (by omega)
        refine ⟨_, this, ?_⟩
        rw [← hπ]; unfold runB
        rw [show Nat.blt i c.os.length = false by cases hb : Nat.blt i c.os.length <;> simp [Nat.blt_eq] at hb ⊢; omega, this]
      have pinj : ∀ i i', i < c.os'.length → i' < c.os'.length → deadAt c.os' i = false → deadAt c.os' i' = false → π i = π i' → i = i' := by
        intro i i' hi hi' hdi hdi' e
        rcases Nat.lt_or_ge i c.os.length with g | g
        · rcases Nat.lt_or_ge i' c.os.length with g' | g'
          · rw [pold i g, pold i' g'] at e; exact e
          · obtain ⟨j, hj, ej⟩ := pnew i' g' hi'
            have := a1 _ _ hj
            rw [pold i g, ej] at e
            subst e
            rcases this.1 with h | h
            · omega
            · rw [hdi] at h; cases h
        · obtain ⟨j, hj, ej⟩ := pnew i g hi
          rcases Nat.lt_or_ge i' c.os.length with g' | g'
          · have := a1 _ _ hj
            rw [pold i' g', ej] at e
            subst e
            rcases this.1 with h | h
            · omega
            · rw [hdi'] at h; cases h
          · obtain ⟨j', hj', ej'⟩ := pnew i' g' hi'
            rw [ej, ej'] at e
            subst e
            have := a2 _ _ _ hj hj'
            omega
      refine hR _ _ _ _ ((hgo B W).2 f w args' hr ha (fun j hj _ => hn j hj)) fun v' w' ⟨f', b2, b3, b4, b5⟩ => ?_
      let d : Nat → Bool := (Nat.blt · c.os'.length)
      have hd : ∀ i, d i = true ↔ i < c.os'.length := fun i => by simp [d, Nat.blt_eq]
      let f'' : Ren := fun i => if i < c.os'.length then f' (π i) else f i
      have fin : ∀ i, i < c.os'.length → f'' i = f' (π i) := fun i hi => if_pos hi
      have fout : ∀ i, ¬ i < c.os'.length → f'' i = f i := fun i hi => if_neg hi
      have fold : ∀ i, i < c.os.length → f'' i = f i := fun i hi => by
        by_cases hlt : i < c.os'.length
        · rw [fin i hlt, pold i hi, b3 i (.inl hi)]
        · exact fout i hlt
      have via : (f'.via d π).le f'' := by
        intro i L hi
        unfold Ren.via at hi
        split at hi
        · rename_i hdi
          rw [fin i ((hd i).1 hdi)]
          exact hi
        · cases hi
      have obj : ∀ (i : Nat) (o : AObj), c.os'[i]? = some o → o.dead = false → ∀ L, f'' i = some L → ∃ a, s.hp.get (π i) = some a ∧ f' (π i) = some L ∧ ORel ρ f'' B w' L o ∧ (o.own = true → a.own = true) ∧ ∀ b, o.foot ρ w' L b → a.foot ρ w' L b := by
        intro i o ho hdo L hL
        have hi : i < c.os'.length := (List.getElem?_eq_some_iff.1 ho).1
        obtain ⟨a, r, p1, p2, p3⟩ := objsPrs_get e2 i o ho hdo
        rw [Nat.zero_add] at p1
        rw [fin i hi] at hL
        have ha := b4.obj _ L a hL p1
        obtain ⟨ha1, hf1⟩ := pickO_ok (own := o.own) ha
        obtain ⟨ha2, hown, hf2⟩ := AObj.pairs_ok p2 (fun p hp => q2 p (p3 p hp)) ha1
        have hin := objsIn_get k4 i o ho
        have hf3 : ∀ b, (putR .var π o).foot ρ w' L b ↔ o.foot (ρ.rep .var) w' L b := by
          intro b
          cases o <;> exact Iff.rfl
        have hfoot : ∀ b, o.foot ρ w' L b → a.foot ρ w' L b := fun b hb => (hf1 b).1 ((hf2 b).1 ((hf3 b).2 (by rw [rep_var]; exact hb)))
        have hownA : o.own = true → a.own = true := fun hob => by
          rw [hob] at hown
          rw [putR_own, hob] at hown
          exact hown.symm
        have := (putR_ok (B' := B) hin ha2 (fun hown b hb => by
          rw [rep_var] at hb
          exact own_foot ha (hownA hown) b (hfoot b hb))).1
        rw [rep_var] at this
        exact ⟨a, p1, hL, this.mono via, hownA, hfoot⟩
      have live : ∀ (i : Nat) (o : AObj), c.os'[i]? = some o → o.dead = false → deadAt c.os' i = false := fun i o ho hd => by
        unfold deadAt
        rw [ho]
        exact hd
      refine ⟨f'', fun i L hi => ?_, fun i hi => ?_, ⟨b4.below, b4.bsize, fun i L hi => ?_, fun i i' L L' o o' hi hi' gi gi' hii hown b hb hb' => ?_, fun i L o hi hg => ?_⟩, ?_⟩
      · rcases Nat.lt_or_ge i c.os.length with g | g
        · rw [fold i g]; exact hi
        · rw [hn i g] at hi; cases hi
      · rcases Nat.lt_or_ge i c.os.length with g | g
        · exact fold i g
        · exact fout i (by omega)
      · by_cases g : i < c.os'.length
        · rw [fin i g] at hi; exact b4.lt _ L hi
        · rw [fout i g, hn i (by omega)] at hi; cases hi
      · obtain ⟨gi, di⟩ := outList gi
        obtain ⟨gi', di'⟩ := outList gi'
        obtain ⟨a, p1, p2, p3, p4, p5⟩ := obj i o gi di L hi
        obtain ⟨a', p1', p2', p3', p4', p5'⟩ := obj i' o' gi' di' L' hi'
        have g := (List.getElem?_eq_some_iff.1 gi).1
        have g' := (List.getElem?_eq_some_iff.1 gi').1
        exact b4.apart _ _ L L' a a' p2 p2' p1 p1' (fun e => hii (pinj i i' g g' (live i o gi di) (live i' o' gi' di') e)) (p4 hown) b (p5 b hb) (p5' b hb')
      · obtain ⟨hg, hd⟩ := outList hg
        obtain ⟨a, p1, p2, p3, p4, p5⟩ := obj i o hg hd L hi
        exact p3
      · have h5 := AVal.pairs_ok (b5 v hv) e1 q1
        have := VRel.sub_of (σ := .var) (π := π) (d := d) c.res v' hw h5
        rw [rep_var] at this
        exact this.mono via
    · cases hends
theorem Con.of_ends {P : Program} {G : Nat → Int → Int → Int → Int} {GH : Nat → Ghost} {c : Con} (h : ∀ ρ : Env, ρ.std G GH → ρ.ok (bdL c.bds) → c.pre.holds ρ →
      ∃ s at' q, (∀ B W, CallGoes P ρ B W c.g c.args (treeOf c.os 0 .nil) c.os.length s) ∧ c.ends at' s = some q ∧ q.hold ρ) : c.Ok P G GH := by
  intro ρ h1 h2 h3
  obtain ⟨s, at', q, hgo, hends, hq⟩ := h ρ h1 h2 h3
  exact Con.at_ends (callR_mono P c.g) (fun B W => (hgo B W).toR) hends hq
end
end Go.Sx
