/- The evaluator of the model, part Sg. No condition. -/
import Derived.Test.YthlmmihlehfoeaaGreatSf
/- Contracts shown by runs: what a run ends with against what the contract says, pair by pair. No condition. -/
set_option linter.unusedSimpArgs false
set_option linter.unusedVariables false
namespace Go.Sx
open Go.RowKit (Below)
noncomputable section

abbrev Prs := List (IE × IE)
def Prs.hold (ρ : Env) (l : Prs) : Prop := ∀ p ∈ l, p.1.ev ρ = p.2.ev ρ
theorem Prs.hold_app {ρ : Env} {l m : Prs} (h : (l ++ m).hold ρ) : l.hold ρ ∧ m.hold ρ := ⟨fun p hp => h p (by simp [hp]), fun p hp => h p (by simp [hp])⟩
def both : Option Prs → Option Prs → Option Prs
  | some a, some b => some (a ++ b)
  | _, _ => none
theorem both_some {a b : Option Prs} {l : Prs} (h : both a b = some l) : ∃ x y, a = some x ∧ b = some y ∧ l = x ++ y := by
  unfold both at h
  split at h
  · cases h; exact ⟨_, _, rfl, rfl, rfl⟩
  · cases h
/-- The digits of a row, and bytes. -/
def strPrs (a : IE) : List IE → Nat → Prs
  | [], _ => []
  | e :: l, j => (.fn 0 a (.lit (.ofNat j)) (.lit 0), e) :: strPrs a l (j + 1)
theorem strPrs_get {ρ : Env} {a : IE} : ∀ {l : List IE} {j : Nat}, Prs.hold ρ (strPrs a l j) → ∀ (i : Nat) (e : IE), l[i]? = some e → rowGet (a.ev ρ) (j + i : Nat) = e.ev ρ
  | [], _, _, i, e, he => by simp at he
  | x :: l, j, h, i, e, he => by
    cases i with
    | zero =>
      cases he
      exact h _ (List.mem_cons_self ..)
    | succ i =>
      have := strPrs_get (l := l) (j := j + 1) (fun p hp => h p (List.mem_cons_of_mem _ hp)) i e (by simpa using he)
      rw [← this]
      congr 1
      omega
/-- A string's bytes as one row. -/
def strRow : List IE → Nat → IE → IE
  | [], _, acc => acc
  | e :: l, j, acc => strRow l (j + 1) (.fn 1 acc (.lit (.ofNat j)) e)
theorem strRow_low {ρ : Env} : ∀ (l : List IE) (j : Nat) (acc : IE) (m : Nat), m < j → rowGet ((strRow l j acc).ev ρ) (m : Nat) = rowGet (acc.ev ρ) (m : Nat)
  | [], _, _, _, _ => rfl
  | e :: l, j, acc, m, h => by
    show rowGet ((strRow l (j + 1) (.fn 1 acc (.lit (.ofNat j)) e)).ev ρ) (m : Nat) = _
    rw [strRow_low l (j + 1) _ m (by omega)]
    exact rowGet_set_ne (acc.ev ρ) (e.ev ρ) (by omega)
theorem strRow_get {ρ : Env} : ∀ (l : List IE) (j : Nat) (acc : IE), (∀ e ∈ l, inRow (e.ev ρ)) → ∀ (i : Nat) (e : IE), l[i]? = some e → rowGet ((strRow l j acc).ev ρ) (j + i : Nat) = e.ev ρ
  | [], _, _, _, i, e, he => by simp at he
  | x :: l, j, acc, hl, i, e, he => by
    show rowGet ((strRow l (j + 1) (.fn 1 acc (.lit (.ofNat j)) x)).ev ρ) (j + i : Nat) = _
    cases i with
    | zero =>
      cases he
      rw [strRow_low l (j + 1) _ _ (by omega)]
      have hx := hl x (List.mem_cons_self ..)
      have := rowGet_set (acc.ev ρ) (x.ev ρ) j j hx.1 hx.2
      rw [if_pos rfl] at this
      exact this
    | succ i =>
      rw [show j + (i + 1) = j + 1 + i by omega]
      exact strRow_get l (j + 1) _ (fun e h => hl e (List.mem_cons_of_mem _ h)) i e (by simpa using he)
/-- A whole number of a function: its row as a string's. -/
def isWhole : IE → Bool
  | .fn c _ _ (.lit (.ofNat _)) => Nat.ble 100 c && Nat.beq (Nat.mod c 2) 1
  | _ => false
mutual
def AVal.pairs : AVal → AVal → Option Prs
  | .int k a, v =>
    match v with
    | .int j b =>
      match kindEq k j with
      | true => some [(a, b)]
      | false => none
    | _ => none
  | .bool x, v =>
    match v with
    | .bool y =>
      match x.num, y.num with
      | some a, some b => some [(a, b)]
      | _, _ => none
    | _ => none
  | .agg l, v =>
    match v with
    | .agg m => pairsL l m
    | _ => none
  | .tuple l, v =>
    match v with
    | .tuple m => pairsL l m
    | _ => none
  | .iface t a, v =>
    match v with
    | .iface u b =>
      match Nat.beq t u with
      | true => a.pairs b
      | false => none
    | _ => none
  | .sliceS i a b s nn, v =>
    match v with
    | .sliceS j c d t nn' =>
      match Nat.beq i j && (Nat.beq s t && bEq nn nn') with
      | true => some [(a, c), (b, d)]
      | false => none
    | _ => none
  | .sliceA i a s, v =>
    match v with
    | .sliceA j b t =>
      match Nat.beq i j && Nat.beq s t with
      | true => some [(a, b)]
      | false => none
    | .slice none 0 0 0 => some [(a, .lit 0)]
    | _ => none
  | .strS a b, v =>
    match v with
    | .strS c d => some [(a, c), (b, d)]
    | .str l => match isWhole a with
      | true => some [(a, strRow l 0 (.lit 0)), (b, .lit (.ofNat l.length))]
      | false => some ((b, .lit (.ofNat l.length)) :: strPrs a l 0)
    | _ => none
  | .ptrE i a s c, v =>
    match v with
    | .ptrE j b t d =>
      match Nat.beq i j && (Nat.beq s t && Nat.beq c d) with
      | true => some [(a, b)]
      | false => none
    | _ => none
  | x, v =>
    match x.same v with
    | true => some []
    | false => none
def pairsL : List AVal → List AVal → Option Prs
  | [], m =>
    match m with
    | [] => some []
    | _ => none
  | a :: l, m =>
    match m with
    | [] => none
    | b :: m => both (a.pairs b) (pairsL l m)
end
theorem pairsL_get : ∀ {l m : List AVal} {q : Prs}, pairsL l m = some q → l.length = m.length ∧ ∀ (i : Nat) (a : AVal), l[i]? = some a → ∃ b r, m[i]? = some b ∧ a.pairs b = some r ∧ ∀ p ∈ r, p ∈ q := by
  intro l
  induction l with
  | nil =>
    intro m q h
    cases m with
    | nil => exact ⟨rfl, fun i a ha => by simp at ha⟩
    | cons b m => simp [pairsL] at h
  | cons x l ih =>
    intro m q h
    cases m with
    | nil => simp [pairsL] at h
    | cons b m =>
      obtain ⟨r1, r2, h1, h2, rfl⟩ := both_some (show both (x.pairs b) (pairsL l m) = some q from h)
      obtain ⟨q1, q2⟩ := ih h2
      refine ⟨by simp [q1], fun i a ha => ?_⟩
      cases i with
      | zero => simp at ha; subst ha; exact ⟨b, r1, rfl, h1, fun p hp => by simp [hp]⟩
      | succ i =>
        obtain ⟨b', r, p1, p2, p3⟩ := q2 i a (by simpa using ha)
        exact ⟨b', r, by simpa using p1, p2, fun p hp => by simp [p3 p hp]⟩
theorem AVal.pairs_ok {ρ : Env} {f : Ren} {b : AVal} {v : Value} (h : VRel ρ f b v) : ∀ {a : AVal} {l : Prs}, a.pairs b = some l → l.hold ρ → VRel ρ f a v := by
  have lists : ∀ {m : List AVal} {vs : Array Value}, vs.size = m.length → (∀ (i : Nat) (b : AVal) (v : Value), m[i]? = some b → vs[i]? = some v → ∀ {a : AVal} {l : Prs}, a.pairs b = some l → l.hold ρ → VRel ρ f a v) → ∀ {l : List AVal} {q : Prs}, pairsL l m = some q → q.hold ρ →
      vs.size = l.length ∧ ∀ (i : Nat) (a : AVal) (v : Value), l[i]? = some a → vs[i]? = some v → VRel ρ f a v := by
    intro m vs hs ih l q hl hq
    obtain ⟨h1, h2⟩ := pairsL_get hl
    refine ⟨by omega, fun i a v ha hv => ?_⟩
    obtain ⟨b, r, hb, hc, hr⟩ := h2 i a ha
    exact ih i b v hb hv hc fun p hp => hq p (hr p hp)
  have other : ∀ {b : AVal} {v : Value}, VRel ρ f b v → ∀ {a : AVal} {l : Prs}, (match a.same b with | true => some ([] : Prs) | false => none) = some l → VRel ρ f a v := by
    intro b v hb a l h
    split at h
    · rename_i hs
      rw [AVal.same_eq hs]
      exact hb
    · cases h
  induction h with
  | bool b =>
    intro a l h hl
    cases a <;> simp only [AVal.pairs] at h <;> first | exact other (.bool b) h | (cases h; done) | skip
    rename_i x
    split at h
    · rename_i p q hp hq
      cases h
      have h1 := BE.num_ev (ρ := ρ) hp
      have h2 := BE.num_ev (ρ := ρ) hq
      have h3 : p.ev ρ = q.ev ρ := hl (p, q) (by simp)
      rw [h1, h2] at h3
      have : x.ev ρ = b.ev ρ := by cases hx : x.ev ρ <;> cases hb : b.ev ρ <;> simp [hx, hb] at h3 ⊢
      rw [← this]
      exact .bool _
    · cases h
  | int k e =>
    intro a l h hl
    cases a <;> simp only [AVal.pairs] at h <;> first | exact other (.int k e) h | (cases h; done) | skip
    split at h
    · rename_i hk
      cases h
      have e := hl _ (List.mem_cons_self ..)
      simp only at e
      rw [← kindEq_eq hk, ← e]
      exact .int _ _
    · cases h
  | str hs =>
    intro a l h hl
    cases a <;> simp only [AVal.pairs] at h <;> first | exact other (.str hs) h | (cases h; done) | skip
    rename_i m s c n
    split at h
    · cases h
      have e0 : c.ev ρ = (strRow m 0 (.lit 0)).ev ρ := hl _ (List.mem_cons_self ..)
      have e1 : n.ev ρ = ((m.length : Nat) : Int) := hl _ (List.mem_cons_of_mem _ (List.mem_cons_self ..))
      have at' : ∀ (j : Nat) (b : UInt8), s.data[j]? = some b → ∃ e, m[j]? = some e ∧ e.ev ρ = (b.toNat : Int) := by
        intro j b hb
        have h2 : (m.map (·.ev ρ))[j]? = some (b.toNat : Int) := by
          rw [← hs, List.getElem?_map, Array.getElem?_toList, hb]
          rfl
        rw [List.getElem?_map] at h2
        cases hm : m[j]? with
        | none => rw [hm] at h2; cases h2
        | some e => rw [hm] at h2; exact ⟨e, rfl, by simpa using h2⟩
      have inr : ∀ e ∈ m, inRow (e.ev ρ) := by
        intro e he
        have hm : e.ev ρ ∈ s.data.toList.map (fun b => (b.toNat : Int)) := by
          rw [hs]
          exact List.mem_map_of_mem (f := fun x : IE => x.ev ρ) he
        obtain ⟨b, _, hb⟩ := List.mem_map.1 hm
        rw [← hb]
        have := b.toNat_lt
        unfold inRow
        omega
      refine .strS (by rw [e1, hs.size]) fun j b hb => ?_
      obtain ⟨e, h1, h2⟩ := at' j b hb
      have := strRow_get (ρ := ρ) m 0 (.lit 0) inr j e h1
      rw [Nat.zero_add] at this
      rw [e0, this, h2]
    cases h
    have e1 : n.ev ρ = ((m.length : Nat) : Int) := hl _ (List.mem_cons_self ..)
    refine .strS (by rw [e1, hs.size]) fun j b hb => ?_
    have h2 : (m.map (·.ev ρ))[j]? = some (b.toNat : Int) := by
      rw [← hs, List.getElem?_map, Array.getElem?_toList, hb]
      rfl
    rw [List.getElem?_map] at h2
    cases hm : m[j]? with
    | none => rw [hm] at h2; cases h2
    | some e =>
      rw [hm] at h2
      have := strPrs_get (ρ := ρ) (a := c) (l := m) (j := 0) (fun p hp => hl p (List.mem_cons_of_mem _ hp)) j e hm
      rw [Nat.zero_add] at this
      rw [this]
      simpa using h2
  | nilPtr => intro a l h hl; cases a <;> simp only [AVal.pairs] at h <;> first | exact other .nilPtr h | (cases h; done)
  | ptr hh => intro a l h hl; cases a <;> simp only [AVal.pairs] at h <;> first | exact other (.ptr hh) h | (cases h; done)
  | nilSlice =>
    intro a l h hl
    cases a <;> simp only [AVal.pairs] at h <;> first | exact other .nilSlice h | (cases h; done) | skip
    cases h
    exact .sliceN (hl _ (List.mem_cons_self ..))
  | slice hh => intro a l h hl; cases a <;> simp only [AVal.pairs] at h <;> first | exact other (.slice hh) h | (cases h; done)
  | sliceG hh hn hc hs => intro a l h hl; cases a <;> simp only [AVal.pairs] at h <;> first | exact other (.sliceG hh hn hc hs) h | (cases h; done)
  | sliceE hh hg hs => intro a l h hl; cases a <;> simp only [AVal.pairs] at h <;> first | exact other (.sliceE hh hg hs) h | (cases h; done)
  | nilMap => intro a l h hl; cases a <;> simp only [AVal.pairs] at h <;> first | exact other .nilMap h | (cases h; done)
  | map hh => intro a l h hl; cases a <;> simp only [AVal.pairs] at h <;> first | exact other (.map hh) h | (cases h; done)
  | func ha hb ha' hb' iha ihb => intro a l h hl; cases a <;> simp only [AVal.pairs] at h <;> first | exact other (.func ha hb ha' hb') h | (cases h; done)
  | nilFunc => intro a l h hl; cases a <;> simp only [AVal.pairs] at h <;> first | exact other .nilFunc h | (cases h; done)
  | iface hh ih =>
    intro a l h hl
    cases a <;> simp only [AVal.pairs] at h <;> first | exact other (.iface hh) h | (cases h; done) | skip
    split at h
    · rename_i hk
      rw [Nat.eq_of_beq_eq_true hk]
      exact .iface (ih h hl)
    · cases h
  | nilIface => intro a l h hl; cases a <;> simp only [AVal.pairs] at h <;> first | exact other .nilIface h | (cases h; done)
  | agg ha ha' ih =>
    intro a l h hl
    cases a <;> simp only [AVal.pairs] at h <;> first | exact other (.agg ha ha') h | (cases h; done) | skip
    have p := lists ha ih h hl
    exact .agg p.1 p.2
  | tuple ha ha' ih =>
    intro a l h hl
    cases a <;> simp only [AVal.pairs] at h <;> first | exact other (.tuple ha ha') h | (cases h; done) | skip
    have p := lists ha ih h hl
    exact .tuple p.1 p.2
  | ptrE hh h0 =>
    intro a l h hl
    cases a <;> simp only [AVal.pairs] at h <;> first | exact other (.ptrE hh h0) h | (cases h; done) | skip
    split at h
    · rename_i hk
      cases h
      obtain ⟨k1, k2⟩ := and_split hk
      obtain ⟨k2, k3⟩ := and_split k2
      have e := hl _ (List.mem_cons_self ..)
      simp only at e
      rw [Nat.eq_of_beq_eq_true k1, Nat.eq_of_beq_eq_true k2, Nat.eq_of_beq_eq_true k3, ← e]
      exact .ptrE hh (by rw [e]; exact h0)
    · cases h
  | sliceS hh h0 h1 h2 =>
    intro a l h hl
    cases a <;> simp only [AVal.pairs] at h <;> first | exact other (.sliceS hh h0 h1 h2) h | (cases h; done) | skip
    split at h
    · rename_i hk
      cases h
      obtain ⟨k1, k2⟩ := and_split hk
      obtain ⟨k2, k3⟩ := and_split k2
      have e1 := hl _ (List.mem_cons_self ..)
      have e2 := hl _ (List.mem_cons_of_mem _ (List.mem_cons_self ..))
      simp only at e1 e2
      rw [Nat.eq_of_beq_eq_true k1, Nat.eq_of_beq_eq_true k2, bEq_eq k3, ← e1, ← e2]
      exact .sliceS hh (by rw [e1]; exact h0) (by rw [e2]; exact h1) (by rw [e2]; exact h2)
    · cases h
  | sliceZ h1 h2 =>
    intro a l h hl
    cases a <;> simp only [AVal.pairs] at h <;> first | exact other (.sliceZ h1 h2) h | (cases h; done) | skip
    split at h
    · rename_i hk
      cases h
      obtain ⟨k1, k2⟩ := and_split hk
      obtain ⟨k2, k3⟩ := and_split k2
      have e2 := hl _ (List.mem_cons_of_mem _ (List.mem_cons_self ..))
      simp only at e2
      rw [Nat.eq_of_beq_eq_true k1, Nat.eq_of_beq_eq_true k2, bEq_eq k3]
      exact .sliceZ (by rw [e2]; exact h1) h2
    · cases h
  | sliceA hh h0 h1 h2 =>
    intro a l h hl
    cases a <;> simp only [AVal.pairs] at h <;> first | exact other (.sliceA hh h0 h1 h2) h | (cases h; done) | skip
    split at h
    · rename_i hk
      cases h
      obtain ⟨k1, k2⟩ := and_split hk
      have e1 := hl _ (List.mem_cons_self ..)
      simp only at e1
      rw [Nat.eq_of_beq_eq_true k1, Nat.eq_of_beq_eq_true k2, ← e1]
      exact .sliceA hh (by rw [e1]; exact h0) (by rw [e1]; exact h1) h2
    · cases h
  | sliceN h1 =>
    intro a l h hl
    cases a <;> simp only [AVal.pairs] at h <;> first | exact other (.sliceN h1) h | (cases h; done) | skip
    split at h
    · rename_i hk
      cases h
      have e1 := hl _ (List.mem_cons_self ..)
      simp only at e1
      exact .sliceN (by rw [e1]; exact h1)
    · cases h
  | strS h1 h2 =>
    intro a l h hl
    cases a <;> simp only [AVal.pairs] at h <;> first | exact other (.strS h1 h2) h | (cases h; done) | skip
    cases h
    have e1 := hl _ (List.mem_cons_self ..)
    have e2 := hl _ (List.mem_cons_of_mem _ (List.mem_cons_self ..))
    simp only at e1 e2
    exact .strS (by rw [e2]; exact h1) fun j b hb => by rw [e1]; exact h2 j b hb

/-! trees and objects -/
def T.gather {α : Type} (g : Nat → α → Option Prs) : T α → Nat → Nat → Option Prs
  | .nil, _, _ => some []
  | .node v l r, a, b => both (match v with
    | none => some []
    | some x => g b x) (both (T.gather g l (2 * a) (a + b)) (T.gather g r (2 * a) (2 * a + b)))
theorem T.gather_get {α : Type} {g : Nat → α → Option Prs} : ∀ (t : T α) (a b : Nat) (q : Prs), T.gather g t a b = some q → ∀ (k : Nat) (x : α), t.getS k = some x → ∃ r, g (a * k + b) x = some r ∧ ∀ p ∈ r, p ∈ q := by
  intro t
  induction t with
  | nil => intro a b q _ k x h; simp [T.getS] at h
  | node v l r ihl ihr =>
    intro a b q h k x hx
    obtain ⟨q1, q23, h1, h23, rfl⟩ := both_some (show both _ _ = some q from h)
    obtain ⟨q2, q3, h2, h3, rfl⟩ := both_some h23
    simp only [T.getS] at hx
    cases hk : Nat.beq k 0
    · simp only [hk] at hx
      have hk0 : k ≠ 0 := by intro e; simp [e] at hk
      cases ho : Nat.beq (k % 2) 1
      · simp only [ho] at hx
        have ho' : k % 2 ≠ 1 := by intro e; simp [e] at ho
        obtain ⟨r', p1, p2⟩ := ihr _ _ _ h3 _ _ hx
        have e : 2 * a * ((k - 1) / 2) + (2 * a + b) = a * k + b := by
          have e1 : k = 2 * ((k - 1) / 2) + 2 := by omega
          generalize (k - 1) / 2 = m at *
          subst e1
          rw [Nat.mul_add, ← Nat.mul_assoc, Nat.mul_comm a 2]
          omega
        rw [e] at p1
        exact ⟨r', p1, fun p hp => by simp [p2 p hp]⟩
      · simp only [ho] at hx
        have ho' : k % 2 = 1 := Nat.eq_of_beq_eq_true ho
        obtain ⟨r', p1, p2⟩ := ihl _ _ _ h2 _ _ hx
        have e : 2 * a * ((k - 1) / 2) + (a + b) = a * k + b := by
          have e1 : k = 2 * ((k - 1) / 2) + 1 := by omega
          generalize (k - 1) / 2 = m at *
          subst e1
          rw [Nat.mul_add, ← Nat.mul_assoc, Nat.mul_comm a 2]
          omega
        rw [e] at p1
        exact ⟨r', p1, fun p hp => by simp [p2 p hp]⟩
    · simp only [hk] at hx
      have hk0 : k = 0 := Nat.eq_of_beq_eq_true hk
      subst hk0 hx
      exact ⟨q1, by simpa using h1, fun p hp => by simp [hp]⟩
theorem T.gather_all {α : Type} {g : Nat → α → Option Prs} {t : T α} {q : Prs} (h : T.gather g t 1 0 = some q) {k : Nat} {x : α} (hx : t.get k = some x) : ∃ r, g k x = some r ∧ ∀ p ∈ r, p ∈ q := by
  have := T.gather_get t 1 0 q h k x (by rw [← T.get_eq]; exact hx)
  simpa using this
def cellPrs (c : T AVal) (k : Nat) (v : AVal) : Option Prs :=
  match c.get k with
  | some u => v.pairs u
  | none => none
def prsIE : List IE → List IE → Option Prs
  | [], m =>
    match m with
    | [] => some []
    | _ => none
  | a :: l, m =>
    match m with
    | [] => none
    | b :: m => both (some [(a, b)]) (prsIE l m)
theorem prsIE_ev {ρ : Env} : ∀ {l m : List IE} {q : Prs}, prsIE l m = some q → q.hold ρ → l.map (·.ev ρ) = m.map (·.ev ρ) := by
  intro l
  induction l with
  | nil =>
    intro m q h _
    cases m with
    | nil => rfl
    | cons b m => simp [prsIE] at h
  | cons a l ih =>
    intro m q h hq
    cases m with
    | nil => simp [prsIE] at h
    | cons b m =>
      obtain ⟨r1, r2, h1, h2, rfl⟩ := both_some (show both _ _ = some q from h)
      cases h1
      obtain ⟨k1, k2⟩ := Prs.hold_app hq
      simp only [List.map_cons, ih h2 k2, k1 (a, b) (by simp)]
def AObj.pairs : AObj → AObj → Option Prs
  | .cells c e o t, v =>
    match v with
    | .cells c' e' o' t' =>
      match Nat.beq e e' && (bEq o o' && Nat.beq t t') with
      | true => T.gather (cellPrs c') c 1 0
      | false => none
    | _ => none
  | .arr ks c n o, v =>
    match v with
    | .arr ks' c' n' o' =>
      match kindsSame ks ks' && bEq o o' with
      | true => some [(c, c'), (n, n')]
      | false => none
    | _ => none
  | .ghost k vs c, v =>
    match v with
    | .ghost k' vs' c' =>
      match Nat.beq k k' with
      | true => both (prsIE vs vs') (T.gather (cellPrs c') c 1 0)
      | false => none
    | _ => none
  | .map es, v =>
    match v with
    | .map es' =>
      match sameEs es es' with
      | true => some []
      | false => none
    | _ => none
  | .win i s c e o, v =>
    match v with
    | .win i' s' c' e' o' =>
      match Nat.beq s s' && (Nat.beq e e' && bEq o o') with
      | true => both (some [(i, i')]) (T.gather (cellPrs c') c 1 0)
      | false => none
    | _ => none
  | .col s c k code m d n, v =>
    match v with
    | .col s' c' k' code' m' d' n' =>
      match Nat.beq s s' && (Nat.beq c c' && (kindEq k k' && (Nat.beq m m' && Nat.beq d d'))) with
      | true => some [(code, code'), (n, n')]
      | false => none
    | _ => none
  | .it0, v =>
    match v with
    | .it0 => some []
    | _ => none
section
variable {ρ : Env} {f : Ren} {B : Nat → Prop} {w : World} {L : Loc}
theorem cellPrs_ok {c c' : T AVal} {q : Prs} (h : T.gather (cellPrs c') c 1 0 = some q) (hq : q.hold ρ) {k : Nat} {v : AVal} (hv : c.get k = some v) : ∃ u, c'.get k = some u ∧ ∀ x, VRel ρ f u x → VRel ρ f v x := by
  obtain ⟨r, h1, h2⟩ := T.gather_all h hv
  unfold cellPrs at h1
  split at h1
  · rename_i u hu
    exact ⟨u, hu, fun x hx => AVal.pairs_ok hx h1 fun p hp => hq p (h2 p hp)⟩
  · cases h1
theorem AObj.pairs_ok {o o' : AObj} {q : Prs} (h : o.pairs o' = some q) (hq : q.hold ρ) (ho : ORel ρ f B w L o') : ORel ρ f B w L o ∧ o.own = o'.own ∧ ∀ b, o.foot ρ w L b ↔ o'.foot ρ w L b := by
  cases o with
  | cells c e ow t =>
    cases o' <;> simp only [AObj.pairs] at h <;> first | (cases h; done) | skip
    split at h
    · rename_i hk
      obtain ⟨k1, k2⟩ := and_split hk
      obtain ⟨k2, k3⟩ := and_split k2
      have k1 := Nat.eq_of_beq_eq_true k1
      have k2 := bEq_eq k2
      have k3 := Nat.eq_of_beq_eq_true k3
      subst k1 k2 k3
      obtain ⟨cs, fr, q1, q2, q3, q4⟩ := ho
      refine ⟨⟨cs, fr, q1, q2, q3, fun j v hj => ?_⟩, rfl, fun _ => Iff.rfl⟩
      obtain ⟨u, hu, hk⟩ := cellPrs_ok (f := f) h hq hj
      obtain ⟨p1, v', p2, p3⟩ := q4 _ _ hu
      exact ⟨p1, v', p2, hk _ p3⟩
    · cases h
  | arr ks c n ow =>
    cases o' <;> simp only [AObj.pairs] at h <;> first | (cases h; done) | skip
    split at h
    · rename_i hk
      cases h
      obtain ⟨k1, k2⟩ := and_split hk
      have k1 := kindsSame_eq k1
      have k2 := bEq_eq k2
      subst k1 k2
      have e1 := hq _ (List.mem_cons_self ..)
      have e2 := hq _ (List.mem_cons_of_mem _ (List.mem_cons_self ..))
      simp only at e1 e2
      obtain ⟨cs, el, fr, q1, q2, q3, q4⟩ := ho
      refine ⟨⟨cs, el, fr, q1, q2, q3, fun j c k hj hk => ?_⟩, rfl, fun _ => Iff.rfl⟩
      rw [e2] at hj
      rw [e1]
      exact q4 j c k hj hk
    · cases h
  | ghost k vs c =>
    cases o' <;> simp only [AObj.pairs] at h <;> first | (cases h; done) | skip
    split at h
    · rename_i hk
      have k1 := Nat.eq_of_beq_eq_true hk
      subst k1
      obtain ⟨r1, r2, h1, h2, rfl⟩ := both_some h
      obtain ⟨m1, m2⟩ := Prs.hold_app hq
      have e1 := prsIE_ev h1 m1
      obtain ⟨⟨q0, q1⟩, qb, cs, el, fr, q2, q3, q4, q5⟩ := ho
      refine ⟨⟨⟨by rw [e1]; exact q0, q1⟩, qb, cs, el, fr, q2, q3, q4, fun j v hj => ?_⟩, rfl, fun _ => Iff.rfl⟩
      obtain ⟨u, hu, hk⟩ := cellPrs_ok (f := f) h2 m2 hj
      obtain ⟨p1, v', p2, p3⟩ := q5 _ _ hu
      exact ⟨p1, v', p2, hk _ p3⟩
    · cases h
  | map es =>
    cases o' <;> simp only [AObj.pairs] at h <;> first | (cases h; done) | skip
    split at h
    · rename_i hk
      rw [sameEs_eq hk]
      exact ⟨ho, rfl, fun _ => Iff.rfl⟩
    · cases h
  | it0 =>
    cases o' <;> simp only [AObj.pairs] at h <;> first | (cases h; done) | skip
    exact ⟨ho, rfl, fun _ => Iff.rfl⟩
  | col s c k code m d n =>
    cases o' <;> simp only [AObj.pairs] at h <;> first | (cases h; done) | skip
    split at h
    · rename_i hk
      cases h
      obtain ⟨k1, hk⟩ := and_split hk
      obtain ⟨k2, hk⟩ := and_split hk
      obtain ⟨k3, hk⟩ := and_split hk
      obtain ⟨k4, k5⟩ := and_split hk
      have k1 := Nat.eq_of_beq_eq_true k1
      have k2 := Nat.eq_of_beq_eq_true k2
      have k3 := kindEq_eq k3
      have k4 := Nat.eq_of_beq_eq_true k4
      have k5 := Nat.eq_of_beq_eq_true k5
      subst k1 k2 k3 k4 k5
      have e1 := hq _ (List.mem_cons_self ..)
      have e2 := hq _ (List.mem_cons_of_mem _ (List.mem_cons_self ..))
      simp only at e1 e2
      obtain ⟨cs, el, fr, q1, q2⟩ := ho
      refine ⟨⟨cs, el, fr, q1, fun j hj => ?_⟩, rfl, fun _ => Iff.rfl⟩
      rw [e2] at hj
      rw [e1]
      exact q2 j hj
    · cases h
  | win i s c e ow =>
    cases o' <;> simp only [AObj.pairs] at h <;> first | (cases h; done) | skip
    split at h
    · rename_i hk
      obtain ⟨k1, k2⟩ := and_split hk
      obtain ⟨k2, k3⟩ := and_split k2
      have k1 := Nat.eq_of_beq_eq_true k1
      have k2 := Nat.eq_of_beq_eq_true k2
      have k3 := bEq_eq k3
      subst k1 k2 k3
      obtain ⟨r1, r2, h1, h2, rfl⟩ := both_some h
      cases h1
      obtain ⟨m1, m2⟩ := Prs.hold_app hq
      have e1 := m1 _ (List.mem_cons_self ..)
      simp only at e1
      obtain ⟨cs, fr, q1, q2, q3, q0, q4⟩ := ho
      refine ⟨⟨cs, fr, q1, q2, q3, by rw [e1]; exact q0, fun j v hj => ?_⟩, rfl, fun _ => Iff.rfl⟩
      obtain ⟨u, hu, hk⟩ := cellPrs_ok (f := f) h2 m2 hj
      obtain ⟨v', p2, p3⟩ := q4 _ _ hu
      rw [e1]
      exact ⟨v', p2, hk _ p3⟩
    · cases h
end

/-! what a run ends with against a contract -/
/-- The run's number of a block of the contract. -/
def runB (n : Nat) (at' : List Nat) : Nat → Nat := fun i =>
  match Nat.blt i n with
  | true => i
  | false =>
    match at'[i - n]? with
    | some j => j
    | none => 0
def objsPrs (h : T AObj) (π : Nat → Nat) : Nat → List AObj → Option Prs
  | _, [] => some []
  | i, o :: os =>
    match o.dead with
    | true => objsPrs h π (i + 1) os
    | false =>
      match h.get (π i) with
      | some a => both ((putR .var π o).pairs (pickO o.own a)) (objsPrs h π (i + 1) os)
      | none => none
def deadAt (os' : List AObj) (j : Nat) : Bool :=
  match os'[j]? with
  | some o => o.dead
  | none => false
/-- New blocks: made by the run, or in the place of one of which nothing is said. -/
def atOk (n nx : Nat) (dd : Nat → Bool) : List Nat → Bool
  | [] => true
  | j :: l =>
    match Nat.blt j nx && (Nat.ble n j || dd j), memL j l with
    | true, false => atOk n nx dd l
    | _, _ => false
/-- The pairs that have to be equal. -/
def Con.ends0 (c : Con) (at' : List Nat) (s : ASt) : Option Prs :=
  match s.tm.get 0 with
  | none => none
  | some v =>
    match atOk c.os.length s.nx (deadAt c.os') at' && (Nat.beq (Nat.add c.os.length at'.length) c.os'.length && (withinList (Nat.blt · c.os'.length) [c.res] && objsIn (Nat.blt · c.os'.length) c.os')) with
    | true => both ((c.res.rep .var (runB c.os.length at')).pairs v) (objsPrs s.hp (runB c.os.length at') 0 c.os')
    | false => none
/-! the digits of functions in order -/
/-- Which digit of a function (of those from 100 on) it is. -/
def digIx1 : IE → Option Nat
  | .wrap _ (.fn c0 (.fn c1 _ _ (.lit _)) (.lit (.ofNat i)) _) => match Nat.beq c0 0 && Nat.ble 100 c1 with
    | true => some i
    | false => none
  | .fn c _ _ (.lit (.ofNat i)) => match Nat.ble 100 c with
    | true => some i
    | false => none
  | _ => none
def digIx : IE → Option Nat
  | .add _ (.rem (.add (.rem (.sub d _) _) _) _) => digIx1 d
  | .rem a _ => digIx1 a
  | .sel _ a _ _ _ => digIx1 a
  | .fn c x y z => match Nat.beq c 5 with
    | true => digIx1 z
    | false => digIx1 (.fn c x y z)
  | a => digIx1 a
def insDig (i : Nat) (p : IE × IE) : List (Nat × IE × IE) → List (Nat × IE × IE)
  | [] => [(i, p)]
  | d :: l => match Nat.blt i d.1 with
    | true => (i, p) :: d :: l
    | false => d :: insDig i p l
def digsOf : Prs → List (Nat × IE × IE)
  | [] => []
  | p :: l => match digIx p.1 with
    | none => digsOf l
    | some i => insDig i p (digsOf l)
def fillDig : Prs → List (Nat × IE × IE) → Prs
  | [], _ => []
  | p :: l, ds => match digIx p.1 with
    | none => p :: fillDig l ds
    | some _ => match ds with
      | [] => p :: fillDig l []
      | d :: ds => d.2 :: fillDig l ds
def upDig : Prs → Nat → Bool
  | [], _ => true
  | p :: l, n => match digIx p.1 with
    | none => upDig l n
    | some i => match Nat.ble n i with
      | true => upDig l i
      | false => false
def sortDig (q : Prs) : Prs := match upDig q 0 with
  | true => q
  | false => fillDig q (digsOf q)
def cntDig : Prs → Nat
  | [] => 0
  | p :: l => match digIx p.1 with
    | none => cntDig l
    | some _ => cntDig l + 1
theorem insDig_mem {i : Nat} {p : IE × IE} : ∀ {l : List (Nat × IE × IE)}, (insDig i p l).length = l.length + 1 ∧ (i, p) ∈ insDig i p l ∧ ∀ d ∈ l, d ∈ insDig i p l := by
  intro l
  induction l with
  | nil => exact ⟨rfl, List.mem_singleton.2 rfl, fun d hd => by cases hd⟩
  | cons d l ih =>
    unfold insDig
    split
    · exact ⟨rfl, List.mem_cons_self .., fun x hx => List.mem_cons_of_mem _ hx⟩
    · refine ⟨by simp [ih.1], List.mem_cons_of_mem _ ih.2.1, fun x hx => ?_⟩
      rcases List.mem_cons.1 hx with rfl | hx
      · exact List.mem_cons_self ..
      · exact List.mem_cons_of_mem _ (ih.2.2 x hx)
theorem digsOf_mem : ∀ {q : Prs}, (digsOf q).length = cntDig q ∧ ∀ p ∈ q, (digIx p.1).isSome = true → ∃ i, (i, p) ∈ digsOf q := by
  intro q
  induction q with
  | nil => exact ⟨rfl, fun p hp => by cases hp⟩
  | cons p l ih =>
    unfold digsOf cntDig
    cases h : digIx p.1 with
    | none =>
      refine ⟨ih.1, fun x hx hs => ?_⟩
      rcases List.mem_cons.1 hx with rfl | hx
      · rw [h] at hs; cases hs
      · exact ih.2 x hx hs
    | some i =>
      refine ⟨by simp only [insDig_mem.1, ih.1], fun x hx hs => ?_⟩
      rcases List.mem_cons.1 hx with rfl | hx
      · exact ⟨i, insDig_mem.2.1⟩
      · obtain ⟨j, hj⟩ := ih.2 x hx hs
        exact ⟨j, insDig_mem.2.2 _ hj⟩
theorem fillDig_mem : ∀ {q : Prs} {ds : List (Nat × IE × IE)}, ds.length = cntDig q → (∀ d ∈ ds, d.2 ∈ fillDig q ds) ∧ ∀ p ∈ q, (digIx p.1) = none → p ∈ fillDig q ds := by
  intro q
  induction q with
  | nil => intro ds h; exact ⟨(fun d hd => by rw [List.length_eq_zero_iff.1 h] at hd; cases hd), (fun p hp => by cases hp)⟩
  | cons p l ih =>
    intro ds h
    unfold cntDig at h
    unfold fillDig
    cases hp : digIx p.1 with
    | none =>
      rw [hp] at h
      obtain ⟨a, b⟩ := ih h
      refine ⟨fun d hd => List.mem_cons_of_mem _ (a d hd), fun x hx hn => ?_⟩
      rcases List.mem_cons.1 hx with rfl | hx
      · exact List.mem_cons_self ..
      · exact List.mem_cons_of_mem _ (b x hx hn)
    | some i =>
      rw [hp] at h
      cases ds with
      | nil => simp at h
      | cons d ds =>
        obtain ⟨a, b⟩ := ih (ds := ds) (by simpa using h)
        refine ⟨fun x hx => ?_, fun x hx hn => ?_⟩
        · rcases List.mem_cons.1 hx with rfl | hx
          · exact List.mem_cons_self ..
          · exact List.mem_cons_of_mem _ (a x hx)
        · rcases List.mem_cons.1 hx with rfl | hx
          · rw [hp] at hn; cases hn
          · exact List.mem_cons_of_mem _ (b x hx hn)
theorem sortDig_hold {ρ : Env} {q : Prs} (h : (sortDig q).hold ρ) : q.hold ρ := by
  unfold sortDig at h
  split at h
  · exact h
  · intro p hp
    obtain ⟨a, b⟩ := fillDig_mem (q := q) (ds := digsOf q) digsOf_mem.1
    cases hx : digIx p.1 with
    | none => exact h p (b p hp hx)
    | some i =>
      obtain ⟨j, hj⟩ := digsOf_mem.2 p hp (by rw [hx]; rfl)
      exact h p (a _ hj)
/-- A digit asked for twice is asked for once. -/
def dupDig : List (Nat × IE × IE) → Prs → Prs
  | _, [] => []
  | seen, p :: l => match digIx p.1 with
    | none => p :: dupDig seen l
    | some i => match seen.any (fun q => Nat.beq q.1 i && (p.1.eq q.2.1 && p.2.eq q.2.2)) with
      | true => dupDig seen l
      | false => p :: dupDig ((i, p) :: seen) l
theorem dupDig_hold {ρ : Env} : ∀ {l : Prs} {seen : List (Nat × IE × IE)}, (∀ d ∈ seen, d.2.1.ev ρ = d.2.2.ev ρ) → (dupDig seen l).hold ρ → l.hold ρ := by
  intro l
  induction l with
  | nil => intro _ _ _ p hp; cases hp
  | cons x l ih =>
    intro seen hs h p hp
    unfold dupDig at h
    split at h
    · rcases List.mem_cons.1 hp with rfl | hp
      · exact h _ (List.mem_cons_self ..)
      · exact ih hs (fun y hy => h y (List.mem_cons_of_mem _ hy)) p hp
    · split at h
      · rename_i hd
        rcases List.mem_cons.1 hp with rfl | hp
        · obtain ⟨d, hd1, hd2⟩ := List.any_eq_true.1 hd
          obtain ⟨_, hd2⟩ := and_split hd2
          obtain ⟨a, b⟩ := and_split hd2
          rw [IE.eq_eq a, IE.eq_eq b]
          exact hs d hd1
        · exact ih hs h p hp
      · have hx : x.1.ev ρ = x.2.ev ρ := h x (List.mem_cons_self ..)
        rcases List.mem_cons.1 hp with rfl | hp
        · exact hx
        · refine ih (seen := _) (fun d hd => ?_) (fun y hy => h y (List.mem_cons_of_mem _ hy)) p hp
          rcases List.mem_cons.1 hd with rfl | hd
          · exact hx
          · exact hs d hd
def Con.ends (c : Con) (at' : List Nat) (s : ASt) : Option Prs := match c.ends0 at' s with
  | some q => some (sortDig (dupDig [] q))
  | none => none
theorem objsPrs_get {h : T AObj} {π : Nat → Nat} : ∀ {os : List AObj} {i : Nat} {q : Prs}, objsPrs h π i os = some q → ∀ (k : Nat) (o : AObj), os[k]? = some o → o.dead = false → ∃ a r, h.get (π (i + k)) = some a ∧ (putR .var π o).pairs (pickO o.own a) = some r ∧ ∀ p ∈ r, p ∈ q := by
  intro os
  induction os with
  | nil => intro i q _ k o hk; simp at hk
  | cons x os ih =>
    intro i q h k o hk hd
    simp only [objsPrs] at h
    split at h
    · rename_i hx
      cases k with
      | zero => simp at hk; subst hk; rw [hx] at hd; cases hd
      | succ k =>
        obtain ⟨a', r', p1, p2, p3⟩ := ih h k o (by simpa using hk) hd
        exact ⟨a', r', by rw [show i + (k + 1) = i + 1 + k by omega]; exact p1, p2, p3⟩
    · split at h
      · rename_i a ha
        obtain ⟨r1, r2, e1, e2, rfl⟩ := both_some h
        cases k with
        | zero => simp at hk; subst hk; exact ⟨a, r1, ha, e1, fun p hp => List.mem_append_left _ hp⟩
        | succ k =>
          obtain ⟨a', r', p1, p2, p3⟩ := ih e2 k o (by simpa using hk) hd
          exact ⟨a', r', by rw [show i + (k + 1) = i + 1 + k by omega]; exact p1, p2, fun p hp => List.mem_append_right _ (p3 p hp)⟩
      · cases h
theorem atOk_get {n nx : Nat} {dd : Nat → Bool} : ∀ {l : List Nat}, atOk n nx dd l = true → (∀ (k j : Nat), l[k]? = some j → (n ≤ j ∨ dd j = true) ∧ j < nx) ∧ ∀ (k k' j : Nat), l[k]? = some j → l[k']? = some j → k = k' := by
  intro l
  induction l with
  | nil => intro _; exact ⟨fun k j h => by simp at h, fun k k' j h => by simp at h⟩
  | cons x l ih =>
    intro h
    simp only [atOk] at h
    split at h
    · rename_i h1 h2
      obtain ⟨r1, r2⟩ := ih h
      obtain ⟨h1a, h1b⟩ := and_split h1
      have hm := memL_ok h2
      have h1b : n ≤ x ∨ dd x = true := by
        cases hb : Nat.ble n x
        · rw [hb] at h1b
          exact .inr (by simpa using h1b)
        · exact .inl (Nat.le_of_ble_eq_true hb)
      refine ⟨fun k j hk => ?_, fun k k' j hk hk' => ?_⟩
      · cases k with
        | zero => simp at hk; subst hk; exact ⟨h1b, by simpa [Nat.blt_eq] using h1a⟩
        | succ k => exact r1 k j (by simpa using hk)
      · cases k with
        | zero =>
          cases k' with
          | zero => rfl
          | succ k' => simp at hk hk'; subst hk; exact absurd hk' (hm k')
        | succ k =>
          cases k' with
          | zero => simp at hk hk'; subst hk'; exact absurd hk (hm k)
          | succ k' => rw [r2 k k' j (by simpa using hk) (by simpa using hk')]
    · cases h
theorem rep_var (ρ : Env) : ρ.rep IE.var = ρ := rfl
/-- One outcome of a run. -/
def RGoes (R : RunR) (ρ : Env) (B : Nat → Prop) (W : World) (args : List AVal) (h : T AObj) (nx : Nat) (s : ASt) : Prop := nx ≤ s.nx ∧
  ∀ f w args', HRel ρ B W f h w → LRel ρ f args args' → Fresh f nx s.nx →
    R args' w fun v' w' => ∃ f', f.le f' ∧ Outside f f' nx s.nx ∧ HRel ρ B W f' s.hp w' ∧ ∀ v, s.tm.get 0 = some v → VRel ρ f' v v'
theorem CallGoes.toR {P : Program} {ρ : Env} {B : Nat → Prop} {W : World} {g : FuncId} {args : List AVal} {h : T AObj} {nx : Nat} {s : ASt} (k : CallGoes P ρ B W g args h nx s) : RGoes (callR P g) ρ B W args h nx s :=
  ⟨k.1, fun f w args' h1 h2 h3 => (k.2 f w args' h1 h2 h3).mono fun e w' ⟨v', f', e1, e2, e3, e4, e5⟩ => ⟨v', e1, f', e2, e3, e4, e5⟩⟩
/-- A run that ends as the contract says. -/
theorem Con.at_ends {R : RunR} (hR : RMono R) {ρ : Env} {c : Con} {s : ASt} {at' : List Nat} {q : Prs} (hgo : ∀ B W, RGoes R ρ B W c.args (treeOf c.os 0 .nil) c.os.length s) (hends : c.ends at' s = some q) (hq : q.hold ρ) : c.OkAt R ρ := by
  obtain ⟨q0, hends, hq⟩ : ∃ q0, c.ends0 at' s = some q0 ∧ q0.hold ρ := by
    unfold Con.ends at hends
    split at hends
    · rename_i q0 h0
      cases hends
      exact ⟨q0, h0, dupDig_hold (fun d hd => by cases hd) (sortDig_hold hq)⟩
    · cases hends
  intro B W f w args' hr ha hn
  unfold Con.ends0 at hends
  split at hends
  · cases hends
  · rename_i v hv
    split at hends
    · rename_i hck
      obtain ⟨k1, hck⟩ := and_split hck
      obtain ⟨k2, hck⟩ := and_split hck
      obtain ⟨k3, k4⟩ := and_split hck
      have k2 := Nat.eq_of_beq_eq_true k2
      have k2 : c.os.length + at'.length = c.os'.length := k2
      obtain ⟨r1, r2, e1, e2, rfl⟩ := both_some hends
      obtain ⟨q1, q2⟩ := Prs.hold_app hq
      obtain ⟨a1, a2⟩ := atOk_get k1
      have hw : c.res.within (Nat.blt · c.os'.length) = true := (and_split k3).1
      generalize hπ : runB c.os.length at' = π at *
      have dd0 : ∀ i, deadAt c.os' i = true → ∃ o, c.os'[i]? = some o ∧ o.dead = true := fun i hi => by
        unfold deadAt at hi
        split at hi
        · rename_i o ho; exact ⟨o, ho, hi⟩
        · cases hi
      have pold : ∀ i, i < c.os.length → π i = i := fun i hi => by
        rw [← hπ]; unfold runB
        rw [show Nat.blt i c.os.length = true by simp [Nat.blt_eq, hi]]
      have pnew : ∀ i, c.os.length ≤ i → i < c.os'.length → ∃ j, at'[i - c.os.length]? = some j ∧ π i = j := fun i hi hlt => by
        have : at'[i - c.os.length]? = some (at'[i - c.os.length]'(by omega)) := List.getElem?_eq_getElem (by omega)
        refine ⟨_, this, ?_⟩
        rw [← hπ]; unfold runB
        rw [show Nat.blt i c.os.length = false by cases hb : Nat.blt i c.os.length <;> simp [Nat.blt_eq] at hb ⊢; omega, this]
      have pinj : ∀ i i', i < c.os'.length → i' < c.os'.length → deadAt c.os' i = false → deadAt c.os' i' = false → π i = π i' → i = i' := by
        intro i i' hi hi' hdi hdi' e
        rcases Nat.lt_or_ge i c.os.length with g | g
        · rcases Nat.lt_or_ge i' c.os.length with g' | g'
          · rw [pold i g, pold i' g'] at e; exact e
          · obtain ⟨j, hj, ej⟩ := pnew i' g' hi'
            have := a1 _ _ hj
            rw [pold i g, ej] at e
            subst e
            rcases this.1 with h | h
            · omega
            · rw [hdi] at h; cases h
        · obtain ⟨j, hj, ej⟩ := pnew i g hi
          rcases Nat.lt_or_ge i' c.os.length with g' | g'
          · have := a1 _ _ hj
            rw [pold i' g', ej] at e
            subst e
            rcases this.1 with h | h
            · omega
            · rw [hdi'] at h; cases h
          · obtain ⟨j', hj', ej'⟩ := pnew i' g' hi'
            rw [ej, ej'] at e
            subst e
            have := a2 _ _ _ hj hj'
            omega
      refine hR _ _ _ _ ((hgo B W).2 f w args' hr ha (fun j hj _ => hn j hj)) fun v' w' ⟨f', b2, b3, b4, b5⟩ => ?_
      let d : Nat → Bool := (Nat.blt · c.os'.length)
      have hd : ∀ i, d i = true ↔ i < c.os'.length := fun i => by simp [d, Nat.blt_eq]
      let f'' : Ren := fun i => if i < c.os'.length then f' (π i) else f i
      have fin : ∀ i, i < c.os'.length → f'' i = f' (π i) := fun i hi => if_pos hi
      have fout : ∀ i, ¬ i < c.os'.length → f'' i = f i := fun i hi => if_neg hi
      have fold : ∀ i, i < c.os.length → f'' i = f i := fun i hi => by
        by_cases hlt : i < c.os'.length
        · rw [fin i hlt, pold i hi, b3 i (.inl hi)]
        · exact fout i hlt
      have via : (f'.via d π).le f'' := by
        intro i L hi
        unfold Ren.via at hi
        split at hi
        · rename_i hdi
          rw [fin i ((hd i).1 hdi)]
          exact hi
        · cases hi
      have obj : ∀ (i : Nat) (o : AObj), c.os'[i]? = some o → o.dead = false → ∀ L, f'' i = some L → ∃ a, s.hp.get (π i) = some a ∧ f' (π i) = some L ∧ ORel ρ f'' B w' L o ∧ (o.own = true → a.own = true) ∧ ∀ b, o.foot ρ w' L b → a.foot ρ w' L b := by
        intro i o ho hdo L hL
        have hi : i < c.os'.length := (List.getElem?_eq_some_iff.1 ho).1
        obtain ⟨a, r, p1, p2, p3⟩ := objsPrs_get e2 i o ho hdo
        rw [Nat.zero_add] at p1
        rw [fin i hi] at hL
        have ha := b4.obj _ L a hL p1
        obtain ⟨ha1, hf1⟩ := pickO_ok (own := o.own) ha
        obtain ⟨ha2, hown, hf2⟩ := AObj.pairs_ok p2 (fun p hp => q2 p (p3 p hp)) ha1
        have hin := objsIn_get k4 i o ho
        have hf3 : ∀ b, (putR .var π o).foot ρ w' L b ↔ o.foot (ρ.rep .var) w' L b := by
          intro b
          cases o <;> exact Iff.rfl
        have hfoot : ∀ b, o.foot ρ w' L b → a.foot ρ w' L b := fun b hb => (hf1 b).1 ((hf2 b).1 ((hf3 b).2 (by rw [rep_var]; exact hb)))
        have hownA : o.own = true → a.own = true := fun hob => by
          rw [hob] at hown
          rw [putR_own, hob] at hown
          exact hown.symm
        have := (putR_ok (B' := B) hin ha2 (fun hown b hb => by
          rw [rep_var] at hb
          exact own_foot ha (hownA hown) b (hfoot b hb))).1
        rw [rep_var] at this
        exact ⟨a, p1, hL, this.mono via, hownA, hfoot⟩
      have live : ∀ (i : Nat) (o : AObj), c.os'[i]? = some o → o.dead = false → deadAt c.os' i = false := fun i o ho hd => by
        unfold deadAt
        rw [ho]
        exact hd
      refine ⟨f'', fun i L hi => ?_, fun i hi => ?_, ⟨b4.below, b4.bsize, fun i L hi => ?_, fun i i' L L' o o' hi hi' gi gi' hii hown b hb hb' => ?_, fun i L o hi hg => ?_⟩, ?_⟩
      · rcases Nat.lt_or_ge i c.os.length with g | g
        · rw [fold i g]; exact hi
        · rw [hn i g] at hi; cases hi
      · rcases Nat.lt_or_ge i c.os.length with g | g
        · exact fold i g
        · exact fout i (by omega)
      · by_cases g : i < c.os'.length
        · rw [fin i g] at hi; exact b4.lt _ L hi
        · rw [fout i g, hn i (by omega)] at hi; cases hi
      · obtain ⟨gi, di⟩ := outList gi
        obtain ⟨gi', di'⟩ := outList gi'
        obtain ⟨a, p1, p2, p3, p4, p5⟩ := obj i o gi di L hi
        obtain ⟨a', p1', p2', p3', p4', p5'⟩ := obj i' o' gi' di' L' hi'
        have g := (List.getElem?_eq_some_iff.1 gi).1
        have g' := (List.getElem?_eq_some_iff.1 gi').1
        exact b4.apart _ _ L L' a a' p2 p2' p1 p1' (fun e => hii (pinj i i' g g' (live i o gi di) (live i' o' gi' di') e)) (p4 hown) b (p5 b hb) (p5' b hb')
      · obtain ⟨hg, hd⟩ := outList hg
        obtain ⟨a, p1, p2, p3, p4, p5⟩ := obj i o hg hd L hi
        exact p3
      · have h5 := AVal.pairs_ok (b5 v hv) e1 q1
        have := VRel.sub_of (σ := .var) (π := π) (d := d) c.res v' hw h5
        rw [rep_var] at this
        exact this.mono via
    · cases hends
theorem Con.of_ends {P : Program} {G : Nat → Int → Int → Int → Int} {GH : Nat → Ghost} {c : Con} (h : ∀ ρ : Env, ρ.std G GH → ρ.ok (bdL c.bds) → c.pre.holds ρ →
      ∃ s at' q, (∀ B W, CallGoes P ρ B W c.g c.args (treeOf c.os 0 .nil) c.os.length s) ∧ c.ends at' s = some q ∧ q.hold ρ) : c.Ok P G GH := by
  intro ρ h1 h2 h3
  obtain ⟨s, at', q, hgo, hends, hq⟩ := h ρ h1 h2 h3
  exact Con.at_ends (callR_mono P c.g) (fun B W => (hgo B W).toR) hends hq
end
end Go.Sx
/- Loops known beforehand: contracts from a pattern of slots and blocks, shown by one round and themselves. No condition. -/
set_option linter.unusedSimpArgs false
set_option linter.unusedVariables false
namespace Go.Sx
open Go.RowKit (Below)
noncomputable section
/-- What a loop does: the contract's arguments are the slots sl, its result the tuple of the slots sl'. -/
structure LCon where
  con : Con
  key : Nat
  n : Nat
  sl : List Nat
  e : AExit
  sl' : List Nat
  pick : ASt → Bool := fun _ => true
def slotsOf (tm : T AVal) : List Nat → Option (List AVal)
  | [] => some []
  | k :: l =>
    match tm.get k with
    | some v =>
      match slotsOf tm l with
      | some m => some (v :: m)
      | none => none
    | none => none
def tmOf : List Nat → List AVal → T AVal → T AVal
  | [], _, t => t
  | k :: l, m, t =>
    match m with
    | [] => t
    | v :: m => tmOf l m (t.set k v)
theorem slotsOf_get {tm : T AVal} : ∀ {l : List Nat} {m : List AVal}, slotsOf tm l = some m → m.length = l.length ∧ ∀ (i k : Nat), l[i]? = some k → ∃ v, m[i]? = some v ∧ tm.get k = some v := by
  intro l
  induction l with
  | nil => intro m h; cases h; exact ⟨rfl, fun i k h => by simp at h⟩
  | cons x l ih =>
    intro m h
    unfold slotsOf at h
    split at h
    · rename_i v hv
      split at h
      · rename_i m' hm
        cases h
        obtain ⟨h1, h2⟩ := ih hm
        refine ⟨by simp [h1], fun i k hk => ?_⟩
        cases i with
        | zero => simp at hk; subst hk; exact ⟨v, rfl, hv⟩
        | succ i => exact h2 i k (by simpa using hk)
      · cases h
    · cases h
theorem tmOf_get : ∀ {l : List Nat} {m : List AVal} {t : T AVal} {k : Nat} {v : AVal}, (tmOf l m t).get k = some v → (∃ i : Nat, l[i]? = some k ∧ m[i]? = some v) ∨ t.get k = some v := by
  intro l
  induction l with
  | nil => intro m t k v h; exact .inr h
  | cons x l ih =>
    intro m t k v h
    cases m with
    | nil => exact .inr h
    | cons y m =>
      rcases ih h with ⟨i, h1, h2⟩ | h1
      · exact .inl ⟨i + 1, by simpa using h1, by simpa using h2⟩
      · rcases T.get_set h1 with ⟨rfl, rfl⟩ | ⟨_, h2⟩
        · exact .inl ⟨0, rfl, rfl⟩
        · exact .inr h2
/-- At most m rounds of a loop, as a run. -/
def roundsR (P : Program) (b : Code) (c : LCon) (m : Nat) : RunR := fun args w Q =>
  ∀ a : Act, a.tmps.size = c.n → a.defers = [] → (∀ (i s : Nat) (x : Value), c.sl[i]? = some s → args[i]? = some x → a.tmps.getD s Go.undef = x) → ∀ Q0 : Exit → Act → World → Prop,
    (∀ (v : Value) (a' : Act) (w' : World), Q v w' → a'.tmps.size = c.n → a'.defers = [] → (∃ l : Array Value, v = .tuple l ∧ l.size = c.sl'.length ∧ ∀ (i s : Nat), c.sl'[i]? = some s → l[i]? = some (a'.tmps.getD s Go.undef)) → Q0 c.e.to a' w') → Code.rounds P b Q0 m a w
theorem roundsR_mono (P : Program) (b : Code) (c : LCon) (m : Nat) : RMono (roundsR P b c m) :=
  fun args w Q Q' h hq a h1 h2 h3 Q0 h4 => h a h1 h2 h3 Q0 fun v a' w' k1 k2 k3 k4 => h4 v a' w' (hq v w' k1) k2 k3 k4
def LCon.Ok (P : Program) (G : Nat → Int → Int → Int → Int) (GH : Nat → Ghost) (c : LCon) : Prop :=
  ∀ (fn : Func) (cd b : Code), P.funcs[c.con.g]? = some fn → fn.body = some cd → b ∈ loopsOf cd → Code.key b = c.key →
    ∀ ρ : Env, ρ.std G GH → ρ.ok (bdL c.con.bds) → c.con.pre.holds ρ → ∃ m, c.con.OkAt (roundsR P b c m) ρ
/-! put to use -/
/-! nil slices that a pattern takes for growing ones -/
def prep1 (os : List AObj) (k : Nat) (p : AVal) (s : ASt) : ASt :=
  match p with
  | .sliceA i _ sz =>
    match s.tm.get k with
    | some (.slice none 0 0 0) =>
      match os[i]? with
      | some (.arr ks _ _ _) => ⟨s.tm.set k (.sliceA s.nx (.lit 0) sz), s.hp.set s.nx (.arr ks (.lit 0) (.lit 0) true), s.nx + 1⟩
      | _ => s
    | _ => s
  | _ => s
def prepS (os : List AObj) : List Nat → List AVal → ASt → ASt
  | k :: sl, p :: ps, s => prepS os sl ps (prep1 os k p s)
  | _, _, s => s
theorem prep1_nx (os : List AObj) (k : Nat) (p : AVal) (s : ASt) : s.nx ≤ (prep1 os k p s).nx := by
  unfold prep1
  repeat' split
  all_goals first
    | exact Nat.le_refl _
    | exact Nat.le_succ _
theorem prepS_nx (os : List AObj) : ∀ (sl : List Nat) (ps : List AVal) (s : ASt), s.nx ≤ (prepS os sl ps s).nx := by
  intro sl
  induction sl with
  | nil => intro ps s; exact Nat.le_refl _
  | cons k sl ih =>
    intro ps s
    cases ps with
    | nil => exact Nat.le_refl _
    | cons p ps => exact Nat.le_trans (prep1_nx os k p s) (ih ps _)
theorem prep1_ok {ρ : Env} {B : Nat → Prop} {W w : World} {n N : Nat} {f : Ren} {a : Act} (os : List AObj) (k : Nat) (p : AVal) (s : ASt) (hN : (prep1 os k p s).nx ≤ N) (hs : StRel ρ B W n N f s a w) : StRel ρ B W n N f (prep1 os k p s) a w := by
  unfold prep1 at *
  split at hN
  · rename_i i l sz
    split at hN
    · rename_i hk
      split at hN
      · have hnone : f s.nx = none := hs.fresh s.nx (Nat.le_refl _) (by have : s.nx + 1 ≤ N := hN; omega)
        refine ⟨hs.size, fun d v hd => ?_, hs.defers, hs.heap.extra hnone _, hs.fresh.sub (Nat.le_succ _) (Nat.le_refl _)⟩
        rcases T.get_set hd with ⟨rfl, rfl⟩ | ⟨_, hd⟩
        · have := hs.tm _ _ hk
          generalize a.tmps.getD d Go.undef = u at this ⊢
          cases this
          exact .sliceN rfl
        · exact hs.tm d v hd
      · exact hs
    · exact hs
  · exact hs
theorem prepS_ok {ρ : Env} {B : Nat → Prop} {W w : World} {n N : Nat} {f : Ren} {a : Act} (os : List AObj) : ∀ (sl : List Nat) (ps : List AVal) (s : ASt), (prepS os sl ps s).nx ≤ N → StRel ρ B W n N f s a w → StRel ρ B W n N f (prepS os sl ps s) a w := by
  intro sl
  induction sl with
  | nil => intro ps s _ hs; exact hs
  | cons k sl ih =>
    intro ps s hN hs
    cases ps with
    | nil => exact hs
    | cons p ps => exact ih ps _ hN (prep1_ok os k p s (Nat.le_trans (prepS_nx os sl ps _) hN) hs)
def LCon.run0 (C : Ctx) (c : LCon) (s : ASt) : Option (AExit × ASt) :=
  match slotsOf s.tm c.sl with
  | some args =>
    match c.con.fit C args s.hp s.nx with
    | some (sg, pb) =>
      match c.con.then C s.hp s.nx sg pb with
      | (v, hp', nx') =>
        match v with
        | .tuple vs =>
          match Nat.beq vs.length c.sl'.length with
          | true => some (c.e, ⟨tmOf c.sl' vs .nil, hp', nx'⟩)
          | false => none
        | _ => none
    | none => none
  | none => none
theorem act_args {a : Act} {l : List Nat} {i s : Nat} {x : Value} (hs : l[i]? = some s) (hx : (l.map fun k => a.tmps.getD k Go.undef).toArray[i]? = some x) : a.tmps.getD s Go.undef = x := by
  have : (l.map fun k => a.tmps.getD k Go.undef)[i]? = some x := by simpa using hx
  rw [List.getElem?_map, hs] at this
  exact Option.some.inj this
theorem TmRel.args {ρ : Env} {f : Ren} {tm : T AVal} {a : Act} (ht : TmRel ρ f tm a) {l : List Nat} {m : List AVal} (h : slotsOf tm l = some m) : LRel ρ f m (l.map fun k => a.tmps.getD k Go.undef).toArray := by
  obtain ⟨h1, h2⟩ := slotsOf_get h
  refine ⟨by simp [h1], fun i v v' hv hv' => ?_⟩
  have hi : i < l.length := by rw [← h1]; exact (List.getElem?_eq_some_iff.1 hv).1
  have hk : l[i]? = some (l[i]'hi) := List.getElem?_eq_getElem hi
  obtain ⟨u, k1, k2⟩ := h2 i _ hk
  rw [hv] at k1
  cases k1
  rw [← act_args hk hv']
  exact ht _ _ k2
/-- The state behind, by the slots' values. -/
theorem TmRel.back {ρ : Env} {f : Ren} {a : Act} {l : Array Value} {sl : List Nat} {vs : List AVal} (hv : VRel ρ f (.tuple vs) (.tuple l)) (hl : ∀ (i s : Nat), sl[i]? = some s → l[i]? = some (a.tmps.getD s Go.undef)) : TmRel ρ f (tmOf sl vs .nil) a := by
  intro d v h
  rcases tmOf_get h with ⟨i, h1, h2⟩ | h1
  · cases hv with
    | tuple ha hb => exact hb i v _ h2 (hl i d h1)
  · rw [T.get_nil] at h1; cases h1
theorem LCon.run0_ok {C : Ctx} {P : Program} {ρ : Env} (hC : C.Ok P ρ) {G : Nat → Int → Int → Int → Int} {GH : Nat → Ghost} (hρ : ρ.std G GH) {c : LCon} (hwf : c.con.wf = true) (hc : c.Ok P G GH) {fn : Func} {cd b : Code} (hf : P.funcs[c.con.g]? = some fn) (hb : fn.body = some cd) (hm : b ∈ loopsOf cd) (hk : Code.key b = c.key)
    {s s' : ASt} {e : AExit} (h : c.run0 C s = some (e, s')) {B : Nat → Prop} {W : World} : ∃ m, GoesR P ρ B W c.n b m s e s' := by
  unfold LCon.run0 at h
  split at h
  · rename_i args hargs
    split at h
    · rename_i sg pb hfit
      split at h
      rename_i v hp' nx' hthen
      split at h
      · rename_i vs
        split at h
        · cases h
          obtain ⟨h1, h2, h3⟩ := Con.fit_ok hC hwf hfit
          have hnx : nx' = s.nx + (c.con.os'.length - c.con.os.length) := by
            have := congrArg (·.2.2) hthen
            exact this.symm
          subst hnx
          obtain ⟨m, hat⟩ := hc fn cd b hf hb hm hk (ρ.rep (sigOf sg)) ⟨hρ.1, hρ.2⟩ h1 h2
          refine ⟨m, Nat.le_add_right _ _, fun N f a w Q hN hr hQ => ?_⟩
          have := h3 _ (roundsR_mono P b c m) hat B W f w (c.sl.map fun k => a.tmps.getD k Go.undef).toArray hr.heap (hr.tm.args hargs) (hr.fresh.sub (Nat.le_refl _) hN)
          refine this a hr.size hr.defers (fun i s x hs hx => act_args hs hx) Q fun v' a' w' ⟨f', k1, k2, k3, k4⟩ k5 k6 ⟨l, k7, k8, k9⟩ => ?_
          rw [hthen] at k3 k4
          subst k7
          exact hQ f' a' w' k1 k2 ⟨k5, TmRel.back k4 k9, k6, k3, hr.fresh.step k2 (Nat.le_add_right _ _)⟩
        · cases h
      · cases h
    · cases h
  · cases h
/-! cells of integers that a pattern takes for rows -/
def prepC1 (bd : Bd) (dec : Dec) (os : List AObj) (k : Nat) (p : AVal) (s : ASt) : ASt :=
  match p with
  | .sliceA i _ sz =>
    match s.tm.get k with
    | some (.slice (some (b, 0)) n _ (g + 1)) =>
      match os[i]?, s.hp.get b with
      | some (.arr ks _ _ _), some (.cells cs t o top) =>
        match Nat.blt 0 n && (Nat.beq sz (g + 1) && (AObj.arr ks (packRow (cellInts cs 0 (Nat.mul n sz))) (.lit (.ofNat n)) o).cov bd dec (.cells cs t o top)) with
        | true => ⟨s.tm.set k (.sliceA b (.lit (.ofNat n)) sz), s.hp.set b (.arr ks (packRow (cellInts cs 0 (Nat.mul n sz))) (.lit (.ofNat n)) o), s.nx⟩
        | false => s
      | _, _ => s
    | _ => s
  | _ => s
theorem prepC1_cov {ρ : Env} {bd : Bd} {dec : Dec} (hρ : ρ.ok bd) (hd : dec.holds ρ) (os : List AObj) (k : Nat) (p : AVal) (s : ASt) : SCov ρ s (prepC1 bd dec os k p s) ∧ (prepC1 bd dec os k p s).nx = s.nx := by
  unfold prepC1
  split
  · rename_i i l sz
    split
    · rename_i b n c g hk
      split
      · rename_i ks c2 n2 o2 cs t o top hos hb
        split
        · rename_i hc
          obtain ⟨h0, hc⟩ := and_split hc
          obtain ⟨h1, hc⟩ := and_split hc
          have h0 : 0 < n := by simpa [Nat.blt_eq] using h0
          have h1 := Nat.eq_of_beq_eq_true h1
          subst h1
          refine ⟨⟨fun k' v hv => ?_, fun j x hx => ?_, Nat.le_refl _⟩, rfl⟩
          · rcases T.get_set hv with ⟨rfl, rfl⟩ | ⟨_, hv⟩
            · refine ⟨_, hk, fun f x hx => ?_⟩
              generalize hu : (AVal.slice (some (b, 0)) n c (g + 1)) = u at hx
              cases hx with
              | sliceG hf hn hc' hs =>
                cases hu
                rename_i c'' L
                have := VRel.sliceA (ρ := ρ) (f := f) (i := b) (s := g + 1) (c := c'') (len := .lit (.ofNat n)) (L := L) hf (by show (0 : Int) ≤ (n : Int); omega) (by show ((n : Int)).toNat ≤ c''; omega) (by rw [Nat.add_zero] at hs; exact hs)
                exact this
              | sliceE hf hg hs => cases hu; omega
              | _ => cases hu
            · exact ⟨v, hv, fun _ _ h => h⟩
          · rcases T.get_set hx with ⟨rfl, rfl⟩ | ⟨_, hx⟩
            · exact ⟨_, hb, rfl, fun _ _ _ => Iff.rfl, fun f B w L ho => (AObj.cov_ok (ρ := ρ) hρ hd hc ho).1⟩
            · exact ⟨x, hx, rfl, fun _ _ _ => Iff.rfl, fun _ _ _ _ h => h⟩
        · exact ⟨SCov.refl ρ s, rfl⟩
      · exact ⟨SCov.refl ρ s, rfl⟩
    · exact ⟨SCov.refl ρ s, rfl⟩
  · exact ⟨SCov.refl ρ s, rfl⟩
def prepC (bd : Bd) (dec : Dec) (os : List AObj) : List Nat → List AVal → ASt → ASt
  | k :: sl, p :: ps, s => prepC bd dec os sl ps (prepC1 bd dec os k p s)
  | _, _, s => s
theorem prepC_cov {ρ : Env} {bd : Bd} {dec : Dec} (hρ : ρ.ok bd) (hd : dec.holds ρ) (os : List AObj) : ∀ (sl : List Nat) (ps : List AVal) (s : ASt), SCov ρ s (prepC bd dec os sl ps s) ∧ (prepC bd dec os sl ps s).nx = s.nx := by
  intro sl
  induction sl with
  | nil => intro ps s; exact ⟨SCov.refl ρ s, rfl⟩
  | cons k sl ih =>
    intro ps s
    cases ps with
    | nil => exact ⟨SCov.refl ρ s, rfl⟩
    | cons p ps =>
      obtain ⟨a1, a2⟩ := prepC1_cov hρ hd os k p s
      obtain ⟨b1, b2⟩ := ih ps (prepC1 bd dec os k p s)
      exact ⟨a1.trans b1, b2.trans a2⟩
/-- The blocks made ready. -/
def prepO (c : Con) (sl : List Nat) (s : ASt) : ASt :=
  match slotsOf s.tm sl with
  | some args =>
    match c.prep args s.hp s.nx with
    | (h, nx) => ⟨s.tm, h, nx⟩
  | none => s
theorem prepO_ok {ρ : Env} (c : Con) (sl : List Nat) (s : ASt) : s.nx ≤ (prepO c sl s).nx ∧ ∀ {B : Nat → Prop} {W w : World} {n N : Nat} {f : Ren} {a : Act}, (prepO c sl s).nx ≤ N → StRel ρ B W n N f s a w → StRel ρ B W n N f (prepO c sl s) a w := by
  unfold prepO
  split
  · rename_i args _
    have hp := Con.prep_ok ρ c args s.hp s.nx
    generalize c.prep args s.hp s.nx = hn at hp
    obtain ⟨h1, nx1⟩ := hn
    refine ⟨hp.1, fun {B W w n N f a} hN hs => ?_⟩
    have hN : nx1 ≤ N := hN
    exact ⟨hs.size, hs.tm, hs.defers, hp.2 B W f w hs.heap fun j a b => hs.fresh j a (Nat.lt_of_lt_of_le b hN), hs.fresh.sub hp.1 (Nat.le_refl _)⟩
  · exact ⟨Nat.le_refl _, fun _ hs => hs⟩
def LCon.ready (C : Ctx) (c : LCon) (s : ASt) : ASt := prepC C.bd C.dec c.con.os c.sl c.con.args (prepO c.con c.sl (prepS c.con.os c.sl c.con.args s))
def LCon.run (C : Ctx) (c : LCon) (s : ASt) : Option (AExit × ASt) := c.run0 C (c.ready C s)
theorem LCon.run_ok {C : Ctx} {P : Program} {ρ : Env} (hC : C.Ok P ρ) {G : Nat → Int → Int → Int → Int} {GH : Nat → Ghost} (hρ : ρ.std G GH) {c : LCon} (hwf : c.con.wf = true) (hc : c.Ok P G GH) {fn : Func} {cd b : Code} (hf : P.funcs[c.con.g]? = some fn) (hb : fn.body = some cd) (hm : b ∈ loopsOf cd) (hk : Code.key b = c.key)
    {s s' : ASt} {e : AExit} (h : c.run C s = some (e, s')) {B : Nat → Prop} {W : World} : ∃ m, GoesR P ρ B W c.n b m s e s' := by
  obtain ⟨m, h1, h2⟩ := LCon.run0_ok hC hρ hwf hc hf hb hm hk h (B := B) (W := W)
  have hle := prepS_nx c.con.os c.sl c.con.args s
  obtain ⟨hle2, ho⟩ := prepO_ok (ρ := ρ) c.con c.sl (prepS c.con.os c.sl c.con.args s)
  unfold LCon.ready at h1 h2
  obtain ⟨hcov, hnx⟩ := prepC_cov (ρ := ρ) hC.bd hC.dec c.con.os c.sl c.con.args (prepO c.con c.sl (prepS c.con.os c.sl c.con.args s))
  rw [hnx] at h1 h2
  refine ⟨m, Nat.le_trans hle (Nat.le_trans hle2 h1), fun N f a w Q hN hs hQ => h2 N f a w Q hN (hcov.st (ho (Nat.le_trans h1 hN) (prepS_ok _ _ _ _ (Nat.le_trans hle2 (Nat.le_trans h1 hN)) hs))) fun f' a' w' q1 q2 q3 => hQ f' a' w' q1 (fun j hj => q2 j (by omega)) q3⟩
/-! lists of contracts -/
structure Know where
  cons : List Con := []
  loops : List LCon := []
structure Know.Ok (P : Program) (G : Nat → Int → Int → Int → Int) (GH : Nat → Ghost) (K : Know) : Prop where
  cons : ConsOk P G GH K.cons
  loops : ∀ c ∈ K.loops, c.con.wf = true ∧ c.Ok P G GH
def hasLoop : List LCon → FuncId → Nat → Bool
  | [], _, _ => false
  | c :: l, g, k =>
    match Nat.beq g c.con.g && Nat.beq k c.key with
    | true => true
    | false => hasLoop l g k
def loopRun (C : Ctx) : List LCon → FuncId → Nat → Nat → ASt → Option (AExit × ASt)
  | [], _, _, _, _ => none
  | c :: l, g, n, k, s =>
    match Nat.beq g c.con.g && (Nat.beq k c.key && (Nat.beq n c.n && c.pick s)) with
    | true =>
      match c.run C s with
      | some r => some r
      | none => loopRun C l g n k s
    | false => loopRun C l g n k s
def loopAsk (C : Ctx) : List LCon → FuncId → Nat → ASt → List BE
  | [], _, _, _ => []
  | c :: l, g, k, s =>
    match Nat.beq g c.con.g && (Nat.beq k c.key && c.pick s) with
    | true =>
      match c.ready C s with
      | t =>
        match slotsOf t.tm c.sl with
        | some args =>
          match c.con.ask C args t.hp with
          | [] => loopAsk C l g k s
          | bs => bs
        | none => loopAsk C l g k s
    | false => loopAsk C l g k s
def smKnow (C : Ctx) (K : Know) : Sm :=
  { call := fun dec => conCall (C.with dec) K.cons, ask := fun dec g args h => conAsk (C.with dec) K.cons g args h,
    lps := fun g => { has := hasLoop K.loops g, run := fun n k dec s => loopRun (C.with dec) K.loops g n k s, ask := fun k dec s => loopAsk (C.with dec) K.loops g k s } }
theorem smKnow_ok {C : Ctx} {P : Program} {ρ : Env} (hC : C.Ok P ρ) {G : Nat → Int → Int → Int → Int} {GH : Nat → Ghost} (hρ : ρ.std G GH) {K : Know} (hl : K.Ok P G GH) : SmOk P ρ (smKnow C K) := by
  refine ⟨fun dec hd B W => conCall_ok (hC.with hd) hρ hl.cons, fun g fn cd hf hb B W n b hm dec hd s e s' h => ?_⟩
  have h : loopRun (C.with dec) K.loops g n (Code.key b) s = some (e, s') := h
  have key : ∀ l : List LCon, (∀ c ∈ l, c.con.wf = true ∧ c.Ok P G GH) → loopRun (C.with dec) l g n (Code.key b) s = some (e, s') → ∃ m, GoesR P ρ B W n b m s e s' := by
    intro l
    induction l with
    | nil => intro _ h; cases h
    | cons c l ih =>
      intro hl h
      have hl' : ∀ c ∈ l, c.con.wf = true ∧ c.Ok P G GH := fun c hc => hl c (List.mem_cons_of_mem _ hc)
      unfold loopRun at h
      split at h
      · rename_i hck
        obtain ⟨k1, hck⟩ := and_split hck
        obtain ⟨k2, hck⟩ := and_split hck
        obtain ⟨k3, _⟩ := and_split hck
        have k1 := Nat.eq_of_beq_eq_true k1
        have k2 := Nat.eq_of_beq_eq_true k2
        have k3 := Nat.eq_of_beq_eq_true k3
        split at h
        · rename_i r hr
          cases h
          obtain ⟨w1, w2⟩ := hl c (List.mem_cons_self ..)
          subst k3
          exact LCon.run_ok (hC.with hd) hρ w1 w2 (by rw [← k1]; exact hf) hb hm k2 hr
        · exact ih hl' h
      · exact ih hl' h
  exact key K.loops hl.loops h
/-! the proof of a loop's contract: a round, then itself -/
def loopBody (C : Ctx) (g : FuncId) (k : Nat) : Option Code :=
  match C.fn.get g with
  | some fn =>
    match fn.body with
    | some cd =>
      match (loopsOf cd).filter fun b => Nat.beq (Code.key b) k with
      | [b] => some b
      | _ => none
    | none => none
  | none => none
/-! bounds made sharper by what is known -/
def topI (a b : Int) : Int := match intLe a b with
  | true => b
  | false => a
def lowI (a b : Int) : Int := match intLe a b with
  | true => a
  | false => b
def isVar (i : Nat) : IE → Bool
  | .var j => Nat.beq j i
  | _ => false
def sharp1 (bd : Bd) (i : Nat) (a b : IE) (v : Bool) (r : Int × Int) : Int × Int :=
  match isVar i a with
  | true => match rng bd b with
    | some (l, h) => match v with
      | true => (r.1, lowI r.2 (h - 1))
      | false => (topI r.1 l, r.2)
    | none => r
  | false => r
def sharp2 (bd : Bd) (i : Nat) (a b : IE) (v : Bool) (r : Int × Int) : Int × Int :=
  match isVar i b with
  | true => match rng bd a with
    | some (l, h) => match v with
      | true => (topI r.1 (l + 1), r.2)
      | false => (r.1, lowI r.2 h)
    | none => r
  | false => r
def sharpI (bd : Bd) (i : Nat) : Dec → Int × Int → Int × Int
  | [], r => r
  | (t, v) :: l, r => match t with
    | .lt a b => sharpI bd i l (sharp2 bd i a b v (sharp1 bd i a b v r))
    | _ => sharpI bd i l r
def sharpL (bd : Bd) (dec : Dec) : List (Nat × Int × Int) → List (Nat × Int × Int)
  | [] => []
  | (i, _, _) :: l => match bd i with
    | some r => match sharpI bd i dec r with
      | (lo, hi) => (i, lo, hi) :: sharpL bd dec l
    | none => sharpL bd dec l
theorem isVar_eq {i : Nat} {a : IE} (h : isVar i a = true) : a = .var i := by
  unfold isVar at h
  split at h
  · rw [Nat.eq_of_beq_eq_true h]
  · cases h
theorem topI_le {a b x : Int} (h1 : a ≤ x) (h2 : b ≤ x) : topI a b ≤ x := by
  unfold topI; split <;> assumption
theorem le_lowI {a b x : Int} (h1 : x ≤ a) (h2 : x ≤ b) : x ≤ lowI a b := by
  unfold lowI; split <;> assumption
theorem sharpI_ok {ρ : Env} {bd : Bd} (hρ : ρ.ok bd) {i : Nat} : ∀ {dec : Dec}, dec.holds ρ → ∀ {r : Int × Int}, r.1 ≤ ρ.i i ∧ ρ.i i ≤ r.2 → (sharpI bd i dec r).1 ≤ ρ.i i ∧ ρ.i i ≤ (sharpI bd i dec r).2 := by
  intro dec
  induction dec with
  | nil => intro _ r hr; exact hr
  | cons p l ih =>
    intro hd r hr
    have hl : Dec.holds ρ l := fun q hq => hd q (List.mem_cons_of_mem _ hq)
    obtain ⟨t, v⟩ := p
    cases t with
    | lt a b =>
      have hb : decide (a.ev ρ < b.ev ρ) = v := hd (.lt a b, v) (List.mem_cons_self ..)
      refine ih hl ?_
      have h1 : (sharp1 bd i a b v r).1 ≤ ρ.i i ∧ ρ.i i ≤ (sharp1 bd i a b v r).2 := by
        unfold sharp1
        split
        · rename_i hv
          have hv := isVar_eq hv
          subst hv
          split
          · rename_i lo hi hr'
            have := rng_ok hρ b _ _ hr'
            have e : (IE.var i).ev ρ = ρ.i i := rfl
            rw [e] at hb
            split
            · have hb := of_decide_eq_true hb
              exact ⟨hr.1, le_lowI hr.2 (by omega)⟩
            · have hb := of_decide_eq_false hb
              exact ⟨topI_le hr.1 (by omega), hr.2⟩
          · exact hr
        · exact hr
      unfold sharp2
      split
      · rename_i hv
        have hv := isVar_eq hv
        subst hv
        split
        · rename_i lo hi hr'
          have := rng_ok hρ a _ _ hr'
          have e : (IE.var i).ev ρ = ρ.i i := rfl
          rw [e] at hb
          split
          · have hb := of_decide_eq_true hb
            exact ⟨topI_le h1.1 (by omega), h1.2⟩
          · have hb := of_decide_eq_false hb
            exact ⟨h1.1, le_lowI h1.2 (by omega)⟩
        · exact h1
      · exact h1
    | _ => exact ih hl hr
theorem sharpL_ok {ρ : Env} {bd : Bd} (hρ : ρ.ok bd) {dec : Dec} (hd : dec.holds ρ) : ∀ {l : List (Nat × Int × Int)} (i : Nat) (lo hi : Int), (i, lo, hi) ∈ sharpL bd dec l → lo ≤ ρ.i i ∧ ρ.i i ≤ hi := by
  intro l
  induction l with
  | nil => intro i lo hi h; cases h
  | cons p l ih =>
    intro i lo hi h
    obtain ⟨j, a, b⟩ := p
    unfold sharpL at h
    split at h
    · rename_i r hr
      split at h
      rename_i lo' hi' he
      rcases List.mem_cons.1 h with h | h
      · cases h
        have := sharpI_ok hρ (i := i) hd (r := r) (hρ i r.1 r.2 hr)
        rw [he] at this
        exact this
      · exact ih i lo hi h
    · exact ih i lo hi h
def Ctx.sharp (C : Ctx) (l : List (Nat × Int × Int)) (dec : Dec) : Ctx := { C with bd := bdL (sharpL C.bd dec l), dec := dec }
theorem Ctx.Ok.sharp {C : Ctx} {P : Program} {ρ : Env} (hC : C.Ok P ρ) (l : List (Nat × Int × Int)) {dec : Dec} (hd : dec.holds ρ) : (C.sharp l dec).Ok P ρ :=
  ⟨hC.ty, hC.fn, bdL_ok fun i lo hi h => sharpL_ok hC.bd hd i lo hi h, hd, hC.plain, hC.mixed⟩
/-- A state, its expressions in few words. -/
def ASt.nrmS (bd : Bd) (dec : Dec) (s : ASt) : ASt := ⟨s.tm.mapV (AVal.nrmA bd dec), s.hp.mapV (putO bd dec IE.var id), s.nx⟩
theorem ASt.nrmS_cov {ρ : Env} {bd : Bd} {dec : Dec} (hρ : ρ.ok bd) (hd : dec.holds ρ) (s : ASt) : SCov ρ s (s.nrmS bd dec) := by
  refine ⟨fun k v hv => ?_, fun i o ho => ?_, Nat.le_refl _⟩
  · have hv : (s.tm.mapV (AVal.nrmA bd dec)).get k = some v := hv
    rw [T.get_mapV] at hv
    cases hu : s.tm.get k with
    | none => rw [hu] at hv; cases hv
    | some u =>
      rw [hu] at hv
      cases hv
      exact ⟨u, rfl, fun f x h => AVal.nrmA_ok hρ hd h⟩
  · have ho : (s.hp.mapV (putO bd dec IE.var id)).get i = some o := ho
    rw [T.get_mapV] at ho
    cases hu : s.hp.get i with
    | none => rw [hu] at ho; cases ho
    | some u =>
      rw [hu] at ho
      cases ho
      refine ⟨u, rfl, putO_own u, fun w L c => by cases u <;> exact Iff.rfl, fun f B w L h => ?_⟩
      have hr : ORel (ρ.rep IE.var) f B w L u := by rw [rep_var]; exact h
      have hle : f.le (f.via (fun _ => true) id) := fun j M hj => hj
      exact (putO_ok (σ := IE.var) (π := id) (d := fun _ => true) hρ hd hle (B' := B) (fun ho => own_foot hr ho) hr).1
/-- The contract once more, where the measure is less. -/
def LCon.once (C C' : Ctx) (c : LCon) (μ : IE) (dec : Dec) (s : ASt) (again : Dec → Out) : Out :=
  match slotsOf s.tm c.sl with
  | some args =>
    match c.con.fit C' args s.hp s.nx with
    | some (sg, pb) =>
      match proveR C'.bd 6 dec (.lt (μ.rep (sigOf sg)) μ), proveR C'.bd 6 dec (.lt (μ.rep (sigOf sg)) (.lit 0)) with
      | some true, some false =>
        match c.con.then C' s.hp s.nx sg pb with
        | (v, hp', nx') => .leaf .normal ⟨T.nil.set 0 v, hp', nx'⟩
      | _, _ => .bad (.num 202)
    | none =>
      match learn C.bd dec (c.con.ask C' args s.hp) with
      | ⟨true, d, _⟩ => again d
      | ⟨false, _, some t⟩ => Out.part t (facts C.bd t dec) again again
      | ⟨false, _, none⟩ => .bad (.num 203)
  | none => .bad (.num 204)
/-- Behind a round: the contract once more, where the measure is less; or the loop's end. -/
def LCon.back (C : Ctx) (c : LCon) (μ : IE) : Nat → Dec → AExit → ASt → Out
  | 0, _, _, _ => .bad (.num 201)
  | k + 1, dec, e, s =>
    match e with
    | .normal => LCon.once C (C.sharp c.con.bds dec) c μ dec (s.nrmS (bdL (sharpL C.bd dec c.con.bds)) dec) (fun d => LCon.back C c μ k d .normal s)
    | e =>
      match exitSame e c.e with
      | true =>
        match slotsOf s.tm c.sl' with
        | some vs => .leaf .ret ⟨T.nil.set 0 (.tuple vs), s.hp, s.nx⟩
        | none => .bad (.num 205)
      | false => .bad (.num 206)
def LCon.tree (c : LCon) (P : Program) (K : Know) (L : Nat) (pol : FuncId → Nat → Bool) (pure : FuncId → Bool) (d : Nat) (facts : Dec) (μ : IE) : Out :=
  match loopBody (ctxOf P (bdL c.con.bds)) c.con.g c.key with
  | some b =>
    (oCode (ctxOf P (bdL c.con.bds)) (callOf (smKnow (ctxOf P (bdL c.con.bds)) K) pure (oTree (ctxOf P (bdL c.con.bds)) (smKnow (ctxOf P (bdL c.con.bds)) K) L pol pure d)) (smKnow (ctxOf P (bdL c.con.bds)) K).call (pureTree pure (oTree (ctxOf P (bdL c.con.bds)) (smKnow (ctxOf P (bdL c.con.bds)) K) L pol pure d))
      (askOf (ctxOf P (bdL c.con.bds)) (smKnow (ctxOf P (bdL c.con.bds)) K) pure (oTree (ctxOf P (bdL c.con.bds)) (smKnow (ctxOf P (bdL c.con.bds)) K) L pol pure d)) (askOne (ctxOf P (bdL c.con.bds)) (smKnow (ctxOf P (bdL c.con.bds)) K)) ((smKnow (ctxOf P (bdL c.con.bds)) K).lps c.con.g) c.n L (pol c.con.g) b (facts ++ c.con.pre)
      (ASt.nrmS (bdL c.con.bds) (facts ++ c.con.pre) ⟨tmOf c.sl c.con.args .nil, treeOf c.con.os 0 .nil, c.con.os.length⟩)).bind (facts ++ c.con.pre) (c.back (ctxOf P (bdL c.con.bds)) μ 8)
  | none => .bad (.num 207)
theorem LCon.back_ok {C : Ctx} {P : Program} {ρ : Env} (hC : C.Ok P ρ) {G : Nat → Int → Int → Int → Int} {GH : Nat → Ghost} (hρ : ρ.std G GH) {c : LCon} (hwf : c.con.wf = true) {μ : IE} {b : Code} {B : Nat → Prop} {W : World} {m : Nat}
    (ih : ∀ ρ' : Env, ρ'.std G GH → ρ'.ok (bdL c.con.bds) → c.con.pre.holds ρ' → (μ.ev ρ').toNat < (μ.ev ρ).toNat → c.con.OkAt (roundsR P b c m) ρ') : ∀ (k : Nat) (dec : Dec), Dec.holds ρ dec → ∀ (e1 : AExit) (s1 : ASt) (e : AExit) (s : ASt), (c.back C μ k dec e1 s1).pick ρ = some (e, s) →
      s1.nx ≤ s.nx ∧ ∀ N f1 a1 w1 (Q0 : Exit → Act → World → Prop), s.nx ≤ N → StRel ρ B W c.n N f1 s1 a1 w1 →
        (∀ (v : Value) (a' : Act) (w' : World), (∃ f', f1.le f' ∧ Outside f1 f' s1.nx s.nx ∧ HRel ρ B W f' s.hp w' ∧ ∀ u, s.tm.get 0 = some u → VRel ρ f' u v) → a'.tmps.size = c.n → a'.defers = [] → (∃ l : Array Value, v = .tuple l ∧ l.size = c.sl'.length ∧ ∀ (i s : Nat), c.sl'[i]? = some s → l[i]? = some (a'.tmps.getD s Go.undef)) → Q0 c.e.to a' w') →
        Exit.then (Code.rounds P b Q0 m) Q0 e1.to a1 w1 := by
  intro k
  induction k with
  | zero => intro dec _ e1 s1 e s h; cases h
  | succ k ihk =>
    intro dec hd e1 s1 e s h
    unfold LCon.back at h
    split at h
    · -- once more
      have hCs := hC.sharp c.con.bds hd
      have hcov := ASt.nrmS_cov (ρ := ρ) hCs.bd hd s1
      have hbd : (C.sharp c.con.bds dec).bd = bdL (sharpL C.bd dec c.con.bds) := rfl
      rw [hbd] at hcov
      have hnx1 : (s1.nrmS (bdL (sharpL C.bd dec c.con.bds)) dec).nx = s1.nx := rfl
      generalize s1.nrmS (bdL (sharpL C.bd dec c.con.bds)) dec = s2 at h hcov hnx1
      generalize C.sharp c.con.bds dec = Cs at h hCs
      unfold LCon.once at h
      split at h
      · rename_i args hargs
        split at h
        · rename_i sg pb hfit
          split at h
          · rename_i m1 m2
            split at h
            rename_i v hp' nx' hthen
            cases h
            obtain ⟨h1, h2, h3⟩ := Con.fit_ok hCs hwf hfit
            have hnx : nx' = s2.nx + (c.con.os'.length - c.con.os.length) := (congrArg (·.2.2) hthen).symm
            subst hnx
            rw [hnx1] at h3 ⊢
            refine ⟨Nat.le_add_right _ _, fun N f1 a1 w1 Q0 hN hr0 hQ => ?_⟩
            have hr := hcov.st hr0
            have q1 := proveR_ok hCs.bd 6 dec _ _ hd m1
            have q2 := proveR_ok hCs.bd 6 dec _ _ hd m2
            have q1 : (μ.rep (sigOf sg)).ev ρ < μ.ev ρ := of_decide_eq_true q1
            have q2 : ¬ (μ.rep (sigOf sg)).ev ρ < 0 := of_decide_eq_false q2
            rw [IE.rep_ev] at q1 q2
            have hat := ih (ρ.rep (sigOf sg)) ⟨hρ.1, hρ.2⟩ h1 h2 (by omega)
            refine h3 _ (roundsR_mono P b c m) hat B W f1 w1 (c.sl.map fun k => a1.tmps.getD k Go.undef).toArray hr.heap (hr.tm.args hargs) (hr0.fresh.sub (Nat.le_refl _) hN) a1 hr.size hr.defers (fun i s x hs hx => act_args hs hx) Q0 fun v' a' w' ⟨f', k1, k2, k3, k4⟩ k5 k6 k7 => ?_
            rw [hnx1] at hthen
            rw [hthen] at k3 k4
            refine hQ v' a' w' ⟨f', k1, k2, k3, fun u hu => ?_⟩ k5 k6 k7
            have hu : (T.nil.set 0 v).get 0 = some u := hu
            rcases T.get_set hu with ⟨_, rfl⟩ | ⟨h0, _⟩
            · exact k4
            · exact absurd rfl h0
          · cases h
        · have hl := learn_ok hC.bd hd (c.con.ask Cs args s2.hp)
          split at h
          · rename_i d q hq
            rw [hq] at hl
            exact ihk d hl .normal s1 e s h
          · rename_i t _
            obtain ⟨d, h1, h2⟩ := Out.part_pick (facts_ok hC.bd t hd) t (fun d => LCon.back C c μ k d .normal s1) (fun d => LCon.back C c μ k d .normal s1)
            rw [h2] at h
            cases ht : t.ev ρ
            · rw [ht] at h; exact ihk d h1 .normal s1 e s h
            · rw [ht] at h; exact ihk d h1 .normal s1 e s h
          · cases h
      · cases h
    · -- the end
      rename_i hne
      split at h
      · rename_i hex
        have hex := exitSame_eq hex
        split at h
        · rename_i vs hvs
          cases h
          refine ⟨Nat.le_refl _, fun N f1 a1 w1 Q0 hN hr hQ => ?_⟩
          have hq : Q0 e1.to a1 w1 := by
            rw [hex]
            refine hQ (.tuple (c.sl'.map fun k => a1.tmps.getD k Go.undef).toArray) a1 w1 ⟨f1, Ren.le_refl _, fun _ _ => rfl, hr.heap, fun u hu => ?_⟩ hr.size hr.defers ⟨_, rfl, by simp, fun i s hs => by simp [hs]⟩
            have hu : (T.nil.set 0 (AVal.tuple vs)).get 0 = some u := hu
            rcases T.get_set hu with ⟨_, rfl⟩ | ⟨h0, _⟩
            · have := hr.tm.args hvs
              exact .tuple this.1 this.2
            · exact absurd rfl h0
          cases e1 with
          | normal => exact absurd rfl hne
          | exit i => exact hq
          | ret => exact hq
        · cases h
      · cases h
theorem LCon.tree_goes {P : Program} (mixed : P.follows .mixedOrders = true) {G : Nat → Int → Int → Int → Int} {GH : Nat → Ghost} {K : Know} (hK : K.Ok P G GH) {c : LCon} (hwf : c.con.wf = true) (hsl : c.sl.length = c.con.args.length) {L : Nat} {pol : FuncId → Nat → Bool} {pure : FuncId → Bool} {d : Nat} {facts : Dec} {μ : IE} {ρ : Env} (h1 : ρ.std G GH) (h2 : ρ.ok (bdL c.con.bds)) (h3 : c.con.pre.holds ρ) (hf : facts.holds ρ)
    {fn : Func} {cd b : Code} (hfn : P.funcs[c.con.g]? = some fn) (hb : fn.body = some cd) (hm : b ∈ loopsOf cd) (hk : Code.key b = c.key) {m : Nat} (ih : ∀ ρ' : Env, ρ'.std G GH → ρ'.ok (bdL c.con.bds) → c.con.pre.holds ρ' → (μ.ev ρ').toNat < (μ.ev ρ).toNat → c.con.OkAt (roundsR P b c m) ρ')
    {e : AExit} {s : ASt} (hs : (c.tree P K L pol pure d facts μ).pick ρ = some (e, s)) : ∀ B W, RGoes (roundsR P b c (m + 1)) ρ B W c.con.args (treeOf c.con.os 0 .nil) c.con.os.length s := by
  intro B W
  have hC : (ctxOf P (bdL c.con.bds)).Ok P ρ := ctxOf_ok mixed h2
  have hd : Dec.holds ρ (facts ++ c.con.pre) := fun p hp => by
    rcases List.mem_append.1 hp with hp | hp
    · exact hf p hp
    · exact h3 p hp
  unfold LCon.tree at hs
  split at hs
  · rename_i b' hb'
    have e0 : b' = b := by
      unfold loopBody at hb'
      split at hb'
      · rename_i fn' hfn'
        have := hC.fn _ _ hfn'
        rw [hfn] at this
        cases this
        rw [hb] at hb'
        simp only at hb'
        split at hb'
        · rename_i b1 hl
          cases hb'
          have : b ∈ (loopsOf cd).filter fun b => Nat.beq (Code.key b) c.key := List.mem_filter.2 ⟨hm, by rw [hk]; exact Nat.beq_refl _⟩
          rw [hl] at this
          exact (List.mem_singleton.1 this).symm
        · cases hb'
      · cases hb'
    subst e0
    obtain ⟨e1, s1, d1, hd1, p1, p2⟩ := Out.bind_pick hd hs
    have hsm := smKnow_ok hC h1 hK
    have htr := oTree_ok hC hsm L pol pure d
    have q := (oCode_ok (B := B) (W := W) (n := c.n) (ask := askOf (ctxOf P (bdL c.con.bds)) (smKnow (ctxOf P (bdL c.con.bds)) K) pure (oTree (ctxOf P (bdL c.con.bds)) (smKnow (ctxOf P (bdL c.con.bds)) K) L pol pure d)) (asko := askOne (ctxOf P (bdL c.con.bds)) (smKnow (ctxOf P (bdL c.con.bds)) K)) hC (callOf_ok hsm htr) (fun dec hd => hsm.call dec hd B W) (pureTree_ok htr) L (pol c.con.g) b' (fun x hx => hsm.lps _ fn cd hfn hb B W c.n x (loops_in hm hx)) (facts ++ c.con.pre) hd _ _ _ p1).1
    obtain ⟨r1, r2⟩ := LCon.back_ok (B := B) (W := W) hC h1 hwf ih 8 d1 hd1 e1 s1 e s p2
    refine ⟨Nat.le_trans q.1 r1, fun f w args' hr ha hfr a k1 k2 k3 Q0 hQ => ?_⟩
    refine q.2 s.nx f a w _ r1 ((ASt.nrmS_cov h2 hd ⟨tmOf c.sl c.con.args .nil, treeOf c.con.os 0 .nil, c.con.os.length⟩).st ⟨k1, fun dd v hv => ?_, k2, hr, hfr⟩) fun f1 a1 w1 l1 o1 r => ?_
    · rcases tmOf_get hv with ⟨i, i1, i2⟩ | h
      · obtain ⟨x, x1, x2⟩ := LRel.get ha i2
        rw [k3 i dd x i1 x1]
        exact x2
      · rw [T.get_nil] at h; cases h
    · refine r2 s.nx f1 a1 w1 Q0 (Nat.le_refl _) r fun v a' w' ⟨f', y1, y2, y3, y4⟩ y5 y6 y7 => hQ v a' w' ⟨f', Ren.le_trans l1 y1, o1.trans y2 q.1 r1, y3, y4⟩ y5 y6 y7
  · cases hs
where
  loops_in : ∀ {cd b x : Code}, b ∈ loopsOf cd → x ∈ loopsOf b → x ∈ loopsOf cd := by
    intro cd
    induction cd with
    | seq a b iha ihb =>
      intro b' x h1 h2
      rcases List.mem_append.1 h1 with h | h
      · exact List.mem_append.2 (.inl (iha h h2))
      · exact List.mem_append.2 (.inr (ihb h h2))
    | cond c a b iha ihb =>
      intro b' x h1 h2
      rcases List.mem_append.1 h1 with h | h
      · exact List.mem_append.2 (.inl (iha h h2))
      · exact List.mem_append.2 (.inr (ihb h h2))
    | block id c ih => intro b' x h1 h2; exact ih h1 h2
    | scope c ih => intro b' x h1 h2; exact ih h1 h2
    | loop c ih =>
      intro b' x h1 h2
      rcases List.mem_cons.1 h1 with rfl | h
      · exact List.mem_cons_of_mem _ h2
      · exact List.mem_cons_of_mem _ (ih h h2)
    | _ => intro b' x h1; cases h1
/-- Each outcome of a tree ends as the contract says. -/
def Con.Leaves (c : Con) (G : Nat → Int → Int → Int → Int) (GH : Nat → Ghost) (o : Out) : Prop :=
  ∀ ρ : Env, ρ.std G GH → ρ.ok (bdL c.bds) → c.pre.holds ρ → ∃ e s at' q, o.pick ρ = some (e, s) ∧ c.ends at' s = some q ∧ q.hold ρ
theorem LCon.ok_of {P : Program} (mixed : P.follows .mixedOrders = true) {G : Nat → Int → Int → Int → Int} {GH : Nat → Ghost} {K : Know} (hK : K.Ok P G GH) {c : LCon} (hwf : c.con.wf = true) (hsl : c.sl.length = c.con.args.length) {L : Nat} {pol : FuncId → Nat → Bool} {pure : FuncId → Bool} {d : Nat} {facts : Dec} {μ : IE}
    (hf : ∀ ρ : Env, ρ.std G GH → ρ.ok (bdL c.con.bds) → c.con.pre.holds ρ → facts.holds ρ) (h : c.con.Leaves G GH (c.tree P K L pol pure d facts μ)) : c.Ok P G GH := by
  intro fn cd b hfn hb hm hk
  have key : ∀ m, ∀ ρ : Env, ρ.std G GH → ρ.ok (bdL c.con.bds) → c.con.pre.holds ρ → (μ.ev ρ).toNat < m → c.con.OkAt (roundsR P b c m) ρ := by
    intro m
    induction m with
    | zero => intro ρ _ _ _ h; omega
    | succ m ih =>
      intro ρ h1 h2 h3 hlt
      obtain ⟨e, s, at', q, p1, p2, p3⟩ := h ρ h1 h2 h3
      exact Con.at_ends (roundsR_mono P b c (m + 1)) (LCon.tree_goes mixed hK hwf hsl h1 h2 h3 (hf ρ h1 h2 h3) hfn hb hm hk (fun ρ' k1 k2 k3 k4 => ih ρ' k1 k2 k3 (by omega)) p1) p2 p3
  intro ρ h1 h2 h3
  exact ⟨_, key _ ρ h1 h2 h3 (Nat.lt_succ_self _)⟩
/-- The same, case by case. -/
theorem LCon.ok_sel {P : Program} (mixed : P.follows .mixedOrders = true) {G : Nat → Int → Int → Int → Int} {GH : Nat → Ghost} {K : Know} (hK : K.Ok P G GH) {c : LCon} (hwf : c.con.wf = true) (hsl : c.sl.length = c.con.args.length) {L : Nat} {pol : FuncId → Nat → Bool} {pure : FuncId → Bool} {d : Nat} {sel : Env → Dec} {μ : IE} {o : Out}
    (hf : ∀ ρ : Env, ρ.std G GH → ρ.ok (bdL c.con.bds) → c.con.pre.holds ρ → (sel ρ).holds ρ ∧ o.pick ρ = (c.tree P K L pol pure d (sel ρ) μ).pick ρ) (h : c.con.Leaves G GH o) : c.Ok P G GH := by
  intro fn cd b hfn hb hm hk
  have key : ∀ m, ∀ ρ : Env, ρ.std G GH → ρ.ok (bdL c.con.bds) → c.con.pre.holds ρ → (μ.ev ρ).toNat < m → c.con.OkAt (roundsR P b c m) ρ := by
    intro m
    induction m with
    | zero => intro ρ _ _ _ h; omega
    | succ m ih =>
      intro ρ h1 h2 h3 hlt
      obtain ⟨e, s, at', q, p1, p2, p3⟩ := h ρ h1 h2 h3
      obtain ⟨f1, f2⟩ := hf ρ h1 h2 h3
      rw [f2] at p1
      exact Con.at_ends (roundsR_mono P b c (m + 1)) (LCon.tree_goes mixed hK hwf hsl h1 h2 h3 f1 hfn hb hm hk (fun ρ' k1 k2 k3 k4 => ih ρ' k1 k2 k3 (by omega)) p1) p2 p3
  intro ρ h1 h2 h3
  exact ⟨_, key _ ρ h1 h2 h3 (Nat.lt_succ_self _)⟩
end
end Go.Sx
/- Contracts shown by trees of outcomes; functions given by a tree; two trees that agree. No condition. -/
set_option linter.unusedSimpArgs false
set_option linter.unusedVariables false
namespace Go.Sx
open Go.RowKit (Below)
noncomputable section

def prsAll (q : IE → IE → Bool) : Prs → Bool
  | [] => true
  | p :: l =>
    match q p.1 p.2 with
    | true => prsAll q l
    | false => false
theorem prsAll_ok {ρ : Env} {q : IE → IE → Bool} (hq : ∀ a b, q a b = true → a.ev ρ = b.ev ρ) : ∀ {l : Prs}, prsAll q l = true → l.hold ρ := by
  intro l
  induction l with
  | nil => intro _ p hp; cases hp
  | cons x l ih =>
    intro h p hp
    simp only [prsAll] at h
    split at h
    · rename_i hx
      rcases List.mem_cons.1 hp with rfl | hp
      · exact hq _ _ hx
      · exact ih h p hp
    · cases h
/-- Where a run has the contract's blocks (found, not proved: it is checked). -/
def bindLive : List AObj → Nat → T Nat → T Nat
  | [], _, t => t
  | o :: l, i, t => bindLive l (i + 1) (match o.dead with
    | true => t
    | false => t.set i i)
def mOsR (h : T AObj) : Nat → List AObj → Mt → Mt
  | _, [], m => m
  | i, o :: os, m =>
    match m.bl.get i with
    | none => mOsR h (i + 1) os m
    | some j =>
      match h.get j with
      | some a => mOsR h (i + 1) os (mAO o a m)
      | none => mOsR h (i + 1) os m
def Con.atOf (c : Con) (s : ASt) : List Nat :=
  match s.tm.get 0 with
  | none => []
  | some v =>
    match mOsR s.hp 0 c.os' (mAV c.res v ⟨.nil, bindLive (c.os'.take c.os.length) 0 .nil⟩) with
    | m =>
      match blocks m c.os.length (c.os'.length - c.os.length) with
      | some l => l
      | none => []
def Con.endsA (c : Con) (s : ASt) : Option Prs := c.ends (c.atOf s) s
def Con.leaf (c : Con) (q : Dec → IE → IE → Bool) (dec : Dec) (_ : AExit) (s : ASt) : Bool :=
  match c.endsA s with
  | some l => prsAll (q dec) l
  | none => false
/-- The context of a contract's runs. -/
def Con.ctx (c : Con) (P : Program) : Ctx := ctxOf P (bdL c.bds)
/-- The outcomes of a contract's function. -/
def Con.tree (c : Con) (P : Program) (K : Know) (L : Nat) (pol : FuncId → Nat → Bool) (pure : FuncId → Bool) (d : Nat) (facts : Dec) : Out :=
  oTree (c.ctx P) (smKnow (c.ctx P) K) L pol pure d (facts ++ c.pre) c.g c.args (treeOf c.os 0 .nil) c.os.length
def qN (bd : Bd) (obs : List (Dec × IE × IE)) (dec : Dec) (a b : IE) : Bool :=
  match a.eqN bd dec b with
  | true => true
  | false => obs.any fun o => a.eq o.2.1 && (b.eq o.2.2 && o.1.all fun p => match settle dec p.1 with
    | some v => bEq v p.2
    | none => false)
def obsOk (ρ : Env) (obs : List (Dec × IE × IE)) : Prop := ∀ o ∈ obs, Dec.holds ρ o.1 → o.2.1.ev ρ = o.2.2.ev ρ
theorem qN_ok {ρ : Env} {bd : Bd} (hρ : ρ.ok bd) {dec : Dec} (hd : dec.holds ρ) {obs : List (Dec × IE × IE)} (ho : obsOk ρ obs) {a b : IE} (h : qN bd obs dec a b = true) : a.ev ρ = b.ev ρ := by
  unfold qN at h
  split at h
  · rename_i h1
    exact IE.eqN_ev hρ hd h1
  · obtain ⟨o, h1, h2⟩ := List.any_eq_true.1 h
    obtain ⟨h3, h4⟩ := and_split h2
    obtain ⟨h4, h5⟩ := and_split h4
    rw [IE.eq_eq h3, IE.eq_eq h4]
    refine ho o h1 fun p hp => ?_
    have := List.all_eq_true.1 h5 p hp
    split at this
    · rename_i v hv
      rw [settle_ok hd _ _ hv, bEq_eq this]
    · cases this
/-- Equal, if need be by cases. -/
def qP (bd : Bd) (k : Nat) (dec : Dec) (a b : IE) : Bool :=
  match a.eqN bd dec b with
  | true => true
  | false =>
    match prove bd k dec (mkEq bd a b) with
    | some v => v
    | none => false
theorem qP_ok {ρ : Env} {bd : Bd} (hρ : ρ.ok bd) {k : Nat} {dec : Dec} (hd : dec.holds ρ) {a b : IE} (h : qP bd k dec a b = true) : a.ev ρ = b.ev ρ := by
  unfold qP at h
  split at h
  · rename_i h1
    exact IE.eqN_ev hρ hd h1
  · split at h
    · rename_i v hv
      subst h
      have := prove_ok hρ k dec _ _ hd hv
      rw [mkEq_ev hρ] at this
      exact of_decide_eq_true this
    · cases h
theorem holds_app {ρ : Env} {a b : Dec} (h : a.holds ρ) (k : b.holds ρ) : Dec.holds ρ (a ++ b) := by
  intro p hp
  rcases List.mem_append.1 hp with h1 | h1
  · exact h p h1
  · exact k p h1
section
variable {P : Program} {G : Nat → Int → Int → Int → Int} {GH : Nat → Ghost} {c : Con} {K : Know}
/-- One outcome of a contract's tree, where its conditions hold. -/
theorem Con.tree_goes (mixed : P.follows .mixedOrders = true) (hK : K.Ok P G GH) {L : Nat} {pol : FuncId → Nat → Bool} {pure : FuncId → Bool} {d : Nat} {facts : Dec} {ρ : Env} (h1 : ρ.std G GH) (h2 : ρ.ok (bdL c.bds)) (h3 : c.pre.holds ρ) (hf : facts.holds ρ) {e : AExit} {s : ASt}
    (hs : (c.tree P K L pol pure d facts).pick ρ = some (e, s)) : ∀ B W, CallGoes P ρ B W c.g c.args (treeOf c.os 0 .nil) c.os.length s := by
  intro B W
  have hC : (c.ctx P).Ok P ρ := ctxOf_ok mixed h2
  exact oTree_ok hC (smKnow_ok hC h1 hK) L pol pure d B W _ (holds_app hf h3) _ _ _ _ _ _ hs
theorem Con.ok_of (mixed : P.follows .mixedOrders = true) (hK : K.Ok P G GH) {L : Nat} {pol : FuncId → Nat → Bool} {pure : FuncId → Bool} {d : Nat} {facts : Dec} (hf : ∀ ρ : Env, ρ.std G GH → ρ.ok (bdL c.bds) → c.pre.holds ρ → facts.holds ρ) (h : c.Leaves G GH (c.tree P K L pol pure d facts)) : c.Ok P G GH := by
  refine Con.of_ends fun ρ h1 h2 h3 => ?_
  obtain ⟨e, s, at', q, p1, p2, p3⟩ := h ρ h1 h2 h3
  exact ⟨s, at', q, Con.tree_goes mixed hK h1 h2 h3 (hf ρ h1 h2 h3) p1, p2, p3⟩
theorem Con.leaves (facts : Dec) (hf : ∀ ρ : Env, ρ.std G GH → ρ.ok (bdL c.bds) → c.pre.holds ρ → facts.holds ρ) (obs : List (Dec × IE × IE)) (ho : ∀ ρ : Env, ρ.std G GH → ρ.ok (bdL c.bds) → c.pre.holds ρ → obsOk ρ obs) {o : Out} (h : o.all (c.leaf (qN (bdL c.bds) obs)) (facts ++ c.pre) = true) : c.Leaves G GH o := by
  intro ρ h1 h2 h3
  obtain ⟨e, s, dec', hd', p1, p2⟩ := Out.all_pick (holds_app (hf ρ h1 h2 h3) h3) h
  unfold Con.leaf at p2
  split at p2
  · rename_i q hq
    exact ⟨e, s, _, q, p1, hq, prsAll_ok (fun a b hab => qN_ok h2 hd' (ho ρ h1 h2 h3) hab) p2⟩
  · cases p2
theorem Con.of_tree (mixed : P.follows .mixedOrders = true) (hK : K.Ok P G GH) (L : Nat) (pol : FuncId → Nat → Bool) (pure : FuncId → Bool) (d : Nat) (facts : Dec) (hf : ∀ ρ : Env, ρ.std G GH → ρ.ok (bdL c.bds) → c.pre.holds ρ → facts.holds ρ)
    (obs : List (Dec × IE × IE)) (ho : ∀ ρ : Env, ρ.std G GH → ρ.ok (bdL c.bds) → c.pre.holds ρ → obsOk ρ obs) (h : (c.tree P K L pol pure d facts).all (c.leaf (qN (bdL c.bds) obs)) (facts ++ c.pre) = true) : c.Ok P G GH :=
  Con.ok_of mixed hK hf (Con.leaves facts hf obs ho h)
/-- Where no test is open: one run. -/
def Con.runs (c : Con) (P : Program) (l : List Con) (L d : Nat) : Bool :=
  match aCallN ((c.ctx P).with c.pre) (aDraw ((c.ctx P).with c.pre)) ⟨conCall ((c.ctx P).with c.pre) l, fun _ _ _ _ => none⟩ L d c.g c.args (treeOf c.os 0 .nil) c.os.length with
  | some (v, h, nx) => c.leaf (qN (bdL c.bds) []) c.pre .ret ⟨T.nil.set 0 v, h, nx⟩
  | none => false
theorem Con.of_run (mixed : P.follows .mixedOrders = true) {l : List Con} (hl : ConsOk P G GH l) (L d : Nat) (h : c.runs P l L d = true) : c.Ok P G GH := by
  refine Con.of_ends fun ρ h1 h2 h3 => ?_
  unfold Con.runs at h
  split at h
  · rename_i v hp nx hr
    have hC : ((c.ctx P).with c.pre).Ok P ρ := (ctxOf_ok mixed h2 : (c.ctx P).Ok P ρ).with h3
    unfold Con.leaf at h
    split at h
    · rename_i q hq
      refine ⟨_, _, q, fun B W => ?_, hq, prsAll_ok (fun a b hab => qN_ok h2 h3 (fun o ho => by cases ho) hab) h⟩
      have hsm : SumsOk P ρ B W ⟨conCall ((c.ctx P).with c.pre) l, fun _ _ _ _ => none⟩ := ⟨conCall_ok hC h1 hl, fun _ _ _ _ _ _ _ _ => LoopOk.none⟩
      obtain ⟨q1, q2⟩ := aCallN_ok hC (aDraw_ok hC) hsm L d _ _ _ _ _ _ _ hr
      refine ⟨q1, fun f w args' hr ha hf => (q2 f w args' hr ha hf).mono fun e w' ⟨v', f', a1, a2, a3, a4, a5⟩ => ⟨v', f', a1, a2, a3, a4, fun u hu => ?_⟩⟩
      have hu : (T.nil.set 0 v).get 0 = some u := hu
      rcases T.get_set hu with ⟨_, rfl⟩ | ⟨h0, _⟩
      · exact a5
      · exact absurd rfl h0
    · cases h
  · cases h
/-- The loops of a function of which something is known. -/
def loopsFor (g : FuncId) : List LCon → List LCon
  | [] => []
  | c :: l =>
    match Nat.beq g c.con.g with
    | true => c :: loopsFor g l
    | false => loopsFor g l
theorem loopsFor_mem {g : FuncId} {l : List LCon} {c : LCon} (h : c ∈ loopsFor g l) : c ∈ l := by
  induction l with
  | nil => cases h
  | cons x l ih =>
    unfold loopsFor at h
    split at h
    · rcases List.mem_cons.1 h with rfl | h
      · exact List.mem_cons_self ..
      · exact List.mem_cons_of_mem _ (ih h)
    · exact List.mem_cons_of_mem _ (ih h)
def sumK (C : Ctx) (K : Know) : Sums := ⟨conCall C K.cons, fun g n k s => loopRun C (loopsFor g K.loops) g n k s⟩
theorem sumK_ok {C : Ctx} {ρ : Env} (hC : C.Ok P ρ) (hρ : ρ.std G GH) (hK : K.Ok P G GH) (B : Nat → Prop) (W : World) : SumsOk P ρ B W (sumK C K) := by
  refine ⟨conCall_ok hC hρ hK.cons, fun g fn cd hf hb b hm n s e s' h => ?_⟩
  have key : ∀ l : List LCon, (∀ c ∈ l, c.con.wf = true ∧ c.Ok P G GH) → loopRun C l g n (Code.key b) s = some (e, s') → ∃ m, GoesR P ρ B W n b m s e s' := by
    intro l
    induction l with
    | nil => intro _ h; cases h
    | cons c l ih =>
      intro hl h
      have hl' : ∀ c ∈ l, c.con.wf = true ∧ c.Ok P G GH := fun c hc => hl c (List.mem_cons_of_mem _ hc)
      unfold loopRun at h
      split at h
      · rename_i hck
        obtain ⟨k1, hck⟩ := and_split hck
        obtain ⟨k2, hck⟩ := and_split hck
        obtain ⟨k3, _⟩ := and_split hck
        have k1 := Nat.eq_of_beq_eq_true k1
        have k2 := Nat.eq_of_beq_eq_true k2
        have k3 := Nat.eq_of_beq_eq_true k3
        split at h
        · rename_i r hr
          cases h
          obtain ⟨w1, w2⟩ := hl c (List.mem_cons_self ..)
          subst k3
          exact LCon.run_ok hC hρ w1 w2 (by rw [← k1]; exact hf) hb hm k2 hr
        · exact ih hl' h
      · exact ih hl' h
  exact key _ (fun c hc => hK.loops c (loopsFor_mem hc)) h
/-- The same, with what is known of loops. -/
def Con.runsK (c : Con) (P : Program) (K : Know) (L d : Nat) : Bool :=
  match aCallN ((c.ctx P).with c.pre) (aDraw ((c.ctx P).with c.pre)) (sumK ((c.ctx P).with c.pre) K) L d c.g c.args (treeOf c.os 0 .nil) c.os.length with
  | some (v, h, nx) => c.leaf (qN (bdL c.bds) []) c.pre .ret ⟨T.nil.set 0 v, h, nx⟩
  | none => false
theorem Con.of_runK (mixed : P.follows .mixedOrders = true) (hK : K.Ok P G GH) (L d : Nat) (h : c.runsK P K L d = true) : c.Ok P G GH := by
  refine Con.of_ends fun ρ h1 h2 h3 => ?_
  unfold Con.runsK at h
  split at h
  · rename_i v hp nx hr
    have hC : ((c.ctx P).with c.pre).Ok P ρ := (ctxOf_ok mixed h2 : (c.ctx P).Ok P ρ).with h3
    unfold Con.leaf at h
    split at h
    · rename_i q hq
      refine ⟨_, _, q, fun B W => ?_, hq, prsAll_ok (fun a b hab => qN_ok h2 h3 (fun o ho => by cases ho) hab) h⟩
      obtain ⟨q1, q2⟩ := aCallN_ok hC (aDraw_ok hC) (sumK_ok hC h1 hK B W) L d _ _ _ _ _ _ _ hr
      refine ⟨q1, fun f w args' hr ha hf => (q2 f w args' hr ha hf).mono fun e w' ⟨v', f', a1, a2, a3, a4, a5⟩ => ⟨v', f', a1, a2, a3, a4, fun u hu => ?_⟩⟩
      have hu : (T.nil.set 0 v).get 0 = some u := hu
      rcases T.get_set hu with ⟨_, rfl⟩ | ⟨h0, _⟩
      · exact a5
      · exact absurd rfl h0
    · cases h
  · cases h
end

/-! functions given by a tree -/
def IE.only (V : Nat → Bool) (K : Nat) : IE → Bool
  | .lit _ => true
  | .var i => V i
  | .add a b => a.only V K && b.only V K
  | .sub a b => a.only V K && b.only V K
  | .mul a b => a.only V K && b.only V K
  | .wrap _ a => a.only V K
  | .bits _ _ a b => a.only V K && b.only V K
  | .quo a b => a.only V K && b.only V K
  | .rem a b => a.only V K && b.only V K
  | .shl _ a b => a.only V K && b.only V K
  | .shr _ a b => a.only V K && b.only V K
  | .fn c x y z => Nat.blt c K && (x.only V K && (y.only V K && z.only V K))
  | .sel _ a b x y => a.only V K && (b.only V K && (x.only V K && y.only V K))
def BE.only (V : Nat → Bool) (K : Nat) : BE → Bool
  | .lit _ => true
  | .var _ => false
  | .eq a b => a.only V K && b.only V K
  | .lt a b => a.only V K && b.only V K
  | .not a => a.only V K
section
variable {ρ ρ' : Env} {V : Nat → Bool} {K : Nat} (hi : ∀ i, V i = true → ρ.i i = ρ'.i i) (hg : ∀ c, c < K → ρ.g c = ρ'.g c)
include hi hg
theorem IE.only_ev (e : IE) : e.only V K = true → e.ev ρ = e.ev ρ' := by
  induction e with
  | lit n => intro _; rfl
  | var i => intro h; exact hi i h
  | add a b iha ihb => intro h; obtain ⟨h1, h2⟩ := and_split h; simp only [IE.ev, iha h1, ihb h2]
  | sub a b iha ihb => intro h; obtain ⟨h1, h2⟩ := and_split h; simp only [IE.ev, iha h1, ihb h2]
  | mul a b iha ihb => intro h; obtain ⟨h1, h2⟩ := and_split h; simp only [IE.ev, iha h1, ihb h2]
  | wrap k a iha => intro h; simp only [IE.ev, iha h]
  | bits op k a b iha ihb => intro h; obtain ⟨h1, h2⟩ := and_split h; simp only [IE.ev, iha h1, ihb h2]
  | quo a b iha ihb => intro h; obtain ⟨h1, h2⟩ := and_split h; simp only [IE.ev, iha h1, ihb h2]
  | rem a b iha ihb => intro h; obtain ⟨h1, h2⟩ := and_split h; simp only [IE.ev, iha h1, ihb h2]
  | shl k a b iha ihb => intro h; obtain ⟨h1, h2⟩ := and_split h; simp only [IE.ev, iha h1, ihb h2]
  | shr k a b iha ihb => intro h; obtain ⟨h1, h2⟩ := and_split h; simp only [IE.ev, iha h1, ihb h2]
  | fn c x y z ihx ihy ihz =>
    intro h
    obtain ⟨h0, h⟩ := and_split h
    obtain ⟨h1, h⟩ := and_split h
    obtain ⟨h2, h3⟩ := and_split h
    have h0 : c < K := by simpa [Nat.blt_eq] using h0
    simp only [IE.ev, ihx h1, ihy h2, ihz h3, fnI, hg c h0]
  | sel s a b x y iha ihb ihx ihy =>
    intro h
    obtain ⟨h0, h⟩ := and_split h
    obtain ⟨h1, h⟩ := and_split h
    obtain ⟨h2, h3⟩ := and_split h
    simp only [IE.ev, iha h0, ihb h1, ihx h2, ihy h3]
theorem BE.only_ev (e : BE) : e.only V K = true → e.ev ρ = e.ev ρ' := by
  induction e with
  | lit b => intro _; rfl
  | var i => intro h; cases h
  | eq a b => intro h; obtain ⟨h1, h2⟩ := and_split h; simp only [BE.ev, IE.only_ev hi hg a h1, IE.only_ev hi hg b h2]
  | lt a b => intro h; obtain ⟨h1, h2⟩ := and_split h; simp only [BE.ev, IE.only_ev hi hg a h1, IE.only_ev hi hg b h2]
  | not a ih => intro h; simp only [BE.ev, ih h]
end
/-- A tree of rows of integers; where a loop goes on, what stands for its symbols. -/
inductive RT where
  | bad
  | again (x : IE)
  | done (l : List IE)
  | split (b : BE) (y n : RT)
inductive RV where
  | bad
  | again (x : Int)
  | done (l : List Int)
def RT.pick (ρ : Env) : RT → RV
  | .bad => .bad
  | .again x => .again (x.ev ρ)
  | .done l => .done (l.map (·.ev ρ))
  | .split b y n => pickV (b.ev ρ) (y.pick ρ) (n.pick ρ)
def RT.only (V : Nat → Bool) (K : Nat) : RT → Bool
  | .bad => true
  | .again x => x.only V K
  | .done l => l.all (IE.only V K)
  | .split b y n => b.only V K && (y.only V K && n.only V K)
theorem RT.only_pick {ρ ρ' : Env} {V : Nat → Bool} {K : Nat} (hi : ∀ i, V i = true → ρ.i i = ρ'.i i) (hg : ∀ c, c < K → ρ.g c = ρ'.g c) (t : RT) : t.only V K = true → t.pick ρ = t.pick ρ' := by
  induction t with
  | bad => intro _; rfl
  | again x => intro h; simp only [RT.pick, IE.only_ev hi hg x h]
  | done l =>
    intro h
    simp only [RT.only, List.all_eq_true] at h
    simp only [RT.pick]
    congr 1
    exact List.map_congr_left fun e he => IE.only_ev hi hg e (h e he)
  | split b y n ihy ihn =>
    intro h
    obtain ⟨h1, h2⟩ := and_split h
    obtain ⟨h2, h3⟩ := and_split h2
    simp only [RT.pick, BE.only_ev hi hg b h1, ihy h2, ihn h3]
/-! several numbers as one -/
def zz : Int → Nat
  | .ofNat n => 2 * n
  | .negSucc n => 2 * n + 1
def pairI (a b : Int) : Int := (2 ^ zz a * (2 * zz b + 1) : Nat)
theorem zz_inj {a b : Int} (h : zz a = zz b) : a = b := by
  cases a <;> cases b <;> simp only [zz] at h <;> first | (congr 1; omega) | omega
theorem pow_odd : ∀ (a c x y : Nat), 2 ^ a * (2 * x + 1) = 2 ^ c * (2 * y + 1) → a = c ∧ x = y := by
  intro a
  induction a with
  | zero =>
    intro c x y h
    cases c with
    | zero => simp at h; exact ⟨rfl, by omega⟩
    | succ c => rw [Nat.pow_succ] at h; have : 2 ^ c * 2 * (2 * y + 1) = 2 * (2 ^ c * (2 * y + 1)) := by rw [Nat.mul_comm (2 ^ c) 2, Nat.mul_assoc]
                omega
  | succ a ih =>
    intro c x y h
    have e1 : 2 ^ (a + 1) * (2 * x + 1) = 2 * (2 ^ a * (2 * x + 1)) := by rw [Nat.pow_succ, Nat.mul_comm (2 ^ a) 2, Nat.mul_assoc]
    cases c with
    | zero => omega
    | succ c =>
      have e2 : 2 ^ (c + 1) * (2 * y + 1) = 2 * (2 ^ c * (2 * y + 1)) := by rw [Nat.pow_succ, Nat.mul_comm (2 ^ c) 2, Nat.mul_assoc]
      obtain ⟨h1, h2⟩ := ih c x y (by omega)
      exact ⟨by omega, h2⟩
theorem pairI_inj {a b c d : Int} (h : pairI a b = pairI c d) : a = c ∧ b = d := by
  obtain ⟨h1, h2⟩ := pow_odd _ _ _ _ (Int.ofNat.inj h)
  exact ⟨zz_inj h1, zz_inj h2⟩
open Classical in
def unpI (x : Int) : Int × Int := if h : ∃ p : Int × Int, pairI p.1 p.2 = x then Classical.choose h else (0, 0)
theorem unpI_pair (a b : Int) : unpI (pairI a b) = (a, b) := by
  have h : ∃ p : Int × Int, pairI p.1 p.2 = pairI a b := ⟨(a, b), rfl⟩
  unfold unpI
  rw [dif_pos h]
  obtain ⟨h1, h2⟩ := pairI_inj (Classical.choose_spec h)
  exact Prod.ext h1 h2
def unpN (x : Int) : Nat → Int
  | 0 => (unpI x).1
  | n + 1 => unpN (unpI x).2 n
def packL : List Int → Int
  | [] => 0
  | a :: l => pairI a (packL l)
theorem unpN_pack : ∀ (l : List Int) (j : Nat) (a : Int), l[j]? = some a → unpN (packL l) j = a := by
  intro l
  induction l with
  | nil => intro j a h; simp at h
  | cons x l ih =>
    intro j a h
    cases j with
    | zero => simp at h; subst h; unfold unpN packL; rw [unpI_pair]
    | succ j => unfold unpN packL; rw [unpI_pair]; exact ih j a (by simpa using h)
/-- The function that makes one number of two. -/
def KP : Nat := 9
def packIE : List Nat → IE
  | [] => .lit 0
  | v :: l => .fn KP (.var v) (packIE l) (.lit 0)
def Packs (G : Nat → Int → Int → Int → Int) : Prop := ∀ x y z, G KP x y z = pairI x y
theorem packIE_ev {ρ : Env} (hG : Packs ρ.g) : ∀ l : List Nat, (packIE l).ev ρ = packL (l.map ρ.i) := by
  intro l
  induction l with
  | nil => rfl
  | cons v l ih =>
    show fnI ρ KP (ρ.i v) ((packIE l).ev ρ) 0 = _
    rw [ih]
    have : fnI ρ KP (ρ.i v) (packL (l.map ρ.i)) 0 = ρ.g KP (ρ.i v) (packL (l.map ρ.i)) 0 := rfl
    rw [this, hG]
    rfl
/-- Functions of the symbols, as digits of a row (KR) and one by one (KV). -/
structure Fns where
  KR : Nat
  KV : Nat
  vars : List Nat
def Fns.x (F : Fns) : IE := packIE F.vars
def Fns.is (F : Fns) (G : Nat → Int → Int → Int → Int) (X : Int) (l : List Int) : Prop := G F.KR X 0 0 = (rowOf l : Nat) ∧ ∀ z : Int, G F.KV X 0 z = l.getD z.toNat 0
def Fns.alike (F : Fns) (G : Nat → Int → Int → Int → Int) (X Y : Int) : Prop := G F.KR X 0 0 = G F.KR Y 0 0 ∧ ∀ z : Int, G F.KV X 0 z = G F.KV Y 0 z
/-- The functions are those of a tree. -/
def Fns.Def (F : Fns) (G : Nat → Int → Int → Int → Int) (t : RT) : Prop :=
  ∀ ρ : Env, ρ.g = G → match t.pick ρ with
    | .bad => True
    | .again X => F.alike G (F.x.ev ρ) X
    | .done l => F.is G (F.x.ev ρ) l
/-- The number behind 'the same function elsewhere'. -/
def defX (F : Fns) : IE → IE → Option IE
  | .wrap k (.fn c0 (.fn c1 x y (.lit z)) (.lit (.ofNat i)) _), e =>
    match e with
    | .wrap k' (.fn d0 (.fn d1 x' y' (.lit z')) (.lit (.ofNat i')) _) =>
      match Nat.beq c0 0 && (Nat.beq d0 0 && (Nat.beq c1 F.KR && (Nat.beq d1 F.KR && (kindEq k k' && (x.eq F.x && (y.eq (.lit 0) && (y'.eq (.lit 0) && (intEq z 0 && (intEq z' 0 && Nat.beq i i'))))))))) with
      | true => some x'
      | false => none
    | _ => none
  | .fn c x y (.lit (.ofNat i)), e =>
    match e with
    | .fn d x' y' (.lit (.ofNat i')) =>
      match Nat.beq c F.KV && (Nat.beq d F.KV && (x.eq F.x && (y.eq (.lit 0) && (y'.eq (.lit 0) && Nat.beq i i')))) with
      | true => some x'
      | false => none
    | _ => none
  | .sel false (.fn c x y (.lit (.ofNat i))) (.lit a) (.lit b) (.lit d), e =>
    match e with
    | .sel false (.fn c' x' y' (.lit (.ofNat i'))) (.lit a') (.lit b') (.lit d') =>
      match Nat.beq c F.KV && (Nat.beq c' F.KV && (x.eq F.x && (y.eq (.lit 0) && (y'.eq (.lit 0) && (Nat.beq i i' && (intEq a a' && (intEq b b' && intEq d d'))))))) with
      | true => some x'
      | false => none
    | _ => none
  | _, _ => none
theorem fn_big {ρ : Env} {c : Nat} (h : 7 < c) (x y z : Int) : fnI ρ c x y z = ρ.g c x y z := by
  unfold fnI fnL
  match c, h with
  | n + 8, _ => rfl
theorem defX_ok {F : Fns} (hk : 7 < F.KR ∧ 7 < F.KV) {ρ : Env} {p e X : IE} (h : defX F p e = some X) (ha : F.alike ρ.g (F.x.ev ρ) (X.ev ρ)) : p.ev ρ = e.ev ρ := by
  obtain ⟨a1, a2⟩ := ha
  unfold defX at h
  split at h
  · rename_i k c0 c1 x y z i q0
    split at h
    · rename_i k' d0 d1 x' y' z' i' q1
      split at h
      · rename_i hck
        cases h
        obtain ⟨k1, hck⟩ := and_split hck
        obtain ⟨k2, hck⟩ := and_split hck
        obtain ⟨k3, hck⟩ := and_split hck
        obtain ⟨k4, hck⟩ := and_split hck
        obtain ⟨k5, hck⟩ := and_split hck
        obtain ⟨k6, hck⟩ := and_split hck
        obtain ⟨k7, hck⟩ := and_split hck
        obtain ⟨k8, hck⟩ := and_split hck
        obtain ⟨k9, hck⟩ := and_split hck
        obtain ⟨k10, k11⟩ := and_split hck
        have k1 := Nat.eq_of_beq_eq_true k1; have k2 := Nat.eq_of_beq_eq_true k2; have k3 := Nat.eq_of_beq_eq_true k3; have k4 := Nat.eq_of_beq_eq_true k4
        have k5 := kindEq_eq k5; have k6 := IE.eq_eq k6; have k7 := IE.eq_eq k7; have k8 := IE.eq_eq k8; have k9 := intEq_eq k9; have k10 := intEq_eq k10; have k11 := Nat.eq_of_beq_eq_true k11
        subst k1; subst k2; subst k3; subst k4; subst k5; subst k6; subst k7; subst k8; subst k9; subst k10; subst k11
        show k.wrap (rowGet (fnI ρ F.KR (F.x.ev ρ) 0 0) _) = k.wrap (rowGet (fnI ρ F.KR (X.ev ρ) 0 0) _)
        rw [fn_big hk.1, fn_big hk.1, a1]
      · cases h
    · cases h
  · split at h
    · split at h
      · rename_i hck
        cases h
        obtain ⟨k1, hck⟩ := and_split hck
        obtain ⟨k2, hck⟩ := and_split hck
        obtain ⟨k3, hck⟩ := and_split hck
        obtain ⟨k4, hck⟩ := and_split hck
        obtain ⟨k5, k6⟩ := and_split hck
        have k1 := Nat.eq_of_beq_eq_true k1; have k2 := Nat.eq_of_beq_eq_true k2; have k3 := IE.eq_eq k3; have k4 := IE.eq_eq k4; have k5 := IE.eq_eq k5; have k6 := Nat.eq_of_beq_eq_true k6
        subst k1; subst k2; subst k3; subst k4; subst k5; subst k6
        show fnI ρ F.KV (F.x.ev ρ) 0 _ = fnI ρ F.KV (X.ev ρ) 0 _
        rw [fn_big hk.2, fn_big hk.2, a2]
      · cases h
    · cases h
  · split at h
    · split at h
      · rename_i hck
        cases h
        obtain ⟨k1, hck⟩ := and_split hck
        obtain ⟨k2, hck⟩ := and_split hck
        obtain ⟨k3, hck⟩ := and_split hck
        obtain ⟨k4, hck⟩ := and_split hck
        obtain ⟨k5, hck⟩ := and_split hck
        obtain ⟨k6, hck⟩ := and_split hck
        obtain ⟨k7, hck⟩ := and_split hck
        obtain ⟨k8, k9⟩ := and_split hck
        have k1 := Nat.eq_of_beq_eq_true k1; have k2 := Nat.eq_of_beq_eq_true k2; have k3 := IE.eq_eq k3; have k4 := IE.eq_eq k4; have k5 := IE.eq_eq k5; have k6 := Nat.eq_of_beq_eq_true k6
        have k7 := intEq_eq k7; have k8 := intEq_eq k8; have k9 := intEq_eq k9
        subst k1; subst k2; subst k3; subst k4; subst k5; subst k6; subst k7; subst k8; subst k9
        show selI false (fnI ρ F.KV (F.x.ev ρ) 0 _) _ _ _ = selI false (fnI ρ F.KV (X.ev ρ) 0 _) _ _ _
        rw [fn_big hk.2, fn_big hk.2, a2]
      · cases h
    · cases h
  · cases h
/-- A row whose first digits are given, and the rest of it. -/
def top5 : IE → Option (IE × Nat × IE)
  | .fn c d (.lit (.ofNat n)) q =>
    match Nat.beq c 5 with
    | true => some (d, n, q)
    | false => none
  | _ => none
theorem top5_eq {e d q : IE} {n : Nat} (h : top5 e = some (d, n, q)) : e = .fn 5 d (.lit (.ofNat n)) q := by
  unfold top5 at h
  split at h
  · split at h
    · rename_i hc
      cases h
      rw [Nat.eq_of_beq_eq_true hc]
    · cases h
  · cases h
/-- The row v, turned behind its n first digits alone. -/
def keepsRow (bd : Bd) (v n : Nat) : IE → Bool
  | .var w => Nat.beq w v
  | .fn c d j _ =>
    match Nat.beq c 1, rng bd j with
    | true, some (l, _) =>
      match intLe (.ofNat n) l with
      | true => keepsRow bd v n d
      | false => false
    | _, _ => false
  | _ => false
theorem keepsRow_ok {ρ : Env} {bd : Bd} (hρ : ρ.ok bd) {v n : Nat} : ∀ {e : IE}, keepsRow bd v n e = true → rowCut (ρ.i v) 0 n = rowCut (e.ev ρ) 0 n := by
  intro e
  induction e with
  | var w => intro h; rw [Nat.eq_of_beq_eq_true h]; rfl
  | fn c d j x ih _ _ =>
    intro h
    unfold keepsRow at h
    split at h
    · rename_i l hi hc hr
      split at h
      · rename_i hl
        have hc := Nat.eq_of_beq_eq_true hc
        subst hc
        rw [intLe_iff] at hl
        have hl := of_decide_eq_true hl
        obtain ⟨r1, r2⟩ := rng_ok hρ j _ _ hr
        have hl : (n : Int) ≤ l := hl
        obtain ⟨m, hm⟩ := Int.eq_ofNat_of_zero_le (show 0 ≤ j.ev ρ by omega)
        rw [ih h]
        show _ = rowCut (rowSet (d.ev ρ) (j.ev ρ) (x.ev ρ)) 0 n
        rw [hm, rowCut_set _ _ _ _ (by omega)]
      · cases h
    · cases h
  | _ => intro h; cases h
/-- Behind the same remainder. -/
def defXr (F : Fns) : IE → IE → Option IE
  | .rem a (.lit m), e => match e with
    | .rem b (.lit m') => match intEq m m' with
      | true => defX F a b
      | false => none
    | _ => none
  | p, e => defX F p e
theorem defXr_ok {F : Fns} (hk : 7 < F.KR ∧ 7 < F.KV) {ρ : Env} {p e X : IE} (h : defXr F p e = some X) (ha : F.alike ρ.g (F.x.ev ρ) (X.ev ρ)) : p.ev ρ = e.ev ρ := by
  unfold defXr at h
  split at h
  · split at h
    · split at h
      · rename_i hm
        have hm := intEq_eq hm
        subst hm
        show Int.tmod _ _ = Int.tmod _ _
        rw [defX_ok hk h ha]
      · cases h
    · cases h
  · exact defX_ok hk h ha
def defXb (F : Fns) (p e : IE) : Option IE :=
  match top5 p, top5 e with
  | some (_, _, q), some (_, _, q') => defX F q q'
  | _, _ => defXr F p e
def keep5 (bd : Bd) (p e : IE) : Bool :=
  match top5 p, top5 e with
  | some (d, n, _), some (d', n', _) =>
    match d with
    | .var v => Nat.beq n n' && keepsRow bd v n d'
    | _ => false
  | _, _ => true
theorem defXb_ok {F : Fns} (hk : 7 < F.KR ∧ 7 < F.KV) {ρ : Env} {bd : Bd} (hρ : ρ.ok bd) {p e X : IE} (h : defXb F p e = some X) (h5 : keep5 bd p e = true) (ha : F.alike ρ.g (F.x.ev ρ) (X.ev ρ)) : p.ev ρ = e.ev ρ := by
  unfold defXb at h
  unfold keep5 at h5
  split at h
  · rename_i d n q d' n' q' hp he
    rw [hp, he] at h5
    simp only at h5
    split at h5
    · rename_i v
      obtain ⟨k1, k2⟩ := and_split h5
      have k1 := Nat.eq_of_beq_eq_true k1
      subst k1
      rw [top5_eq hp, top5_eq he]
      show rowTop (ρ.i v) (n : Nat) (q.ev ρ) = rowTop (d'.ev ρ) (n : Nat) (q'.ev ρ)
      rw [defX_ok hk h ha, rowTop_congr (keepsRow_ok hρ k2)]
    · cases h5
  · exact defXr_ok hk h ha
def defXs (bd : Bd) (F : Fns) (X : IE) : Prs → Bool
  | [] => true
  | p :: l =>
    match p.1.eq p.2 with
    | true => defXs bd F X l
    | false =>
      match defXb F p.1 p.2 with
      | some Y =>
        match Y.eq X && keep5 bd p.1 p.2 with
        | true => defXs bd F X l
        | false => false
      | none => false
theorem defXs_ok {F : Fns} (hk : 7 < F.KR ∧ 7 < F.KV) {ρ : Env} {bd : Bd} (hρ : ρ.ok bd) {X : IE} (ha : F.alike ρ.g (F.x.ev ρ) (X.ev ρ)) : ∀ {l : Prs}, defXs bd F X l = true → l.hold ρ := by
  intro l
  induction l with
  | nil => intro _ p hp; cases hp
  | cons x l ih =>
    intro h p hp
    unfold defXs at h
    split at h
    · rename_i hx
      rcases List.mem_cons.1 hp with rfl | hp
      · rw [IE.eq_eq hx]
      · exact ih h p hp
    · split at h
      · rename_i Y hY
        split at h
        · rename_i he
          obtain ⟨he, h5⟩ := and_split he
          rw [IE.eq_eq he] at hY
          rcases List.mem_cons.1 hp with rfl | hp
          · exact defXb_ok hk hρ hY h5 ha
          · exact ih h p hp
        · cases h
      · cases h
def inBelow (m : Int) : Option (Int × Int) → Bool
  | some (l, h) => intLe 0 l && intLt h m
  | none => false
/-- How far an expression is from a symbol. -/
def relR (bd : Bd) (v : Nat) : IE → Option (Int × Int)
  | .var i =>
    match Nat.beq i v with
    | true => some (0, 0)
    | false => none
  | .add x y =>
    match relR bd v x, rng bd y with
    | some (a, b), some (c, d) => some (Int.add a c, Int.add b d)
    | _, _ => none
  | .sel _ _ _ x y =>
    match relR bd v x, relR bd v y with
    | some (a, b), some (c, d) => some (lowI a c, topI b d)
    | _, _ => none
  | _ => none
theorem relR_ok {ρ : Env} {bd : Bd} (hρ : ρ.ok bd) {v : Nat} : ∀ {e : IE} {a b : Int}, relR bd v e = some (a, b) → a ≤ e.ev ρ - ρ.i v ∧ e.ev ρ - ρ.i v ≤ b := by
  intro e
  induction e with
  | var i =>
    intro a b h
    unfold relR at h
    split at h
    · rename_i hb
      cases h
      rw [Nat.eq_of_beq_eq_true hb]
      show (0 : Int) ≤ ρ.i v - ρ.i v ∧ ρ.i v - ρ.i v ≤ 0
      omega
    · cases h
  | add x y ihx _ =>
    intro a b h
    unfold relR at h
    split at h
    · rename_i p q c d hx hy
      cases h
      have h1 := ihx hx
      have h2 := rng_ok hρ y _ _ hy
      show p + c ≤ x.ev ρ + y.ev ρ - ρ.i v ∧ x.ev ρ + y.ev ρ - ρ.i v ≤ q + d
      omega
    · cases h
  | sel s p q x y _ _ ihx ihy =>
    intro a b h
    unfold relR at h
    split at h
    · rename_i a1 b1 a2 b2 hx hy
      cases h
      have h1 := ihx hx
      have h2 := ihy hy
      have l1 : lowI a1 a2 ≤ a1 ∧ lowI a1 a2 ≤ a2 := by
        unfold lowI
        split
        · rename_i h; rw [intLe_iff] at h; have := of_decide_eq_true h; omega
        · rename_i h; rw [intLe_iff] at h; have := of_decide_eq_false h; omega
      have l2 : b1 ≤ topI b1 b2 ∧ b2 ≤ topI b1 b2 := by
        unfold topI
        split
        · rename_i h; rw [intLe_iff] at h; have := of_decide_eq_true h; omega
        · rename_i h; rw [intLe_iff] at h; have := of_decide_eq_false h; omega
      show _ ≤ selI s (p.ev ρ) (q.ev ρ) (x.ev ρ) (y.ev ρ) - ρ.i v ∧ selI s (p.ev ρ) (q.ev ρ) (x.ev ρ) (y.ev ρ) - ρ.i v ≤ _
      unfold selI
      split
      · omega
      · omega
    · cases h
  | _ => intro a b h; cases h
/-- What the contract says, in terms of the functions: the pair numbered j. -/
def defPair (bd : Bd) (F : Fns) (j : Nat) (p e : IE) : Bool :=
  match p with
  | .wrap k (.fn c0 (.fn c1 x y (.lit z)) (.lit (.ofNat i)) _) => Nat.beq c0 0 && (Nat.beq c1 F.KR && (x.eq F.x && (y.eq (.lit 0) && (intEq z 0 && (Nat.beq i j && fits k (rng bd e))))))
  | .fn c x y (.lit (.ofNat i)) => Nat.beq c F.KV && (x.eq F.x && (y.eq (.lit 0) && Nat.beq i j))
  | .sel false (.fn c x y (.lit (.ofNat i))) (.lit a) (.lit b) (.lit d) => Nat.beq c F.KV && (x.eq F.x && (y.eq (.lit 0) && (Nat.beq i j && (intEq a 1 && (intEq b 1 && (intEq d 0 && in01 (rng bd e)))))))
  | .rem (.wrap k (.fn c0 (.fn c1 x y (.lit z)) (.lit (.ofNat i)) _)) (.lit m) => Nat.beq c0 0 && (Nat.beq c1 F.KR && (x.eq F.x && (y.eq (.lit 0) && (intEq z 0 && (Nat.beq i j && (fits k (rng bd e) && inBelow m (rng bd e)))))))
  | .add (.var v) (.rem (.add (.rem (.sub (.wrap k (.fn c0 (.fn c1 x y (.lit z)) (.lit (.ofNat i)) _)) (.var u)) (.lit m)) (.lit m2)) (.lit m3)) => Nat.beq c0 0 && (Nat.beq c1 F.KR && (x.eq F.x && (y.eq (.lit 0) && (intEq z 0 && (Nat.beq i j && (fits k (rng bd e) && (Nat.beq u v && (intEq m2 m && (intEq m3 m && inBelow m (relR bd v e))))))))))
  | _ => false
where in01 : Option (Int × Int) → Bool
  | some (l, h) => intLe 0 l && intLe h 1
  | none => false
/-- The same, where the row's first digits are those of a symbol. -/
def defPairT (bd : Bd) (F : Fns) (j : Nat) (p e : IE) : Bool :=
  match top5 p with
  | some (d, n, q) =>
    match d with
    | .var v => defPair bd F j q e && keepsRow bd v n e
    | _ => false
  | none => defPair bd F j p e
def defPairs (bd : Bd) (F : Fns) : Nat → Prs → Bool
  | _, [] => true
  | j, p :: l =>
    match p.1.eq p.2 with
    | true => defPairs bd F (j + 1) l
    | false => defPairT bd F j p.1 p.2 && defPairs bd F (j + 1) l
theorem defPair_ok {ρ : Env} {bd : Bd} (hρ : ρ.ok bd) {F : Fns} (hk : 7 < F.KR ∧ 7 < F.KV) {t : List Int} (hF : F.is ρ.g (F.x.ev ρ) t) {j : Nat} {p e : IE} (ht : t[j]? = some (e.ev ρ)) (h : defPair bd F j p e = true) : p.ev ρ = e.ev ρ := by
  obtain ⟨hR, hV⟩ := hF
  unfold defPair at h
  split at h
  · rename_i k c0 c1 x y z i q
    obtain ⟨k1, h⟩ := and_split h
    obtain ⟨k2, h⟩ := and_split h
    obtain ⟨k3, h⟩ := and_split h
    obtain ⟨k4, h⟩ := and_split h
    obtain ⟨k5, h⟩ := and_split h
    obtain ⟨k6, k7⟩ := and_split h
    have k1 := Nat.eq_of_beq_eq_true k1; have k2 := Nat.eq_of_beq_eq_true k2; have k3 := IE.eq_eq k3; have k4 := IE.eq_eq k4; have k5 := intEq_eq k5; have k6 := Nat.eq_of_beq_eq_true k6
    subst k1; subst k2; subst k3; subst k4; subst k5; subst k6
    have hf := fits_ok hρ k7
    show k.wrap (rowGet (fnI ρ F.KR (F.x.ev ρ) 0 0) (i : Nat)) = e.ev ρ
    rw [fn_big hk.1, hR, rowGet_of t i _ ht (kind_inRow hf.1 hf.2)]
    exact wrap_id k _ hf.1 hf.2
  · rename_i c x y i
    obtain ⟨k1, h⟩ := and_split h
    obtain ⟨k2, h⟩ := and_split h
    obtain ⟨k3, k4⟩ := and_split h
    have k1 := Nat.eq_of_beq_eq_true k1; have k2 := IE.eq_eq k2; have k3 := IE.eq_eq k3; have k4 := Nat.eq_of_beq_eq_true k4
    subst k1; subst k2; subst k3; subst k4
    show fnI ρ F.KV (F.x.ev ρ) 0 (i : Nat) = e.ev ρ
    rw [fn_big hk.2, hV]
    simp [List.getD_eq_getElem?_getD, ht]
  · rename_i c x y i a b d
    obtain ⟨k1, h⟩ := and_split h
    obtain ⟨k2, h⟩ := and_split h
    obtain ⟨k3, h⟩ := and_split h
    obtain ⟨k4, h⟩ := and_split h
    obtain ⟨k5, h⟩ := and_split h
    obtain ⟨k6, h⟩ := and_split h
    obtain ⟨k7, k8⟩ := and_split h
    have k1 := Nat.eq_of_beq_eq_true k1; have k2 := IE.eq_eq k2; have k3 := IE.eq_eq k3; have k4 := Nat.eq_of_beq_eq_true k4; have k5 := intEq_eq k5; have k6 := intEq_eq k6; have k7 := intEq_eq k7
    subst k1; subst k2; subst k3; subst k4; subst k5; subst k6; subst k7
    show selI false (fnI ρ F.KV (F.x.ev ρ) 0 (i : Nat)) 1 1 0 = e.ev ρ
    have e1 : fnI ρ F.KV (F.x.ev ρ) 0 (i : Nat) = e.ev ρ := by
      rw [fn_big hk.2, hV]
      simp [List.getD_eq_getElem?_getD, ht]
    rw [e1]
    unfold defPair.in01 at k8
    split at k8
    · rename_i l h hr
      obtain ⟨r1, r2⟩ := rng_ok hρ e _ _ hr
      obtain ⟨b1, b2⟩ := and_split k8
      rw [intLe_iff] at b1 b2
      have b1 := of_decide_eq_true b1
      have b2 := of_decide_eq_true b2
      unfold selI
      simp only [Bool.false_eq_true, if_false]
      split
      · omega
      · omega
    · cases k8
  · rename_i k c0 c1 x y z i q m
    obtain ⟨k1, h⟩ := and_split h
    obtain ⟨k2, h⟩ := and_split h
    obtain ⟨k3, h⟩ := and_split h
    obtain ⟨k4, h⟩ := and_split h
    obtain ⟨k5, h⟩ := and_split h
    obtain ⟨k6, h⟩ := and_split h
    obtain ⟨k7, k8⟩ := and_split h
    have k1 := Nat.eq_of_beq_eq_true k1; have k2 := Nat.eq_of_beq_eq_true k2; have k3 := IE.eq_eq k3; have k4 := IE.eq_eq k4; have k5 := intEq_eq k5; have k6 := Nat.eq_of_beq_eq_true k6
    subst k1; subst k2; subst k3; subst k4; subst k5; subst k6
    have hf := fits_ok hρ k7
    have e1 : k.wrap (rowGet (fnI ρ F.KR (F.x.ev ρ) 0 0) (i : Nat)) = e.ev ρ := by
      rw [fn_big hk.1, hR, rowGet_of t i _ ht (kind_inRow hf.1 hf.2)]
      exact wrap_id k _ hf.1 hf.2
    show (k.wrap (rowGet (fnI ρ F.KR (F.x.ev ρ) 0 0) (i : Nat))).tmod m = e.ev ρ
    rw [e1]
    unfold inBelow at k8
    split at k8
    · rename_i l h hr
      obtain ⟨r1, r2⟩ := rng_ok hρ e _ _ hr
      obtain ⟨b1, b2⟩ := and_split k8
      rw [intLe_iff] at b1
      rw [intLt_iff] at b2
      have b1 := of_decide_eq_true b1
      have b2 := of_decide_eq_true b2
      rw [Int.tmod_eq_emod_of_nonneg (by omega)]
      exact Int.emod_eq_of_lt (by omega) (by omega)
    · cases k8
  · rename_i v k c0 c1 x y z i q u m m2 m3
    obtain ⟨k1, h⟩ := and_split h
    obtain ⟨k2, h⟩ := and_split h
    obtain ⟨k3, h⟩ := and_split h
    obtain ⟨k4, h⟩ := and_split h
    obtain ⟨k5, h⟩ := and_split h
    obtain ⟨k6, h⟩ := and_split h
    obtain ⟨k7, h⟩ := and_split h
    obtain ⟨k8, h⟩ := and_split h
    obtain ⟨k9, h⟩ := and_split h
    obtain ⟨k10, k11⟩ := and_split h
    have k1 := Nat.eq_of_beq_eq_true k1; have k2 := Nat.eq_of_beq_eq_true k2; have k3 := IE.eq_eq k3; have k4 := IE.eq_eq k4; have k5 := intEq_eq k5; have k6 := Nat.eq_of_beq_eq_true k6
    have k8 := Nat.eq_of_beq_eq_true k8; have k9 := intEq_eq k9; have k10 := intEq_eq k10
    subst k1; subst k2; subst k3; subst k4; subst k5; subst k6; subst k8; subst k9; subst k10
    have hf := fits_ok hρ k7
    have e1 : k.wrap (rowGet (fnI ρ F.KR (F.x.ev ρ) 0 0) (i : Nat)) = e.ev ρ := by
      rw [fn_big hk.1, hR, rowGet_of t i _ ht (kind_inRow hf.1 hf.2)]
      exact wrap_id k _ hf.1 hf.2
    unfold inBelow at k11
    split at k11
    · rename_i l h hr
      obtain ⟨r1, r2⟩ := relR_ok hρ hr
      obtain ⟨b1, b2⟩ := and_split k11
      rw [intLe_iff] at b1
      rw [intLt_iff] at b2
      have b1 := of_decide_eq_true b1
      have b2 := of_decide_eq_true b2
      show ρ.i u + ((k.wrap (rowGet (fnI ρ F.KR (F.x.ev ρ) 0 0) (i : Nat)) - ρ.i u).tmod m3 + m3).tmod m3 = e.ev ρ
      rw [e1, Int.tmod_eq_emod_of_nonneg (a := e.ev ρ - ρ.i u) (by omega), Int.emod_eq_of_lt (a := e.ev ρ - ρ.i u) (by omega) (by omega), Int.tmod_eq_emod_of_nonneg (by omega), Int.add_emod_right, Int.emod_eq_of_lt (by omega) (by omega)]
      omega
    · cases k11
  · cases h
theorem defPairT_ok {ρ : Env} {bd : Bd} (hρ : ρ.ok bd) {F : Fns} (hk : 7 < F.KR ∧ 7 < F.KV) {t : List Int} (hF : F.is ρ.g (F.x.ev ρ) t) {j : Nat} {p e : IE} (ht : t[j]? = some (e.ev ρ)) (h : defPairT bd F j p e = true) : p.ev ρ = e.ev ρ := by
  unfold defPairT at h
  split at h
  · rename_i d n q hp
    split at h
    · rename_i v
      obtain ⟨h1, h2⟩ := and_split h
      rw [top5_eq hp]
      show rowTop (ρ.i v) (n : Nat) (q.ev ρ) = _
      rw [defPair_ok hρ hk hF ht h1]
      exact rowTop_of (keepsRow_ok hρ h2)
    · cases h
  · exact defPair_ok hρ hk hF ht h
theorem defPairs_ok {ρ : Env} {bd : Bd} (hρ : ρ.ok bd) {F : Fns} (hk : 7 < F.KR ∧ 7 < F.KV) {t : List Int} (hF : F.is ρ.g (F.x.ev ρ) t) :
    ∀ {l : Prs} {j : Nat}, (∀ (i : Nat) (p : IE × IE), l[i]? = some p → p.1.eq p.2 = false → t[j + i]? = some (p.2.ev ρ)) → defPairs bd F j l = true → l.hold ρ := by
  intro l
  induction l with
  | nil => intro j _ _ p hp; cases hp
  | cons x l ih =>
    intro j ht h p hp
    have rest : defPairs bd F (j + 1) l = true → p ∈ l → p.1.ev ρ = p.2.ev ρ := fun h2 hp => ih (fun i p hi hne => by have := ht (i + 1) p (by simpa using hi) hne; rw [show j + 1 + i = j + (i + 1) by omega]; exact this) h2 p hp
    unfold defPairs at h
    split at h
    · rename_i hx
      rcases List.mem_cons.1 hp with rfl | hp
      · rw [IE.eq_eq hx]
      · exact rest h hp
    · rename_i hx
      obtain ⟨h1, h2⟩ := and_split h
      rcases List.mem_cons.1 hp with rfl | hp
      · exact defPairT_ok hρ hk hF (by have := ht 0 p (by simp) hx; simpa using this) h1
      · exact rest h2 hp
/-- What a pair's function has; nothing where there is nothing to say. -/
def rowVal (p : IE × IE) : IE :=
  match p.1.eq p.2 with
  | true => .lit 0
  | false => p.2
theorem rowVal_at {ρ : Env} {q : Prs} {i : Nat} {p : IE × IE} (h : q[i]? = some p) (hp : p.1.eq p.2 = false) : ((q.map rowVal).map (·.ev ρ))[i]? = some (p.2.ev ρ) := by
  simp only [List.getElem?_map, h, Option.map_some]
  unfold rowVal
  rw [hp]
/-- What a tree of outcomes ends with, without what the contract says of it. -/
def headX (F : Fns) : Prs → Option IE
  | [] => none
  | p :: l =>
    match p.1.eq p.2 with
    | true => headX F l
    | false => defXb F p.1 p.2
def Con.rows (c : Con) (F : Fns) : Out → RT
  | .bad _ => .bad
  | .leaf e s =>
    match c.endsA s with
    | some q =>
      match e with
      | .normal =>
        match headX F q with
        | some X => .again X
        | none => .bad
      | _ => .done (q.map rowVal)
    | none => .bad
  | .split b y n => .split b (c.rows F y) (c.rows F n)
def Con.defLeaf (c : Con) (F : Fns) (_ : Dec) (e : AExit) (s : ASt) : Bool :=
  match c.endsA s with
  | some q =>
    match e with
    | .normal =>
      match headX F q with
      | some X => defXs (bdL c.bds) F X q
      | none => false
    | _ => defPairs (bdL c.bds) F 0 q
  | none => false
theorem Con.rows_pick {c : Con} {F : Fns} {ρ : Env} : ∀ {o : Out} {e : AExit} {s : ASt}, o.pick ρ = some (e, s) → (c.rows F o).pick ρ = (c.rows F (.leaf e s)).pick ρ := by
  intro o
  induction o with
  | bad w => intro e s h; cases h
  | leaf e s => intro e' s' h; cases h; rfl
  | split b y n ihy ihn =>
    intro e s h
    simp only [Out.pick] at h
    have : (c.rows F (.split b y n)).pick ρ = pickV (b.ev ρ) ((c.rows F y).pick ρ) ((c.rows F n).pick ρ) := rfl
    rw [this]
    cases hb : b.ev ρ
    · rw [hb] at h; exact ihn h
    · rw [hb] at h; exact ihy h
section
variable {P : Program} {G : Nat → Int → Int → Int → Int} {GH : Nat → Ghost} {c : Con} {K : Know}
/-- What each outcome of a tree has, where the functions are the tree's. -/
theorem Con.def_holds {o : Out} {dec : Dec} {F : Fns} (h : o.all (c.defLeaf F) dec = true) (hk : 7 < F.KR ∧ 7 < F.KV) {ρ : Env} (h2 : ρ.ok (bdL c.bds)) (hd : dec.holds ρ) (hF : F.Def ρ.g (c.rows F o)) :
    ∃ e s q, o.pick ρ = some (e, s) ∧ c.endsA s = some q ∧ q.hold ρ := by
  obtain ⟨e, s, dec', hd', p1, p2⟩ := Out.all_pick hd h
  have hF := hF ρ rfl
  rw [Con.rows_pick p1] at hF
  unfold Con.defLeaf at p2
  split at p2
  · rename_i q hq
    refine ⟨e, s, q, p1, hq, ?_⟩
    unfold Con.rows at hF
    rw [hq] at hF
    cases e with
    | normal =>
      simp only at p2 hF
      split at p2
      · rename_i X hX
        rw [hX] at hF
        exact defXs_ok hk h2 hF p2
      · cases p2
    | exit i => exact defPairs_ok h2 hk hF (fun i p hp hne => by rw [Nat.zero_add]; exact rowVal_at hp hne) p2
    | ret => exact defPairs_ok h2 hk hF (fun i p hp hne => by rw [Nat.zero_add]; exact rowVal_at hp hne) p2
  · cases p2
theorem Con.defLeaves (facts : Dec) (hf : ∀ ρ : Env, ρ.std G GH → ρ.ok (bdL c.bds) → c.pre.holds ρ → facts.holds ρ) {F : Fns} (hk : 7 < F.KR ∧ 7 < F.KV) {o : Out} (h : o.all (c.defLeaf F) (facts ++ c.pre) = true) (hG : F.Def G (c.rows F o)) : c.Leaves G GH o := by
  intro ρ h1 h2 h3
  obtain ⟨e, s, q, p1, p2, p3⟩ := Con.def_holds h hk h2 (holds_app (hf ρ h1 h2 h3) h3) (by rw [h1.1]; exact hG)
  exact ⟨e, s, _, q, p1, p2, p3⟩
end
/-! there are such functions -/
def envX (G : Nat → Int → Int → Int → Int) (vars : List Nat) (X : Int) : Env := { i := fun v => unpN X (vars.idxOf v), b := fun _ => false, g := G }
/-- The values where the loop has ended, if it ends. -/
def loopN (G : Nat → Int → Int → Int → Int) (vars : List Nat) (t : RT) : Nat → Int → Option (List Int)
  | 0, _ => none
  | n + 1, X =>
    match t.pick (envX G vars X) with
    | .bad => none
    | .again Y => loopN G vars t n Y
    | .done l => some l
theorem loopN_mono {G : Nat → Int → Int → Int → Int} {vars : List Nat} {t : RT} : ∀ (n m : Nat) (X : Int) (l : List Int), n ≤ m → loopN G vars t n X = some l → loopN G vars t m X = some l := by
  intro n
  induction n with
  | zero => intro m X l _ h; cases h
  | succ n ih =>
    intro m X l hm h
    obtain ⟨m, rfl⟩ : ∃ k, m = k + 1 := ⟨m - 1, by omega⟩
    unfold loopN at h ⊢
    cases hp : t.pick (envX G vars X) with
    | bad => rw [hp] at h; cases h
    | again Y => rw [hp] at h; exact ih m Y l (by omega) h
    | done l' => rw [hp] at h; exact h
open Classical in
def loopF (G : Nat → Int → Int → Int → Int) (vars : List Nat) (t : RT) (X : Int) : List Int := if h : ∃ (n : Nat) (l : List Int), loopN G vars t n X = some l then Classical.choose (Classical.choose_spec h) else []
theorem loopF_of {G : Nat → Int → Int → Int → Int} {vars : List Nat} {t : RT} {X : Int} {n : Nat} {l : List Int} (h : loopN G vars t n X = some l) : loopF G vars t X = l := by
  have hx : ∃ (n : Nat) (l : List Int), loopN G vars t n X = some l := ⟨n, l, h⟩
  unfold loopF
  rw [dif_pos hx]
  have h1 := Classical.choose_spec (Classical.choose_spec hx)
  have h2 := loopN_mono _ (max (Classical.choose hx) n) X _ (Nat.le_max_left _ _) h1
  have h3 := loopN_mono _ (max (Classical.choose hx) n) X _ (Nat.le_max_right _ _) h
  rw [h2] at h3
  exact Option.some.inj h3
theorem loopF_none {G : Nat → Int → Int → Int → Int} {vars : List Nat} {t : RT} {X : Int} (h : ∀ n, loopN G vars t n X = none) : loopF G vars t X = [] := by
  unfold loopF
  rw [dif_neg]
  rintro ⟨n, l, hl⟩
  rw [h n] at hl
  cases hl
theorem loopF_eq {G : Nat → Int → Int → Int → Int} {vars : List Nat} {t : RT} {X : Int} : match t.pick (envX G vars X) with
    | .bad => True
    | .again Y => loopF G vars t X = loopF G vars t Y
    | .done l => loopF G vars t X = l := by
  split
  · trivial
  · rename_i Y hp
    have step : ∀ n, loopN G vars t (n + 1) X = loopN G vars t n Y := fun n => by
      show (match t.pick (envX G vars X) with
        | .bad => none
        | .again Y => loopN G vars t n Y
        | .done l => some l) = _
      rw [hp]
    by_cases h : ∃ (n : Nat) (l : List Int), loopN G vars t n Y = some l
    · obtain ⟨n, l, hl⟩ := h
      rw [loopF_of hl, loopF_of ((step n).trans hl)]
    · have hY : ∀ n, loopN G vars t n Y = none := fun n => by
        cases hn : loopN G vars t n Y with
        | none => rfl
        | some l => exact absurd ⟨n, l, hn⟩ h
      rw [loopF_none hY, loopF_none fun n => ?_]
      cases n with
      | zero => rfl
      | succ n => rw [step n, hY n]
  · rename_i l hp
    refine loopF_of (n := 1) ?_
    show (match t.pick (envX G vars X) with
        | .bad => none
        | .again Y => loopN G vars t 0 Y
        | .done l => some l) = _
    rw [hp]
def memV (vars : List Nat) (i : Nat) : Bool := vars.any (Nat.beq i)
def withFn (G : Nat → Int → Int → Int → Int) (F : Fns) (f : Int → List Int) : Nat → Int → Int → Int → Int := fun c x y z =>
  if c = F.KR then (rowOf (f x) : Nat) else if c = F.KV then (f x).getD z.toNat 0 else G c x y z
/-- The functions of a tree that names functions below K alone. -/
theorem Fns.exists_def (F : Fns) (G : Nat → Int → Int → Int → Int) (hP : Packs G) (t : RT) (K : Nat) (hK : KP < K ∧ K ≤ F.KR ∧ K ≤ F.KV ∧ F.KR ≠ F.KV) (ht : t.only (memV F.vars) K = true) : ∃ G', (∀ c, c ≠ F.KR → c ≠ F.KV → G' c = G c) ∧ F.Def G' t := by
  obtain ⟨k0, k1, k2, k3⟩ := hK
  refine ⟨withFn G F (loopF G F.vars t), fun c h1 h2 => ?_, fun ρ hρ => ?_⟩
  · funext x y z
    unfold withFn
    rw [if_neg h1, if_neg h2]
  · have low : ∀ c, c < K → (withFn G F (loopF G F.vars t)) c = G c := fun c hc => by
      funext x y z
      unfold withFn
      rw [if_neg (by omega), if_neg (by omega)]
    have hx : F.x.ev ρ = packL (F.vars.map ρ.i) := packIE_ev (by rw [hρ]; intro x y z; rw [low KP k0]; exact hP x y z) F.vars
    have hpick : t.pick ρ = t.pick (envX G F.vars (F.x.ev ρ)) := by
      refine RT.only_pick (fun i hi => ?_) (fun c hc => by rw [hρ]; exact low c hc) t ht
      have hm : i ∈ F.vars := by
        obtain ⟨j, h1, h2⟩ := List.any_eq_true.1 hi
        rw [Nat.eq_of_beq_eq_true h2]
        exact h1
      show ρ.i i = unpN (F.x.ev ρ) (F.vars.idxOf i)
      rw [hx]
      refine (unpN_pack _ _ _ ?_).symm
      have hlt : F.vars.idxOf i < F.vars.length := List.idxOf_lt_length_iff.2 hm
      rw [List.getElem?_map, List.getElem?_eq_getElem hlt]
      simp
    rw [hpick]
    have h := loopF_eq (G := G) (vars := F.vars) (t := t) (X := F.x.ev ρ)
    cases hp : t.pick (envX G F.vars (F.x.ev ρ)) with
    | bad => trivial
    | again Y =>
      rw [hp] at h
      refine ⟨?_, fun z => ?_⟩
      · unfold withFn
        rw [if_pos rfl, if_pos rfl, h]
      · unfold withFn
        rw [if_neg (Ne.symm k3), if_neg (Ne.symm k3), if_pos rfl, if_pos rfl, h]
    | done l =>
      rw [hp] at h
      refine ⟨?_, fun z => ?_⟩
      · unfold withFn
        rw [if_pos rfl, h]
      · unfold withFn
        rw [if_neg (Ne.symm k3), if_pos rfl, h]
/-- Functions that are given stay so where only others change. -/
theorem Fns.Def.mono {F : Fns} {G G' : Nat → Int → Int → Int → Int} {t : RT} {K : Nat} (hP : Packs G) (h : F.Def G t) (ht : t.only (memV F.vars) K = true) (hK : KP < K) (he : ∀ c, c < K → G' c = G c) (h1 : G' F.KR = G F.KR) (h2 : G' F.KV = G F.KV) : F.Def G' t := by
  intro ρ hρ
  have hx : ∀ ρ' : Env, (∀ c, c < K → ρ'.g c = G c) → F.x.ev ρ' = packL (F.vars.map ρ'.i) := fun ρ' h' => packIE_ev (by intro x y z; rw [h' KP hK]; exact hP x y z) F.vars
  have hp : t.pick ρ = t.pick { ρ with g := G } := RT.only_pick (ρ := ρ) (ρ' := { ρ with g := G }) (fun i _ => rfl) (fun c hc => by rw [hρ]; exact he c hc) t ht
  have e1 : F.x.ev ρ = F.x.ev { ρ with g := G } := by rw [hx ρ (fun c hc => by rw [hρ]; exact he c hc), hx { ρ with g := G } (fun c _ => rfl)]
  have := h { ρ with g := G } rfl
  rw [hp, e1]
  revert this
  split
  · exact id
  · rintro ⟨a1, a2⟩; exact ⟨by rw [h1]; exact a1, fun z => by rw [h2]; exact a2 z⟩
  · rintro ⟨a1, a2⟩; exact ⟨by rw [h1]; exact a1, fun z => by rw [h2]; exact a2 z⟩

/-! two trees that agree -/
/-- Equal, or made alike of equals. -/
def cgr (q : IE → IE → Bool) : IE → IE → Bool
  | .wrap k x, b =>
    match q (.wrap k x) b with
    | true => true
    | false =>
      match b with
      | .wrap j y => kindEq k j && cgr q x y
      | _ => false
  | .add x y, b =>
    match q (.add x y) b with
    | true => true
    | false =>
      match b with
      | .add u v => cgr q x u && cgr q y v
      | _ => false
  | a, b => q a b
theorem cgr_ok {ρ : Env} {q : IE → IE → Bool} (hq : ∀ a b, q a b = true → a.ev ρ = b.ev ρ) : ∀ {a b : IE}, cgr q a b = true → a.ev ρ = b.ev ρ := by
  intro a
  induction a with
  | wrap k x ih =>
    intro b h
    unfold cgr at h
    split at h
    · rename_i h1; exact hq _ _ h1
    · split at h
      · rename_i j y _
        obtain ⟨h1, h2⟩ := and_split h
        rw [kindEq_eq h1]
        show _ = IntKind.wrap j (y.ev ρ)
        rw [← ih h2]; rfl
      · cases h
  | add x y ihx ihy =>
    intro b h
    unfold cgr at h
    split at h
    · rename_i h1; exact hq _ _ h1
    · split at h
      · rename_i u v _
        obtain ⟨h1, h2⟩ := and_split h
        show x.ev ρ + y.ev ρ = u.ev ρ + v.ev ρ
        rw [ihx h1, ihy h2]
      · cases h
  | _ => intro b h; exact hq _ _ h
def prsSame (bd : Bd) (dec : Dec) : Prs → Prs → Bool
  | [], m =>
    match m with
    | [] => true
    | _ => false
  | p :: l, m =>
    match m with
    | [] => false
    | q :: m =>
      match p.1.eqF q.1 && cgr (qP bd 30 dec) p.2 q.2 with
      | true => prsSame bd dec l m
      | false => false
theorem prsSame_ok {ρ : Env} {bd : Bd} (hρ : ρ.ok bd) {dec : Dec} (hd : dec.holds ρ) : ∀ {l m : Prs}, prsSame bd dec l m = true → m.hold ρ → l.hold ρ := by
  intro l
  induction l with
  | nil => intro m _ _ p hp; cases hp
  | cons a l ih =>
    intro m h hm p hp
    cases m with
    | nil => simp [prsSame] at h
    | cons b m =>
      simp only [prsSame] at h
      split at h
      · rename_i hk
        obtain ⟨k1, k2⟩ := and_split hk
        rcases List.mem_cons.1 hp with rfl | hp
        · rw [IE.eqF_eq k1, cgr_ok (fun a b hab => qP_ok hρ hd hab) k2]
          exact hm b (by simp)
        · exact ih h (fun q hq => hm q (by simp [hq])) p hp
      · cases h
/-- The other tree, walked under what is known at an outcome of this one. -/
def agree (bd : Bd) (ends : ASt → Option Prs) (q : Prs) : Out → Dec → Bool
  | .bad _, _ => false
  | .leaf _ s, dec =>
    match ends s with
    | some m => prsSame bd dec q m
    | none => false
  | .split b y n, dec =>
    match prove bd 4 dec b with
    | some true => agree bd ends q y dec
    | some false => agree bd ends q n dec
    | none =>
      match agree bd ends q y ((b, true) :: dec) with
      | true => agree bd ends q n ((b, false) :: dec)
      | false => false
theorem agree_ok {bd : Bd} {ρ : Env} (hρ : ρ.ok bd) {ends : ASt → Option Prs} {q : Prs} : ∀ {o : Out} {dec : Dec}, dec.holds ρ → agree bd ends q o dec = true → (∀ e s m, o.pick ρ = some (e, s) → ends s = some m → m.hold ρ) → q.hold ρ := by
  intro o
  induction o with
  | bad w => intro dec _ h; cases h
  | leaf e s =>
    intro dec hd h hm
    unfold agree at h
    split at h
    · rename_i m hs
      exact prsSame_ok hρ hd h (hm e s m rfl hs)
    · cases h
  | split b y n ihy ihn =>
    intro dec hd h hm
    have py : b.ev ρ = true → ∀ e s m, y.pick ρ = some (e, s) → ends s = some m → m.hold ρ := fun hb e s m h1 h2 => hm e s m (by simp only [Out.pick, hb]; exact h1) h2
    have pn : b.ev ρ = false → ∀ e s m, n.pick ρ = some (e, s) → ends s = some m → m.hold ρ := fun hb e s m h1 h2 => hm e s m (by simp only [Out.pick, hb]; exact h1) h2
    unfold agree at h
    split at h
    · rename_i hb
      exact ihy hd h (py (prove_ok hρ _ _ _ _ hd hb))
    · rename_i hb
      exact ihn hd h (pn (prove_ok hρ _ _ _ _ hd hb))
    · split at h
      · rename_i h1
        cases hb : b.ev ρ
        · exact ihn (decCons hd hb) h (pn hb)
        · exact ihy (decCons hd hb) h1 (py hb)
      · cases h
def Con.agreeLeaf (c : Con) (ends : ASt → Option Prs) (o : Out) (dec : Dec) (_ : AExit) (s : ASt) : Bool :=
  match c.endsA s with
  | some q => agree (bdL c.bds) ends q o dec
  | none => false
/-- A tree that agrees with another one, of which the same is known. -/
theorem Con.agreeLeaves {G : Nat → Int → Int → Int → Int} {GH : Nat → Ghost} {c : Con} (facts : Dec) (hf : ∀ ρ : Env, ρ.std G GH → ρ.ok (bdL c.bds) → c.pre.holds ρ → facts.holds ρ)
    {o o' : Out} {ends : ASt → Option Prs} (ho : ∀ ρ : Env, ρ.std G GH → ρ.ok (bdL c.bds) → c.pre.holds ρ → ∀ e s m, o.pick ρ = some (e, s) → ends s = some m → m.hold ρ)
    (h : o'.all (c.agreeLeaf ends o) (facts ++ c.pre) = true) : c.Leaves G GH o' := by
  intro ρ h1 h2 h3
  obtain ⟨e, s, dec', hd', p1, p2⟩ := Out.all_pick (holds_app (hf ρ h1 h2 h3) h3) h
  unfold Con.agreeLeaf at p2
  split at p2
  · rename_i q hq
    exact ⟨e, s, _, q, p1, hq, agree_ok h2 hd' p2 (ho ρ h1 h2 h3)⟩
  · cases p2
/-- What is known of the outcomes of a tree by which functions are given. -/
theorem Con.def_ends {G : Nat → Int → Int → Int → Int} {c : Con} {o : Out} {dec : Dec} {F : Fns} (h : o.all (c.defLeaf F) dec = true) (hk : 7 < F.KR ∧ 7 < F.KV) (hF : F.Def G (c.rows F o)) {ρ : Env} (h1 : ρ.g = G) (h2 : ρ.ok (bdL c.bds)) (hd : dec.holds ρ) : ∀ e s m, o.pick ρ = some (e, s) → c.endsA s = some m → m.hold ρ := by
  intro e s m hp hm
  obtain ⟨e', s', q, q1, q2, q3⟩ := Con.def_holds h hk h2 hd (by rw [h1]; exact hF)
  rw [hp] at q1
  cases q1
  rw [hm] at q2
  cases q2
  exact q3
end
end Go.Sx
/- A paged memory (mem.Mem of the program) as one thing: its content as a row of integers; opened at a page, and shut. No condition. -/
set_option linter.unusedSimpArgs false
set_option linter.unusedVariables false
namespace Go.Sx
open Go.RowKit (Below)
noncomputable section

/-! the row of a memory: 4a the content's byte a, 4a+1 the image's, 4p+2 the rights of page p, 3 the number of pages, 7 whether it is coherent -/
def mN (M : Int) : Int := rowGet M (3 : Nat)
def mCoh (M : Int) : Bool := decide (rowGet M (7 : Nat) = 1)
def mD (M : Int) (a : Nat) : Int := rowGet M (4 * a : Nat)
def mC (M : Int) (a : Nat) : Int := rowGet M (4 * a + 1 : Nat)
def mR (M : Int) (p : Nat) : Int := rowGet M (4 * p + 2 : Nat)
def pgD (M : Int) (p : Nat) : Int := (rowOf ((List.range 256).map fun j => mD M (256 * p + j)) : Nat)
def pgC (M : Int) (p : Nat) : Int := (rowOf ((List.range 256).map fun j => mC M (256 * p + j)) : Nat)
def isByte (v : Int) : Prop := 0 ≤ v ∧ v ≤ 255
/-- A place of the row that says something. -/
def memPos (M : Int) (j : Nat) : Prop := j = 3 ∨ j = 7 ∨ (∃ a, a < 256 * (mN M).toNat ∧ (j = 4 * a ∨ (mCoh M = false ∧ j = 4 * a + 1))) ∨ ∃ p, p < (mN M).toNat ∧ j = 4 * p + 2
/-- Nothing else stands in the row. -/
structure memCan (M : Int) : Prop where
  pos : 0 ≤ M
  coh : rowGet M (7 : Nat) = 0 ∨ rowGet M (7 : Nat) = 1
  out : ∀ j : Nat, ¬ memPos M j → rowGet M j = 0
theorem pgD_get {M : Int} {p j : Nat} (hj : j < 256) (h : isByte (mD M (256 * p + j))) : rowGet (pgD M p) j = mD M (256 * p + j) :=
  rowGet_of _ j _ (by simp [hj]) (by unfold inRow; obtain ⟨h1, h2⟩ := h; omega)
theorem pgC_get {M : Int} {p j : Nat} (hj : j < 256) (h : isByte (mC M (256 * p + j))) : rowGet (pgC M p) j = mC M (256 * p + j) :=
  rowGet_of _ j _ (by simp [hj]) (by unfold inRow; obtain ⟨h1, h2⟩ := h; omega)

def pageIs (w : World) (b o : Nat) (D : Nat → Int) : Prop := ∃ cs el fr, w.heap[b]? = some (.cells cs el fr) ∧ (∀ j, j < cs.size → ¬ (fr.1 ≤ j ∧ j < fr.2)) ∧ ∀ j, j < 256 → cs[o + j]? = some (.int .u8 (D j)) ∧ isByte (D j)
/-- Where the pages lie. -/
structure Pages where
  ho : Nat
  sb : Nat
  so : Nat
  dp : Nat → Nat
  db : Nat → Nat
  cp : Nat → Nat
  cb : Nat → Nat
  od : Nat → Bool
  oc : Nat → Bool
structure MemIs (el sl : TypeId) (M : Int) (w : World) (g : Nat) (P : Pages) : Prop where
  nle : 0 ≤ mN M ∧ mN M ≤ 4096
  head : ∃ cs fr cap, w.heap[g]? = some (.cells cs el fr) ∧ cs[P.ho + 0]? = some (.slice (some ⟨P.sb, P.so, none⟩) (mN M).toNat cap) ∧ (mN M).toNat ≤ cap ∧ cs[P.ho + 1]? = some (.bool (mCoh M))
  slots : ∃ cs fr, w.heap[P.sb]? = some (.cells cs sl fr) ∧ (∀ j, j < cs.size → ¬ (fr.1 ≤ j ∧ j < fr.2)) ∧ ∀ p, p < (mN M).toNat →
    cs[P.so + (p * 7)]? = some (.pointer (some ⟨P.dp p, P.db p, none⟩)) ∧ cs[P.so + (p * 7 + 1)]? = some (.pointer (match mCoh M with | true => none | false => some ⟨P.cp p, P.cb p, none⟩)) ∧
    cs[P.so + (p * 7 + 2)]? = some (.bool (P.od p)) ∧ cs[P.so + (p * 7 + 3)]? = some (.bool (P.oc p)) ∧ cs[P.so + (p * 7 + 6)]? = some (.int .i64 (mR M p)) ∧ 0 ≤ mR M p ∧ mR M p ≤ 7
  data : ∀ p, p < (mN M).toNat → pageIs w (P.dp p) (P.db p) fun j => mD M (256 * p + j)
  code : mCoh M = false → ∀ p, p < (mN M).toNat → pageIs w (P.cp p) (P.cb p) fun j => mC M (256 * p + j)
  gs : g ≠ P.sb
  gd : ∀ p, p < (mN M).toNat → P.dp p ≠ g ∧ P.dp p ≠ P.sb
  gc : mCoh M = false → ∀ p, p < (mN M).toNat → P.cp p ≠ g ∧ P.cp p ≠ P.sb
  exD : ∀ p, p < (mN M).toNat → P.od p = true → (∀ q, q < (mN M).toNat → q ≠ p → P.dp q ≠ P.dp p) ∧ (mCoh M = false → ∀ q, q < (mN M).toNat → P.cp q ≠ P.dp p)
  exC : mCoh M = false → ∀ p, p < (mN M).toNat → P.oc p = true → (∀ q, q < (mN M).toNat → q ≠ p → P.cp q ≠ P.cp p) ∧ ∀ q, q < (mN M).toNat → P.dp q ≠ P.cp p
  can : memCan M
def inMem (M : Int) (g : Nat) (P : Pages) (b : Nat) : Prop := b = g ∨ b = P.sb ∨ (∃ p, p < (mN M).toNat ∧ b = P.dp p) ∨ (mCoh M = false ∧ ∃ p, p < (mN M).toNat ∧ b = P.cp p)
section
variable {el sl : TypeId} {M M' : Int} {w w' : World} {g : Nat} {P P' : Pages}
theorem MemIs.inb (h : MemIs el sl M w g P) {b : Nat} (hb : inMem M g P b) : b < w.heap.size := by
  have lt : ∀ {b : Nat} {O : Obj}, w.heap[b]? = some O → b < w.heap.size := fun h => (Array.getElem?_eq_some_iff.1 h).1
  rcases hb with rfl | rfl | ⟨p, hp, rfl⟩ | ⟨hc, p, hp, rfl⟩
  · obtain ⟨_, _, _, h1, _⟩ := h.head; exact lt h1
  · obtain ⟨_, _, h1, _⟩ := h.slots; exact lt h1
  · obtain ⟨_, _, _, h1, _⟩ := h.data p hp; exact lt h1
  · obtain ⟨_, _, _, h1, _⟩ := h.code hc p hp; exact lt h1
theorem pageIs.keep {b o : Nat} {D : Nat → Int} (h : pageIs w b o D) (he : w'.heap[b]? = w.heap[b]?) : pageIs w' b o D := by
  obtain ⟨cs, el, fr, h1, h2⟩ := h
  exact ⟨cs, el, fr, he.trans h1, h2⟩
theorem MemIs.keep (h : MemIs el sl M w g P) (he : ∀ b, inMem M g P b → w'.heap[b]? = w.heap[b]?) : MemIs el sl M w' g P := by
  refine ⟨h.nle, ?_, ?_, fun p hp => (h.data p hp).keep (he _ (.inr (.inr (.inl ⟨p, hp, rfl⟩)))), fun hc p hp => (h.code hc p hp).keep (he _ (.inr (.inr (.inr ⟨hc, p, hp, rfl⟩)))), h.gs, h.gd, h.gc, h.exD, h.exC, h.can⟩
  · obtain ⟨cs, fr, cap, h1, h2⟩ := h.head
    exact ⟨cs, fr, cap, (he g (.inl rfl)).trans h1, h2⟩
  · obtain ⟨cs, fr, h1, h2⟩ := h.slots
    exact ⟨cs, fr, (he P.sb (.inr (.inl rfl))).trans h1, h2⟩
/-- Where it lies does not depend on how one looks. -/
theorem MemIs.same (h : MemIs el sl M w g P) (k : MemIs el sl M' w g P') (ho : P'.ho = P.ho) {b : Nat} (hb : inMem M' g P' b) : inMem M g P b := by
  obtain ⟨cs, fr, cap, h1, h2, _, h3⟩ := h.head
  obtain ⟨cs', fr', cap', k1, k2, _, k3⟩ := k.head
  rw [h1] at k1
  cases k1
  rw [ho, h2] at k2
  rw [ho] at k3
  simp only [Option.some.injEq, Value.slice.injEq, Addr.mk.injEq] at k2
  obtain ⟨⟨esb, eso, _⟩, en, _⟩ := k2
  rw [h3] at k3
  simp only [Option.some.injEq, Value.bool.injEq] at k3
  obtain ⟨ss, sf, s1, _, s2⟩ := h.slots
  obtain ⟨ss', sf', t1, _, t2⟩ := k.slots
  rw [← esb, s1] at t1
  cases t1
  rw [← eso] at t2
  rcases hb with rfl | rfl | ⟨p, hp, rfl⟩ | ⟨hc, p, hp, rfl⟩
  · exact .inl rfl
  · exact .inr (.inl esb.symm)
  · rw [← en] at hp
    have a := (s2 p hp).1
    have b := (t2 p (by rw [← en]; exact hp)).1
    rw [a] at b
    simp only [Option.some.injEq, Value.pointer.injEq, Addr.mk.injEq] at b
    exact .inr (.inr (.inl ⟨p, hp, b.1.symm⟩))
  · rw [← en] at hp
    have hc0 : mCoh M = false := by rw [k3]; exact hc
    have a := (s2 p hp).2.1
    have b := (t2 p (by rw [← en]; exact hp)).2.1
    rw [a, hc0, hc] at b
    simp only [Option.some.injEq, Value.pointer.injEq, Addr.mk.injEq] at b
    exact .inr (.inr (.inr ⟨hc0, p, hp, b.1.symm⟩))
end
def memGhost (el sl : TypeId) : Ghost where
  rel vs w g o := ∃ M P, vs = [M] ∧ MemIs el sl M w g P ∧ P.ho = o
  foot w g o b := ∃ M P, MemIs el sl M w g P ∧ P.ho = o ∧ inMem M g P b
  hd := 2
  self := fun ⟨M, P, _, h, ho⟩ => ⟨M, P, h, ho, .inl rfl⟩
  inb := fun _ ⟨M, P, h, _, hb⟩ => h.inb hb
  frame := fun ⟨M, P, e, h, ho⟩ hs he => by
    have h' := h.keep fun b hb => he b ⟨M, P, h, ho, hb⟩
    exact ⟨⟨M, P, e, h', ho⟩, fun b ⟨M', P', k, ko, hb⟩ => ⟨M, P, h, ho, h'.same k (ko.trans ho.symm) hb⟩⟩
  stay := by
    intro vs w g o cs e fr j v ⟨M, P, ev, h, ho⟩ hg hj
    have other : ∀ b, b ≠ g → (w.setCell ⟨g, j, none⟩ v).heap[b]? = w.heap[b]? := fun b hb => Below.heap_setCell _ _ _ _ hb
    have h' : MemIs el sl M (w.setCell ⟨g, j, none⟩ v) g P := by
      refine ⟨h.nle, ?_, ?_, fun p hp => (h.data p hp).keep (other _ (h.gd p hp).1), fun hc p hp => (h.code hc p hp).keep (other _ (h.gc hc p hp).1), h.gs, h.gd, h.gc, h.exD, h.exC, h.can⟩
      · obtain ⟨cs', fr', cap, h1, h2, h3, h4⟩ := h.head
        rw [h1] at hg
        cases hg
        refine ⟨_, fr, cap, heap_setCell_at w g j cs _ fr v h1, ?_, h3, ?_⟩
        · rw [Array.getElem?_setIfInBounds_ne (by omega)]; exact h2
        · rw [Array.getElem?_setIfInBounds_ne (by omega)]; exact h4
      · obtain ⟨cs', fr', h1, h2⟩ := h.slots
        exact ⟨cs', fr', (other _ (Ne.symm h.gs)).trans h1, h2⟩
    exact ⟨⟨M, P, ev, h', ho⟩, fun b ⟨M', P', k, ko, hb⟩ => ⟨M, P, h, ho, h'.same k (ko.trans ho.symm) hb⟩⟩

/-! environments that differ in nothing that is reckoned -/
theorem IE.ev_sn (ρ : Env) (a : Array Value) (e : IE) : e.ev { ρ with sn := a } = e.ev ρ := by
  induction e with
  | lit n => rfl
  | var i => rfl
  | add a b iha ihb => simp only [IE.ev, iha, ihb]
  | sub a b iha ihb => simp only [IE.ev, iha, ihb]
  | mul a b iha ihb => simp only [IE.ev, iha, ihb]
  | wrap k a iha => simp only [IE.ev, iha]
  | bits op k a b iha ihb => simp only [IE.ev, iha, ihb]
  | quo a b iha ihb => simp only [IE.ev, iha, ihb]
  | rem a b iha ihb => simp only [IE.ev, iha, ihb]
  | shl k a b iha ihb => simp only [IE.ev, iha, ihb]
  | shr k a b iha ihb => simp only [IE.ev, iha, ihb]
  | fn c x y z ihx ihy ihz => simp only [IE.ev, ihx, ihy, ihz]; rfl
  | sel s a b x y iha ihb ihx ihy => simp only [IE.ev, iha, ihb, ihx, ihy]
theorem BE.ev_sn (ρ : Env) (a : Array Value) (e : BE) : e.ev { ρ with sn := a } = e.ev ρ := by
  induction e with
  | lit n => rfl
  | var i => rfl
  | eq a b => simp only [BE.ev, IE.ev_sn]
  | lt a b => simp only [BE.ev, IE.ev_sn]
  | not a ih => simp only [BE.ev, ih]
theorem VRel.env {ρ ρ' : Env} (he : ∀ e : IE, e.ev ρ = e.ev ρ') (hb : ∀ e : BE, e.ev ρ = e.ev ρ') {f : Ren} {v : AVal} {x : Value} (h : VRel ρ f v x) : VRel ρ' f v x := by
  induction h with
  | bool b => rw [hb]; exact .bool b
  | int k e => rw [he]; exact .int k e
  | str hs =>
    refine .str ?_
    unfold SRel at hs ⊢
    rw [hs]
    exact List.map_congr_left fun e _ => he e
  | nilPtr => exact .nilPtr
  | ptr hh => exact .ptr hh
  | nilSlice => exact .nilSlice
  | slice hh => exact .slice hh
  | sliceG hh hn hc hs => exact .sliceG hh hn hc hs
  | sliceE hh hg hs => exact .sliceE hh hg hs
  | nilMap => exact .nilMap
  | map hh => exact .map hh
  | func ha hb _ _ iha ihb => exact .func ha hb iha ihb
  | nilFunc => exact .nilFunc
  | iface _ ih => exact .iface ih
  | nilIface => exact .nilIface
  | agg ha _ ih => exact .agg ha ih
  | tuple ha _ ih => exact .tuple ha ih
  | ptrE hh h0 => rw [he] at h0 ⊢; exact .ptrE hh h0
  | sliceS hh h0 hl hc => rw [he] at h0 hl hc ⊢; rw [he]; exact .sliceS hh h0 hl hc
  | sliceZ hl ha => rw [he] at hl; exact .sliceZ hl ha
  | sliceA hh hl hc hs => rw [he] at hl hc ⊢; exact .sliceA hh hl hc hs
  | sliceN hl => rw [he] at hl; exact .sliceN hl
  | strS hl hs => exact .strS (by rw [← he]; exact hl) (fun j b hj => by rw [← he]; exact hs j b hj)
theorem LRel.env {ρ ρ' : Env} (he : ∀ e : IE, e.ev ρ = e.ev ρ') (hb : ∀ e : BE, e.ev ρ = e.ev ρ') {f : Ren} {l : List AVal} {x : Array Value} (h : LRel ρ f l x) : LRel ρ' f l x :=
  ⟨h.1, fun i v v' h1 h2 => (h.2 i v v' h1 h2).env he hb⟩

/-! the memory opened at a page -/
def head0 (coh : Bool) : T AVal := (T.nil.set 0 (.sliceS 1 (.lit 0) (.fn 0 (.var 0) (.lit 3) (.lit 0)) 7 true)).set 1 (.bool (.lit coh))
def codePtr (coh : Bool) (j : Nat) : AVal :=
  match coh with
  | true => .ptr none
  | false => .ptr (some (j, 0))
def slotCells (i j : Nat) (coh od oc : Bool) (R : IE) : T AVal :=
  ((((T.nil.set 0 (.ptr (some (i, 0)))).set 1 (codePtr coh j)).set 2 (.bool (.lit od))).set 3 (.bool (.lit oc))).set 6 (.int .i64 R)
def rE (pe : IE) : IE := .wrap .i64 (.fn 0 (.var 0) (.add (.mul pe (.lit 4)) (.lit 2)) (.lit 0))
def codeArr (coh oc : Bool) (x : IE) : List AObj :=
  match coh with
  | true => []
  | false => [.arr [.u8] x (.lit 256) oc]
def openOs (el sl : TypeId) (coh od oc : Bool) (pe : IE) : List AObj :=
  .cells (head0 coh) el false 2 :: .win pe 7 (slotCells 2 3 coh od oc (rE pe)) sl true :: .arr [.u8] (.fn 10 (.var 0) pe (.lit 0)) (.lit 256) od :: codeArr coh oc (.fn 11 (.var 0) pe (.lit 0))
structure memOk (M : Int) : Prop where
  n : 0 ≤ mN M ∧ mN M ≤ 4096
  d : ∀ p j, p < (mN M).toNat → j < 256 → isByte (mD M (256 * p + j))
  c : mCoh M = false → ∀ p j, p < (mN M).toNat → j < 256 → isByte (mC M (256 * p + j))
  r : ∀ p, p < (mN M).toNat → 0 ≤ mR M p ∧ mR M p ≤ 7
  k : memCan M
theorem MemIs.ok {el sl : TypeId} {M : Int} {w : World} {g : Nat} {P : Pages} (h : MemIs el sl M w g P) : memOk M := by
  refine ⟨h.nle, fun p j hp hj => ?_, fun hc p j hp hj => ?_, fun p hp => ?_, h.can⟩
  · obtain ⟨_, _, _, _, _, h2⟩ := h.data p hp
    exact (h2 j hj).2
  · obtain ⟨_, _, _, _, _, h2⟩ := h.code hc p hp
    exact (h2 j hj).2
  · obtain ⟨_, _, _, _, h2⟩ := h.slots
    exact (h2 p hp).2.2.2.2.2
theorem rE_ev {ρ : Env} {pe : IE} {p : Nat} (hp : pe.ev ρ = p) (h : 0 ≤ mR (ρ.i 0) p ∧ mR (ρ.i 0) p ≤ 7) : (rE pe).ev ρ = mR (ρ.i 0) p := by
  have : ((rE pe).ev ρ) = IntKind.i64.wrap (rowGet (ρ.i 0) (pe.ev ρ * 4 + 2)) := rfl
  rw [this, hp]
  have e : ((p : Int) * 4 + 2) = ((4 * p + 2 : Nat) : Int) := by omega
  rw [e]
  obtain ⟨h1, h2⟩ := h
  exact wrap_id .i64 _ (by simp only [kLo]; unfold mR at h1; omega) (by simp only [kHi]; unfold mR at h2; omega)
/-- The content behind: alike but for the page p, which is as De, Ce and R say. -/
structure memNext (M M' : Int) (p : Nat) (De Ce R : Int) : Prop where
  n : mN M' = mN M
  coh : mCoh M' = mCoh M
  other : ∀ q j, q < (mN M).toNat → q ≠ p → j < 256 → mD M' (256 * q + j) = mD M (256 * q + j) ∧ (mCoh M = false → mC M' (256 * q + j) = mC M (256 * q + j))
  rights : ∀ q, q < (mN M).toNat → q ≠ p → mR M' q = mR M q
  d : ∀ j, j < 256 → mD M' (256 * p + j) = rowGet De j
  c : mCoh M = false → ∀ j, j < 256 → mC M' (256 * p + j) = rowGet Ce j
  r : mR M' p = R ∧ 0 ≤ R ∧ R ≤ 7
  k : memCan M'
section
variable {P : Program} {G : Nat → Int → Int → Int → Int} {GH : Nat → Ghost}
theorem VRel.ptr_inv {ρ : Env} {f : Ren} {i o : Nat} {v : Value} (h : VRel ρ f (.ptr (some (i, o))) v) : ∃ L, f i = some L ∧ v = .pointer (some ⟨L.blk, L.base + o, none⟩) := by
  cases h; exact ⟨_, by assumption, rfl⟩
theorem VRel.nil_inv {ρ : Env} {f : Ren} {v : Value} (h : VRel ρ f (.ptr none) v) : v = .pointer none := by
  cases h; rfl
theorem VRel.int_inv {ρ : Env} {f : Ren} {k : IntKind} {e : IE} {v : Value} (h : VRel ρ f (.int k e) v) : v = .int k (e.ev ρ) := by
  cases h; rfl
theorem slotCells_get {i j : Nat} {coh od oc : Bool} {R : IE} : (slotCells i j coh od oc R).get 0 = some (.ptr (some (i, 0))) ∧ (slotCells i j coh od oc R).get 1 = some (codePtr coh j) ∧ (slotCells i j coh od oc R).get 2 = some (.bool (.lit od)) ∧ (slotCells i j coh od oc R).get 3 = some (.bool (.lit oc)) ∧ (slotCells i j coh od oc R).get 6 = some (.int .i64 R) := by
  unfold slotCells
  refine ⟨?_, ?_, ?_, ?_, ?_⟩
  · rw [T.get_set_ne (by decide) (by decide), T.get_set_ne (by decide) (by decide), T.get_set_ne (by decide) (by decide), T.get_set_ne (by decide) (by decide), T.get_set_same (by decide)]
  · rw [T.get_set_ne (by decide) (by decide), T.get_set_ne (by decide) (by decide), T.get_set_ne (by decide) (by decide), T.get_set_same (by decide)]
  · rw [T.get_set_ne (by decide) (by decide), T.get_set_ne (by decide) (by decide), T.get_set_same (by decide)]
  · rw [T.get_set_ne (by decide) (by decide), T.get_set_same (by decide)]
  · rw [T.get_set_same (by decide)]
theorem slotCells_inv {i j : Nat} {coh od oc : Bool} {R : IE} {k : Nat} {v : AVal} (h : (slotCells i j coh od oc R).get k = some v) : (k = 0 ∧ v = .ptr (some (i, 0))) ∨ (k = 1 ∧ v = codePtr coh j) ∨ (k = 2 ∧ v = .bool (.lit od)) ∨ (k = 3 ∧ v = .bool (.lit oc)) ∨ (k = 6 ∧ v = .int .i64 R) := by
  unfold slotCells at h
  rcases T.get_set h with ⟨e, h⟩ | ⟨_, h⟩
  · exact .inr (.inr (.inr (.inr ⟨e, h.symm⟩)))
  rcases T.get_set h with ⟨e, h⟩ | ⟨_, h⟩
  · exact .inr (.inr (.inr (.inl ⟨e, h.symm⟩)))
  rcases T.get_set h with ⟨e, h⟩ | ⟨_, h⟩
  · exact .inr (.inr (.inl ⟨e, h.symm⟩))
  rcases T.get_set h with ⟨e, h⟩ | ⟨_, h⟩
  · exact .inr (.inl ⟨e, h.symm⟩)
  rcases T.get_set h with ⟨e, h⟩ | ⟨_, h⟩
  · exact .inl ⟨e, h.symm⟩
  · rw [T.get_nil] at h; cases h
end
end
end Go.Sx
/- What a function does with a memory, shown of the memory opened at a page. No condition. -/
set_option linter.unusedSimpArgs false
set_option linter.unusedVariables false
namespace Go.Sx
open Go.RowKit (Below)
noncomputable section

theorem openOs_get {el sl : TypeId} {coh od oc : Bool} {pe : IE} {x : Nat} {o : AObj} (h : (openOs el sl coh od oc pe)[x]? = some o) :
    (x = 0 ∧ o = .cells (head0 coh) el false 2) ∨ (x = 1 ∧ o = .win pe 7 (slotCells 2 3 coh od oc (rE pe)) sl true) ∨ (x = 2 ∧ o = .arr [.u8] (.fn 10 (.var 0) pe (.lit 0)) (.lit 256) od) ∨ (x = 3 ∧ coh = false ∧ o = .arr [.u8] (.fn 11 (.var 0) pe (.lit 0)) (.lit 256) oc) := by
  unfold openOs at h
  match x with
  | 0 => simp at h; exact .inl ⟨rfl, h.symm⟩
  | 1 => simp at h; exact .inr (.inl ⟨rfl, h.symm⟩)
  | 2 => simp at h; exact .inr (.inr (.inl ⟨rfl, h.symm⟩))
  | 3 =>
    cases coh with
    | true => simp [codeArr] at h
    | false => simp [codeArr] at h; exact .inr (.inr (.inr ⟨rfl, rfl, h.symm⟩))
  | x + 4 => cases coh <;> simp [codeArr] at h
theorem openOs_length {el sl : TypeId} {coh od oc : Bool} {pe : IE} : (openOs el sl coh od oc pe).length = match coh with
    | true => 3
    | false => 4 := by
  cases coh <;> rfl
theorem head0_inv {coh : Bool} {k : Nat} {v : AVal} (h : (head0 coh).get k = some v) : (k = 0 ∧ v = .sliceS 1 (.lit 0) (.fn 0 (.var 0) (.lit 3) (.lit 0)) 7 true) ∨ (k = 1 ∧ v = .bool (.lit coh)) := by
  unfold head0 at h
  rcases T.get_set h with ⟨e, h⟩ | ⟨_, h⟩
  · exact .inr ⟨e, h.symm⟩
  rcases T.get_set h with ⟨e, h⟩ | ⟨_, h⟩
  · exact .inl ⟨e, h.symm⟩
  · rw [T.get_nil] at h; cases h
section
variable {P : Program} {G : Nat → Int → Int → Int → Int} {GH : Nat → Ghost}
set_option maxHeartbeats 2000000 in
theorem memCon_in {el sl : TypeId} {k : Nat} {c co : Con} {cv : T AVal} {Me' pe De Ce Re : IE} {coh od oc od' oc' : Bool} {i j : Nat}
    (hk : GH k = memGhost el sl) (hG : ∀ M p z, G 10 M p z = pgD M p.toNat ∧ G 11 M p z = pgC M p.toNat)
    (c0 : c.os = [.ghost k [.var 0] cv]) (c1 : c.os' = [.ghost k [Me'] cv]) (cr : c.res.free = true)
    (g1 : co.g = c.g) (g2 : co.args = c.args) (g3 : co.res = c.res) (hco : co.Ok P G GH) (o0 : co.os = openOs el sl coh od oc pe)
    (o1 : co.os'[1]? = some (.win pe 7 (slotCells i j coh od' oc' Re) sl true)) (o2 : co.os'[i]? = some (.arr [.u8] De (.lit 256) od')) (o3 : coh = false → co.os'[j]? = some (.arr [.u8] Ce (.lit 256) oc'))
    (ol : co.os'.length ≤ 1000) (hi : od' = true ∨ (i = 2 ∧ od = false)) (hj : coh = false → oc' = true ∨ (j = 3 ∧ oc = false)) (hij : coh = false → i ≠ j)
    {ρ : Env} (h1 : ρ.std G GH) (hb : ρ.ok (bdL co.bds)) (hp : co.pre.holds ρ) {B : Nat → Prop} {W w : World} {f : Ren} {args' : Array Value} (hr : HRel ρ B W f (treeOf c.os 0 .nil) w) (ha : LRel ρ f c.args args') (hn : ∀ j, c.os.length ≤ j → f j = none)
    {L : Loc} (hL : f 0 = some L) {Pg : Pages} (hm : MemIs el sl (ρ.i 0) w L.blk Pg) (hho : Pg.ho = L.base) {p : Nat} (hpe : pe.ev ρ = p) (hpn : p < (mN (ρ.i 0)).toNat) (hcoh : mCoh (ρ.i 0) = coh) (hod : Pg.od p = od) (hoc : Pg.oc p = oc)
    (hnext : memNext (ρ.i 0) (Me'.ev ρ) p (De.ev ρ) (Ce.ev ρ) (Re.ev ρ)) :
    callR P c.g args' w fun v' w' => ∃ f', f.le f' ∧ Outside f f' c.os.length c.os'.length ∧ HRel ρ B W f' (outT c.os' 0 .nil) w' ∧ VRel ρ f' c.res v' := by
  have hgh : ρ.gh k = memGhost el sl := by rw [h1.2]; exact hk
  have hlen : c.os.length = 1 := by rw [c0]; rfl
  have hf1 : ∀ x, 1 ≤ x → f x = none := fun x hx => hn x (by omega)
  have hg : (treeOf c.os 0 T.nil).get 0 = some (.ghost k [.var 0] cv) := by
    rw [c0]
    exact treeOf_same [AObj.ghost k [IE.var 0] cv] 0 0 .nil _ rfl (by simp)
  obtain ⟨⟨hrel, hfB⟩, hb0, cs0, el0, fr0, q1, q2, q3, q4⟩ := hr.obj 0 L _ hL hg
  have hfoot : ∀ b, inMem (ρ.i 0) L.blk Pg b → ¬ B b := fun b hb => hfB b (by rw [hgh]; exact ⟨_, Pg, hm, hho, hb⟩)
  obtain ⟨cs, fr, cap, u1, u2, u3, u4⟩ := hm.head
  obtain ⟨ss, sf, v1, v2, v3⟩ := hm.slots
  obtain ⟨ds, de, df, x1, x2, x3⟩ := hm.data p hpn
  have hcl : ∃ cl : Option Loc, (coh = true → cl = none) ∧ (coh = false → ∃ xs xe xf, cl = some ⟨Pg.cp p, Pg.cb p, xs.size⟩ ∧ w.heap[Pg.cp p]? = some (.cells xs xe xf) ∧ (∀ j, j < xs.size → ¬ (xf.1 ≤ j ∧ j < xf.2)) ∧ ∀ j, j < 256 → xs[Pg.cb p + j]? = some (.int .u8 (mC (ρ.i 0) (256 * p + j))) ∧ isByte (mC (ρ.i 0) (256 * p + j))) := by
    cases coh with
    | true => exact ⟨none, fun _ => rfl, (fun h => (by cases h))⟩
    | false =>
      obtain ⟨xs, xe, xf, y1, y2, y3⟩ := hm.code hcoh p hpn
      exact ⟨some ⟨Pg.cp p, Pg.cb p, xs.size⟩, (fun h => (by cases h)), fun _ => ⟨xs, xe, xf, rfl, y1, y2, y3⟩⟩
  obtain ⟨cl, cl1, cl2⟩ := hcl
  have lt : ∀ {b : Nat} {O : Obj}, w.heap[b]? = some O → b < w.heap.size := fun h => (Array.getElem?_eq_some_iff.1 h).1
  have dlt : ∀ q, q < (mN (ρ.i 0)).toNat → Pg.dp q < w.heap.size := fun q hq => hm.inb (.inr (.inr (.inl ⟨q, hq, rfl⟩)))
  have clt : coh = false → ∀ q, q < (mN (ρ.i 0)).toNat → Pg.cp q < w.heap.size := fun hc q hq => hm.inb (.inr (.inr (.inr ⟨by rw [hcoh]; exact hc, q, hq, rfl⟩)))
  -- the blocks that stay
  let B' : Nat → Prop := fun b => b < w.heap.size ∧ (B b ∨ b = L.blk ∨ ∃ q, q < (mN (ρ.i 0)).toNat ∧ ((b = Pg.dp q ∧ ¬ (q = p ∧ od = true)) ∨ (coh = false ∧ b = Pg.cp q ∧ ¬ (q = p ∧ oc = true))))
  have hBB : ∀ b, B b → B' b := fun b hb => ⟨Nat.lt_of_lt_of_le (hr.bsize b hb) hr.below.size, .inl hb⟩
  have hBg : B' L.blk := ⟨lt u1, .inr (.inl rfl)⟩
  have hBd : ∀ q, q < (mN (ρ.i 0)).toNat → ¬ (q = p ∧ od = true) → B' (Pg.dp q) := fun q hq h => ⟨dlt q hq, .inr (.inr ⟨q, hq, .inl ⟨rfl, h⟩⟩)⟩
  have hBc : coh = false → ∀ q, q < (mN (ρ.i 0)).toNat → ¬ (q = p ∧ oc = true) → B' (Pg.cp q) := fun hc q hq h => ⟨clt hc q hq, .inr (.inr ⟨q, hq, .inr ⟨hc, rfl, h⟩⟩)⟩
  have nsb : ¬ B' Pg.sb := by
    rintro ⟨_, h | h | ⟨q, hq, ⟨h, _⟩ | ⟨hc, h, _⟩⟩⟩
    · exact hfoot _ (.inr (.inl rfl)) h
    · exact hm.gs h.symm
    · exact (hm.gd q hq).2 h.symm
    · exact (hm.gc (by rw [hcoh]; exact hc) q hq).2 h.symm
  have ndp : od = true → ¬ B' (Pg.dp p) := by
    rintro ho ⟨_, h | h | ⟨q, hq, ⟨h, h'⟩ | ⟨hc, h, _⟩⟩⟩
    · exact hfoot _ (.inr (.inr (.inl ⟨p, hpn, rfl⟩))) h
    · exact (hm.gd p hpn).1 h
    · by_cases hqp : q = p
      · exact h' ⟨hqp, ho⟩
      · exact (hm.exD p hpn (by rw [hod]; exact ho)).1 q hq hqp h.symm
    · exact (hm.exD p hpn (by rw [hod]; exact ho)).2 (by rw [hcoh]; exact hc) q hq h.symm
  have ncp : coh = false → oc = true → ¬ B' (Pg.cp p) := by
    rintro hc ho ⟨_, h | h | ⟨q, hq, ⟨h, _⟩ | ⟨_, h, h'⟩⟩⟩
    · exact hfoot _ (.inr (.inr (.inr ⟨by rw [hcoh]; exact hc, p, hpn, rfl⟩))) h
    · exact (hm.gc (by rw [hcoh]; exact hc) p hpn).1 h
    · exact (hm.exC (by rw [hcoh]; exact hc) p hpn (by rw [hoc]; exact ho)).2 q hq h.symm
    · by_cases hqp : q = p
      · exact h' ⟨hqp, ho⟩
      · exact (hm.exC (by rw [hcoh]; exact hc) p hpn (by rw [hoc]; exact ho)).1 q hq hqp h.symm
  let ρ2 : Env := { ρ with sn := ss }
  have evI : ∀ e : IE, e.ev ρ2 = e.ev ρ := IE.ev_sn ρ ss
  have evB : ∀ e : BE, e.ev ρ2 = e.ev ρ := BE.ev_sn ρ ss
  let f2 : Ren := fun x => match x with
    | 0 => some L
    | 1 => some ⟨Pg.sb, Pg.so, ss.size⟩
    | 2 => some ⟨Pg.dp p, Pg.db p, ds.size⟩
    | 3 => cl
    | _ => none
  have hle : f.le f2 := by
    intro x M hx
    cases x with
    | zero => rw [hL] at hx; exact hx
    | succ x => rw [hf1 _ (by omega)] at hx; cases hx
  have i0 : ∀ x : Nat, (x : Int).toNat = x := fun x => Int.toNat_natCast x
  have hpe2 : (pe.ev ρ2).toNat = p := by rw [evI, hpe]; exact i0 p
  have hR := rE_ev hpe (hm.ok.r p hpn)
  have H2 : HRel ρ2 B' w f2 (treeOf co.os 0 .nil) w := by
    have get : ∀ {x : Nat} {o : AObj}, (treeOf co.os 0 T.nil).get x = some o → _ := fun {x o} h => openOs_get (x := x) (o := o) (by rw [← o0]; exact listTree h)
    have feet : ∀ {x : Nat} {o : AObj} {M : Loc}, (treeOf co.os 0 T.nil).get x = some o → ∀ b, o.foot ρ2 w M b → b = M.blk := by
      intro x o M h b hb
      rcases get h with ⟨_, rfl⟩ | ⟨_, rfl⟩ | ⟨_, rfl⟩ | ⟨_, _, rfl⟩ <;> exact hb
    refine ⟨Kept.refl _ _, fun b hb => hb.1, fun x M hx => ?_, fun x y Mx My ox oy hx hy gx gy hxy hown b hbx hby => ?_, fun x M o hx gx => ?_⟩
    · match x, hx with
      | 0, hx => cases hx; exact lt u1
      | 1, hx => cases hx; exact lt v1
      | 2, hx => cases hx; exact lt x1
      | 3, hx =>
        have hx : cl = some M := hx
        cases hc : coh with
        | true => rw [cl1 hc] at hx; cases hx
        | false =>
          obtain ⟨xs, xe, xf, y0, y1, _⟩ := cl2 hc
          rw [y0] at hx
          cases hx
          exact lt y1
    · have ex := feet gx b hbx
      have ey := feet gy b hby
      subst ex
      have lc : ∀ {M : Loc}, coh = false → f2 3 = some M → M.blk = Pg.cp p := by
        intro M hc hx
        have hx : cl = some M := hx
        obtain ⟨xs, xe, xf, y0, y1, _⟩ := cl2 hc
        rw [y0] at hx
        cases hx
        rfl
      rcases get gx with ⟨rfl, rfl⟩ | ⟨rfl, rfl⟩ | ⟨rfl, rfl⟩ | ⟨rfl, hc, rfl⟩
      · cases hown
      · cases hx
        rcases get gy with ⟨rfl, rfl⟩ | ⟨rfl, rfl⟩ | ⟨rfl, rfl⟩ | ⟨rfl, hc, rfl⟩
        · cases hy; exact hm.gs ey.symm
        · exact hxy rfl
        · cases hy; exact (hm.gd p hpn).2 ey.symm
        · rw [lc hc hy] at ey; exact (hm.gc (by rw [hcoh]; exact hc) p hpn).2 ey.symm
      · cases hx
        rcases get gy with ⟨rfl, rfl⟩ | ⟨rfl, rfl⟩ | ⟨rfl, rfl⟩ | ⟨rfl, hc, rfl⟩
        · cases hy; exact (hm.gd p hpn).1 ey
        · cases hy; exact (hm.gd p hpn).2 ey
        · exact hxy rfl
        · rw [lc hc hy] at ey; exact (hm.exD p hpn (by rw [hod]; exact hown)).2 (by rw [hcoh]; exact hc) p hpn ey.symm
      · rw [lc hc hx] at ey
        rcases get gy with ⟨rfl, rfl⟩ | ⟨rfl, rfl⟩ | ⟨rfl, rfl⟩ | ⟨rfl, hc, rfl⟩
        · cases hy; exact (hm.gc (by rw [hcoh]; exact hc) p hpn).1 ey
        · cases hy; exact (hm.gc (by rw [hcoh]; exact hc) p hpn).2 ey
        · cases hy; exact (hm.exC (by rw [hcoh]; exact hc) p hpn (by rw [hoc]; exact hown)).2 p hpn ey.symm
        · exact hxy rfl
    · rcases get gx with ⟨rfl, rfl⟩ | ⟨rfl, rfl⟩ | ⟨rfl, rfl⟩ | ⟨rfl, hc, rfl⟩
      · cases hx
        have hsz : cs.size = L.sz := by
          rw [u1] at q1
          cases q1
          exact q2
        refine ⟨cs, fr, u1, hsz, (fun h => (by cases h)), fun y v hv => ?_⟩
        rcases head0_inv hv with ⟨rfl, rfl⟩ | ⟨rfl, rfl⟩
        · refine ⟨by decide, _, by rw [← hho]; exact u2, ?_⟩
          have hlenE : (IE.fn 0 (.var 0) (.lit 3) (.lit 0)).ev ρ2 = mN (ρ.i 0) := rfl
          have := VRel.sliceS (ρ := ρ2) (f := f2) (i := 1) (s := 7) (st := .lit 0) (len := .fn 0 (.var 0) (.lit 3) (.lit 0)) (nn := true) (L := ⟨Pg.sb, Pg.so, ss.size⟩) (c := cap) rfl (Int.le_refl 0) (by rw [hlenE]; exact hm.nle.1) (by rw [hlenE]; exact u3)
          rw [hlenE] at this
          exact this
        · refine ⟨by decide, _, by rw [← hho]; exact u4, ?_⟩
          rw [hcoh]
          exact .bool (.lit coh)
      · cases hx
        refine ⟨ss, sf, v1, rfl, fun _ => ⟨nsb, v2⟩, fun y _ => rfl, fun y v hv => ?_⟩
        obtain ⟨a1, a2, a3, a4, a5, _⟩ := v3 p hpn
        show ∃ v', ss[Pg.so + ((pe.ev ρ2).toNat * 7 + y)]? = some v' ∧ _
        rw [hpe2]
        rcases slotCells_inv hv with ⟨rfl, rfl⟩ | ⟨rfl, rfl⟩ | ⟨rfl, rfl⟩ | ⟨rfl, rfl⟩ | ⟨rfl, rfl⟩
        · exact ⟨_, a1, .ptr (ρ := ρ2) (f := f2) (i := 2) (o := 0) (L := ⟨Pg.dp p, Pg.db p, ds.size⟩) rfl⟩
        · refine ⟨_, a2, ?_⟩
          rw [hcoh]
          cases hc : coh with
          | true => exact .nilPtr
          | false =>
            obtain ⟨xs, xe, xf, y0, _⟩ := cl2 hc
            exact .ptr (ρ := ρ2) (f := f2) (i := 3) (o := 0) (L := ⟨Pg.cp p, Pg.cb p, xs.size⟩) y0
        · exact ⟨_, a3, by rw [hod]; exact .bool (.lit od)⟩
        · exact ⟨_, a4, by rw [hoc]; exact .bool (.lit oc)⟩
        · refine ⟨_, a5, ?_⟩
          rw [← hR, ← evI]
          exact .int .i64 _
      · cases hx
        refine ⟨ds, de, df, x1, rfl, fun ho => ⟨ndp ho, x2⟩, fun y d kd hy hd => ?_⟩
        have hd0 : d = 0 ∧ kd = .u8 := by
          match d, hd with
          | 0, hd => cases hd; exact ⟨rfl, rfl⟩
        obtain ⟨rfl, rfl⟩ := hd0
        have hy : y < 256 := by
          have : (y : Int) < 256 := hy
          omega
        obtain ⟨b1, b2⟩ := x3 y hy
        have ec : (IE.fn 10 (.var 0) pe (.lit 0)).ev ρ2 = pgD (ρ.i 0) p := by
          show ρ.g 10 (ρ.i 0) (pe.ev ρ2) 0 = _
          rw [h1.1, evI, hpe, (hG _ _ _).1, i0]
        have e1 : y * [IntKind.u8].length + 0 = y := by simp
        rw [ec, e1, pgD_get hy b2]
        exact ⟨b1, by simp [kLo]; exact b2.1, by simp [kHi]; exact b2.2⟩
      · obtain ⟨xs, xe, xf, y0, y1, y2, y3⟩ := cl2 hc
        have hx : cl = some M := hx
        rw [y0] at hx
        cases hx
        refine ⟨xs, xe, xf, y1, rfl, fun ho => ⟨ncp hc ho, y2⟩, fun y d kd hy hd => ?_⟩
        have hd0 : d = 0 ∧ kd = .u8 := by
          match d, hd with
          | 0, hd => cases hd; exact ⟨rfl, rfl⟩
        obtain ⟨rfl, rfl⟩ := hd0
        have hy : y < 256 := by
          have : (y : Int) < 256 := hy
          omega
        obtain ⟨b1, b2⟩ := y3 y hy
        have ec : (IE.fn 11 (.var 0) pe (.lit 0)).ev ρ2 = pgC (ρ.i 0) p := by
          show ρ.g 11 (ρ.i 0) (pe.ev ρ2) 0 = _
          rw [h1.1, evI, hpe, (hG _ _ _).2, i0]
        have e1 : y * [IntKind.u8].length + 0 = y := by simp
        rw [ec, e1, pgC_get hy b2]
        exact ⟨b1, by simp [kLo]; exact b2.1, by simp [kHi]; exact b2.2⟩
  have ha2 : LRel ρ2 f2 co.args args' := by
    rw [g2]
    exact (ha.mono hle).env (fun e => (evI e).symm) (fun e => (evB e).symm)
  have hn2 : ∀ x, co.os.length ≤ x → f2 x = none := by
    intro x hx
    rw [o0, openOs_length] at hx
    match x, hx with
    | x + 4, _ => rfl
    | 3, hx =>
      cases hc : coh with
      | true => exact cl1 hc
      | false => rw [hc] at hx; exact absurd hx (by decide)
    | 0, hx => cases coh <;> exact absurd hx (by decide)
    | 1, hx => cases coh <;> exact absurd hx (by decide)
    | 2, hx => cases coh <;> exact absurd hx (by decide)
  have hp2 : Dec.holds ρ2 co.pre := fun q hq => by rw [evB]; exact hp q hq
  rw [← g1]
  refine Calls.mono (hco ρ2 h1 hb hp2 B' w f2 w args' H2 ha2 hn2) fun e w3 ⟨v', e1, f3, e2, e3, e4, e5⟩ => ?_
  have keep : ∀ b, B' b → w3.heap[b]? = w.heap[b]? := e4.below.block
  have tree : ∀ (x : Nat) (o : AObj), co.os'[x]? = some o → o.dead = false → (outT co.os' 0 T.nil).get x = some o := by
    intro x o hx hd
    have := outT_same co.os' 0 x .nil o hx hd (by omega)
    rwa [Nat.zero_add] at this
  obtain ⟨s0, s1, s2, s3, s6⟩ := slotCells_get (i := i) (j := j) (coh := coh) (od := od') (oc := oc') (R := Re)
  have fb1 : f3 1 = some ⟨Pg.sb, Pg.so, ss.size⟩ := e2 1 _ rfl
  obtain ⟨ss3, sf3, r1, r2, r3, r0, r4⟩ := e4.obj 1 _ _ fb1 (tree 1 _ o1 rfl)
  rw [hpe2] at r0
  have cell : ∀ (y : Nat) (v : AVal), (slotCells i j coh od' oc' Re).get y = some v → ∃ u, ss3[Pg.so + (p * 7 + y)]? = some u ∧ VRel ρ2 f3 v u := by
    intro y v hy
    obtain ⟨u, a1, a2⟩ := r4 y v hy
    rw [hpe2] at a1
    exact ⟨u, a1, a2⟩
  obtain ⟨z0, zc0, zr0⟩ := cell 0 _ s0
  obtain ⟨Li, fi, rfl⟩ := zr0.ptr_inv
  obtain ⟨ds3, de3, df3, t1, t2, t3, t4⟩ := e4.obj i Li _ fi (tree i _ o2 rfl)
  have page : ∀ {xs3 : Array Value} {Lx : Loc} {C : IE} {D : Nat → Int}, (∀ (y d : Nat) (kd : IntKind), (y : Int) < (IE.lit 256).ev ρ2 → [IntKind.u8][d]? = some kd → xs3[Lx.base + (y * [IntKind.u8].length + d)]? = some (.int kd (rowGet (C.ev ρ2) (y * [IntKind.u8].length + d : Nat))) ∧ kLo kd ≤ rowGet (C.ev ρ2) (y * [IntKind.u8].length + d : Nat) ∧ rowGet (C.ev ρ2) (y * [IntKind.u8].length + d : Nat) ≤ kHi kd) →
      (∀ y, y < 256 → D y = rowGet (C.ev ρ) y) → ∀ y, y < 256 → xs3[Lx.base + y]? = some (.int .u8 (D y)) ∧ isByte (D y) := by
    intro xs3 Lx C D ht hD y hy
    obtain ⟨a1, a2, a3⟩ := ht y 0 .u8 (show (y : Int) < 256 by omega) rfl
    have e1 : y * [IntKind.u8].length + 0 = y := by simp
    rw [e1, evI, ← hD y hy] at a1 a2 a3
    exact ⟨a1, by simpa [kLo] using a2, by simpa [kHi] using a3⟩
  -- the page's blocks
  have iold : od' = false → Li = ⟨Pg.dp p, Pg.db p, ds.size⟩ ∧ od = false := by
    intro ho
    rcases hi with h | ⟨h, h'⟩
    · rw [h] at ho; cases ho
    · subst h
      have : f3 2 = some ⟨Pg.dp p, Pg.db p, ds.size⟩ := e2 2 _ rfl
      rw [this] at fi
      cases fi
      exact ⟨rfl, h'⟩
  have inew : od' = true → ¬ B' Li.blk := fun ho => (t3 ho).1
  have isb : Li.blk ≠ Pg.sb := by
    intro h
    have i1 : (1 : Nat) ≠ i := by
      intro h
      subst h
      rw [o1] at o2
      cases o2
    exact e4.apart 1 i _ Li _ _ fb1 fi (tree 1 _ o1 rfl) (tree i _ o2 rfl) i1 rfl Pg.sb rfl h.symm
  have iother : ∀ q, q < (mN (ρ.i 0)).toNat → q ≠ p → Pg.od q = true ∨ od' = true → Li.blk ≠ Pg.dp q := by
    intro q hq hqp ho h
    cases ho' : od' with
    | true => exact inew ho' (by rw [h]; exact hBd q hq (fun h' => hqp h'.1))
    | false =>
      obtain ⟨a1, a2⟩ := iold ho'
      rw [a1] at h
      rw [ho'] at ho
      rcases ho with ho | ho
      · exact (hm.exD q hq ho).1 p hpn (Ne.symm hqp) h
      · cases ho
  have iotherc : coh = false → ∀ q, q < (mN (ρ.i 0)).toNat → q ≠ p → Pg.oc q = true ∨ od' = true → Li.blk ≠ Pg.cp q := by
    intro hc q hq hqp ho h
    cases ho' : od' with
    | true => exact inew ho' (by rw [h]; exact hBc hc q hq (fun h' => hqp h'.1))
    | false =>
      obtain ⟨a1, a2⟩ := iold ho'
      rw [a1] at h
      rw [ho'] at ho
      rcases ho with ho | ho
      · exact (hm.exC (by rw [hcoh]; exact hc) q hq ho).2 p hpn h
      · cases ho
  have dataP : pageIs w3 Li.blk Li.base fun y => mD (Me'.ev ρ) (256 * p + y) := by
    refine ⟨ds3, de3, df3, t1, ?_, page t4 hnext.d⟩
    cases ho' : od' with
    | true => rw [t2]; exact (t3 ho').2
    | false =>
      obtain ⟨a1, a2⟩ := iold ho'
      have := keep _ (hBd p hpn (fun h' => by rw [a2] at h'; cases h'.2))
      rw [a1] at t1
      have t1 : w3.heap[Pg.dp p]? = some (.cells ds3 de3 df3) := t1
      rw [this, x1] at t1
      cases t1
      exact x2
  have hcode : ∃ Lj : Loc, (coh = false → f3 j = some Lj ∧ ss3[Pg.so + (p * 7 + 1)]? = some (.pointer (some ⟨Lj.blk, Lj.base + 0, none⟩)) ∧ (pageIs w3 Lj.blk Lj.base fun y => mC (Me'.ev ρ) (256 * p + y)) ∧ (oc' = false → Lj.blk = Pg.cp p ∧ oc = false) ∧ (oc' = true → ¬ B' Lj.blk) ∧ Lj.blk ≠ Pg.sb ∧ Lj.blk ≠ L.blk ∧ (od' = true ∨ oc' = true → Li.blk ≠ Lj.blk)) := by
    cases hc : coh with
    | true => exact ⟨⟨0, 0, 0⟩, fun h => by cases h⟩
    | false =>
      obtain ⟨xs, xe, xf, y0, y1, y2, y3⟩ := cl2 hc
      have o3 := o3 hc
      have hj := hj hc
      have hij := hij hc
      obtain ⟨z1, zc1, zr1⟩ := cell 1 _ s1
      rw [hc] at zr1
      obtain ⟨Lj, fj, rfl⟩ := zr1.ptr_inv
      obtain ⟨xs3, xe3, xf3, m1, m2, m3, m4⟩ := e4.obj j Lj _ fj (tree j _ o3 rfl)
      have jold : oc' = false → Lj = ⟨Pg.cp p, Pg.cb p, xs.size⟩ ∧ oc = false := by
        intro ho
        rcases hj with h | ⟨h, h'⟩
        · rw [h] at ho; cases ho
        · subst h
          have : f3 3 = some ⟨Pg.cp p, Pg.cb p, xs.size⟩ := e2 3 _ y0
          rw [this] at fj
          cases fj
          exact ⟨rfl, h'⟩
      have jnew : oc' = true → ¬ B' Lj.blk := fun ho => (m3 ho).1
      refine ⟨Lj, fun _ => ⟨fj, zc1, ⟨xs3, xe3, xf3, m1, ?_, page m4 (hnext.c (by rw [hcoh]; exact hc))⟩, fun ho => ⟨by rw [(jold ho).1], (jold ho).2⟩, jnew, ?_, ?_, ?_⟩⟩
      · cases ho' : oc' with
        | true => rw [m2]; exact (m3 ho').2
        | false =>
          obtain ⟨a1, a2⟩ := jold ho'
          have := keep _ (hBc hc p hpn (fun h' => by rw [a2] at h'; cases h'.2))
          rw [a1] at m1
          have m1 : w3.heap[Pg.cp p]? = some (.cells xs3 xe3 xf3) := m1
          rw [this, y1] at m1
          cases m1
          exact y2
      · intro h
        have j1 : (1 : Nat) ≠ j := by
          intro h
          subst h
          rw [o1] at o3
          cases o3
        exact e4.apart 1 j _ Lj _ _ fb1 fj (tree 1 _ o1 rfl) (tree j _ o3 rfl) j1 rfl Pg.sb rfl h.symm
      · intro h
        cases ho' : oc' with
        | true => exact jnew ho' (by rw [h]; exact hBg)
        | false =>
          rw [(jold ho').1] at h
          exact (hm.gc (by rw [hcoh]; exact hc) p hpn).1 h
      · intro ho h
        rcases ho with ho | ho
        · exact e4.apart i j Li Lj _ _ fi fj (tree i _ o2 rfl) (tree j _ o3 rfl) hij ho Li.blk rfl h
        · exact e4.apart j i Lj Li _ _ fj fi (tree j _ o3 rfl) (tree i _ o2 rfl) (Ne.symm hij) ho Lj.blk rfl h.symm
  obtain ⟨Lj, hcode⟩ := hcode
  obtain ⟨z2, zc2, zr2⟩ := cell 2 _ s2
  obtain ⟨z3, zc3, zr3⟩ := cell 3 _ s3
  obtain ⟨z6, zc6, zr6⟩ := cell 6 _ s6
  have zr2 := zr2.bool_eq
  have zr3 := zr3.bool_eq
  have zr6 := zr6.int_inv
  rw [evI] at zr6
  subst zr2 zr3 zr6
  have ne : (mN (Me'.ev ρ)).toNat = (mN (ρ.i 0)).toNat := by rw [hnext.n]
  have ce : mCoh (Me'.ev ρ) = coh := by rw [hnext.coh, hcoh]
  let Pg' : Pages := ⟨Pg.ho, Pg.sb, Pg.so, fun q => if q = p then Li.blk else Pg.dp q, fun q => if q = p then Li.base else Pg.db q, fun q => if q = p then Lj.blk else Pg.cp q, fun q => if q = p then Lj.base else Pg.cb q, fun q => if q = p then od' else Pg.od q, fun q => if q = p then oc' else Pg.oc q⟩
  have P1 : ∀ q, q = p → Pg'.dp q = Li.blk ∧ Pg'.db q = Li.base ∧ Pg'.cp q = Lj.blk ∧ Pg'.cb q = Lj.base ∧ Pg'.od q = od' ∧ Pg'.oc q = oc' := fun q h => ⟨if_pos h, if_pos h, if_pos h, if_pos h, if_pos h, if_pos h⟩
  have P2 : ∀ q, q ≠ p → Pg'.dp q = Pg.dp q ∧ Pg'.db q = Pg.db q ∧ Pg'.cp q = Pg.cp q ∧ Pg'.cb q = Pg.cb q ∧ Pg'.od q = Pg.od q ∧ Pg'.oc q = Pg.oc q := fun q h => ⟨if_neg h, if_neg h, if_neg h, if_neg h, if_neg h, if_neg h⟩
  have hm' : MemIs el sl (Me'.ev ρ) w3 L.blk Pg' := by
    refine ⟨by rw [hnext.n]; exact hm.nle, ⟨cs, fr, cap, (keep _ hBg).trans u1, by rw [ne]; exact u2, by rw [ne]; exact u3, by rw [hnext.coh]; exact u4⟩, ⟨ss3, sf3, r1, by rw [r2]; exact (r3 rfl).2, fun q hq => ?_⟩, fun q hq => ?_, fun hc q hq => ?_, hm.gs, fun q hq => ?_, fun hc q hq => ?_, fun q hq ho => ?_, fun hc q hq ho => ?_, hnext.k⟩
    · rw [ne] at hq
      rw [ce]
      by_cases hqp : q = p
      · obtain ⟨p1, p2, p3, p4, p5, p6⟩ := P1 q hqp
        rw [p1, p2, p3, p4, p5, p6]
        subst hqp
        refine ⟨zc0, ?_, zc2, zc3, by rw [hnext.r.1]; exact zc6, by rw [hnext.r.1]; exact hnext.r.2⟩
        cases hc : coh with
        | true =>
          obtain ⟨z1, zc1, zr1⟩ := cell 1 _ s1
          rw [hc] at zr1
          rw [zr1.nil_inv] at zc1
          exact zc1
        | false => exact (hcode hc).2.1
      · obtain ⟨p1, p2, p3, p4, p5, p6⟩ := P2 q hqp
        rw [p1, p2, p3, p4, p5, p6]
        obtain ⟨a1, a2, a3, a4, a5, a6, a7⟩ := v3 q hq
        rw [hcoh] at a2
        have same : ∀ y, y < 7 → ss3[Pg.so + (q * 7 + y)]? = ss[Pg.so + (q * 7 + y)]? := by
          intro y hy
          have h0 : Pg.so + (q * 7 + y) < Pg.so + p * 7 ∨ Pg.so + p * 7 + 7 ≤ Pg.so + (q * 7 + y) := by omega
          exact r0 _ h0
        have hr7 := hnext.rights q hq hqp
        refine ⟨by rw [← a1]; exact same 0 (by decide), by rw [← a2]; exact same 1 (by decide), by rw [← a3]; exact same 2 (by decide), by rw [← a4]; exact same 3 (by decide), by rw [hr7, ← a5]; exact same 6 (by decide), by rw [hr7]; exact a6, by rw [hr7]; exact a7⟩
    · rw [ne] at hq
      by_cases hqp : q = p
      · obtain ⟨p1, p2, _⟩ := P1 q hqp
        rw [p1, p2, hqp]
        exact dataP
      · obtain ⟨p1, p2, _⟩ := P2 q hqp
        rw [p1, p2]
        obtain ⟨as, ae, af, a1, a2, a3⟩ := hm.data q hq
        refine ⟨as, ae, af, (keep _ (hBd q hq (fun h => hqp h.1))).trans a1, a2, fun y hy => ?_⟩
        show as[Pg.db q + y]? = some (.int .u8 (mD (Me'.ev ρ) (256 * q + y))) ∧ isByte (mD (Me'.ev ρ) (256 * q + y))
        rw [(hnext.other q y hq hqp hy).1]
        exact a3 y hy
    · rw [ne] at hq
      rw [ce] at hc
      by_cases hqp : q = p
      · obtain ⟨p1, p2, p3, p4, _⟩ := P1 q hqp
        rw [p3, p4, hqp]
        exact (hcode hc).2.2.1
      · obtain ⟨p1, p2, p3, p4, _⟩ := P2 q hqp
        rw [p3, p4]
        obtain ⟨as, ae, af, a1, a2, a3⟩ := hm.code (by rw [hcoh]; exact hc) q hq
        refine ⟨as, ae, af, (keep _ (hBc hc q hq (fun h => hqp h.1))).trans a1, a2, fun y hy => ?_⟩
        show as[Pg.cb q + y]? = some (.int .u8 (mC (Me'.ev ρ) (256 * q + y))) ∧ isByte (mC (Me'.ev ρ) (256 * q + y))
        rw [(hnext.other q y hq hqp hy).2 (by rw [hcoh]; exact hc)]
        exact a3 y hy
    · rw [ne] at hq
      by_cases hqp : q = p
      · rw [(P1 q hqp).1]
        refine ⟨fun h => ?_, isb⟩
        cases ho' : od' with
        | true => exact inew ho' (by rw [h]; exact hBg)
        | false => rw [(iold ho').1] at h; exact (hm.gd p hpn).1 h
      · rw [(P2 q hqp).1]
        exact hm.gd q hq
    · rw [ne] at hq
      rw [ce] at hc
      by_cases hqp : q = p
      · rw [(P1 q hqp).2.2.1]
        exact ⟨(hcode hc).2.2.2.2.2.2.1, (hcode hc).2.2.2.2.2.1⟩
      · rw [(P2 q hqp).2.2.1]
        exact hm.gc (by rw [hcoh]; exact hc) q hq
    · rw [ne] at hq ⊢
      rw [ce]
      by_cases hqp : q = p
      · obtain ⟨p1, p2, p3, p4, p5, p6⟩ := P1 q hqp
        rw [p5] at ho
        rw [p1]
        refine ⟨fun r hr hrq => ?_, fun hc r hr => ?_⟩
        · have hrp : r ≠ p := by rw [← hqp]; exact hrq
          rw [(P2 r hrp).1]
          exact Ne.symm (iother r hr hrp (.inr ho))
        · by_cases hrp : r = p
          · rw [(P1 r hrp).2.2.1]
            exact Ne.symm ((hcode hc).2.2.2.2.2.2.2 (.inl ho))
          · rw [(P2 r hrp).2.2.1]
            exact Ne.symm (iotherc hc r hr hrp (.inr ho))
      · obtain ⟨p1, p2, p3, p4, p5, p6⟩ := P2 q hqp
        rw [p5] at ho
        rw [p1]
        refine ⟨fun r hr hrq => ?_, fun hc r hr => ?_⟩
        · by_cases hrp : r = p
          · rw [(P1 r hrp).1]
            exact iother q hq hqp (.inl ho)
          · rw [(P2 r hrp).1]
            exact (hm.exD q hq ho).1 r hr hrq
        · by_cases hrp : r = p
          · rw [(P1 r hrp).2.2.1]
            intro h
            cases ho' : oc' with
            | true => exact (hcode hc).2.2.2.2.1 ho' (by rw [h]; exact hBd q hq (fun h' => hqp h'.1))
            | false =>
              rw [((hcode hc).2.2.2.1 ho').1] at h
              exact (hm.exD q hq ho).2 (by rw [hcoh]; exact hc) p hpn h
          · rw [(P2 r hrp).2.2.1]
            exact (hm.exD q hq ho).2 (by rw [hcoh]; exact hc) r hr
    · rw [ne] at hq ⊢
      rw [ce] at hc
      by_cases hqp : q = p
      · obtain ⟨p1, p2, p3, p4, p5, p6⟩ := P1 q hqp
        rw [p6] at ho
        rw [p3]
        refine ⟨fun r hr hrq => ?_, fun r hr => ?_⟩
        · have hrp : r ≠ p := by rw [← hqp]; exact hrq
          rw [(P2 r hrp).2.2.1]
          intro h
          exact (hcode hc).2.2.2.2.1 ho (by rw [← h]; exact hBc hc r hr (fun h' => hrp h'.1))
        · by_cases hrp : r = p
          · rw [(P1 r hrp).1]
            exact (hcode hc).2.2.2.2.2.2.2 (.inr ho)
          · rw [(P2 r hrp).1]
            intro h
            exact (hcode hc).2.2.2.2.1 ho (by rw [← h]; exact hBd r hr (fun h' => hrp h'.1))
      · obtain ⟨p1, p2, p3, p4, p5, p6⟩ := P2 q hqp
        rw [p6] at ho
        rw [p3]
        have hcM : mCoh (ρ.i 0) = false := by rw [hcoh]; exact hc
        refine ⟨fun r hr hrq => ?_, fun r hr => ?_⟩
        · by_cases hrp : r = p
          · rw [(P1 r hrp).2.2.1]
            intro h
            cases ho' : oc' with
            | true => exact (hcode hc).2.2.2.2.1 ho' (by rw [h]; exact hBc hc q hq (fun h' => hqp h'.1))
            | false =>
              rw [((hcode hc).2.2.2.1 ho').1] at h
              exact (hm.exC hcM q hq ho).1 p hpn (Ne.symm hqp) h
          · rw [(P2 r hrp).2.2.1]
            exact (hm.exC hcM q hq ho).1 r hr hrq
        · by_cases hrp : r = p
          · rw [(P1 r hrp).1]
            exact iotherc hc q hq hqp (.inl ho)
          · rw [(P2 r hrp).1]
            exact (hm.exC hcM q hq ho).2 r hr
  have hg' : ∀ x o, (outT c.os' 0 T.nil).get x = some o → x = 0 ∧ o = .ghost k [Me'] cv := by
    intro x o hx
    rw [c1] at hx
    have := (outList hx).1
    match x, this with
    | 0, this => simp at this; exact ⟨rfl, this.symm⟩
    | x + 1, this => simp at this
  have nB : ∀ b, inMem (Me'.ev ρ) L.blk Pg' b → ¬ B b := by
    intro b hb hB
    rcases hb with rfl | rfl | ⟨q, hq, rfl⟩ | ⟨hc, q, hq, rfl⟩
    · exact hfoot _ (.inl rfl) hB
    · exact hfoot _ (.inr (.inl rfl)) hB
    · rw [ne] at hq
      by_cases hqp : q = p
      · rw [(P1 q hqp).1] at hB
        cases ho' : od' with
        | true => exact inew ho' (hBB _ hB)
        | false =>
          rw [(iold ho').1] at hB
          exact hfoot _ (.inr (.inr (.inl ⟨p, hpn, rfl⟩))) hB
      · rw [(P2 q hqp).1] at hB
        exact hfoot _ (.inr (.inr (.inl ⟨q, hq, rfl⟩))) hB
    · rw [ne] at hq
      rw [ce] at hc
      by_cases hqp : q = p
      · rw [(P1 q hqp).2.2.1] at hB
        cases ho' : oc' with
        | true => exact (hcode hc).2.2.2.2.1 ho' (hBB _ hB)
        | false =>
          rw [((hcode hc).2.2.2.1 ho').1] at hB
          exact hfoot _ (.inr (.inr (.inr ⟨by rw [hcoh]; exact hc, p, hpn, rfl⟩))) hB
      · rw [(P2 q hqp).2.2.1] at hB
        exact hfoot _ (.inr (.inr (.inr ⟨by rw [hcoh]; exact hc, q, hq, rfl⟩))) hB
  refine ⟨v', e1, f, Ren.le_refl f, fun _ _ => rfl, ⟨hr.below.trans (e4.below.mono hBB), hr.bsize, fun x M hx => Nat.lt_of_lt_of_le (hr.lt x M hx) e4.below.size, fun x y Mx My ox oy hx hy gx gy hxy => ?_, fun x M o hx gx => ?_⟩, ?_⟩
  · exact absurd ((hg' x ox gx).1.trans (hg' y oy gy).1.symm) hxy
  · obtain ⟨rfl, rfl⟩ := hg' x o gx
    rw [hL] at hx
    cases hx
    refine ⟨⟨by rw [hgh]; exact ⟨_, Pg', rfl, hm', hho⟩, fun b hb => ?_⟩, hb0, cs0, el0, fr0, (keep _ hBg).trans q1, q2, q3, q4⟩
    rw [hgh] at hb
    obtain ⟨M2, P2', h2, ho2, h3⟩ := hb
    exact nB b (hm'.same h2 (ho2.trans hho.symm) h3)
  · rw [g3] at e5
    exact (e5.freed cr).env evI evB
def roOs (el sl : TypeId) (coh : Bool) : List AObj := [.cells (head0 coh) el false 2, .col 7 6 .i64 (.var 0) 4 2 (.fn 0 (.var 0) (.lit 3) (.lit 0))]
/-- Where no page is touched. -/
theorem memCon_ro {el sl : TypeId} {k : Nat} {c co : Con} {cv : T AVal} {Me' : IE} {coh : Bool}
    (hk : GH k = memGhost el sl) (c0 : c.os = [.ghost k [.var 0] cv]) (c1 : c.os' = [.ghost k [Me'] cv]) (cr : c.res.free = true)
    (g1 : co.g = c.g) (g2 : co.args = c.args) (g3 : co.res = c.res) (hco : co.Ok P G GH) (o0 : co.os = roOs el sl coh)
    {ρ : Env} (h1 : ρ.std G GH) (hb : ρ.ok (bdL co.bds)) (hp : co.pre.holds ρ) {B : Nat → Prop} {W w : World} {f : Ren} {args' : Array Value} (hr : HRel ρ B W f (treeOf c.os 0 .nil) w) (ha : LRel ρ f c.args args') (hn : ∀ j, c.os.length ≤ j → f j = none)
    {L : Loc} (hL : f 0 = some L) {Pg : Pages} (hm : MemIs el sl (ρ.i 0) w L.blk Pg) (hho : Pg.ho = L.base) (hcoh : mCoh (ρ.i 0) = coh) (hsame : Me'.ev ρ = ρ.i 0) :
    callR P c.g args' w fun v' w' => ∃ f', f.le f' ∧ Outside f f' c.os.length c.os'.length ∧ HRel ρ B W f' (outT c.os' 0 .nil) w' ∧ VRel ρ f' c.res v' := by
  have hlen : c.os.length = 1 := by rw [c0]; rfl
  have hf1 : ∀ x, 1 ≤ x → f x = none := fun x hx => hn x (by omega)
  have hg : (treeOf c.os 0 T.nil).get 0 = some (.ghost k [.var 0] cv) := by
    rw [c0]
    exact treeOf_same [AObj.ghost k [IE.var 0] cv] 0 0 .nil _ rfl (by simp)
  have hobj := hr.obj 0 L _ hL hg
  obtain ⟨⟨hrel, hfB⟩, hb0, cs0, el0, fr0, q1, q2, q3, q4⟩ := hobj
  obtain ⟨cs, fr, cap, u1, u2, u3, u4⟩ := hm.head
  obtain ⟨ss, sf, v1, v2, v3⟩ := hm.slots
  have lt : ∀ {b : Nat} {O : Obj}, w.heap[b]? = some O → b < w.heap.size := fun h => (Array.getElem?_eq_some_iff.1 h).1
  let f2 : Ren := fun x => match x with
    | 0 => some L
    | 1 => some ⟨Pg.sb, Pg.so, ss.size⟩
    | _ => none
  have hle : f.le f2 := by
    intro x M hx
    cases x with
    | zero => rw [hL] at hx; exact hx
    | succ x => rw [hf1 _ (by omega)] at hx; cases hx
  have get : ∀ {x : Nat} {o : AObj}, (treeOf co.os 0 T.nil).get x = some o → (x = 0 ∧ o = .cells (head0 coh) el false 2) ∨ (x = 1 ∧ o = .col 7 6 .i64 (.var 0) 4 2 (.fn 0 (.var 0) (.lit 3) (.lit 0))) := by
    intro x o h
    rw [o0] at h
    have := listTree h
    match x, this with
    | 0, h => simp [roOs] at h; exact .inl ⟨rfl, h.symm⟩
    | 1, h => simp [roOs] at h; exact .inr ⟨rfl, h.symm⟩
    | x + 2, h => simp [roOs] at h
  have H2 : HRel ρ (· < w.heap.size) w f2 (treeOf co.os 0 .nil) w := by
    refine ⟨Kept.refl _ _, fun b hb => hb, fun x M hx => ?_, fun x y Mx My ox oy hx hy gx gy hxy hown => ?_, fun x M o hx gx => ?_⟩
    · match x, hx with
      | 0, hx => cases hx; exact lt u1
      | 1, hx => cases hx; exact lt v1
    · rcases get gx with ⟨rfl, rfl⟩ | ⟨rfl, rfl⟩ <;> cases hown
    · rcases get gx with ⟨rfl, rfl⟩ | ⟨rfl, rfl⟩
      · cases hx
        have hsz : cs.size = L.sz := by
          rw [u1] at q1
          cases q1
          exact q2
        refine ⟨cs, fr, u1, hsz, (fun h => (by cases h)), fun y v hv => ?_⟩
        rcases head0_inv hv with ⟨rfl, rfl⟩ | ⟨rfl, rfl⟩
        · refine ⟨by decide, _, by rw [← hho]; exact u2, ?_⟩
          have hlenE : (IE.fn 0 (.var 0) (.lit 3) (.lit 0)).ev ρ = mN (ρ.i 0) := rfl
          have := VRel.sliceS (ρ := ρ) (f := f2) (i := 1) (s := 7) (st := .lit 0) (len := .fn 0 (.var 0) (.lit 3) (.lit 0)) (nn := true) (L := ⟨Pg.sb, Pg.so, ss.size⟩) (c := cap) rfl (Int.le_refl 0) (by rw [hlenE]; exact hm.nle.1) (by rw [hlenE]; exact u3)
          rw [hlenE] at this
          exact this
        · refine ⟨by decide, _, by rw [← hho]; exact u4, ?_⟩
          rw [hcoh]
          exact .bool (.lit coh)
      · cases hx
        refine ⟨ss, sl, sf, v1, fun j hj => ?_⟩
        have hj : (j : Int) < mN (ρ.i 0) := hj
        obtain ⟨a1, a2, a3, a4, a5, a6, a7⟩ := v3 j (by omega)
        have e : j * 4 + 2 = 4 * j + 2 := by omega
        have ev0 : (IE.var 0).ev ρ = ρ.i 0 := rfl
        rw [e, ev0]
        refine ⟨a5, ?_, ?_⟩
        · unfold mR at a6; simp only [kLo]; omega
        · unfold mR at a7; simp only [kHi]; omega
  rw [← g1]
  refine Calls.mono (hco ρ h1 hb hp (· < w.heap.size) w f2 w args' H2 (by rw [g2]; exact ha.mono hle) (fun x hx => ?_)) fun e w3 ⟨v', e1, f3, e2, e3, e4, e5⟩ => ?_
  · rw [o0] at hx
    match x, hx with
    | x + 2, _ => rfl
    | 0, hx => exact absurd hx (by simp [roOs])
    | 1, hx => exact absurd hx (by simp [roOs])
  have hB : Kept B W w3 := hr.below.trans (e4.below.mono fun b hb => Nat.lt_of_lt_of_le (hr.bsize b hb) hr.below.size)
  have H3 : HRel ρ B W f (treeOf c.os 0 .nil) w3 := hr.of_same hB e4.below.size fun x M o hx gx b hb => e4.below.block b ((hr.obj x M o hx gx).foot_lt hb)
  have hg0 : ∀ x o, (outT c.os' 0 T.nil).get x = some o → x = 0 ∧ o = .ghost k [Me'] cv := by
    intro x o hx
    rw [c1] at hx
    have := (outList hx).1
    match x, this with
    | 0, this => simp at this; exact ⟨rfl, this.symm⟩
    | x + 1, this => simp at this
  refine ⟨v', e1, f, Ren.le_refl f, fun _ _ => rfl, ⟨H3.below, H3.bsize, H3.lt, fun x y Mx My ox oy hx hy gx gy hxy => ?_, fun x M o hx gx => ?_⟩, ?_⟩
  · exact absurd ((hg0 x ox gx).1.trans (hg0 y oy gy).1.symm) hxy
  · obtain ⟨rfl, rfl⟩ := hg0 x o gx
    obtain ⟨⟨a1, a2⟩, a3⟩ := H3.obj 0 M _ hx hg
    refine ⟨⟨?_, a2⟩, a3⟩
    have : [Me'].map (·.ev ρ) = [IE.var 0].map (·.ev ρ) := by simp [hsame, IE.ev]
    rw [this]
    exact a1
  · rw [g3] at e5
    exact e5.freed cr

/-! both together -/
def nE : IE := .fn 0 (.var 0) (.lit 3) (.lit 0)
/-- Is the memory coherent? -/
def cohB : BE := .eq (.fn 0 (.var 0) (.lit 7) (.lit 0)) (.lit 1)
/-- What a run in an opened memory may assume. -/
def inPre (pe : IE) (inside coh : Bool) : Dec := [(.lt pe nE, inside), (.lt nE (.lit 0), false), (.lt (.lit 4096) nE, false), (.lt pe (.lit 0), false), (cohB, coh)]
theorem inPre_ok {ρ : Env} {pe : IE} {p : Nat} (hp : pe.ev ρ = p) (hn : 0 ≤ mN (ρ.i 0) ∧ mN (ρ.i 0) ≤ 4096) {v : Bool} (hv : decide ((p : Int) < mN (ρ.i 0)) = v) {coh : Bool} (hc : mCoh (ρ.i 0) = coh) : Dec.holds ρ (inPre pe v coh) := by
  have e : nE.ev ρ = mN (ρ.i 0) := rfl
  intro q hq
  simp only [inPre, List.mem_cons, List.not_mem_nil, or_false] at hq
  rcases hq with rfl | rfl | rfl | rfl | rfl
  · show decide (pe.ev ρ < nE.ev ρ) = v
    rw [hp, e]
    exact hv
  · show decide (nE.ev ρ < 0) = false
    rw [e]
    simp
    omega
  · show decide (4096 < nE.ev ρ) = false
    rw [e]
    simp
    omega
  · show decide (pe.ev ρ < 0) = false
    rw [hp]
    simp
  · exact hc
/-- The contract's run in a memory opened at pe. -/
def memIn (c : Con) (el sl : TypeId) (pe : IE) (coh od oc : Bool) (os' : List AObj) : Con :=
  { c with os := openOs el sl coh od oc pe, pre := inPre pe true coh ++ c.pre, os' := os' }
def memRo (c : Con) (el sl : TypeId) (pe : IE) (inside coh : Bool) : Con :=
  { c with os := roOs el sl coh, pre := inPre pe inside coh ++ c.pre, os' := roOs el sl coh }
def memRo0 (c : Con) (el sl : TypeId) (coh : Bool) : Con :=
  { c with os := roOs el sl coh, pre := [(.lt nE (.lit 0), false), (.lt (.lit 4096) nE, false)] ++ c.pre, os' := roOs el sl coh }
/-- What is written of an opened page: where its data and its image lie, whose they are, what they are. -/
structure Behind where
  i : Nat := 2
  j : Nat := 3
  od : Bool
  oc : Bool
  d : IE
  c : IE
  r : IE
theorem rowGet_in (d : Int) (j : Nat) : inRow (rowGet d j) := by
  rw [rowGet_dig]
  unfold rowPut inRow
  have h : dig d.toNat j < 2 ^ 80 := by unfold dig; exact Nat.mod_lt _ (Nat.two_pow_pos _)
  have e : (2 : Nat) ^ 80 = 1208925819614629174706176 := by decide
  rw [e] at h
  split
  · rename_i hb
    have : dig d.toNat j < 604462909807314587353088 := by simpa [Nat.blt_eq] using hb
    omega
  · rename_i hb
    have : ¬ dig d.toNat j < 604462909807314587353088 := fun hlt => hb (by simpa [Nat.blt_eq] using hlt)
    omega
theorem pgD_get' (M : Int) (p j : Nat) (hj : j < 256) : rowGet (pgD M p) j = mD M (256 * p + j) :=
  rowGet_of _ j _ (by simp [hj]) (rowGet_in M _)
theorem pgC_get' (M : Int) (p j : Nat) (hj : j < 256) : rowGet (pgC M p) j = mC M (256 * p + j) :=
  rowGet_of _ j _ (by simp [hj]) (rowGet_in M _)
theorem memNext.refl {M : Int} {p : Nat} (h : memOk M) (hp : p < (mN M).toNat) : memNext M M p (pgD M p) (pgC M p) (mR M p) :=
  ⟨rfl, rfl, fun _ _ _ _ _ => ⟨rfl, fun _ => rfl⟩, fun _ _ _ => rfl, fun j hj => (pgD_get' M p j hj).symm, fun _ j hj => (pgC_get' M p j hj).symm, ⟨rfl, h.r p hp⟩, h.k⟩
/-- A function that touches one page at most. -/
theorem memCon {el sl : TypeId} {k : Nat} {c : Con} {cv : T AVal} {Me' pe : IE} (hk : GH k = memGhost el sl) (hG : ∀ M p z, G 10 M p z = pgD M p.toNat ∧ G 11 M p z = pgC M p.toNat)
    (c0 : c.os = [.ghost k [.var 0] cv]) (c1 : c.os' = [.ghost k [Me'] cv]) (cr : c.res.free = true) (ca : c.args.head? = some (.ptr (some (0, 0))))
    (hpos : ∀ ρ : Env, ρ.ok (bdL c.bds) → c.pre.holds ρ → 0 ≤ pe.ev ρ)
    (hout : ∀ coh, (memRo c el sl pe false coh).Ok P G GH) (hsame : ∀ ρ : Env, ρ.std G GH → ρ.ok (bdL c.bds) → c.pre.holds ρ → memOk (ρ.i 0) → mN (ρ.i 0) ≤ pe.ev ρ → Me'.ev ρ = ρ.i 0)
    (hin : ∀ coh od oc, ∃ (b : Behind) (os' : List AObj), (memIn c el sl pe coh od oc os').Ok P G GH ∧ os'[1]? = some (.win pe 7 (slotCells b.i b.j coh b.od b.oc b.r) sl true) ∧ os'[b.i]? = some (.arr [.u8] b.d (.lit 256) b.od) ∧ (coh = false → os'[b.j]? = some (.arr [.u8] b.c (.lit 256) b.oc)) ∧ os'.length ≤ 1000 ∧
      (b.od = true ∨ (b.i = 2 ∧ od = false)) ∧ (coh = false → b.oc = true ∨ (b.j = 3 ∧ oc = false)) ∧ (coh = false → b.i ≠ b.j) ∧
      ∀ ρ : Env, ρ.std G GH → ρ.ok (bdL c.bds) → c.pre.holds ρ → memOk (ρ.i 0) → mCoh (ρ.i 0) = coh → ∀ p : Nat, pe.ev ρ = p → p < (mN (ρ.i 0)).toNat → memNext (ρ.i 0) (Me'.ev ρ) p (b.d.ev ρ) (b.c.ev ρ) (b.r.ev ρ)) : c.Ok P G GH := by
  intro ρ h1 h2 h3 B W f w args' hr ha hn
  have hlen : c.os.length = 1 := by rw [c0]; rfl
  have hg : (treeOf c.os 0 T.nil).get 0 = some (.ghost k [.var 0] cv) := by
    rw [c0]
    exact treeOf_same [AObj.ghost k [IE.var 0] cv] 0 0 .nil _ rfl (by simp)
  have hL : ∃ L, f 0 = some L := by
    have h0 : c.args[0]? = some (.ptr (some (0, 0))) := by rw [← List.head?_eq_getElem?]; exact ca
    obtain ⟨v', q1, q2⟩ := ha.get h0
    obtain ⟨L, hL, _⟩ := q2.ptr_inv
    exact ⟨L, hL⟩
  obtain ⟨L, hL⟩ := hL
  obtain ⟨⟨hrel, hfB⟩, _⟩ := hr.obj 0 L _ hL hg
  rw [show ρ.gh k = memGhost el sl by rw [h1.2]; exact hk] at hrel
  obtain ⟨M, Pg, hv, hm, hho⟩ := hrel
  have hM : M = ρ.i 0 := by
    simp [IE.ev] at hv
    exact hv.symm
  subst hM
  obtain ⟨p, hp⟩ := Int.eq_ofNat_of_zero_le (hpos ρ h2 h3)
  by_cases hlt : (p : Int) < mN (ρ.i 0)
  · obtain ⟨b, os', hok, o1, o2, o3, ol, hi, hj, hij, hnx⟩ := hin (mCoh (ρ.i 0)) (Pg.od p) (Pg.oc p)
    exact memCon_in (co := memIn c el sl pe (mCoh (ρ.i 0)) (Pg.od p) (Pg.oc p) os') hk hG c0 c1 cr rfl rfl rfl hok rfl o1 o2 o3 ol hi hj hij h1 h2 (holds_app (inPre_ok hp hm.nle (by simp [hlt]) rfl) h3) hr ha hn hL hm hho hp (by omega) rfl rfl rfl (hnx ρ h1 h2 h3 hm.ok rfl p hp (by omega))
  · exact memCon_ro (co := memRo c el sl pe false (mCoh (ρ.i 0))) hk c0 c1 cr rfl rfl rfl (hout _) rfl h1 h2 (holds_app (inPre_ok hp hm.nle (by simp [hlt]) rfl) h3) hr ha hn hL hm hho rfl (hsame ρ h1 h2 h3 hm.ok (by omega))
/-- A function that reads rights alone. -/
theorem memCon0 {el sl : TypeId} {k : Nat} {c : Con} {cv : T AVal} (hk : GH k = memGhost el sl) (c0 : c.os = [.ghost k [.var 0] cv]) (c1 : c.os' = [.ghost k [.var 0] cv]) (cr : c.res.free = true) (ca : c.args.head? = some (.ptr (some (0, 0))))
    (hro : ∀ coh, (memRo0 c el sl coh).Ok P G GH) : c.Ok P G GH := by
  intro ρ h1 h2 h3 B W f w args' hr ha hn
  have hlen : c.os.length = 1 := by rw [c0]; rfl
  have hg : (treeOf c.os 0 T.nil).get 0 = some (.ghost k [.var 0] cv) := by
    rw [c0]
    exact treeOf_same [AObj.ghost k [IE.var 0] cv] 0 0 .nil _ rfl (by simp)
  have hL : ∃ L, f 0 = some L := by
    have h0 : c.args[0]? = some (.ptr (some (0, 0))) := by rw [← List.head?_eq_getElem?]; exact ca
    obtain ⟨v', q1, q2⟩ := ha.get h0
    obtain ⟨L, hL, _⟩ := q2.ptr_inv
    exact ⟨L, hL⟩
  obtain ⟨L, hL⟩ := hL
  obtain ⟨⟨hrel, hfB⟩, _⟩ := hr.obj 0 L _ hL hg
  rw [show ρ.gh k = memGhost el sl by rw [h1.2]; exact hk] at hrel
  obtain ⟨M, Pg, hv, hm, hho⟩ := hrel
  have hM : M = ρ.i 0 := by
    simp [IE.ev] at hv
    exact hv.symm
  subst hM
  have hp : Dec.holds ρ ([(.lt nE (.lit 0), false), (.lt (.lit 4096) nE, false)] ++ c.pre) := by
    have e : nE.ev ρ = mN (ρ.i 0) := rfl
    have hn := hm.nle
    refine holds_app (fun q hq => ?_) h3
    simp only [List.mem_cons, List.not_mem_nil, or_false] at hq
    rcases hq with rfl | rfl
    · show decide (nE.ev ρ < 0) = false
      rw [e]; simp; omega
    · show decide (4096 < nE.ev ρ) = false
      rw [e]; simp; omega
  exact memCon_ro (co := memRo0 c el sl (mCoh (ρ.i 0))) hk c0 c1 cr rfl rfl rfl (hro _) rfl h1 h2 hp hr ha hn hL hm hho rfl rfl
end
end
end Go.Sx
/- What a memory answers and becomes, in terms of its row. No condition. -/
set_option linter.unusedSimpArgs false
set_option linter.unusedVariables false
namespace Go.Sx
open Go.RowKit (Below)
noncomputable section
/-! rows -/
theorem rowSet_pos (d j v : Int) : 0 ≤ rowSet d j v := Int.natCast_nonneg _
theorem dig_lt (n j : Nat) : dig n j < 2 ^ 80 := Nat.mod_lt _ (Nat.two_pow_pos _)
theorem rowDig_rowPut {u : Nat} (h : u < 2 ^ 80) : rowDig (rowPut u) = u := by
  unfold rowDig rowPut
  split
  · have : ((u : Int) % 1208925819614629174706176).toNat = u := by omega
    exact this
  · have : (((u : Int) - 1208925819614629174706176) % 1208925819614629174706176).toNat = u := by omega
    exact this
theorem rowSet_self {d : Int} (h : 0 ≤ d) (i : Nat) : rowSet d i (rowGet d i) = d := by
  have h1 := rowSet_toNat d (rowGet d i) i
  rw [rowGet_dig, rowDig_rowPut (dig_lt _ _)] at h1
  have h2 : put d.toNat i (dig d.toNat i) = d.toNat := by
    unfold put
    have : dig d.toNat i * 2 ^ (80 * i) ≤ d.toNat := by
      unfold dig
      exact Nat.le_trans (Nat.mul_le_mul_right _ (Nat.mod_le _ _)) (Nat.div_mul_le_self _ _)
    omega
  rw [h2] at h1
  have := rowSet_pos d i (rowGet d i)
  rw [rowGet_dig] at this
  rw [rowGet_dig]
  omega
theorem dig_succ (n j : Nat) : dig n (j + 1) = dig (n / 2 ^ 80) j := by
  unfold dig
  rw [show 80 * (j + 1) = 80 + 80 * j by omega, Nat.pow_add, Nat.div_div_eq_div_mul]
theorem dig_ext : ∀ (a b : Nat), (∀ j, dig a j = dig b j) → a = b := by
  intro a
  induction a using Nat.strongRecOn with
  | _ a ih =>
    intro b h
    have h0 : a % 2 ^ 80 = b % 2 ^ 80 := by have := h 0; unfold dig at this; simpa using this
    have hs : ∀ j, dig (a / 2 ^ 80) j = dig (b / 2 ^ 80) j := fun j => by rw [← dig_succ, ← dig_succ]; exact h _
    have e : a / 2 ^ 80 = b / 2 ^ 80 := by
      by_cases ha : a = 0
      · subst ha
        have z : ∀ n : Nat, (∀ j, dig n j = 0) → n = 0 := by
          intro n
          induction n using Nat.strongRecOn with
          | _ n ih =>
            intro hz
            by_cases hn : n = 0
            · exact hn
            · have h1 : n % 2 ^ 80 = 0 := by have := hz 0; unfold dig at this; simpa using this
              have h2 := ih (n / 2 ^ 80) (Nat.div_lt_self (by omega) (by decide)) (fun j => by rw [← dig_succ]; exact hz _)
              omega
        have hz : ∀ j, dig 0 j = 0 := fun j => by unfold dig; simp
        have := z b fun j => by rw [← h j]; exact hz j
        rw [this]
      · exact ih (a / 2 ^ 80) (Nat.div_lt_self (by omega) (by decide)) _ hs
    omega
theorem row_ext {a b : Int} (ha : 0 ≤ a) (hb : 0 ≤ b) (h : ∀ j : Nat, rowGet a j = rowGet b j) : a = b := by
  have : a.toNat = b.toNat := dig_ext _ _ fun j => by
    have := h j
    rw [rowGet_dig, rowGet_dig] at this
    have := congrArg rowDig this
    rwa [rowDig_rowPut (dig_lt _ _), rowDig_rowPut (dig_lt _ _)] at this
  omega
theorem rowGet_byte {d v : Int} {i j : Nat} (hv : isByte v) : rowGet (rowSet d i v) j = if j = i then v else rowGet d j :=
  rowGet_set d v i j (by obtain ⟨h1, h2⟩ := hv; omega) (by obtain ⟨h1, h2⟩ := hv; omega)
theorem wrap_byte {v : Int} (h : isByte v) : IntKind.u8.wrap v = v := wrap_id .u8 _ (by simp only [kLo]; exact h.1) (by simp only [kHi]; exact h.2)
theorem byte_wrap (v : Int) : isByte (IntKind.u8.wrap v) := by
  have := wrap_mem .u8 v
  simp only [kLo, kHi] at this
  exact this
/-- Several digits set. -/
def setN (M : Int) (ix : Nat → Nat) (g : Nat → Int) : Nat → Int
  | 0 => M
  | n + 1 => rowSet (setN M ix g n) (ix n) (g n)
theorem setN_at {M : Int} {ix : Nat → Nat} {g : Nat → Int} (hi : ∀ i j, ix i = ix j → i = j) (hg : ∀ j, inRow (g j)) : ∀ (n j : Nat), j < n → rowGet (setN M ix g n) (ix j) = g j := by
  intro n
  induction n with
  | zero => intro j h; omega
  | succ n ih =>
    intro j h
    show rowGet (rowSet (setN M ix g n) (ix n) (g n)) (ix j) = g j
    rw [rowGet_set _ _ _ _ (hg n).1 (hg n).2]
    by_cases e : ix j = ix n
    · rw [if_pos e, hi _ _ e]
    · rw [if_neg e]
      exact ih j (by have : j ≠ n := fun h => e (by rw [h]); omega)
theorem setN_out {M : Int} {ix : Nat → Nat} {g : Nat → Int} : ∀ (n i : Nat), (∀ j, j < n → i ≠ ix j) → rowGet (setN M ix g n) i = rowGet M i := by
  intro n
  induction n with
  | zero => intro i _; rfl
  | succ n ih =>
    intro i h
    show rowGet (rowSet (setN M ix g n) (ix n) (g n)) i = _
    rw [rowGet_set_ne _ _ (h n (by omega))]
    exact ih i fun j hj => h j (by omega)
/-! the memory -/
def inM (M a : Int) : Bool := decide (a / 256 < mN M)
def ad (a i : Int) : Int := IntKind.u32.wrap (a + i)
def pkS (M a : Int) : Int := if inM M a then IntKind.u8.wrap (rowGet M (a * 4)) else 0
def cdS (M a : Int) : Int := if inM M a then IntKind.u8.wrap (if mCoh M then rowGet M (a * 4) else rowGet M (a * 4 + 1)) else 0
def rtS (M p : Int) : Int := if 0 ≤ p ∧ p < mN M then IntKind.i64.wrap (rowGet M (p * 4 + 2)) else 0
def okS (M a r : Int) : Bool := inM M a && decide (bitsI .and .i64 (IntKind.i64.wrap (rowGet M (a / 256 * 4 + 2))) r ≠ 0)
def chS (M a r : Int) : Nat → Int → Option Int
  | 0, _ => none
  | n + 1, i => if okS M (ad a i) r then chS M a r n (i + 1) else some (ad a i)
/-- z: how many bytes, and which right: 8 n + r. -/
def chOk (M a z : Int) : Int := match chS M a (z % 8) (z / 8).toNat 0 with
  | none => 1
  | some _ => 0
def chAt (M a z : Int) : Int := match chS M a (z % 8) (z / 8).toNat 0 with
  | none => 0
  | some x => x
def stS (M a b : Int) : Int := if inM M a then rowSet M (a * 4) b else M
def prS (M p r : Int) : Int := if 0 ≤ p ∧ p < mN M then rowSet M (p * 4 + 2) (bitsI .and .i64 r 7) else M
def ixC (p j : Nat) : Nat := 4 * (256 * p + j) + 1
def syS (M a : Int) : Int := if inM M a && !mCoh M then setN M (ixC (a / 256).toNat) (fun j => mD M (256 * (a / 256).toNat + j)) 256 else M
/-- The image of page p, by a row and how many of its digits. -/
def scS (M p d n : Int) : Int := if (0 ≤ p ∧ p < mN M) ∧ mCoh M = false then setN M (ixC p.toNat) (fun j => IntKind.u8.wrap (rowGet d j)) (min n.toNat 256) else M
def poS (M a d : Int) : Nat → Int
  | 0 => M
  | n + 1 => stS (poS M a d n) (ad a n) (IntKind.u8.wrap (rowGet d n))
/-- Digits i to i + k - 1 of a row, as bytes, put behind a + i. -/
def poF (M a d : Int) (i : Nat) : Nat → Int
  | 0 => M
  | k + 1 => poF (stS M (ad a i) (IntKind.u8.wrap (rowGet d i))) a d (i + 1) k
/-- The same in the reference's slice of N bytes. -/
def poD (D a d N : Int) (i : Nat) : Nat → Int
  | 0 => D
  | k + 1 => poD (if ad a i < N then rowSet D (ad a i) (IntKind.u8.wrap (rowGet d i)) else D) a d N (i + 1) k
/-- Do k digits from i on agree? -/
def eqF (x y : Int) (i : Nat) : Nat → Int
  | 0 => 1
  | k + 1 => if rowGet x (i : Nat) = rowGet y (i : Nat) then eqF x y (i + 1) k else 0
def b2 (b : Bool) : Int := if b then 1 else 0
/-! the rows that the reference has -/
def dataR (M : Int) : Int := (rowOf ((List.range (256 * (mN M).toNat)).map fun i => mD M i) : Nat)
def imgR (M : Int) : Int := (rowOf ((List.range (256 * (mN M).toNat)).map fun i => mC M i) : Nat)
def rgtR (M : Int) : Int := (rowOf ((List.range (mN M).toNat).map fun i => mR M i) : Nat)
/-- Digits i to e - 1 of a row, as bytes, put into another one. -/
def cpR (C D : Int) (i : Nat) : Nat → Int
  | 0 => C
  | n + 1 => rowSet (cpR C D i n) ((i + n : Nat) : Int) (IntKind.u8.wrap (rowGet D ((i + n : Nat) : Int)))
/-! flags -/
def flgP (r : Int) (c v : Bool) : Int := (if 2147483648 ≤ r then 8 else 0) + (if r = 0 then 4 else 0) + (if c then 2 else 0) + (if v then 1 else 0)
def sgnI (a : Int) : Int := if a < 2147483648 then a else a - 4294967296
def outI (t : Int) : Bool := decide (t < -2147483648 ∨ 2147483648 ≤ t)
def flgI (k a b : Int) : Int :=
  if k = 0 then a % 16
  else if k = 1 then flgP ((a + b) % 4294967296) (decide (4294967296 ≤ a + b)) (outI (sgnI a + sgnI b))
  else if k = 2 then flgP ((a + b + 1) % 4294967296) (decide (4294967296 ≤ a + b + 1)) (outI (sgnI a + sgnI b + 1))
  else if k = 3 then flgP ((a - b) % 4294967296) (decide (b ≤ a)) (outI (sgnI a - sgnI b))
  else if k = 4 then flgP ((a - b - 1) % 4294967296) (decide (b + 1 ≤ a)) (outI (sgnI a - sgnI b - 1))
  else if k = 5 then flgP a false false
  else 0
/-- A memory of zeros without rights. -/
def newM (n : Int) (coh : Int) : Int := rowSet (rowSet 0 (3 : Nat) n) (7 : Nat) coh
def gA (c : Nat) (x y z : Int) : Int :=
  match c with
  | 9 => pairI x y
  | 10 => pgD x y.toNat
  | 11 => pgC x y.toNat
  | 14 => dataR x
  | 15 => imgR x
  | 16 => rgtR x
  | 20 => pkS x y
  | 21 => cdS x y
  | 22 => b2 (okS x y z)
  | 23 => rtS x y
  | 24 => chOk x y z
  | 25 => chAt x y z
  | 30 => stS x y z
  | 31 => prS x y z
  | 33 => syS x y
  | 34 => scS x y (unpI z).1 (unpI z).2
  | 35 => poS x y (unpI z).1 (unpI z).2.toNat
  | 36 => cpR x y (unpI z).1.toNat ((unpI z).2.toNat - (unpI z).1.toNat)
  | 37 => newM x y
  | 38 => poF x (unpI y).1 (unpI y).2 (unpI z).1.toNat ((unpI z).2.toNat - (unpI z).1.toNat)
  | 39 => poD x (unpI y).1 (unpI (unpI y).2).1 (unpI (unpI y).2).2 (unpI z).1.toNat ((unpI z).2.toNat - (unpI z).1.toNat)
  | 40 => flgI x y z
  | 41 => eqF x y (unpI z).1.toNat ((unpI z).2.toNat - (unpI z).1.toNat)
  | _ => 0
def Base (G : Nat → Int → Int → Int → Int) : Prop := ∀ c, c < 100 → ∀ x y z, G c x y z = gA c x y z
theorem Base.pg {G : Nat → Int → Int → Int → Int} (h : Base G) : ∀ M p z, G 10 M p z = pgD M p.toNat ∧ G 11 M p z = pgC M p.toNat := fun M p z => ⟨h 10 (by decide) M p z, h 11 (by decide) M p z⟩
theorem Base.packs {G : Nat → Int → Int → Int → Int} (h : Base G) : Packs G := fun x y z => h 9 (by decide) x y z
theorem fn_ev {G : Nat → Int → Int → Int → Int} (hG : Base G) {GH : Nat → Ghost} {ρ : Env} (h : ρ.std G GH) {c : Nat} (h1 : 7 < c) (h2 : c < 100) (x y z : Int) : fnI ρ c x y z = gA c x y z := by
  rw [fn_big h1, h.1, hG c h2]
/-! what becomes of the digits -/
theorem memPos_of {M M' : Int} (hn : mN M' = mN M) (hc : mCoh M' = mCoh M) (j : Nat) : memPos M' j ↔ memPos M j := by
  unfold memPos
  rw [hn, hc]
theorem rowSet_head {M v : Int} {i : Nat} (h3 : i ≠ 3) (h7 : i ≠ 7) : mN (rowSet M (i : Nat) v) = mN M ∧ mCoh (rowSet M (i : Nat) v) = mCoh M := by
  refine ⟨rowGet_set_ne M v (by omega), ?_⟩
  unfold mCoh
  rw [rowGet_set_ne M v (by omega)]
theorem memCan.set {M v : Int} {i : Nat} (h : memCan M) (hi : memPos M i) (h3 : i ≠ 3) (h7 : i ≠ 7) : memCan (rowSet M (i : Nat) v) := by
  obtain ⟨a, b⟩ := rowSet_head (M := M) (v := v) h3 h7
  refine ⟨rowSet_pos _ _ _, ?_, fun j hj => ?_⟩
  · rw [rowGet_set_ne M v (by omega)]
    exact h.coh
  · rw [memPos_of a b] at hj
    rw [rowGet_set_ne M v (fun e => hj (by subst e; exact hi))]
    exact h.out j hj
theorem memCan.setN {M : Int} {ix : Nat → Nat} {g : Nat → Int} (h : memCan M) : ∀ n : Nat, (∀ j, j < n → memPos M (ix j) ∧ ix j ≠ 3 ∧ ix j ≠ 7) → memCan (Go.Sx.setN M ix g n) ∧ mN (Go.Sx.setN M ix g n) = mN M ∧ mCoh (Go.Sx.setN M ix g n) = mCoh M := by
  intro n
  induction n with
  | zero => intro _; exact ⟨h, rfl, rfl⟩
  | succ n ih =>
    intro hj
    obtain ⟨a, b, c⟩ := ih fun j h => hj j (by omega)
    obtain ⟨p1, p2, p3⟩ := hj n (by omega)
    obtain ⟨q1, q2⟩ := rowSet_head (M := Go.Sx.setN M ix g n) (v := g n) p2 p3
    exact ⟨a.set ((memPos_of b c _).2 p1) p2 p3, q1.trans b, q2.trans c⟩
/-- Alike in all that they say: one. -/
theorem memOk.ext {M M' : Int} (h : memOk M) (h' : memOk M') (hn : mN M' = mN M) (hc : mCoh M' = mCoh M) (hd : ∀ a, a < 256 * (mN M).toNat → mD M' a = mD M a) (hi : mCoh M = false → ∀ a, a < 256 * (mN M).toNat → mC M' a = mC M a) (hr : ∀ p, p < (mN M).toNat → mR M' p = mR M p) : M' = M := by
  refine row_ext h'.k.pos h.k.pos fun j => ?_
  by_cases hj : memPos M j
  · rcases hj with rfl | rfl | ⟨a, ha, rfl | ⟨hf, rfl⟩⟩ | ⟨p, hp, rfl⟩
    · exact hn
    · have e1 := h.k.coh
      have e2 := h'.k.coh
      have e3 : decide (rowGet M' (7 : Nat) = 1) = decide (rowGet M (7 : Nat) = 1) := hc
      rcases e1 with e1 | e1 <;> rcases e2 with e2 | e2 <;> rw [e1, e2] at e3 ⊢ <;> first | rfl | (simp at e3)
    · exact hd a ha
    · exact hi hf a ha
    · exact hr p hp
  · rw [h.k.out j hj, h'.k.out j (fun hx => hj ((memPos_of hn hc j).1 hx))]
theorem memNext_st {M b : Int} {n : Nat} (hm : memOk M) (hin : n / 256 < (mN M).toNat) (hb : isByte b) : memNext M (rowSet M ((4 * n : Nat) : Int) b) (n / 256) (rowSet (pgD M (n / 256)) ((n % 256 : Nat) : Int) b) (pgC M (n / 256)) (mR M (n / 256)) := by
  have hn := Nat.div_add_mod n 256
  have hlt := Nat.mod_lt n (show 0 < 256 by decide)
  refine ⟨?_, ?_, fun q j hq hqp hj => ⟨?_, fun _ => ?_⟩, fun q hq hqp => ?_, fun j hj => ?_, fun _ j hj => ?_, ⟨?_, hm.r _ hin⟩, hm.k.set (.inr (.inr (.inl ⟨n, by omega, .inl rfl⟩))) (by omega) (by omega)⟩
  · exact rowGet_set_ne M b (by omega)
  · unfold mCoh; rw [rowGet_set_ne M b (by omega)]
  · exact rowGet_set_ne M b (by omega)
  · exact rowGet_set_ne M b (by omega)
  · exact rowGet_set_ne M b (by omega)
  · unfold mD
    rw [rowGet_byte hb, rowGet_byte hb, pgD_get' M _ j hj]
    by_cases e : j = n % 256
    · rw [if_pos (by omega), if_pos e]
    · rw [if_neg (by omega), if_neg e]
      rfl
  · unfold mC
    rw [rowGet_set_ne M b (by omega), pgC_get' M _ j hj]
    rfl
  · exact rowGet_set_ne M b (by omega)
theorem memNext_pr {M r : Int} {p : Nat} (hm : memOk M) (hin : p < (mN M).toNat) (hr : 0 ≤ r ∧ r ≤ 7) : memNext M (rowSet M ((4 * p + 2 : Nat) : Int) r) p (pgD M p) (pgC M p) r := by
  have hb : isByte r := ⟨hr.1, by omega⟩
  refine ⟨?_, ?_, fun q j hq hqp hj => ⟨?_, fun _ => ?_⟩, fun q hq hqp => ?_, fun j hj => ?_, fun _ j hj => ?_, ⟨?_, hr⟩, hm.k.set (.inr (.inr (.inr ⟨p, hin, rfl⟩))) (by omega) (by omega)⟩
  · exact rowGet_set_ne M r (by omega)
  · unfold mCoh; rw [rowGet_set_ne M r (by omega)]
  · exact rowGet_set_ne M r (by omega)
  · exact rowGet_set_ne M r (by omega)
  · exact rowGet_set_ne M r (by omega)
  · unfold mD
    rw [rowGet_set_ne M r (by omega), pgD_get' M _ j hj]
    rfl
  · unfold mC
    rw [rowGet_set_ne M r (by omega), pgC_get' M _ j hj]
    rfl
  · unfold mR
    rw [rowGet_byte hb, if_pos rfl]
theorem ixC_inj {p i j : Nat} (h : ixC p i = ixC p j) : i = j := by unfold ixC at h; omega
theorem memNext_im {M : Int} {p n : Nat} {g : Nat → Int} (hm : memOk M) (hc : mCoh M = false) (hin : p < (mN M).toNat) (hg' : ∀ j, inRow (g j)) (hn : n ≤ 256) {C : Int} (hC : ∀ j : Nat, j < 256 → rowGet C j = if j < n then g j else mC M (256 * p + j)) : memNext M (setN M (ixC p) g n) p (pgD M p) C (mR M p) := by
  have out : ∀ i, (∀ j, j < n → i ≠ ixC p j) → rowGet (setN M (ixC p) g n) i = rowGet M i := setN_out n
  refine ⟨?_, ?_, fun q j hq hqp hj => ⟨?_, fun _ => ?_⟩, fun q hq hqp => ?_, fun j hj => ?_, fun _ j hj => ?_, ⟨?_, hm.r p hin⟩, (hm.k.setN n fun j hj => ⟨.inr (.inr (.inl ⟨256 * p + j, by omega, .inr ⟨hc, rfl⟩⟩)), (by show 4 * (256 * p + j) + 1 ≠ 3; omega), (by show 4 * (256 * p + j) + 1 ≠ 7; omega)⟩).1⟩
  · exact out 3 fun j _ => by unfold ixC; omega
  · unfold mCoh; rw [out 7 fun j _ => by unfold ixC; omega]
  · exact out _ fun j' _ => by unfold ixC; omega
  · exact out _ fun j' h => by unfold ixC; omega
  · exact out _ fun j' _ => by unfold ixC; omega
  · unfold mD
    rw [out _ fun j' _ => by unfold ixC; omega, pgD_get' M _ j hj]
    rfl
  · rw [hC j hj]
    by_cases e : j < n
    · rw [if_pos e]
      exact setN_at (fun _ _ => ixC_inj) hg' n j e
    · rw [if_neg e]
      exact out _ fun j' h => by unfold ixC; omega
  · exact out _ fun j' _ => by unfold ixC; omega
end
end Go.Sx
/- Contracts parted by a test; outcomes shown by cases. No condition. -/
namespace Go.Sx
set_option linter.unusedVariables false
noncomputable section
section
variable {P : Program} {G : Nat → Int → Int → Int → Int} {GH : Nat → Ghost} {c : Con} {K : Know}
theorem Con.leavesQ (facts : Dec) (hf : ∀ ρ : Env, ρ.std G GH → ρ.ok (bdL c.bds) → c.pre.holds ρ → facts.holds ρ) (q : Dec → IE → IE → Bool)
    (hq : ∀ ρ : Env, ρ.std G GH → ρ.ok (bdL c.bds) → c.pre.holds ρ → ∀ (dec : Dec) (a b : IE), dec.holds ρ → q dec a b = true → a.ev ρ = b.ev ρ) {o : Out} (h : o.all (c.leaf q) (facts ++ c.pre) = true) : c.Leaves G GH o := by
  intro ρ h1 h2 h3
  obtain ⟨e, s, dec', hd', p1, p2⟩ := Out.all_pick (holds_app (hf ρ h1 h2 h3) h3) h
  unfold Con.leaf at p2
  split at p2
  · rename_i l hl
    exact ⟨e, s, _, l, p1, hl, prsAll_ok (fun a b hab => hq ρ h1 h2 h3 dec' a b hd' hab) p2⟩
  · cases p2
/-- Equal by cases, or as stated beforehand. -/
def qX (bd : Bd) (k : Nat) (obs : List (Dec × IE × IE)) (dec : Dec) (a b : IE) : Bool :=
  match qP bd k dec a b with
  | true => true
  | false => qN bd obs dec a b
theorem qX_ok {ρ : Env} {bd : Bd} (hρ : ρ.ok bd) {k : Nat} {dec : Dec} (hd : dec.holds ρ) {obs : List (Dec × IE × IE)} (ho : obsOk ρ obs) {a b : IE} (h : qX bd k obs dec a b = true) : a.ev ρ = b.ev ρ := by
  unfold qX at h
  split at h
  · rename_i h1
    exact qP_ok hρ hd h1
  · exact qN_ok hρ hd ho h
theorem Con.leavesX (facts : Dec) (hf : ∀ ρ : Env, ρ.std G GH → ρ.ok (bdL c.bds) → c.pre.holds ρ → facts.holds ρ) (k : Nat) (obs : List (Dec × IE × IE)) (ho : ∀ ρ : Env, ρ.std G GH → ρ.ok (bdL c.bds) → c.pre.holds ρ → obsOk ρ obs) {o : Out} (h : o.all (c.leaf (qX (bdL c.bds) k obs)) (facts ++ c.pre) = true) : c.Leaves G GH o :=
  Con.leavesQ facts hf _ (fun ρ h1 h2 h3 _ _ _ hd hab => qX_ok h2 hd (ho ρ h1 h2 h3) hab) h
/-- A run whose outcomes are shown by cases. -/
theorem Con.of_treeP (mixed : P.follows .mixedOrders = true) (hK : K.Ok P G GH) (L : Nat) (pol : FuncId → Nat → Bool) (pure : FuncId → Bool) (d k : Nat) (h : (c.tree P K L pol pure d []).all (c.leaf (qP (bdL c.bds) k)) c.pre = true) : c.Ok P G GH :=
  Con.ok_of mixed hK (facts := []) (fun ρ _ _ _ p hp => by cases hp) (Con.leavesQ [] (fun ρ _ _ _ p hp => by cases hp) _ (fun ρ h1 h2 h3 dec a b hd hab => qP_ok h2 hd hab) h)
theorem Con.split {b : BE} (h1 : Con.Ok P G GH { c with pre := (b, true) :: c.pre }) (h0 : Con.Ok P G GH { c with pre := (b, false) :: c.pre }) : c.Ok P G GH := by
  intro ρ q1 q2 q3
  cases hb : b.ev ρ
  · exact h0 ρ q1 q2 (decCons q3 hb)
  · exact h1 ρ q1 q2 (decCons q3 hb)
/-- The same said of a result in other words. -/
theorem Con.reres {r : AVal} {q : Prs} (hc : c.Ok P G GH) (hq : r.pairs c.res = some q) (he : ∀ ρ : Env, ρ.std G GH → ρ.ok (bdL c.bds) → c.pre.holds ρ → q.hold ρ) : Con.Ok P G GH { c with res := r } := by
  intro ρ h1 h2 h3 B W f w args' hr ha hn
  refine callR_mono P c.g _ _ _ _ (hc ρ h1 h2 h3 B W f w args' hr ha hn) fun v' w' ⟨f', a1, a2, a3, a4⟩ => ⟨f', a1, a2, a3, ?_⟩
  exact AVal.pairs_ok a4 hq (he ρ h1 h2 h3)
/-- A loop, shown in each of several cases. -/
theorem LCon.ok_each {c : LCon} (mixed : P.follows .mixedOrders = true) (hK : K.Ok P G GH) (hwf : c.con.wf = true) (hsl : c.sl.length = c.con.args.length) {ι : Type} (fac : ι → Dec) (L : Nat) (pol : FuncId → Nat → Bool) (pure : FuncId → Bool) (d k : Nat) (μ : IE)
    (hx : ∀ ρ : Env, ρ.std G GH → ρ.ok (bdL c.con.bds) → c.con.pre.holds ρ → ∃ i, (fac i).holds ρ ∧ (c.tree P K L pol pure d (fac i) μ).all (c.con.leaf (qP (bdL c.con.bds) k)) (fac i ++ c.con.pre) = true) : c.Ok P G GH := by
  intro fn cd b hfn hb hm hk
  have key : ∀ m, ∀ ρ : Env, ρ.std G GH → ρ.ok (bdL c.con.bds) → c.con.pre.holds ρ → (μ.ev ρ).toNat < m → c.con.OkAt (roundsR P b c m) ρ := by
    intro m
    induction m with
    | zero => intro ρ _ _ _ h; omega
    | succ m ih =>
      intro ρ h1 h2 h3 hlt
      obtain ⟨i, hi, h⟩ := hx ρ h1 h2 h3
      obtain ⟨e, s, dec', hd', p1, p2⟩ := Out.all_pick (holds_app hi h3) h
      unfold Con.leaf at p2
      split at p2
      · rename_i l hl
        exact Con.at_ends (roundsR_mono P b c (m + 1)) (LCon.tree_goes mixed hK hwf hsl h1 h2 h3 hi hfn hb hm hk (fun ρ' k1 k2 k3 k4 => ih ρ' k1 k2 k3 (by omega)) p1) hl (prsAll_ok (fun a b hab => qP_ok h2 hd' hab) p2)
      · cases p2
  intro ρ h1 h2 h3
  exact ⟨_, key _ ρ h1 h2 h3 (Nat.lt_succ_self _)⟩
/-! an expression's numbers, each by itself -/
/-- A tree for each of the numbers that an expression can be. -/
def casesO (e : IE) (f : Int → Out) : List Int → Out
  | [] => .bad (.num 300)
  | n :: l =>
    match l with
    | [] => f n
    | m :: l => .split (.eq e (.lit n)) (f n) (casesO e f (m :: l))
theorem casesO_pick {ρ : Env} {e : IE} {f : Int → Out} : ∀ {l : List Int}, e.ev ρ ∈ l → (casesO e f l).pick ρ = (f (e.ev ρ)).pick ρ := by
  intro l
  induction l with
  | nil => intro h; cases h
  | cons n l ih =>
    intro h
    cases l with
    | nil =>
      have : e.ev ρ = n := by simpa using h
      rw [this]
      rfl
    | cons m l =>
      show pickV (decide (e.ev ρ = n)) ((f n).pick ρ) ((casesO e f (m :: l)).pick ρ) = _
      by_cases hn : e.ev ρ = n
      · rw [decide_eq_true hn, hn]; rfl
      · rw [decide_eq_false hn]
        rcases List.mem_cons.1 h with h | h
        · exact absurd h hn
        · exact ih h
def casesAll (e : IE) (f : Int → Out) (p : Int → Dec → AExit → ASt → Bool) (base : Dec) (l : List Int) : Bool := l.all fun n => (f n).all (p n) ((.eq e (.lit n), true) :: base)
theorem casesAll_pick {ρ : Env} {e : IE} {f : Int → Out} {p : Int → Dec → AExit → ASt → Bool} {base : Dec} {l : List Int} (h : casesAll e f p base l = true) (hm : e.ev ρ ∈ l) (hb : base.holds ρ) : ∃ x s dec', Dec.holds ρ dec' ∧ (casesO e f l).pick ρ = some (x, s) ∧ p (e.ev ρ) dec' x s = true := by
  have := List.all_eq_true.1 h _ hm
  obtain ⟨x, s, dec', h1, h2, h3⟩ := Out.all_pick (decCons hb (t := .eq e (.lit (e.ev ρ))) (v := true) (decide_eq_true rfl)) this
  exact ⟨x, s, dec', h1, (casesO_pick hm).trans h2, h3⟩
/-- A contract's outcomes, case by case. -/
def Con.caseT (c : Con) (P : Program) (K : Int → Know) (L : Nat) (pol : FuncId → Nat → Bool) (pure : FuncId → Bool) (d : Nat) (facts : Dec) (e : IE) (n : Int) : Out := c.tree P (K n) L pol pure d ((.eq e (.lit n), true) :: facts)
theorem Con.ok_cases (mixed : P.follows .mixedOrders = true) {K : Int → Know} {l : List Int} (hK : ∀ n ∈ l, (K n).Ok P G GH) {L : Nat} {pol : FuncId → Nat → Bool} {pure : FuncId → Bool} {d : Nat} {facts : Dec} (hf : ∀ ρ : Env, ρ.std G GH → ρ.ok (bdL c.bds) → c.pre.holds ρ → facts.holds ρ) {e : IE}
    (hm : ∀ ρ : Env, ρ.std G GH → ρ.ok (bdL c.bds) → c.pre.holds ρ → e.ev ρ ∈ l) (h : c.Leaves G GH (casesO e (c.caseT P K L pol pure d facts e) l)) : c.Ok P G GH := by
  refine Con.of_ends fun ρ h1 h2 h3 => ?_
  obtain ⟨x, s, at', q, p1, p2, p3⟩ := h ρ h1 h2 h3
  rw [casesO_pick (hm ρ h1 h2 h3)] at p1
  exact ⟨s, at', q, Con.tree_goes mixed (hK _ (hm ρ h1 h2 h3)) h1 h2 h3 (facts := (.eq e (.lit (e.ev ρ)), true) :: facts) (decCons (hf ρ h1 h2 h3) (decide_eq_true rfl)) p1, p2, p3⟩
theorem Con.casesLeaves {facts : Dec} (hf : ∀ ρ : Env, ρ.std G GH → ρ.ok (bdL c.bds) → c.pre.holds ρ → facts.holds ρ) {q : Dec → IE → IE → Bool}
    (hq : ∀ ρ : Env, ρ.std G GH → ρ.ok (bdL c.bds) → c.pre.holds ρ → ∀ (dec : Dec) (a b : IE), dec.holds ρ → q dec a b = true → a.ev ρ = b.ev ρ) {e : IE} {l : List Int} (hm : ∀ ρ : Env, ρ.std G GH → ρ.ok (bdL c.bds) → c.pre.holds ρ → e.ev ρ ∈ l) {f : Int → Out}
    (h : casesAll e f (fun _ => c.leaf q) (facts ++ c.pre) l = true) : c.Leaves G GH (casesO e f l) := by
  intro ρ h1 h2 h3
  obtain ⟨x, s, dec', hd', p1, p2⟩ := casesAll_pick h (hm ρ h1 h2 h3) (holds_app (hf ρ h1 h2 h3) h3)
  unfold Con.leaf at p2
  split at p2
  · rename_i l hl
    exact ⟨x, s, _, l, p1, hl, prsAll_ok (fun a b hab => hq ρ h1 h2 h3 dec' a b hd' hab) p2⟩
  · cases p2
theorem Con.def_at {F : Fns} (hk : 7 < F.KR ∧ 7 < F.KV) {ρ : Env} (h2 : ρ.ok (bdL c.bds)) {o : Out} (hF : F.Def ρ.g (c.rows F o)) {e : AExit} {s : ASt} {dec' : Dec} (p1 : o.pick ρ = some (e, s)) (p2 : c.defLeaf F dec' e s = true) : ∃ q, c.endsA s = some q ∧ q.hold ρ := by
  have hF := hF ρ rfl
  rw [Con.rows_pick p1] at hF
  unfold Con.defLeaf at p2
  split at p2
  · rename_i q hq
    refine ⟨q, hq, ?_⟩
    unfold Con.rows at hF
    rw [hq] at hF
    cases e with
    | normal =>
      simp only at p2 hF
      split at p2
      · rename_i X hX
        rw [hX] at hF
        exact defXs_ok hk h2 hF p2
      · cases p2
    | exit i => exact defPairs_ok h2 hk hF (fun i p hp hne => by rw [Nat.zero_add]; exact rowVal_at hp hne) p2
    | ret => exact defPairs_ok h2 hk hF (fun i p hp hne => by rw [Nat.zero_add]; exact rowVal_at hp hne) p2
  · cases p2
/-- The functions that a tree of cases gives. -/
theorem Con.defCases {facts : Dec} (hf : ∀ ρ : Env, ρ.std G GH → ρ.ok (bdL c.bds) → c.pre.holds ρ → facts.holds ρ) {F : Fns} (hk : 7 < F.KR ∧ 7 < F.KV) {e : IE} {l : List Int} (hm : ∀ ρ : Env, ρ.std G GH → ρ.ok (bdL c.bds) → c.pre.holds ρ → e.ev ρ ∈ l) {f : Int → Out}
    (h : casesAll e f (fun _ => c.defLeaf F) (facts ++ c.pre) l = true) (hG : F.Def G (c.rows F (casesO e f l))) : c.Leaves G GH (casesO e f l) := by
  intro ρ h1 h2 h3
  obtain ⟨x, s, dec', hd', p1, p2⟩ := casesAll_pick h (hm ρ h1 h2 h3) (holds_app (hf ρ h1 h2 h3) h3)
  obtain ⟨q, q1, q2⟩ := Con.def_at hk h2 (by rw [h1.1]; exact hG) p1 p2
  exact ⟨x, s, _, q, p1, q1, q2⟩
/-- Two trees of cases that agree case by case. -/
theorem Con.agreeCases {c' : Con} {facts : Dec} (hf : ∀ ρ : Env, ρ.std G GH → ρ.ok (bdL c.bds) → c.pre.holds ρ → facts.holds ρ) {e : IE} {l : List Int} (hm : ∀ ρ : Env, ρ.std G GH → ρ.ok (bdL c.bds) → c.pre.holds ρ → e.ev ρ ∈ l) {e' : IE} (he : ∀ ρ : Env, ρ.std G GH → ρ.ok (bdL c.bds) → c.pre.holds ρ → e'.ev ρ = e.ev ρ) {f f' : Int → Out}
    (ho : ∀ ρ : Env, ρ.std G GH → ρ.ok (bdL c.bds) → c.pre.holds ρ → ∃ x s q, (casesO e f l).pick ρ = some (x, s) ∧ c'.endsA s = some q ∧ q.hold ρ)
    (h : casesAll e' f' (fun n => c.agreeLeaf c'.endsA (f n)) (facts ++ c.pre) l = true) : c.Leaves G GH (casesO e' f' l) := by
  intro ρ h1 h2 h3
  obtain ⟨x, s, dec', hd', p1, p2⟩ := casesAll_pick h (by rw [he ρ h1 h2 h3]; exact hm ρ h1 h2 h3) (holds_app (hf ρ h1 h2 h3) h3)
  unfold Con.agreeLeaf at p2
  split at p2
  · rename_i q hq
    refine ⟨x, s, _, q, p1, hq, agree_ok h2 hd' p2 fun x' s' m hp hs' => ?_⟩
    rw [he ρ h1 h2 h3] at hp
    obtain ⟨x2, s2, q2, a1, a2, a3⟩ := ho ρ h1 h2 h3
    rw [casesO_pick (hm ρ h1 h2 h3), hp] at a1
    cases a1
    rw [hs'] at a2
    cases a2
    exact a3
  · cases p2
end
end
end Go.Sx
/- Several functions given by trees, one behind the other. No condition. -/
namespace Go.Sx
noncomputable section
/-- Each names functions below its own alone, and its own lie behind those before. -/
def fnsChain : Nat → List (Fns × Nat) → Bool
  | _, [] => true
  | lo, (F, K) :: l => Nat.ble lo K && (Nat.blt KP K && (Nat.ble K F.KR && (Nat.ble K F.KV && (!(Nat.beq F.KR F.KV) && fnsChain (Nat.succ (Nat.max F.KR F.KV)) l))))
theorem exists_defs : ∀ (l : List (Fns × RT × Nat)) (lo : Nat) (G : Nat → Int → Int → Int → Int), Packs G → fnsChain lo (l.map fun x => (x.1, x.2.2)) = true → (∀ x ∈ l, x.2.1.only (memV x.1.vars) x.2.2 = true) →
    ∃ G', (∀ c, (∀ x ∈ l, c ≠ x.1.KR ∧ c ≠ x.1.KV) → G' c = G c) ∧ (∀ c, c < lo → G' c = G c) ∧ Packs G' ∧ ∀ x ∈ l, x.1.Def G' x.2.1
  | [], _, G, hP, _, _ => ⟨G, fun _ _ => rfl, fun _ _ => rfl, hP, fun x hx => by cases hx⟩
  | (F, t, K) :: l, lo, G, hP, hc, ho => by
    have hc' : (Nat.ble lo K && (Nat.blt KP K && (Nat.ble K F.KR && (Nat.ble K F.KV && (!(Nat.beq F.KR F.KV) && fnsChain (Nat.succ (Nat.max F.KR F.KV)) (l.map fun x => (x.1, x.2.2))))))) = true := hc
    simp only [Bool.and_eq_true, Bool.not_eq_true'] at hc'
    obtain ⟨c1, c2, c3, c4, c5, c6⟩ := hc'
    have c1 : lo ≤ K := Nat.le_of_ble_eq_true c1
    have c2 : KP < K := Nat.le_of_ble_eq_true c2
    have c3 : K ≤ F.KR := Nat.le_of_ble_eq_true c3
    have c4 : K ≤ F.KV := Nat.le_of_ble_eq_true c4
    have c5 : F.KR ≠ F.KV := fun h => by rw [h, Nat.beq_refl] at c5; cases c5
    obtain ⟨G1, a1, d1⟩ := Fns.exists_def F G hP t K ⟨c2, c3, c4, c5⟩ (ho (F, t, K) (List.mem_cons_self ..))
    have p1 : Packs G1 := fun x y z => by
      rw [a1 KP (by omega) (by omega)]
      exact hP x y z
    obtain ⟨G2, a2, b2, p2, d2⟩ := exists_defs l _ G1 p1 c6 (fun x hx => ho x (List.mem_cons_of_mem _ hx))
    have e : ∀ c, c ≤ F.KR ∨ c ≤ F.KV → G2 c = G1 c := fun c h => b2 c (by
      have m1 : F.KR ≤ Nat.max F.KR F.KV := Nat.le_max_left F.KR F.KV
      have m2 : F.KV ≤ Nat.max F.KR F.KV := Nat.le_max_right F.KR F.KV
      omega)
    refine ⟨G2, fun c h => ?_, fun c h => ?_, p2, fun x hx => ?_⟩
    · rw [a2 c fun x hx => h x (List.mem_cons_of_mem _ hx)]
      exact a1 c (h (F, t, K) (List.mem_cons_self ..)).1 (h (F, t, K) (List.mem_cons_self ..)).2
    · rw [e c (by omega)]
      exact a1 c (by omega) (by omega)
    · rcases List.mem_cons.1 hx with rfl | hx
      · exact Fns.Def.mono p1 d1 (ho (F, t, K) (List.mem_cons_self ..)) c2 (fun c h => e c (by have h' : c < K := h; omega)) (e _ (.inl (Nat.le_refl _))) (e _ (.inr (Nat.le_refl _)))
      · exact d2 x hx
/-- A contract out of another one that says more, or asks less. -/
theorem Con.weak {P : Program} {G : Nat → Int → Int → Int → Int} {GH : Nat → Ghost} {c c' : Con} (hg : c.g = c'.g) (ho : c.os = c'.os) (ho' : c.os' = c'.os') (h : c.Ok P G GH)
    (hk : ∀ ρ : Env, ρ.std G GH → ρ.ok (bdL c'.bds) → c'.pre.holds ρ → ρ.ok (bdL c.bds) ∧ c.pre.holds ρ ∧ (∀ f a, LRel ρ f c'.args a → LRel ρ f c.args a) ∧ ∀ f v, VRel ρ f c.res v → VRel ρ f c'.res v) : c'.Ok P G GH := by
  intro ρ h1 h2 h3 B W f w args' hr ha hn
  obtain ⟨k1, k2, k3, k4⟩ := hk ρ h1 h2 h3
  have hx := h ρ h1 k1 k2 B W f w args' (by rw [ho]; exact hr) (k3 f args' ha) (by rw [ho]; exact hn)
  rw [hg] at hx
  refine callR_mono P c'.g _ _ _ _ hx fun v w ⟨f', q1, q2, q3, q4⟩ => ⟨f', q1, ?_, ?_, k4 f' v q4⟩
  · rw [← ho, ← ho']; exact q2
  · rw [← ho']; exact q3
/-- A contract at given numbers, by a run. -/
theorem Con.at_treeX {P : Program} (mixed : P.follows .mixedOrders = true) {G : Nat → Int → Int → Int → Int} {GH : Nat → Ghost} {K : Know} (hK : K.Ok P G GH) {c : Con} {L : Nat} {pol : FuncId → Nat → Bool} {pure : FuncId → Bool} {d k : Nat} {facts : Dec} {obs : List (Dec × IE × IE)} {ρ : Env} (h1 : ρ.std G GH) (h2 : ρ.ok (bdL c.bds)) (h3 : c.pre.holds ρ) (hf : facts.holds ρ) (ho : obsOk ρ obs)
    (h : (c.tree P K L pol pure d facts).all (c.leaf (qX (bdL c.bds) k obs)) (facts ++ c.pre) = true) : c.OkAt (callR P c.g) ρ := by
  obtain ⟨e, s, dec', hd', p1, p2⟩ := Out.all_pick (holds_app hf h3) h
  unfold Con.leaf at p2
  split at p2
  · rename_i q hq
    exact Con.at_ends (callR_mono P c.g) (fun B W => (Con.tree_goes mixed hK h1 h2 h3 hf p1 B W).toR) hq (prsAll_ok (fun a b hab => qX_ok h2 hd' ho hab) p2)
  · cases p2
end
end Go.Sx
/- The reference's memory (slices of its content, its rights, its image) as one thing: opened as a whole, and shut. No condition. -/
set_option linter.unusedSimpArgs false
set_option linter.unusedVariables false
namespace Go.Sx
open Go.RowKit (Below)
noncomputable section
def rowIs' (w : World) (b o : Nat) (k : IntKind) (n : Nat) (D : Nat → Int) : Prop := ∃ cs el fr, w.heap[b]? = some (.cells cs el fr) ∧ (∀ j, j < cs.size → ¬ (fr.1 ≤ j ∧ j < fr.2)) ∧ ∀ j, j < n → cs[o + j]? = some (.int k (D j))
theorem rowIs'.keep {w w' : World} {b o n : Nat} {k : IntKind} {D : Nat → Int} (h : rowIs' w b o k n D) (he : w'.heap[b]? = w.heap[b]?) : rowIs' w' b o k n D := by
  obtain ⟨cs, el, fr, h1, h2⟩ := h
  exact ⟨cs, el, fr, he.trans h1, h2⟩
/-- Where its slices lie. -/
structure Refs where
  ho : Nat
  db : Nat
  dO : Nat
  rb : Nat
  rO : Nat
  ib : Nat
  iO : Nat
structure RefIs (el : TypeId) (M : Int) (w : World) (g : Nat) (R : Refs) : Prop where
  ok : memOk M
  head : ∃ cs fr cd cr ci, w.heap[g]? = some (.cells cs el fr) ∧ cs[R.ho + 0]? = some (.slice (some ⟨R.db, R.dO, none⟩) (256 * (mN M).toNat) cd) ∧ 256 * (mN M).toNat ≤ cd ∧ cs[R.ho + 4]? = some (.slice (some ⟨R.rb, R.rO, none⟩) (mN M).toNat cr) ∧ (mN M).toNat ≤ cr ∧ cs[R.ho + 5]? = some (.bool (mCoh M)) ∧
    cs[R.ho + 1]? = some (match mCoh M with | true => .slice none 0 0 | false => .slice (some ⟨R.ib, R.iO, none⟩) (256 * (mN M).toNat) ci) ∧ 256 * (mN M).toNat ≤ ci
  data : rowIs' w R.db R.dO .u8 (256 * (mN M).toNat) (mD M)
  rights : rowIs' w R.rb R.rO .i64 (mN M).toNat (mR M)
  image : mCoh M = false → rowIs' w R.ib R.iO .u8 (256 * (mN M).toNat) (mC M)
  gd : g ≠ R.db ∧ g ≠ R.rb ∧ R.db ≠ R.rb
  gi : mCoh M = false → g ≠ R.ib ∧ R.db ≠ R.ib ∧ R.rb ≠ R.ib
def inRef (M : Int) (g : Nat) (R : Refs) (b : Nat) : Prop := b = g ∨ b = R.db ∨ b = R.rb ∨ (mCoh M = false ∧ b = R.ib)
section
variable {el : TypeId} {M M' : Int} {w w' : World} {g : Nat} {R R' : Refs}
theorem heapLt {b : Nat} {O : Obj} (h : w.heap[b]? = some O) : b < w.heap.size := (Array.getElem?_eq_some_iff.1 h).1
theorem RefIs.inb (h : RefIs el M w g R) {b : Nat} (hb : inRef M g R b) : b < w.heap.size := by
  rcases hb with rfl | rfl | rfl | ⟨hc, rfl⟩
  · obtain ⟨cs, fr, cd, cr, ci, h1, _⟩ := h.head
    exact heapLt h1
  · obtain ⟨cs, e, fr, h1, _⟩ := h.data
    exact heapLt h1
  · obtain ⟨cs, e, fr, h1, _⟩ := h.rights
    exact heapLt h1
  · obtain ⟨cs, e, fr, h1, _⟩ := h.image hc
    exact heapLt h1
theorem RefIs.keep (h : RefIs el M w g R) (he : ∀ b, inRef M g R b → w'.heap[b]? = w.heap[b]?) : RefIs el M w' g R := by
  obtain ⟨cs, fr, cd, cr, ci, h1, h2⟩ := h.head
  exact ⟨h.ok, ⟨cs, fr, cd, cr, ci, (he _ (.inl rfl)).trans h1, h2⟩, h.data.keep (he _ (.inr (.inl rfl))), h.rights.keep (he _ (.inr (.inr (.inl rfl)))), fun hc => (h.image hc).keep (he _ (.inr (.inr (.inr ⟨hc, rfl⟩)))), h.gd, h.gi⟩
theorem RefIs.same (h : RefIs el M w g R) (k : RefIs el M' w g R') (ho : R'.ho = R.ho) {b : Nat} (hb : inRef M' g R' b) : inRef M g R b := by
  obtain ⟨cs, fr, cd, cr, ci, h1, h2, _, h4, _, h6, h7, _⟩ := h.head
  obtain ⟨cs', fr', cd', cr', ci', k1, k2, _, k4, _, k6, k7, _⟩ := k.head
  rw [h1] at k1
  cases k1
  rw [ho] at k2 k4 k6 k7
  have ed : R'.db = R.db := (Addr.mk.inj (Option.some.inj (Value.slice.inj (Option.some.inj (k2.symm.trans h2))).1)).1
  have er : R'.rb = R.rb := (Addr.mk.inj (Option.some.inj (Value.slice.inj (Option.some.inj (k4.symm.trans h4))).1)).1
  have ec : mCoh M' = mCoh M := Value.bool.inj (Option.some.inj (k6.symm.trans h6))
  rcases hb with rfl | rfl | rfl | ⟨hc, rfl⟩
  · exact .inl rfl
  · exact .inr (.inl ed)
  · exact .inr (.inr (.inl er))
  · rw [hc] at k7
    rw [ec] at hc
    rw [hc] at h7
    exact .inr (.inr (.inr ⟨hc, (Addr.mk.inj (Option.some.inj (Value.slice.inj (Option.some.inj (k7.symm.trans h7))).1)).1⟩))
end
def refGhost (el : TypeId) : Ghost where
  rel vs w g o := ∃ M R, vs = [M] ∧ RefIs el M w g R ∧ R.ho = o
  foot w g o b := ∃ M R, RefIs el M w g R ∧ R.ho = o ∧ inRef M g R b
  hd := 6
  self := fun ⟨M, R, _, h, ho⟩ => ⟨M, R, h, ho, .inl rfl⟩
  inb := fun _ ⟨M, R, h, _, hb⟩ => h.inb hb
  frame := fun ⟨M, R, e, h, ho⟩ hs he => by
    have h' := h.keep fun b hb => he b ⟨M, R, h, ho, hb⟩
    exact ⟨⟨M, R, e, h', ho⟩, fun b ⟨M', R', k, ko, hb⟩ => ⟨M, R, h, ho, h'.same k (ko.trans ho.symm) hb⟩⟩
  stay := by
    intro vs w g o cs e fr j v ⟨M, R, ev, h, ho⟩ hg hj
    have other : ∀ b, g ≠ b → (w.setCell ⟨g, j, none⟩ v).heap[b]? = w.heap[b]? := fun b hb => Below.heap_setCell _ _ _ _ (Ne.symm hb)
    have h' : RefIs el M (w.setCell ⟨g, j, none⟩ v) g R := by
      refine ⟨h.ok, ?_, h.data.keep (other _ h.gd.1), h.rights.keep (other _ h.gd.2.1), fun hc => (h.image hc).keep (other _ (h.gi hc).1), h.gd, h.gi⟩
      obtain ⟨cs', fr', cd, cr, ci, h1, h2, h3, h4, h5, h6, h7, h8⟩ := h.head
      rw [h1] at hg
      cases hg
      have st : ∀ i, i < 6 → (cs.setIfInBounds j v)[R.ho + i]? = cs[R.ho + i]? := fun i hi => Array.getElem?_setIfInBounds_ne (by omega)
      exact ⟨_, fr, cd, cr, ci, heap_setCell_at w g j cs _ fr v h1, (st 0 (by decide)).trans h2, h3, (st 4 (by decide)).trans h4, h5, (st 5 (by decide)).trans h6, (st 1 (by decide)).trans h7, h8⟩
    exact ⟨⟨M, R, ev, h', ho⟩, fun b ⟨M', R', k, ko, hb⟩ => ⟨M, R, h, ho, h'.same k (ko.trans ho.symm) hb⟩⟩
/-! opened -/
def lenE : IE := .mul nE (.lit 256)
def imgV (coh : Bool) : AVal := match coh with
  | true => .slice none 0 0 0
  | false => .sliceS 3 (.lit 0) lenE 1 false
def refHead (coh : Bool) : T AVal := (((T.nil.set 0 (.sliceS 1 (.lit 0) lenE 1 false)).set 1 (imgV coh)).set 4 (.sliceS 2 (.lit 0) nE 1 false)).set 5 (.bool (.lit coh))
theorem refHead_inv {coh : Bool} {k : Nat} {v : AVal} (h : (refHead coh).get k = some v) : (k = 0 ∧ v = .sliceS 1 (.lit 0) lenE 1 false) ∨ (k = 1 ∧ v = imgV coh) ∨ (k = 4 ∧ v = .sliceS 2 (.lit 0) nE 1 false) ∨ (k = 5 ∧ v = .bool (.lit coh)) := by
  unfold refHead at h
  rcases T.get_set h with ⟨e, h⟩ | ⟨_, h⟩
  · exact .inr (.inr (.inr ⟨e, h.symm⟩))
  rcases T.get_set h with ⟨e, h⟩ | ⟨_, h⟩
  · exact .inr (.inr (.inl ⟨e, h.symm⟩))
  rcases T.get_set h with ⟨e, h⟩ | ⟨_, h⟩
  · exact .inr (.inl ⟨e, h.symm⟩)
  rcases T.get_set h with ⟨e, h⟩ | ⟨_, h⟩
  · exact .inl ⟨e, h.symm⟩
  · rw [T.get_nil] at h; cases h
def imgArr (coh : Bool) (x : IE) : List AObj := match coh with
  | true => []
  | false => [.arr [.u8] x lenE true]
def refObs (el : TypeId) (coh : Bool) (De Re Ce : IE) : List AObj := .cells (refHead coh) el false 6 :: .arr [.u8] De lenE true :: .arr [.i64] Re nE true :: imgArr coh Ce
def refPre (coh : Bool) : Dec := [(.lt nE (.lit 0), false), (.lt (.lit 4096) nE, false), (cohB, coh)]
/-- The content behind, by its rows. -/
structure refNext (M M' De Re Ce : Int) : Prop where
  ok : memOk M'
  n : mN M' = mN M
  coh : mCoh M' = mCoh M
  d : ∀ j : Nat, j < 256 * (mN M).toNat → mD M' j = rowGet De j
  r : ∀ j : Nat, j < (mN M).toNat → mR M' j = rowGet Re j
  c : mCoh M = false → ∀ j : Nat, j < 256 * (mN M).toNat → mC M' j = rowGet Ce j
theorem memOk.byte {M : Int} (h : memOk M) {j : Nat} (hj : j < 256 * (mN M).toNat) : isByte (mD M j) ∧ (mCoh M = false → isByte (mC M j)) := by
  have e : 256 * (j / 256) + j % 256 = j := Nat.div_add_mod j 256
  have h1 := h.d (j / 256) (j % 256) (by omega) (Nat.mod_lt _ (by decide))
  rw [e] at h1
  refine ⟨h1, fun hc => ?_⟩
  have h2 := h.c hc (j / 256) (j % 256) (by omega) (Nat.mod_lt _ (by decide))
  rwa [e] at h2
theorem dataR_get {M : Int} {j : Nat} (hj : j < 256 * (mN M).toNat) : rowGet (dataR M) j = mD M j := rowGet_of _ j _ (by simp [hj]) (rowGet_in _ _)
theorem imgR_get {M : Int} {j : Nat} (hj : j < 256 * (mN M).toNat) : rowGet (imgR M) j = mC M j := rowGet_of _ j _ (by simp [hj]) (rowGet_in _ _)
theorem rgtR_get {M : Int} {j : Nat} (hj : j < (mN M).toNat) : rowGet (rgtR M) j = mR M j := rowGet_of _ j _ (by simp [hj]) (rowGet_in _ _)
theorem refNext.refl {M : Int} (h : memOk M) : refNext M M (dataR M) (rgtR M) (imgR M) := ⟨h, rfl, rfl, fun _ hj => (dataR_get hj).symm, fun _ hj => (rgtR_get hj).symm, fun _ _ hj => (imgR_get hj).symm⟩
theorem refObs_get {el : TypeId} {coh : Bool} {De Re Ce : IE} {x : Nat} {o : AObj} (h : (refObs el coh De Re Ce)[x]? = some o) : (x = 0 ∧ o = .cells (refHead coh) el false 6) ∨ (x = 1 ∧ o = .arr [.u8] De lenE true) ∨ (x = 2 ∧ o = .arr [.i64] Re nE true) ∨ (x = 3 ∧ coh = false ∧ o = .arr [.u8] Ce lenE true) := by
  match x, h with
  | 0, h => cases h; exact .inl ⟨rfl, rfl⟩
  | 1, h => cases h; exact .inr (.inl ⟨rfl, rfl⟩)
  | 2, h => cases h; exact .inr (.inr (.inl ⟨rfl, rfl⟩))
  | x + 3, h =>
    cases coh with
    | true => cases h
    | false =>
      match x, h with
      | 0, h => cases h; exact .inr (.inr (.inr ⟨rfl, rfl, rfl⟩))
      | x + 1, h => cases h
theorem refObs_length {el : TypeId} {coh : Bool} {De Re Ce : IE} : (refObs el coh De Re Ce).length = match coh with | true => 3 | false => 4 := by cases coh <;> rfl
def d14 : IE := .fn 14 (.var 0) (.lit 0) (.lit 0)
def d15 : IE := .fn 15 (.var 0) (.lit 0) (.lit 0)
def d16 : IE := .fn 16 (.var 0) (.lit 0) (.lit 0)
/-- The contract's run in a memory opened. -/
def refIn (c : Con) (el : TypeId) (coh : Bool) (De Re Ce : IE) : Con := { c with os := refObs el coh d14 d16 d15, pre := refPre coh ++ c.pre, os' := refObs el coh De Re Ce }
section
variable {P : Program} {G : Nat → Int → Int → Int → Int} {GH : Nat → Ghost}
set_option maxHeartbeats 2000000 in
theorem refCon2 {el : TypeId} {k : Nat} {c : Con} {Me' : IE} (hk : GH k = refGhost el) (hG : ∀ M y z, G 14 M y z = dataR M ∧ G 15 M y z = imgR M ∧ G 16 M y z = rgtR M)
    (c0 : c.os = [.ghost k [.var 0] .nil]) (c1 : c.os' = [.ghost k [Me'] .nil]) (cr : c.res.free = true) (ca : c.args.head? = some (.ptr (some (0, 0))))
    (hin : ∀ (coh : Bool) (ρ : Env), ρ.std G GH → ρ.ok (bdL c.bds) → Dec.holds ρ (refPre coh ++ c.pre) → memOk (ρ.i 0) → mCoh (ρ.i 0) = coh → ∃ De Re Ce : IE, (refIn c el coh De Re Ce).OkAt (callR P c.g) ρ ∧ refNext (ρ.i 0) (Me'.ev ρ) (De.ev ρ) (Re.ev ρ) (Ce.ev ρ)) : c.Ok P G GH := by
  intro ρ h1 hb hpre B W f w args' hr ha hn
  have hgh : ρ.gh k = refGhost el := by rw [h1.2]; exact hk
  have hlen : c.os.length = 1 := by rw [c0]; rfl
  have hf1 : ∀ x, 1 ≤ x → f x = none := fun x hx => hn x (by omega)
  obtain ⟨L, hL⟩ : ∃ L, f 0 = some L := by
    have h0 : c.args[0]? = some (.ptr (some (0, 0))) := by
      rw [← List.head?_eq_getElem?]
      exact ca
    obtain ⟨v, _, hv⟩ := ha.get h0
    obtain ⟨L, hL, _⟩ := hv.ptr_inv
    exact ⟨L, hL⟩
  have hg : (treeOf c.os 0 T.nil).get 0 = some (.ghost k [.var 0] .nil) := by
    rw [c0]
    exact treeOf_same [AObj.ghost k [IE.var 0] .nil] 0 0 .nil _ rfl (by simp)
  obtain ⟨⟨hrel, hfB⟩, hb0, cs0, el0, fr0, q1, q2, q3, q4⟩ := hr.obj 0 L _ hL hg
  rw [hgh] at hrel
  obtain ⟨M, R, hM, hm, hho⟩ := hrel
  have hM : ρ.i 0 = M := (List.cons.inj hM).1
  subst hM
  have hfoot : ∀ b, inRef (ρ.i 0) L.blk R b → ¬ B b := fun b hb => hfB b (by rw [hgh]; exact ⟨_, R, hm, hho, hb⟩)
  obtain ⟨cs, fr, cd, cr', ci, u1, u2, u3, u4, u5, u6, u7, u8⟩ := hm.head
  obtain ⟨ds, de, df, x1, x2, x3⟩ := hm.data
  obtain ⟨rs, re, rf, y1, y2, y3⟩ := hm.rights
  obtain ⟨coh, hcoh⟩ : ∃ coh, mCoh (ρ.i 0) = coh := ⟨_, rfl⟩
  have hcl : ∃ cl : Option Loc, (coh = true → cl = none) ∧ (coh = false → ∃ xs xe xf, cl = some ⟨R.ib, R.iO, xs.size⟩ ∧ w.heap[R.ib]? = some (.cells xs xe xf) ∧ (∀ j, j < xs.size → ¬ (xf.1 ≤ j ∧ j < xf.2)) ∧ ∀ j, j < 256 * (mN (ρ.i 0)).toNat → xs[R.iO + j]? = some (.int .u8 (mC (ρ.i 0) j))) := by
    cases coh with
    | true => exact ⟨none, fun _ => rfl, (fun h => (by cases h))⟩
    | false =>
      obtain ⟨xs, xe, xf, z1, z2, z3⟩ := hm.image hcoh
      exact ⟨some ⟨R.ib, R.iO, xs.size⟩, (fun h => (by cases h)), fun _ => ⟨xs, xe, xf, rfl, z1, z2, z3⟩⟩
  obtain ⟨cl, cl1, cl2⟩ := hcl
  have gi : coh = false → L.blk ≠ R.ib ∧ R.db ≠ R.ib ∧ R.rb ≠ R.ib := fun hc => hm.gi (by rw [hcoh]; exact hc)
  let B' : Nat → Prop := fun b => b < w.heap.size ∧ (B b ∨ b = L.blk)
  have hBB : ∀ b, B b → B' b := fun b hb => ⟨Nat.lt_of_lt_of_le (hr.bsize b hb) hr.below.size, .inl hb⟩
  have hBg : B' L.blk := ⟨heapLt u1, .inr rfl⟩
  have nB' : ∀ b, inRef (ρ.i 0) L.blk R b → b ≠ L.blk → ¬ B' b := fun b hb hne h => h.2.elim (hfoot b hb) hne
  let f2 : Ren := fun x => match x with
    | 0 => some L
    | 1 => some ⟨R.db, R.dO, ds.size⟩
    | 2 => some ⟨R.rb, R.rO, rs.size⟩
    | 3 => cl
    | _ => none
  have hle : f.le f2 := by
    intro x M hx
    cases x with
    | zero => rw [hL] at hx; exact hx
    | succ x => rw [hf1 _ (by omega)] at hx; cases hx
  have hN : nE.ev ρ = mN (ρ.i 0) := rfl
  have hLn : lenE.ev ρ = mN (ρ.i 0) * 256 := rfl
  have n0 := hm.ok.n.1
  have ltE : ∀ y : Nat, (y : Int) < lenE.ev ρ → y < 256 * (mN (ρ.i 0)).toNat := fun y hy => by rw [hLn] at hy; omega
  have ltN : ∀ y : Nat, (y : Int) < nE.ev ρ → y < (mN (ρ.i 0)).toNat := fun y hy => by rw [hN] at hy; omega
  have c14 : d14.ev ρ = dataR (ρ.i 0) := by
    show fnI ρ 14 (ρ.i 0) 0 0 = _
    rw [fn_big (by decide), h1.1, (hG _ _ _).1]
  have c15 : d15.ev ρ = imgR (ρ.i 0) := by
    show fnI ρ 15 (ρ.i 0) 0 0 = _
    rw [fn_big (by decide), h1.1, (hG _ _ _).2.1]
  have c16 : d16.ev ρ = rgtR (ρ.i 0) := by
    show fnI ρ 16 (ρ.i 0) 0 0 = _
    rw [fn_big (by decide), h1.1, (hG _ _ _).2.2]
  have one : ∀ {k : IntKind} {d : Nat} {kd : IntKind} (y : Nat), [k][d]? = some kd → d = 0 ∧ kd = k ∧ y * [k].length + d = y := by
    intro k d kd y hd
    match d, hd with
    | 0, hd => cases hd; exact ⟨rfl, rfl, by simp⟩
  have H2 : HRel ρ B' w f2 (treeOf (refObs el coh d14 d16 d15) 0 .nil) w := by
    have get : ∀ {x : Nat} {o : AObj}, (treeOf (refObs el coh d14 d16 d15) 0 T.nil).get x = some o → _ := fun {x o} h => refObs_get (x := x) (o := o) (listTree h)
    have feet : ∀ {x : Nat} {o : AObj} {M : Loc}, (treeOf (refObs el coh d14 d16 d15) 0 T.nil).get x = some o → ∀ b, o.foot ρ w M b → b = M.blk := by
      intro x o M h b hb
      rcases get h with ⟨_, rfl⟩ | ⟨_, rfl⟩ | ⟨_, rfl⟩ | ⟨_, _, rfl⟩ <;> exact hb
    have lc : ∀ {M : Loc}, coh = false → f2 3 = some M → M.blk = R.ib := by
      intro M hc hx
      have hx : cl = some M := hx
      obtain ⟨xs, xe, xf, z0, _⟩ := cl2 hc
      rw [z0] at hx
      cases hx
      rfl
    refine ⟨Kept.refl _ _, fun b hb => hb.1, fun x M hx => ?_, fun x y Mx My ox oy hx hy gx gy hxy hown b hbx hby => ?_, fun x M o hx gx => ?_⟩
    · match x, hx with
      | 0, hx => cases hx; exact heapLt u1
      | 1, hx => cases hx; exact heapLt x1
      | 2, hx => cases hx; exact heapLt y1
      | 3, hx =>
        have hx : cl = some M := hx
        cases hc : coh with
        | true => rw [cl1 hc] at hx; cases hx
        | false =>
          obtain ⟨xs, xe, xf, z0, z1, _⟩ := cl2 hc
          rw [z0] at hx
          cases hx
          exact heapLt z1
    · have ex := feet gx b hbx
      have ey := feet gy b hby
      subst ex
      rcases get gx with ⟨rfl, rfl⟩ | ⟨rfl, rfl⟩ | ⟨rfl, rfl⟩ | ⟨rfl, hc, rfl⟩
      · cases hown
      · cases hx
        rcases get gy with ⟨rfl, rfl⟩ | ⟨rfl, rfl⟩ | ⟨rfl, rfl⟩ | ⟨rfl, hc, rfl⟩
        · cases hy; exact hm.gd.1 ey.symm
        · exact hxy rfl
        · cases hy; exact hm.gd.2.2 ey
        · rw [lc hc hy] at ey; exact (gi hc).2.1 ey
      · cases hx
        rcases get gy with ⟨rfl, rfl⟩ | ⟨rfl, rfl⟩ | ⟨rfl, rfl⟩ | ⟨rfl, hc, rfl⟩
        · cases hy; exact hm.gd.2.1 ey.symm
        · cases hy; exact hm.gd.2.2 ey.symm
        · exact hxy rfl
        · rw [lc hc hy] at ey; exact (gi hc).2.2 ey
      · rw [lc hc hx] at ey
        rcases get gy with ⟨rfl, rfl⟩ | ⟨rfl, rfl⟩ | ⟨rfl, rfl⟩ | ⟨rfl, _, rfl⟩
        · cases hy; exact (gi hc).1 ey.symm
        · cases hy; exact (gi hc).2.1 ey.symm
        · cases hy; exact (gi hc).2.2 ey.symm
        · exact hxy rfl
    · rcases get gx with ⟨rfl, rfl⟩ | ⟨rfl, rfl⟩ | ⟨rfl, rfl⟩ | ⟨rfl, hc, rfl⟩
      · cases hx
        have hsz : cs.size = L.sz := by
          rw [u1] at q1
          cases q1
          exact q2
        have eD : (lenE.ev ρ).toNat = 256 * (mN (ρ.i 0)).toNat := by rw [hLn]; omega
        refine ⟨cs, fr, u1, hsz, (fun h => (by cases h)), fun y v hv => ?_⟩
        rcases refHead_inv hv with ⟨rfl, rfl⟩ | ⟨rfl, rfl⟩ | ⟨rfl, rfl⟩ | ⟨rfl, rfl⟩
        · refine ⟨by decide, _, by rw [← hho]; exact u2, ?_⟩
          have := VRel.sliceS (ρ := ρ) (f := f2) (i := 1) (s := 1) (st := .lit 0) (len := lenE) (nn := false) (L := ⟨R.db, R.dO, ds.size⟩) (c := cd) rfl (Int.le_refl 0) (by rw [hLn]; omega) (by rw [eD]; exact u3)
          rw [eD] at this
          exact this
        · refine ⟨by decide, _, by rw [← hho]; exact u7, ?_⟩
          rw [hcoh]
          cases hc : coh with
          | true => exact .nilSlice
          | false =>
            obtain ⟨xs, xe, xf, z0, _⟩ := cl2 hc
            have := VRel.sliceS (ρ := ρ) (f := f2) (i := 3) (s := 1) (st := .lit 0) (len := lenE) (nn := false) (L := ⟨R.ib, R.iO, xs.size⟩) (c := ci) z0 (Int.le_refl 0) (by rw [hLn]; omega) (by rw [eD]; exact u8)
            rw [eD] at this
            exact this
        · refine ⟨by decide, _, by rw [← hho]; exact u4, ?_⟩
          exact VRel.sliceS (ρ := ρ) (f := f2) (i := 2) (s := 1) (st := .lit 0) (len := nE) (nn := false) (L := ⟨R.rb, R.rO, rs.size⟩) (c := cr') rfl (Int.le_refl 0) (by rw [hN]; exact n0) (by rw [hN]; exact u5)
        · refine ⟨by decide, _, by rw [← hho]; exact u6, ?_⟩
          rw [hcoh]
          exact .bool (.lit coh)
      · cases hx
        refine ⟨ds, de, df, x1, rfl, fun _ => ⟨nB' _ (.inr (.inl rfl)) (Ne.symm hm.gd.1), x2⟩, fun y d kd hy hd => ?_⟩
        obtain ⟨rfl, rfl, e1⟩ := one y hd
        have hy := ltE y hy
        have hby := (hm.ok.byte hy).1
        rw [e1, c14, dataR_get hy]
        exact ⟨x3 y hy, by show (0 : Int) ≤ _; exact hby.1, by show _ ≤ (255 : Int); exact hby.2⟩
      · cases hx
        refine ⟨rs, re, rf, y1, rfl, fun _ => ⟨nB' _ (.inr (.inr (.inl rfl))) (Ne.symm hm.gd.2.1), y2⟩, fun y d kd hy hd => ?_⟩
        obtain ⟨rfl, rfl, e1⟩ := one y hd
        have hy := ltN y hy
        have hby := hm.ok.r y hy
        rw [e1, c16, rgtR_get hy]
        exact ⟨y3 y hy, by show (-9223372036854775808 : Int) ≤ _; omega, by show _ ≤ (9223372036854775807 : Int); omega⟩
      · obtain ⟨xs, xe, xf, z0, z1, z2, z3⟩ := cl2 hc
        have hx : cl = some M := hx
        rw [z0] at hx
        cases hx
        refine ⟨xs, xe, xf, z1, rfl, fun _ => ⟨nB' _ (.inr (.inr (.inr ⟨by rw [hcoh]; exact hc, rfl⟩))) (Ne.symm (gi hc).1), z2⟩, fun y d kd hy hd => ?_⟩
        obtain ⟨rfl, rfl, e1⟩ := one y hd
        have hy := ltE y hy
        have hby := (hm.ok.byte hy).2 (by rw [hcoh]; exact hc)
        rw [e1, c15, imgR_get hy]
        exact ⟨z3 y hy, by show (0 : Int) ≤ _; exact hby.1, by show _ ≤ (255 : Int); exact hby.2⟩
  have hn2 : ∀ x, (refObs el coh d14 d16 d15).length ≤ x → f2 x = none := by
    intro x hx
    rw [refObs_length] at hx
    match x, hx with
    | x + 4, _ => rfl
    | 3, hx =>
      cases hc : coh with
      | true => exact cl1 hc
      | false => rw [hc] at hx; exact absurd hx (by decide)
    | 0, hx => cases coh <;> exact absurd hx (by decide)
    | 1, hx => cases coh <;> exact absurd hx (by decide)
    | 2, hx => cases coh <;> exact absurd hx (by decide)
  have hp2 : Dec.holds ρ (refPre coh ++ c.pre) := by
    refine holds_app (decCons (decCons (decCons (fun p hp => by cases hp) (t := cohB) (v := coh) ?_) (t := .lt (.lit 4096) nE) (v := false) ?_) (t := .lt nE (.lit 0)) (v := false) ?_) hpre
    · show decide (rowGet (ρ.i 0) (7 : Nat) = 1) = coh
      exact hcoh
    · exact decide_eq_false (by show ¬ (4096 : Int) < mN (ρ.i 0); have := hm.ok.n.2; omega)
    · exact decide_eq_false (by show ¬ mN (ρ.i 0) < 0; omega)
  obtain ⟨De, Re, Ce, hat, hx⟩ := hin coh ρ h1 hb hp2 hm.ok hcoh
  refine Calls.mono (hat B' w f2 w args' H2 (ha.mono hle) hn2) fun e w3 ⟨v', e1, f3, e2, e3, e4, e5⟩ => ?_
  have keep : ∀ b, B' b → w3.heap[b]? = w.heap[b]? := e4.below.block
  have ol : (refObs el coh De Re Ce).length ≤ 1000 := by rw [refObs_length]; cases coh <;> decide
  have tree : ∀ (x : Nat) (o : AObj), (refObs el coh De Re Ce)[x]? = some o → o.dead = false → (outT (refObs el coh De Re Ce) 0 T.nil).get x = some o := by
    intro x o hx hd
    have := outT_same (refObs el coh De Re Ce) 0 x .nil o hx hd (by omega)
    rwa [Nat.zero_add] at this
  obtain ⟨ds3, de3, df3, a1, a2, a3, a4⟩ := e4.obj 1 _ _ (e2 1 _ rfl) (tree 1 _ rfl rfl)
  obtain ⟨rs3, re3, rf3, b1, b2, b3, b4⟩ := e4.obj 2 _ _ (e2 2 _ rfl) (tree 2 _ rfl rfl)
  have ne : (mN (Me'.ev ρ)).toNat = (mN (ρ.i 0)).toNat := by rw [hx.n]
  have hm' : RefIs el (Me'.ev ρ) w3 L.blk R := by
    refine ⟨hx.ok, ⟨cs, fr, cd, cr', ci, (keep _ hBg).trans u1, by rw [ne]; exact u2, by rw [ne]; exact u3, by rw [ne]; exact u4, by rw [ne]; exact u5, by rw [hx.coh]; exact u6, by rw [hx.coh, ne]; exact u7, by rw [ne]; exact u8⟩, ?_, ?_, fun hc => ?_, hm.gd, fun hc => hm.gi (by rw [← hx.coh]; exact hc)⟩
    · refine ⟨ds3, de3, df3, a1, by rw [a2]; exact (a3 rfl).2, fun j hj => ?_⟩
      rw [ne] at hj
      obtain ⟨t1, _⟩ := a4 j 0 .u8 (by rw [hLn]; omega) rfl
      have e : j * [IntKind.u8].length + 0 = j := by simp
      rw [e, ← hx.d j hj] at t1
      exact t1
    · refine ⟨rs3, re3, rf3, b1, by rw [b2]; exact (b3 rfl).2, fun j hj => ?_⟩
      rw [ne] at hj
      obtain ⟨t1, _⟩ := b4 j 0 .i64 (by rw [hN]; omega) rfl
      have e : j * [IntKind.i64].length + 0 = j := by simp
      rw [e, ← hx.r j hj] at t1
      exact t1
    · rw [hx.coh, hcoh] at hc
      obtain ⟨xs, xe, xf, z0, z1, z2, z3⟩ := cl2 hc
      obtain ⟨xs3, xe3, xf3, m1, m2, m3, m4⟩ := e4.obj 3 _ (.arr [.u8] Ce lenE true) (e2 3 _ z0) (tree 3 _ (by rw [hc]; rfl) rfl)
      refine ⟨xs3, xe3, xf3, m1, by rw [m2]; exact (m3 rfl).2, fun j hj => ?_⟩
      rw [ne] at hj
      obtain ⟨t1, _⟩ := m4 j 0 .u8 (by rw [hLn]; omega) rfl
      have e : j * [IntKind.u8].length + 0 = j := by simp
      rw [e, ← hx.c (by rw [hcoh]; exact hc) j hj] at t1
      exact t1
  have hg' : ∀ x o, (outT c.os' 0 T.nil).get x = some o → x = 0 ∧ o = .ghost k [Me'] .nil := by
    intro x o hx
    rw [c1] at hx
    have := (outList hx).1
    match x, this with
    | 0, this => simp at this; exact ⟨rfl, this.symm⟩
    | x + 1, this => simp at this
  have nB : ∀ b, inRef (Me'.ev ρ) L.blk R b → ¬ B b := by
    intro b hb
    rcases hb with rfl | rfl | rfl | ⟨hc, rfl⟩
    · exact hfoot _ (.inl rfl)
    · exact hfoot _ (.inr (.inl rfl))
    · exact hfoot _ (.inr (.inr (.inl rfl)))
    · exact hfoot _ (.inr (.inr (.inr ⟨by rw [← hx.coh]; exact hc, rfl⟩)))
  refine ⟨v', e1, f, Ren.le_refl f, fun _ _ => rfl, ⟨hr.below.trans (e4.below.mono hBB), hr.bsize, fun x M hx => Nat.lt_of_lt_of_le (hr.lt x M hx) e4.below.size, fun x y Mx My ox oy hx hy gx gy hxy => ?_, fun x M o hx gx => ?_⟩, ?_⟩
  · exact absurd ((hg' x ox gx).1.trans (hg' y oy gy).1.symm) hxy
  · obtain ⟨rfl, rfl⟩ := hg' x o gx
    rw [hL] at hx
    cases hx
    refine ⟨⟨by rw [hgh]; exact ⟨_, R, rfl, hm', hho⟩, fun b hb => ?_⟩, hb0, cs0, el0, fr0, (keep _ hBg).trans q1, q2, q3, q4⟩
    rw [hgh] at hb
    obtain ⟨M2, R2, h2, ho2, h3⟩ := hb
    exact nB b (hm'.same h2 (ho2.trans hho.symm) h3)
  · exact e5.freed cr
theorem refCon {el : TypeId} {k : Nat} {c : Con} {Me' De Re Ce : IE} (hk : GH k = refGhost el) (hG : ∀ M y z, G 14 M y z = dataR M ∧ G 15 M y z = imgR M ∧ G 16 M y z = rgtR M)
    (c0 : c.os = [.ghost k [.var 0] .nil]) (c1 : c.os' = [.ghost k [Me'] .nil]) (cr : c.res.free = true) (ca : c.args.head? = some (.ptr (some (0, 0)))) (hin : ∀ (coh : Bool) (ρ : Env), ρ.std G GH → ρ.ok (bdL c.bds) → (refIn c el coh De Re Ce).pre.holds ρ → memOk (ρ.i 0) → mCoh (ρ.i 0) = coh → (refIn c el coh De Re Ce).OkAt (callR P c.g) ρ)
    (hnext : ∀ ρ : Env, ρ.std G GH → ρ.ok (bdL c.bds) → c.pre.holds ρ → memOk (ρ.i 0) → refNext (ρ.i 0) (Me'.ev ρ) (De.ev ρ) (Re.ev ρ) (Ce.ev ρ)) : c.Ok P G GH :=
  refCon2 hk hG c0 c1 cr ca fun coh ρ h1 h2 h3 hm hc => ⟨De, Re, Ce, hin coh ρ h1 h2 h3 hm hc, hnext ρ h1 h2 (fun p hp => h3 p (List.mem_append.2 (.inr hp))) hm⟩
end
end
end Go.Sx
