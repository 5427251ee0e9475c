/- Patterns: symbols put for values; from a state to a pattern of it and back. No condition. -/
import Derived.Test.YtpoianhfjgjajaaGreatSx22
set_option linter.unusedSimpArgs false
set_option linter.unusedVariables false
namespace Go.Sx
open Go.RowKit (Below)
noncomputable section

/-! symbols replaced -/
def IE.rep (σ : Nat → IE) : IE → IE
  | .lit n => .lit n
  | .var i => σ i
  | .add a b => .add (a.rep σ) (b.rep σ)
  | .sub a b => .sub (a.rep σ) (b.rep σ)
  | .mul a b => .mul (a.rep σ) (b.rep σ)
  | .wrap k a => .wrap k (a.rep σ)
  | .bits op k a b => .bits op k (a.rep σ) (b.rep σ)
  | .quo a b => .quo (a.rep σ) (b.rep σ)
  | .rem a b => .rem (a.rep σ) (b.rep σ)
  | .shl k a b => .shl k (a.rep σ) (b.rep σ)
  | .shr k a b => .shr k (a.rep σ) (b.rep σ)
  | .fn c x y z => .fn c (x.rep σ) (y.rep σ) (z.rep σ)
  | .sel s a b x y => .sel s (a.rep σ) (b.rep σ) (x.rep σ) (y.rep σ)
def Env.rep (ρ : Env) (σ : Nat → IE) : Env := { ρ with i := fun k => (σ k).ev ρ }
theorem fnI_rep (ρ : Env) (σ : Nat → IE) (c : Nat) (x y z : Int) : fnI (ρ.rep σ) c x y z = fnI ρ c x y z := rfl
theorem IE.rep_ev (ρ : Env) (σ : Nat → IE) (e : IE) : (e.rep σ).ev ρ = e.ev (ρ.rep σ) := by
  induction e with
  | lit n => rfl
  | var i => rfl
  | add a b iha ihb => simp only [IE.rep, IE.ev, iha, ihb]
  | sub a b iha ihb => simp only [IE.rep, IE.ev, iha, ihb]
  | mul a b iha ihb => simp only [IE.rep, IE.ev, iha, ihb]
  | wrap k a iha => simp only [IE.rep, IE.ev, iha]
  | bits op k a b iha ihb => simp only [IE.rep, IE.ev, iha, ihb]
  | quo a b iha ihb => simp only [IE.rep, IE.ev, iha, ihb]
  | rem a b iha ihb => simp only [IE.rep, IE.ev, iha, ihb]
  | shl k a b iha ihb => simp only [IE.rep, IE.ev, iha, ihb]
  | shr k a b iha ihb => simp only [IE.rep, IE.ev, iha, ihb]
  | fn c x y z ihx ihy ihz => simp only [IE.rep, IE.ev, ihx, ihy, ihz, fnI_rep]
  | sel s a b x y iha ihb ihx ihy => simp only [IE.rep, IE.ev, iha, ihb, ihx, ihy]
def BE.rep (σ : Nat → IE) : BE → BE
  | .lit b => .lit b
  | .var i => .var i
  | .eq a b => .eq (a.rep σ) (b.rep σ)
  | .lt a b => .lt (a.rep σ) (b.rep σ)
  | .not a => .not (a.rep σ)
theorem BE.rep_ev (ρ : Env) (σ : Nat → IE) (e : BE) : (e.rep σ).ev ρ = e.ev (ρ.rep σ) := by
  induction e with
  | lit n => rfl
  | var i => rfl
  | eq a b => simp only [BE.rep, BE.ev, IE.rep_ev]
  | lt a b => simp only [BE.rep, BE.ev, IE.rep_ev]
  | not a ih => simp only [BE.rep, BE.ev, ih]
def posSub (π : Nat → Nat) : Option (Nat × Nat) → Option (Nat × Nat)
  | none => none
  | some (i, o) => some (π i, o)
mutual
def AVal.rep (σ : Nat → IE) (π : Nat → Nat) : AVal → AVal
  | .bool b => .bool (b.rep σ)
  | .int k e => .int k (e.rep σ)
  | .str l => .str (l.map (IE.rep σ))
  | .ptr a => .ptr (posSub π a)
  | .slice a n c g => .slice (posSub π a) n c g
  | .map none => .map none
  | .map (some r) => .map (some (π r))
  | .func fn a b => .func fn (subList σ π a) (subList σ π b)
  | .nilFunc => .nilFunc
  | .iface t v => .iface t (v.rep σ π)
  | .nilIface => .nilIface
  | .agg l => .agg (subList σ π l)
  | .tuple l => .tuple (subList σ π l)
  | .ptrE i e s c => .ptrE (π i) (e.rep σ) s c
  | .sliceS i a l s nn => .sliceS (π i) (a.rep σ) (l.rep σ) s nn
  | .sliceA i l s => .sliceA (π i) (l.rep σ) s
  | .strS c l => .strS (c.rep σ) (l.rep σ)
def subList (σ : Nat → IE) (π : Nat → Nat) : List AVal → List AVal
  | [] => []
  | v :: l => v.rep σ π :: subList σ π l
end
def posIn (d : Nat → Bool) : Option (Nat × Nat) → Bool
  | none => true
  | some (i, _) => d i
mutual
/-- Does it name blocks of d alone? -/
def AVal.within (d : Nat → Bool) : AVal → Bool
  | .ptr a => posIn d a
  | .slice a _ _ _ => posIn d a
  | .map (some r) => d r
  | .func _ a b => withinList d a && withinList d b
  | .iface _ v => v.within d
  | .agg l => withinList d l
  | .tuple l => withinList d l
  | .ptrE i _ _ _ => d i
  | .sliceS i _ _ _ _ => d i
  | .sliceA i _ _ => d i
  | _ => true
def withinList (d : Nat → Bool) : List AVal → Bool
  | [] => true
  | v :: l => v.within d && withinList d l
end
/-- The renaming seen through a pattern. -/
def Ren.via (f : Ren) (d : Nat → Bool) (π : Nat → Nat) : Ren := fun i => if d i then f (π i) else none
theorem Ren.via_in {f : Ren} {d : Nat → Bool} {π : Nat → Nat} {i : Nat} (h : d i = true) : f.via d π i = f (π i) := if_pos h
theorem subList_length (σ : Nat → IE) (π : Nat → Nat) (l : List AVal) : (subList σ π l).length = l.length := by
  induction l with
  | nil => rfl
  | cons v l ih => simp [subList, ih]
theorem subList_get (σ : Nat → IE) (π : Nat → Nat) (l : List AVal) (j : Nat) : (subList σ π l)[j]? = (l[j]?).map (AVal.rep σ π) := by
  induction l generalizing j with
  | nil => simp [subList]
  | cons v l ih => cases j <;> simp [subList, ih]
theorem withinList_get {d : Nat → Bool} {l : List AVal} (h : withinList d l = true) {j : Nat} {v : AVal} (hv : l[j]? = some v) : v.within d = true := by
  induction l generalizing j with
  | nil => simp at hv
  | cons x l ih =>
    obtain ⟨h1, h2⟩ := and_split h
    cases j with
    | zero => simp at hv; subst hv; exact h1
    | succ j => exact ih h2 (by simpa using hv)
section
variable {ρ : Env} {f : Ren} {σ : Nat → IE} {π : Nat → Nat} {d : Nat → Bool}
theorem SRel.sub {l : List IE} {s : ByteArray} : SRel ρ (l.map (IE.rep σ)) s ↔ SRel (ρ.rep σ) l s := by
  unfold SRel
  rw [List.map_map]
  have : (fun x => IE.ev ρ x) ∘ IE.rep σ = fun x => IE.ev (ρ.rep σ) x := funext fun e => IE.rep_ev ρ σ e
  rw [this]
mutual
theorem VRel.sub_of : ∀ (v : AVal) (u : Value), v.within d = true → VRel ρ f (v.rep σ π) u → VRel (ρ.rep σ) (f.via d π) v u := by
  intro v u hw h
  cases v with
  | bool b =>
    simp only [AVal.rep] at h
    cases h
    rw [BE.rep_ev]
    exact .bool b
  | int k e =>
    simp only [AVal.rep] at h
    cases h
    rw [IE.rep_ev]
    exact .int k e
  | str l =>
    simp only [AVal.rep] at h
    cases h; rename_i hs
    exact .str (SRel.sub.1 hs)
  | ptr a =>
    cases a with
    | none => simp only [AVal.rep, posSub] at h; cases h; exact .nilPtr
    | some p =>
      obtain ⟨i, o⟩ := p
      simp only [AVal.rep, posSub] at h
      cases h; rename_i hf
      exact .ptr (by rw [Ren.via_in hw]; exact hf)
  | slice a n c g =>
    cases a with
    | none => simp only [AVal.rep, posSub] at h; cases h; exact .nilSlice
    | some p =>
      obtain ⟨i, o⟩ := p
      have e : f.via d π i = f (π i) := Ren.via_in hw
      simp only [AVal.rep, posSub] at h
      cases h with
      | slice hf => exact .slice (e.trans hf)
      | sliceG hf hn hc hs => exact .sliceG (e.trans hf) hn hc hs
      | sliceE hf hg hs => exact .sliceE (e.trans hf) hg hs
  | map r =>
    cases r with
    | none => simp only [AVal.rep] at h; cases h; exact .nilMap
    | some r =>
      simp only [AVal.rep] at h
      cases h; rename_i hf
      exact .map (by rw [Ren.via_in hw]; exact hf)
  | func fn a b =>
    obtain ⟨hwa, hwb⟩ := and_split hw
    simp only [AVal.rep] at h
    cases h; rename_i a' b' h1 h3 h2 h4
    have ka := subList_of a a' hwa ⟨h1, h3⟩
    have kb := subList_of b b' hwb ⟨h2, h4⟩
    exact .func ka.1 kb.1 ka.2 kb.2
  | nilFunc => simp only [AVal.rep] at h; cases h; exact .nilFunc
  | iface t v =>
    simp only [AVal.rep] at h
    cases h; rename_i v' h1
    exact .iface (VRel.sub_of v v' hw h1)
  | nilIface => simp only [AVal.rep] at h; cases h; exact .nilIface
  | agg l =>
    simp only [AVal.rep] at h
    cases h; rename_i a' h1 h2
    have k := subList_of l a' hw ⟨h1, h2⟩
    exact .agg k.1 k.2
  | tuple l =>
    simp only [AVal.rep] at h
    cases h; rename_i a' h1 h2
    have k := subList_of l a' hw ⟨h1, h2⟩
    exact .tuple k.1 k.2
  | ptrE i e s c =>
    simp only [AVal.rep] at h
    cases h; rename_i L hf h0
    rw [IE.rep_ev] at h0 ⊢
    exact .ptrE (by rw [Ren.via_in hw]; exact hf) h0
  | sliceS i a l s nn =>
    simp only [AVal.rep] at h
    cases h with
    | sliceS hf h0 hl hc =>
      rw [IE.rep_ev] at h0 hl hc ⊢
      rw [IE.rep_ev]
      exact .sliceS (by rw [Ren.via_in hw]; exact hf) h0 hl hc
    | sliceZ hl ha =>
      rw [IE.rep_ev] at hl
      exact .sliceZ hl ha
  | sliceA i l s =>
    simp only [AVal.rep] at h
    cases h with
    | sliceA hf hl hc hs =>
      rw [IE.rep_ev] at hl hc ⊢
      exact .sliceA (by rw [Ren.via_in hw]; exact hf) hl hc hs
    | sliceN hl =>
      rw [IE.rep_ev] at hl
      exact .sliceN hl
  | strS c l =>
    simp only [AVal.rep] at h
    cases h; rename_i s hs hl
    rw [IE.rep_ev] at hl
    exact .strS hl (fun j b hb => by have := hs j b hb; rw [IE.rep_ev] at this; exact this)
theorem subList_of : ∀ (l : List AVal) (a : Array Value), withinList d l = true → LRel ρ f (subList σ π l) a → LRel (ρ.rep σ) (f.via d π) l a := by
  intro l a hw h
  refine ⟨by rw [h.1, subList_length], ?_⟩
  intro j v v' hv hv'
  cases l with
  | nil => simp at hv
  | cons x l =>
    obtain ⟨h1, h2⟩ := and_split hw
    cases j with
    | zero =>
      simp at hv
      subst hv
      exact VRel.sub_of x v' h1 (h.2 0 _ v' rfl hv')
    | succ j =>
      have hl : LRel ρ f (subList σ π l) (a.extract 1 a.size) := by
        refine ⟨by have := h.1; simp [subList] at this; simp [subList_length, this], fun i y y' hy hy' => ?_⟩
        have e : (a.extract 1 a.size)[i]? = a[i + 1]? := by
          rw [Array.getElem?_extract]
          split
          · rw [Nat.add_comm]
          · rw [Array.getElem?_eq_none (by omega)]
        exact h.2 (i + 1) y y' (by simpa [subList] using hy) (by rw [← e]; exact hy')
      have k := subList_of l (a.extract 1 a.size) h2 hl
      refine k.2 j v v' (by simpa using hv) ?_
      rw [Array.getElem?_extract]
      have := (Array.getElem?_eq_some_iff.1 hv').1
      rw [if_pos (by omega), Nat.add_comm]
      exact hv'
end
mutual
theorem VRel.sub_to : ∀ (v : AVal) (u : Value), VRel (ρ.rep σ) (f.via d π) v u → VRel ρ f (v.rep σ π) u := by
  intro v u h
  have fin : ∀ {i : Nat} {L : Loc}, f.via d π i = some L → f (π i) = some L := by
    intro i L h
    unfold Ren.via at h
    split at h
    · exact h
    · cases h
  cases v with
  | bool b =>
    simp only [AVal.rep]
    cases h
    rw [← BE.rep_ev]
    exact .bool _
  | int k e =>
    simp only [AVal.rep]
    cases h
    rw [← IE.rep_ev]
    exact .int k _
  | str l =>
    simp only [AVal.rep]
    cases h; rename_i hs
    exact .str (SRel.sub.2 hs)
  | ptr a =>
    cases h with
    | nilPtr => exact .nilPtr
    | ptr hf => exact .ptr (fin hf)
  | slice a n c g =>
    cases h with
    | nilSlice => exact .nilSlice
    | slice hf => exact .slice (fin hf)
    | sliceG hf hn hc hs => exact .sliceG (fin hf) hn hc hs
    | sliceE hf hg hs => exact .sliceE (fin hf) hg hs
  | map r =>
    cases h with
    | nilMap => exact .nilMap
    | map hf => exact .map (fin hf)
  | func fn a b =>
    simp only [AVal.rep]
    cases h; rename_i a' b' h1 h3 h2 h4
    have ka := subList_to a a' ⟨h1, h3⟩
    have kb := subList_to b b' ⟨h2, h4⟩
    exact .func ka.1 kb.1 ka.2 kb.2
  | nilFunc => cases h; exact .nilFunc
  | iface t v =>
    cases h; rename_i v' h1
    exact .iface (VRel.sub_to v v' h1)
  | nilIface => cases h; exact .nilIface
  | agg l =>
    simp only [AVal.rep]
    cases h; rename_i a' h1 h2
    have k := subList_to l a' ⟨h1, h2⟩
    exact .agg k.1 k.2
  | tuple l =>
    simp only [AVal.rep]
    cases h; rename_i a' h1 h2
    have k := subList_to l a' ⟨h1, h2⟩
    exact .tuple k.1 k.2
  | ptrE i e s c =>
    simp only [AVal.rep]
    cases h; rename_i L hf h0
    rw [← IE.rep_ev] at h0 ⊢
    exact .ptrE (fin hf) h0
  | sliceS i a l s nn =>
    simp only [AVal.rep]
    cases h with
    | sliceS hf h0 hl hc =>
      rw [← IE.rep_ev] at h0 hl hc ⊢
      rw [← IE.rep_ev]
      exact .sliceS (fin hf) h0 hl hc
    | sliceZ hl ha =>
      rw [← IE.rep_ev] at hl
      exact .sliceZ hl ha
  | sliceA i l s =>
    simp only [AVal.rep]
    cases h with
    | sliceA hf hl hc hs =>
      rw [← IE.rep_ev] at hl hc ⊢
      exact .sliceA (fin hf) hl hc hs
    | sliceN hl =>
      rw [← IE.rep_ev] at hl
      exact .sliceN hl
  | strS c l =>
    simp only [AVal.rep]
    cases h; rename_i s hs hl
    rw [← IE.rep_ev] at hl
    exact .strS hl (fun j b hb => by rw [IE.rep_ev]; exact hs j b hb)
theorem subList_to : ∀ (l : List AVal) (a : Array Value), LRel (ρ.rep σ) (f.via d π) l a → LRel ρ f (subList σ π l) a := by
  intro l a h
  refine ⟨by rw [h.1, subList_length], ?_⟩
  intro j v v' hv hv'
  cases l with
  | nil => simp [subList] at hv
  | cons x l =>
    cases j with
    | zero =>
      simp [subList] at hv
      subst hv
      exact VRel.sub_to x v' (h.2 0 x v' rfl hv')
    | succ j =>
      have hl : LRel (ρ.rep σ) (f.via d π) l (a.extract 1 a.size) := by
        refine ⟨by have := h.1; simp at this; simp [this], fun i y y' hy hy' => ?_⟩
        have e : (a.extract 1 a.size)[i]? = a[i + 1]? := by
          rw [Array.getElem?_extract]
          split
          · rw [Nat.add_comm]
          · rw [Array.getElem?_eq_none (by omega)]
        exact h.2 (i + 1) y y' (by simpa using hy) (by rw [← e]; exact hy')
      have k := subList_to l (a.extract 1 a.size) hl
      refine k.2 j v v' (by simpa [subList] using hv) ?_
      rw [Array.getElem?_extract]
      have := (Array.getElem?_eq_some_iff.1 hv').1
      rw [if_pos (by omega), Nat.add_comm]
      exact hv'
end
end

/-! all entries of a tree -/
def T.allK {α : Type} (p : Nat → α → Bool) : T α → Nat → Nat → Bool
  | .nil, _, _ => true
  | .node v l r, a, b =>
    match (match v with
      | none => true
      | some x => p b x) with
    | true =>
      match T.allK p l (2 * a) (a + b) with
      | true => T.allK p r (2 * a) (2 * a + b)
      | false => false
    | false => false
theorem T.allK_get {α : Type} {p : Nat → α → Bool} : ∀ (t : T α) (a b : Nat), T.allK p t a b = true → ∀ (k : Nat) (x : α), t.getS k = some x → p (a * k + b) x = true := by
  intro t
  induction t with
  | nil => intro a b _ k x h; simp [T.getS] at h
  | node v l r ihl ihr =>
    intro a b h k x hx
    simp only [T.allK] at h
    split at h
    · rename_i h1
      split at h
      · rename_i h2
        simp only [T.getS] at hx
        cases hk : Nat.beq k 0
        · simp only [hk] at hx
          have hk0 : k ≠ 0 := by intro e; simp [e] at hk
          cases ho : Nat.beq (k % 2) 1
          · simp only [ho] at hx
            have ho' : k % 2 ≠ 1 := by intro e; simp [e] at ho
            have := ihr _ _ h _ _ hx
            have e : 2 * a * ((k - 1) / 2) + (2 * a + b) = a * k + b := by
              have e1 : k = 2 * ((k - 1) / 2) + 2 := by omega
              generalize (k - 1) / 2 = m at *
              subst e1
              rw [Nat.mul_add, ← Nat.mul_assoc, Nat.mul_comm a 2]
              omega
            rw [e] at this
            exact this
          · simp only [ho] at hx
            have ho' : k % 2 = 1 := Nat.eq_of_beq_eq_true ho
            have := ihl _ _ h2 _ _ hx
            have e : 2 * a * ((k - 1) / 2) + (a + b) = a * k + b := by
              have e1 : k = 2 * ((k - 1) / 2) + 1 := by omega
              generalize (k - 1) / 2 = m at *
              subst e1
              rw [Nat.mul_add, ← Nat.mul_assoc, Nat.mul_comm a 2]
              omega
            rw [e] at this
            exact this
        · simp only [hk] at hx
          have hk0 : k = 0 := Nat.eq_of_beq_eq_true hk
          subst hk0 hx
          simpa using h1
      · cases h
    · cases h
theorem T.all_get {α : Type} {p : Nat → α → Bool} {t : T α} (h : T.allK p t 1 0 = true) {k : Nat} {x : α} (hx : t.get k = some x) : p k x = true := by
  have := T.allK_get t 1 0 h k x (by rw [← T.get_eq]; exact hx)
  simpa using this

/-! a state against a pattern -/
def look : List (Nat × Nat) → Nat → Option Nat
  | [], _ => none
  | (i, j) :: l, k =>
    match Nat.beq i k with
    | true => some j
    | false => look l k
def inR (r : List (Nat × Nat)) (i : Nat) : Bool :=
  match look r i with
  | some _ => true
  | none => false
def toR (r : List (Nat × Nat)) (i : Nat) : Nat :=
  match look r i with
  | some j => j
  | none => 0
def memN (j : Nat) : List (Nat × Nat) → Bool
  | [] => false
  | p :: l =>
    match Nat.beq p.2 j with
    | true => true
    | false => memN j l
def apartL : List (Nat × Nat) → Bool
  | [] => true
  | p :: l =>
    match memN p.2 l with
    | true => false
    | false => apartL l
def belowL (n : Nat) : List (Nat × Nat) → Bool
  | [] => true
  | p :: l => Nat.blt p.1 n && belowL n l
theorem memN_ok {j : Nat} : ∀ {l : List (Nat × Nat)}, memN j l = false → ∀ i k, look l i = some k → k ≠ j := by
  intro l
  induction l with
  | nil => intro _ i k h; simp [look] at h
  | cons p l ih =>
    intro h i k hk
    unfold memN at h
    split at h
    · cases h
    · rename_i hp
      obtain ⟨a, b⟩ := p
      simp only [look] at hk
      split at hk
      · cases hk
        intro e
        simp [e] at hp
      · exact ih h i k hk
theorem apartL_ok : ∀ {l : List (Nat × Nat)}, apartL l = true → ∀ i i' k, look l i = some k → look l i' = some k → i = i' := by
  intro l
  induction l with
  | nil => intro _ i i' k h; simp [look] at h
  | cons p l ih =>
    intro h i i' k h1 h2
    obtain ⟨a, b⟩ := p
    unfold apartL at h
    split at h
    · cases h
    · rename_i hm
      simp only [look] at h1 h2
      split at h1
      · rename_i ha
        split at h2
        · rename_i ha'
          rw [← Nat.eq_of_beq_eq_true ha, ← Nat.eq_of_beq_eq_true ha']
        · cases h1
          exact absurd rfl (memN_ok hm _ _ h2)
      · split at h2
        · cases h2
          exact absurd rfl (memN_ok hm _ _ h1)
        · exact ih h i i' k h1 h2
theorem belowL_ok {n : Nat} : ∀ {l : List (Nat × Nat)}, belowL n l = true → ∀ i k, look l i = some k → i < n := by
  intro l
  induction l with
  | nil => intro _ i k h; simp [look] at h
  | cons p l ih =>
    intro h i k hk
    obtain ⟨a, b⟩ := p
    obtain ⟨h1, h2⟩ := and_split h
    simp only [look] at hk
    split at hk
    · rename_i ha
      rw [← Nat.eq_of_beq_eq_true ha]
      simpa [Nat.blt_eq] using h1
    · exact ih h2 i k hk
def valFits (σ : Nat → IE) (r : List (Nat × Nat)) (c : T AVal) (k : Nat) (v : AVal) : Bool :=
  match v.within (inR r), c.get k with
  | true, some u => (v.rep σ (toR r)).same u
  | _, _ => false
def objFits (σ : Nat → IE) (r : List (Nat × Nat)) : AObj → AObj → Bool
  | .cells c e o t, .cells c' e' o' t' => Nat.beq e e' && (bEq o o' && (Nat.beq t t' && T.allK (valFits σ r c') c 1 0))
  | .arr ks c n o, .arr ks' c' n' o' => kindsSame ks ks' && ((c.rep σ).eq c' && ((n.rep σ).eq n' && bEq o o'))
  | .ghost k vs c, .ghost k' vs' c' => Nat.beq k k' && (ieList (vs.map (IE.rep σ)) vs' && T.allK (valFits σ r c') c 1 0)
  | .win i s c e o, .win i' s' c' e' o' => (i.rep σ).eq i' && (Nat.beq s s' && (Nat.beq e e' && (bEq o o' && T.allK (valFits σ r c') c 1 0)))
  | _, _ => false
def heapFits (σ : Nat → IE) (r : List (Nat × Nat)) (h : T AObj) (i : Nat) (o : AObj) : Bool :=
  match look r i with
  | some j =>
    match h.get j with
    | some o' => objFits σ r o o'
    | none => false
  | none => false
def ASt.fits (σ : Nat → IE) (r : List (Nat × Nat)) (p s : ASt) : Bool :=
  T.allK (valFits σ r s.tm) p.tm 1 0 && (T.allK (heapFits σ r s.hp) p.hp 1 0 && (apartL r && belowL p.nx r))
theorem inR_look {r : List (Nat × Nat)} {i j : Nat} (h : look r i = some j) : inR r i = true ∧ toR r i = j := by
  unfold inR toR
  rw [h]
  exact ⟨rfl, rfl⟩
section
variable {ρ : Env} {B : Nat → Prop} {W w : World} {f : Ren} {σ : Nat → IE} {r : List (Nat × Nat)}
theorem valFits_ok {c : T AVal} {k : Nat} {v : AVal} (h : valFits σ r c k v = true) : v.within (inR r) = true ∧ c.get k = some (v.rep σ (toR r)) := by
  unfold valFits at h
  split at h
  · rename_i u h1 h2
    exact ⟨h1, by rw [h2, AVal.same_eq h]⟩
  · cases h
theorem objFits_ok {o o' : AObj} (h : objFits σ r o o' = true) {L : Loc} (ho : ORel ρ f B w L o') : ORel (ρ.rep σ) (f.via (inR r) (toR r)) B w L o ∧ o.own = o'.own ∧ ∀ b, o.foot (ρ.rep σ) w L b ↔ o'.foot ρ w L b := by
  unfold objFits at h
  split at h
  · rename_i c e ow t c' e' ow' t'
    obtain ⟨h1, h2⟩ := and_split h
    obtain ⟨h2, h3⟩ := and_split h2
    obtain ⟨h3, h4⟩ := and_split h3
    have h1 := Nat.eq_of_beq_eq_true h1
    have h2 := bEq_eq h2
    have h3 := Nat.eq_of_beq_eq_true h3
    subst h1 h2 h3
    obtain ⟨cs, fr, q1, q2, q3, q4⟩ := ho
    refine ⟨⟨cs, fr, q1, q2, q3, fun j v hj => ?_⟩, rfl, fun _ => Iff.rfl⟩
    obtain ⟨k1, k2⟩ := valFits_ok (T.all_get h4 hj)
    obtain ⟨p1, v', p2, p3⟩ := q4 _ _ k2
    exact ⟨p1, v', p2, VRel.sub_of v v' k1 p3⟩
  · rename_i ks c n ow ks' c' n' ow'
    obtain ⟨h1, h2⟩ := and_split h
    obtain ⟨h2, h3⟩ := and_split h2
    obtain ⟨h3, h4⟩ := and_split h3
    have h1 := kindsSame_eq h1
    have h2 := IE.eq_eq h2
    have h3 := IE.eq_eq h3
    have h4 := bEq_eq h4
    subst h1 h2 h3 h4
    obtain ⟨cs, el, fr, q1, q2, q3, q4⟩ := ho
    refine ⟨⟨cs, el, fr, q1, q2, q3, fun j c k hj hk => ?_⟩, rfl, fun _ => Iff.rfl⟩
    have := q4 j c k (by rw [IE.rep_ev]; exact hj) hk
    simpa only [IE.rep_ev] using this
  · rename_i k vs c k' vs' c'
    obtain ⟨h1, h2⟩ := and_split h
    obtain ⟨h2, h3⟩ := and_split h2
    have h1 := Nat.eq_of_beq_eq_true h1
    have h2 := ieList_eq h2
    subst h1 h2
    obtain ⟨⟨q0, q1⟩, qb, cs, el, fr, q2, q3, q4, q5⟩ := ho
    refine ⟨⟨⟨?_, q1⟩, qb, cs, el, fr, q2, q3, q4, fun j v hj => ?_⟩, rfl, fun _ => Iff.rfl⟩
    · have := q0
      rw [List.map_map] at this
      have e : (fun x => IE.ev ρ x) ∘ IE.rep σ = fun x => IE.ev (ρ.rep σ) x := funext fun e => IE.rep_ev ρ σ e
      rw [e] at this
      exact this
    · obtain ⟨k1, k2⟩ := valFits_ok (T.all_get h3 hj)
      obtain ⟨p1, v', p2, p3⟩ := q5 _ _ k2
      exact ⟨p1, v', p2, VRel.sub_of v v' k1 p3⟩
  · rename_i i s c e o i' s' c' e' o'
    obtain ⟨g1, g2⟩ := and_split h
    obtain ⟨g3, g4⟩ := and_split g2
    obtain ⟨g5, g6⟩ := and_split g4
    obtain ⟨g7, g8⟩ := and_split g6
    have h1 := IE.eq_eq g1
    have h2 := Nat.eq_of_beq_eq_true g3
    have h3 := Nat.eq_of_beq_eq_true g5
    have h4 := bEq_eq g7
    clear h g1 g2 g3 g4 g5 g6 g7
    subst h1 h2 h3 h4
    obtain ⟨cs, fr, q1, q2, q3, q0, q4⟩ := ho
    rw [IE.rep_ev] at q0
    refine ⟨⟨cs, fr, q1, q2, q3, q0, fun j v hj => ?_⟩, rfl, fun _ => Iff.rfl⟩
    obtain ⟨k1, k2⟩ := valFits_ok (T.all_get g8 hj)
    obtain ⟨v', p2, p3⟩ := q4 _ _ k2
    rw [IE.rep_ev] at p2
    exact ⟨v', p2, VRel.sub_of v v' k1 p3⟩
  · cases h
theorem heapFits_ok {h : T AObj} {i : Nat} {o : AObj} (hf : heapFits σ r h i o = true) : ∃ j o', look r i = some j ∧ h.get j = some o' ∧ objFits σ r o o' = true := by
  unfold heapFits at hf
  split at hf
  · rename_i j hj
    split at hf
    · rename_i o' ho
      exact ⟨j, o', hj, ho, hf⟩
    · cases hf
  · cases hf
/-- From a state to a pattern that it fits. -/
theorem ASt.fits_ok {p s : ASt} (h : p.fits σ r s = true) {n N N' : Nat} {a : Act} (hs : StRel ρ B W n N f s a w) : StRel (ρ.rep σ) B W n N' (f.via (inR r) (toR r)) p a w := by
  obtain ⟨h1, h2⟩ := and_split h
  obtain ⟨h2, h3⟩ := and_split h2
  obtain ⟨h3, h4⟩ := and_split h3
  have via : ∀ {i L}, f.via (inR r) (toR r) i = some L → ∃ j, look r i = some j ∧ f j = some L := by
    intro i L hi
    unfold Ren.via at hi
    split at hi
    · rename_i hd
      unfold inR at hd
      split at hd
      · rename_i j hj
        rw [(inR_look hj).2] at hi
        exact ⟨j, hj, hi⟩
      · cases hd
    · cases hi
  have hr := hs.heap
  refine ⟨hs.size, fun d v hd => ?_, hs.defers, ⟨hr.below, hr.bsize, fun i L hi => ?_, ?_, fun i L o hi ho => ?_⟩, fun j h5 h6 => ?_⟩
  · obtain ⟨k1, k2⟩ := valFits_ok (T.all_get h1 hd)
    exact VRel.sub_of v _ k1 (hs.tm d _ k2)
  · obtain ⟨j, _, hj⟩ := via hi
    exact hr.lt j L hj
  · intro i j Li Lj oi oj hi hj gi gj hij hown b hb hb'
    obtain ⟨i', oi', a1, a2, a3⟩ := heapFits_ok (T.all_get h2 gi)
    obtain ⟨j', oj', b1, b2, b3⟩ := heapFits_ok (T.all_get h2 gj)
    obtain ⟨i2, c1, c2⟩ := via hi
    obtain ⟨j2, d1, d2⟩ := via hj
    rw [a1] at c1; cases c1
    rw [b1] at d1; cases d1
    have hne : i' ≠ j' := fun e => hij (apartL_ok h3 i j i' a1 (by rw [e]; exact b1))
    obtain ⟨_, e1, e2⟩ := objFits_ok a3 (hr.obj i' Li oi' c2 a2)
    obtain ⟨_, _, e4⟩ := objFits_ok b3 (hr.obj j' Lj oj' d2 b2)
    exact hr.apart i' j' Li Lj oi' oj' c2 d2 a2 b2 hne (by rw [← e1]; exact hown) b ((e2 b).1 hb) ((e4 b).1 hb')
  · obtain ⟨j, o', a1, a2, a3⟩ := heapFits_ok (T.all_get h2 ho)
    obtain ⟨j2, c1, c2⟩ := via hi
    rw [a1] at c1; cases c1
    exact (objFits_ok a3 (hr.obj j L o' c2 a2)).1
  · unfold Ren.via
    split
    · rename_i hd
      unfold inR at hd
      split at hd
      · rename_i k hk
        exact absurd (belowL_ok h4 j k hk) (by omega)
      · cases hd
    · rfl
end

/-! pieces of code, from a pattern to patterns -/
/-- A list of what stands for the symbols. -/
def sub (l : List IE) : Nat → IE := fun k => l.getD k (.lit 0)
def exitSame : AExit → AExit → Bool
  | .normal, .normal => true
  | .ret, .ret => true
  | .exit i, .exit j => Nat.beq i j
  | _, _ => false
theorem exitSame_eq {a b : AExit} (h : exitSame a b = true) : a = b := by
  cases a <;> cases b <;> simp [exitSame] at h <;> simp [h]
def runTo (C : Ctx) (call : ACall) (lp : Nat → ACode) (dr : ADraw) (n L : Nat) (c : Code) (s : ASt) (e : AExit) (p : ASt) (l : List IE) (r : List (Nat × Nat)) : Bool :=
  match aCode C call lp dr n L c s with
  | some (e', s') => exitSame e' e && p.fits (sub l) r s'
  | none => false
theorem runTo_ok {C : Ctx} {P : Program} {ρ : Env} {B : Nat → Prop} {W : World} (hC : C.Ok P ρ) {call : ACall} (hcall : CallOk P ρ B W call) {lp : Nat → ACode} {dr : ADraw} (hdr : DrawOk P ρ B W dr) {n L : Nat} {c : Code} (hlp : ∀ b ∈ loopsOf c, LoopOk P ρ B W n b (lp (Code.key b)))
    {s p : ASt} {e : AExit} {l : List IE} {r : List (Nat × Nat)} (h : runTo C call lp dr n L c s e p l r = true) {f : Ren} {a : Act} {w : World} (hs : ∀ N, StRel ρ B W n N f s a w) {Q : Exit → Act → World → Prop} (hQ : ∀ (f' : Ren) a' w', f.le f' → (∀ j, j < s.nx → f' j = f j) → (∀ N, StRel (ρ.rep (sub l)) B W n N (f'.via (inR r) (toR r)) p a' w') → Q e.to a' w') : c.wp P Q a w := by
  unfold runTo at h
  split at h
  · rename_i e' s' hr
    obtain ⟨h1, h2⟩ := and_split h
    have h1 := exitSame_eq h1
    subst h1
    obtain ⟨q1, q2⟩ := aCode_ok hC hcall hdr L c hlp _ _ _ hr
    exact q2 s'.nx f a w Q (Nat.le_refl _) (hs s'.nx) fun f' a' w' hle ho hs' => hQ f' a' w' hle (fun j hj => ho j (.inl hj)) fun N => ASt.fits_ok h2 hs'
  · cases h

/-- The state behind a piece. -/
def stOf : Option (AExit × ASt) → ASt
  | some (_, s) => s
  | none => ⟨.nil, .nil, 0⟩
def endsBy (e : AExit) : Option (AExit × ASt) → Bool
  | some (e', _) => exitSame e' e
  | none => false
theorem piece_ok {C : Ctx} {P : Program} {ρ : Env} {B : Nat → Prop} {W : World} (hC : C.Ok P ρ) {call : ACall} (hcall : CallOk P ρ B W call) {lp : Nat → ACode} {dr : ADraw} (hdr : DrawOk P ρ B W dr) {n L : Nat} {c : Code} (hlp : ∀ b ∈ loopsOf c, LoopOk P ρ B W n b (lp (Code.key b)))
    {s : ASt} {e : AExit} (h : endsBy e (aCode C call lp dr n L c s) = true) {f : Ren} {a : Act} {w : World} (hs : ∀ N, StRel ρ B W n N f s a w) {Q : Exit → Act → World → Prop}
    (hQ : ∀ (f' : Ren) a' w', f.le f' → (∀ j, j < s.nx → f' j = f j) → (∀ N, StRel ρ B W n N f' (stOf (aCode C call lp dr n L c s)) a' w') → Q e.to a' w') : c.wp P Q a w := by
  unfold endsBy at h
  split at h
  · rename_i e' s' hr
    have h := exitSame_eq h
    subst h
    obtain ⟨q1, q2⟩ := aCode_ok hC hcall hdr L c hlp _ _ _ hr
    refine q2 s'.nx f a w Q (Nat.le_refl _) (hs s'.nx) fun f' a' w' hle ho hs' => hQ f' a' w' hle (fun j hj => ho j (.inl hj)) fun N => ?_
    rw [hr]
    exact ⟨hs'.size, hs'.tm, hs'.defers, hs'.heap, fun j h1 h2 => by rw [ho j (.inr h1)]; exact (hs N).fresh j (Nat.le_trans q1 h1) h2⟩
  · cases h
/-- Another expression for a slot, of the same number. -/
theorem StRel.slot {ρ : Env} {B : Nat → Prop} {W : World} {n N : Nat} {f : Ren} {s : ASt} {a : Act} {w : World} (hs : StRel ρ B W n N f s a w) {d : Nat} {k : IntKind} {e e' : IE} (hd : s.tm.get d = some (.int k e)) (he : e.ev ρ = e'.ev ρ) : StRel ρ B W n N f ⟨s.tm.set d (.int k e'), s.hp, s.nx⟩ a w := by
  refine ⟨hs.size, fun j v hj => ?_, hs.defers, hs.heap, hs.fresh⟩
  rcases T.get_set hj with ⟨rfl, rfl⟩ | ⟨_, hj⟩
  · have := hs.tm _ _ hd
    generalize a.tmps.getD j Go.undef = u at this
    cases this
    rw [he]
    exact .int k e'
  · exact hs.tm _ _ hj
theorem StRel.env {ρ ρ' : Env} (h : ρ = ρ') {B : Nat → Prop} {W : World} {n N : Nat} {f : Ren} {s : ASt} {a : Act} {w : World} (hs : StRel ρ B W n N f s a w) : StRel ρ' B W n N f s a w := h ▸ hs

/-- A function's entry. -/
theorem enter_ok {P : Program} {ρ : Env} {B : Nat → Prop} {W : World} {g : FuncId} {fn : Func} {c : Code} (hf : P.funcs[g]? = some fn) (hb : fn.body = some c) {f : Ren} {args : List AVal} {args' : Array Value} {h : T AObj} {nx : Nat} {w : World}
    (hr : HRel ρ B W f h w) (ha : LRel ρ f args args') (hn : ∀ j, nx ≤ j → f j = none) {R : Ending → World → Prop}
    (hc : ∀ a, (∀ N, StRel ρ B W (args.length + (fn.ntmps - args.length)) N f ⟨treeOf args 0 .nil, h, nx⟩ a w) → c.wp P (bodyPost P fn R) a w) : Calls P g args' w R := by
  refine calls_of_wp hf hb (hc _ fun N => ⟨?_, ?_, rfl, hr, fun j h1 _ => hn j h1⟩)
  · simp [ha.1]
  · intro j v hj
    rcases treeOf_ok _ _ _ _ _ hj with ⟨_, hj⟩ | hj
    · obtain ⟨v', h1, h2⟩ := ha.get (by simpa using hj)
      have : (args' ++ Array.replicate (fn.ntmps - args'.size) Go.undef).getD j Go.undef = v' := by
        rw [Array.getD_eq_getD_getElem?, Array.getElem?_append_left (Array.getElem?_eq_some_iff.1 h1).1, h1]
        rfl
      rw [this]
      exact h2
    · (rw [T.get_nil] at hj; cases hj)
/-- A function's end. -/
theorem leave_ok {C : Ctx} {P : Program} {ρ : Env} {B : Nat → Prop} {W : World} (hC : C.Ok P ρ) {fn : Func} {n N : Nat} {f : Ren} {s : ASt} {a : Act} {w : World} (hs : StRel ρ B W n N f s a w) {vs : List AVal} (hv : aRess C s.tm s.hp fn.results.toList = some vs)
    {R : Ending → World → Prop} (hR : ∀ v', VRel ρ f (aResult vs) v' → R (.returned v') w) : bodyPost P fn R .ret a w ∧ bodyPost P fn R .normal a w := by
  obtain ⟨us, h1, h2⟩ := aRess_ok (P := P) hC hs.heap hs.tm _ _ hv
  have : a.defers = [] ∧ ∃ v, (results fn a.tmps).run P w = .ok v w ∧ R (.returned v) w := ⟨hs.defers, _, run_results h1, hR _ (aResult_ok h2)⟩
  exact ⟨this, this⟩
theorem loopFree {P : Program} {ρ : Env} {B : Nat → Prop} {W : World} {n : Nat} {c : Code} : ∀ b ∈ loopsOf c, LoopOk P ρ B W n b ((fun _ _ => none) (Code.key b)) := fun _ _ => LoopOk.none

/-! environments of few symbols -/
def E (l : List Int) : Env := { i := fun k => l.getD k 0, b := fun _ => false }
theorem E_rep (l : List Int) (σ : List IE) : (E l).rep (sub σ) = E (σ.map (·.ev (E l))) := by
  unfold E Env.rep sub
  congr 1
  funext k
  simp only [List.getD, List.getElem?_map]
  cases σ[k]? <;> rfl
theorem symCells_rel {ρ ρ' : Env} {f g : Ren} {ks : List IntKind} {off off' : Nat} {a : Array Value} (h : LRel ρ f (symCells ks off) a) (he : ∀ j, j < ks.length → ρ'.i (off' + j) = ρ.i (off + j)) : LRel ρ' g (symCells ks off') a := by
  refine ⟨by rw [h.1, symCells_length, symCells_length], fun j v v' hv hv' => ?_⟩
  obtain ⟨k, h1, rfl⟩ := symCells_get ks off' j v hv
  have hlt := (List.getElem?_eq_some_iff.1 h1).1
  have h2 : (symCells ks off)[j]? = some (.int k (.var (off + j))) := by
    have hl : j < (symCells ks off).length := by rw [symCells_length]; exact hlt
    have := List.getElem?_eq_getElem hl
    obtain ⟨k2, h3, h4⟩ := symCells_get ks off j _ this
    rw [h1] at h3
    cases h3
    rw [this, h4]
  have := h.2 j _ v' h2 hv'
  cases this
  have e : (IE.var (off + j)).ev ρ = (IE.var (off' + j)).ev ρ' := (he j hlt).symm
  rw [e]
  exact .int k _

theorem VRel.tuple2 {ρ : Env} {f : Ren} {x y : AVal} {v : Value} (h : VRel ρ f (.tuple [x, y]) v) : ∃ x' y', v = .tuple #[x', y'] ∧ VRel ρ f x x' ∧ VRel ρ f y y' := by
  cases h; rename_i a h1 h2
  have h1 : a.size = 2 := h1
  obtain ⟨l⟩ := a
  match l, h1 with
  | [x', y'], _ => exact ⟨x', y', rfl, h2 0 x x' rfl rfl, h2 1 y y' rfl rfl⟩
theorem VRel.agg_inv {ρ : Env} {f : Ren} {l : List AVal} {v : Value} (h : VRel ρ f (.agg l) v) : ∃ a, v = .agg a ∧ LRel ρ f l a := by
  cases h; rename_i a h1 h2
  exact ⟨a, rfl, h1, h2⟩
theorem VRel.bool_eq {ρ : Env} {f : Ren} {b : Bool} {v : Value} (h : VRel ρ f (.bool (.lit b)) v) : v = .bool b := by
  cases h; rfl
theorem LRel.lits {ρ : Env} {f : Ren} : ∀ {l : List (IntKind × Int)} {a : List Value}, LRel ρ f (l.map fun p => .int p.1 (.lit p.2)) a.toArray → a = l.map fun p => .int p.1 p.2 := by
  intro l
  induction l with
  | nil => intro a h; have := h.1; simpa using this
  | cons p l ih =>
    intro a h
    cases a with
    | nil => have := h.1; simp at this
    | cons x a =>
      have h0 := h.2 0 _ x rfl rfl
      have ht : LRel ρ f (l.map fun p => .int p.1 (.lit p.2)) a.toArray := ⟨by have := h.1; simp at this; simp [this], fun j v v' h1 h2 => h.2 (j + 1) v v' (by simpa using h1) (by simpa using h2)⟩
      rw [ih ht]
      cases h0
      rfl

/-- A law reckoned from its arguments. -/
theorem says_ok {C : Ctx} {P : Program} {ρ : Env} (hC : C.Ok P ρ) {sm : Sums} (hsm : ∀ B W, SumsOk P ρ B W sm) {L d : Nat} {g : FuncId} {args : List AVal} {h : T AObj} {nx : Nat} {dec : Dec} (hd : dec.holds ρ) (hrun : saysTrue dec (aCallN C (aDraw C) sm L d g args h nx) = true) {args' : Array Value} {W : World} {f : Ren}
    (hr : HRel ρ (· < W.heap.size) W f h W) (ha : LRel ρ f args args') (hn : ∀ j, nx ≤ j → f j = none) : Calls P g args' W fun e w' => e = .returned (.bool true) ∧ Below W.heap.size W w' := by
  unfold saysTrue at hrun
  split at hrun
  · rename_i b h' nx' hrn
    split at hrun
    · rename_i u hu
      subst hrun
      refine Calls.mono ((aCallN_ok hC (aDraw_ok hC) (hsm _ W) L d _ _ _ _ _ _ _ hrn).2 f W args' hr ha (fun j h1 _ => hn j h1)) fun e w' hR => ?_
      obtain ⟨v', f', h1, h2, h3, h4, h5⟩ := hR
      refine ⟨?_, h4.below.below⟩
      rw [h1]
      cases h5
      rw [settle_ok hd b _ hu]
    · cases hrun
  · cases hrun

/-! loops -/
theorem loop_rounds {P : Program} {c : Code} {Q : Exit → Act → World → Prop} {ι : Type} (R : ι → Act → World → Prop) (μ : ι → Nat)
    (h : ∀ x a w, R x a w → c.wp P (Exit.then (fun a' w' => ∃ y, μ y < μ x ∧ R y a' w') Q) a w) : ∀ x a w, R x a w → (Code.loop c).wp P Q a w := by
  have key : ∀ m x a w, μ x < m → R x a w → Code.rounds P c Q m a w := by
    intro m
    induction m with
    | zero => intro x a w hm; omega
    | succ m ih =>
      intro x a w hm hx
      rw [rounds_succ]
      refine wp_mono (h x a w hx) fun e a' w' hq => ?_
      cases e with
      | normal =>
        obtain ⟨y, hy, hR⟩ := hq
        exact ih y a' w' (by omega) hR
      | _ => exact hq
  intro x a w hx
  exact wp_loop_rounds (μ x + 1) (key _ x a w (Nat.lt_succ_self _) hx)
end
end Go.Sx
