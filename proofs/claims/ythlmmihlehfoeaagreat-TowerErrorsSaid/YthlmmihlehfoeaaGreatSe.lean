/- The evaluator of the model, part Se. No condition. -/
import Derived.Test.YthlmmihlehfoeaaGreatSd
import Derived.Deep.Slices
/- Patterns: symbols put for values; from a state to a pattern of it and back. No condition. -/
set_option linter.unusedSimpArgs false
set_option linter.unusedVariables false
namespace Go.Sx
open Go.RowKit (Below)
noncomputable section

/-! symbols replaced -/
def IE.rep (σ : Nat → IE) : IE → IE
  | .lit n => .lit n
  | .var i => σ i
  | .add a b => .add (a.rep σ) (b.rep σ)
  | .sub a b => .sub (a.rep σ) (b.rep σ)
  | .mul a b => .mul (a.rep σ) (b.rep σ)
  | .wrap k a => .wrap k (a.rep σ)
  | .bits op k a b => .bits op k (a.rep σ) (b.rep σ)
  | .quo a b => .quo (a.rep σ) (b.rep σ)
  | .rem a b => .rem (a.rep σ) (b.rep σ)
  | .shl k a b => .shl k (a.rep σ) (b.rep σ)
  | .shr k a b => .shr k (a.rep σ) (b.rep σ)
  | .fn c x y z => .fn c (x.rep σ) (y.rep σ) (z.rep σ)
  | .sel s a b x y => .sel s (a.rep σ) (b.rep σ) (x.rep σ) (y.rep σ)
def Env.rep (ρ : Env) (σ : Nat → IE) : Env := { ρ with i := fun k => (σ k).ev ρ }
theorem fnI_rep (ρ : Env) (σ : Nat → IE) (c : Nat) (x y z : Int) : fnI (ρ.rep σ) c x y z = fnI ρ c x y z := rfl
theorem IE.rep_ev (ρ : Env) (σ : Nat → IE) (e : IE) : (e.rep σ).ev ρ = e.ev (ρ.rep σ) := by
  induction e with
  | lit n => rfl
  | var i => rfl
  | add a b iha ihb => simp only [IE.rep, IE.ev, iha, ihb]
  | sub a b iha ihb => simp only [IE.rep, IE.ev, iha, ihb]
  | mul a b iha ihb => simp only [IE.rep, IE.ev, iha, ihb]
  | wrap k a iha => simp only [IE.rep, IE.ev, iha]
  | bits op k a b iha ihb => simp only [IE.rep, IE.ev, iha, ihb]
  | quo a b iha ihb => simp only [IE.rep, IE.ev, iha, ihb]
  | rem a b iha ihb => simp only [IE.rep, IE.ev, iha, ihb]
  | shl k a b iha ihb => simp only [IE.rep, IE.ev, iha, ihb]
  | shr k a b iha ihb => simp only [IE.rep, IE.ev, iha, ihb]
  | fn c x y z ihx ihy ihz => simp only [IE.rep, IE.ev, ihx, ihy, ihz, fnI_rep]
  | sel s a b x y iha ihb ihx ihy => simp only [IE.rep, IE.ev, iha, ihb, ihx, ihy]
def BE.rep (σ : Nat → IE) : BE → BE
  | .lit b => .lit b
  | .var i => .var i
  | .eq a b => .eq (a.rep σ) (b.rep σ)
  | .lt a b => .lt (a.rep σ) (b.rep σ)
  | .not a => .not (a.rep σ)
theorem BE.rep_ev (ρ : Env) (σ : Nat → IE) (e : BE) : (e.rep σ).ev ρ = e.ev (ρ.rep σ) := by
  induction e with
  | lit n => rfl
  | var i => rfl
  | eq a b => simp only [BE.rep, BE.ev, IE.rep_ev]
  | lt a b => simp only [BE.rep, BE.ev, IE.rep_ev]
  | not a ih => simp only [BE.rep, BE.ev, ih]
def posSub (π : Nat → Nat) : Option (Nat × Nat) → Option (Nat × Nat)
  | none => none
  | some (i, o) => some (π i, o)
mutual
def AVal.rep (σ : Nat → IE) (π : Nat → Nat) : AVal → AVal
  | .bool b => .bool (b.rep σ)
  | .int k e => .int k (e.rep σ)
  | .str l => .str (l.map (IE.rep σ))
  | .ptr a => .ptr (posSub π a)
  | .slice a n c g => .slice (posSub π a) n c g
  | .map none => .map none
  | .map (some r) => .map (some (π r))
  | .func fn a b => .func fn (subList σ π a) (subList σ π b)
  | .nilFunc => .nilFunc
  | .iface t v => .iface t (v.rep σ π)
  | .nilIface => .nilIface
  | .agg l => .agg (subList σ π l)
  | .tuple l => .tuple (subList σ π l)
  | .ptrE i e s c => .ptrE (π i) (e.rep σ) s c
  | .sliceS i a l s nn => .sliceS (π i) (a.rep σ) (l.rep σ) s nn
  | .sliceA i l s => .sliceA (π i) (l.rep σ) s
  | .strS c l => .strS (c.rep σ) (l.rep σ)
def subList (σ : Nat → IE) (π : Nat → Nat) : List AVal → List AVal
  | [] => []
  | v :: l => v.rep σ π :: subList σ π l
end
def posIn (d : Nat → Bool) : Option (Nat × Nat) → Bool
  | none => true
  | some (i, _) => d i
mutual
/-- Does it name blocks of d alone? -/
def AVal.within (d : Nat → Bool) : AVal → Bool
  | .ptr a => posIn d a
  | .slice a _ _ _ => posIn d a
  | .map (some r) => d r
  | .func _ a b => withinList d a && withinList d b
  | .iface _ v => v.within d
  | .agg l => withinList d l
  | .tuple l => withinList d l
  | .ptrE i _ _ _ => d i
  | .sliceS i _ _ _ _ => d i
  | .sliceA i _ _ => d i
  | _ => true
def withinList (d : Nat → Bool) : List AVal → Bool
  | [] => true
  | v :: l => v.within d && withinList d l
end
/-- The renaming seen through a pattern. -/
def Ren.via (f : Ren) (d : Nat → Bool) (π : Nat → Nat) : Ren := fun i => if d i then f (π i) else none
theorem Ren.via_in {f : Ren} {d : Nat → Bool} {π : Nat → Nat} {i : Nat} (h : d i = true) : f.via d π i = f (π i) := if_pos h
theorem subList_length (σ : Nat → IE) (π : Nat → Nat) (l : List AVal) : (subList σ π l).length = l.length := by
  induction l with
  | nil => rfl
  | cons v l ih => simp [subList, ih]
theorem subList_get (σ : Nat → IE) (π : Nat → Nat) (l : List AVal) (j : Nat) : (subList σ π l)[j]? = (l[j]?).map (AVal.rep σ π) := by
  induction l generalizing j with
  | nil => simp [subList]
  | cons v l ih => cases j <;> simp [subList, ih]
theorem withinList_get {d : Nat → Bool} {l : List AVal} (h : withinList d l = true) {j : Nat} {v : AVal} (hv : l[j]? = some v) : v.within d = true := by
  induction l generalizing j with
  | nil => simp at hv
  | cons x l ih =>
    obtain ⟨h1, h2⟩ := and_split h
    cases j with
    | zero => simp at hv; subst hv; exact h1
    | succ j => exact ih h2 (by simpa using hv)
section
variable {ρ : Env} {f : Ren} {σ : Nat → IE} {π : Nat → Nat} {d : Nat → Bool}
theorem SRel.sub {l : List IE} {s : ByteArray} : SRel ρ (l.map (IE.rep σ)) s ↔ SRel (ρ.rep σ) l s := by
  unfold SRel
  rw [List.map_map]
  have : (fun x => IE.ev ρ x) ∘ IE.rep σ = fun x => IE.ev (ρ.rep σ) x := funext fun e => IE.rep_ev ρ σ e
  rw [this]
mutual
theorem VRel.sub_of : ∀ (v : AVal) (u : Value), v.within d = true → VRel ρ f (v.rep σ π) u → VRel (ρ.rep σ) (f.via d π) v u := by
  intro v u hw h
  cases v with
  | bool b =>
    simp only [AVal.rep] at h
    cases h
    rw [BE.rep_ev]
    exact .bool b
  | int k e =>
    simp only [AVal.rep] at h
    cases h
    rw [IE.rep_ev]
    exact .int k e
  | str l =>
    simp only [AVal.rep] at h
    cases h; rename_i hs
    exact .str (SRel.sub.1 hs)
  | ptr a =>
    cases a with
    | none => simp only [AVal.rep, posSub] at h; cases h; exact .nilPtr
    | some p =>
      obtain ⟨i, o⟩ := p
      simp only [AVal.rep, posSub] at h
      cases h; rename_i hf
      exact .ptr (by rw [Ren.via_in hw]; exact hf)
  | slice a n c g =>
    cases a with
    | none => simp only [AVal.rep, posSub] at h; cases h; exact .nilSlice
    | some p =>
      obtain ⟨i, o⟩ := p
      have e : f.via d π i = f (π i) := Ren.via_in hw
      simp only [AVal.rep, posSub] at h
      cases h with
      | slice hf => exact .slice (e.trans hf)
      | sliceG hf hn hc hs => exact .sliceG (e.trans hf) hn hc hs
      | sliceE hf hg hs => exact .sliceE (e.trans hf) hg hs
  | map r =>
    cases r with
    | none => simp only [AVal.rep] at h; cases h; exact .nilMap
    | some r =>
      simp only [AVal.rep] at h
      cases h; rename_i hf
      exact .map (by rw [Ren.via_in hw]; exact hf)
  | func fn a b =>
    obtain ⟨hwa, hwb⟩ := and_split hw
    simp only [AVal.rep] at h
    cases h; rename_i a' b' h1 h3 h2 h4
    have ka := subList_of a a' hwa ⟨h1, h3⟩
    have kb := subList_of b b' hwb ⟨h2, h4⟩
    exact .func ka.1 kb.1 ka.2 kb.2
  | nilFunc => simp only [AVal.rep] at h; cases h; exact .nilFunc
  | iface t v =>
    simp only [AVal.rep] at h
    cases h; rename_i v' h1
    exact .iface (VRel.sub_of v v' hw h1)
  | nilIface => simp only [AVal.rep] at h; cases h; exact .nilIface
  | agg l =>
    simp only [AVal.rep] at h
    cases h; rename_i a' h1 h2
    have k := subList_of l a' hw ⟨h1, h2⟩
    exact .agg k.1 k.2
  | tuple l =>
    simp only [AVal.rep] at h
    cases h; rename_i a' h1 h2
    have k := subList_of l a' hw ⟨h1, h2⟩
    exact .tuple k.1 k.2
  | ptrE i e s c =>
    simp only [AVal.rep] at h
    cases h; rename_i L hf h0
    rw [IE.rep_ev] at h0 ⊢
    exact .ptrE (by rw [Ren.via_in hw]; exact hf) h0
  | sliceS i a l s nn =>
    simp only [AVal.rep] at h
    cases h with
    | sliceS hf h0 hl hc =>
      rw [IE.rep_ev] at h0 hl hc ⊢
      rw [IE.rep_ev]
      exact .sliceS (by rw [Ren.via_in hw]; exact hf) h0 hl hc
    | sliceZ hl ha =>
      rw [IE.rep_ev] at hl
      exact .sliceZ hl ha
  | sliceA i l s =>
    simp only [AVal.rep] at h
    cases h with
    | sliceA hf hl hc hs =>
      rw [IE.rep_ev] at hl hc ⊢
      exact .sliceA (by rw [Ren.via_in hw]; exact hf) hl hc hs
    | sliceN hl =>
      rw [IE.rep_ev] at hl
      exact .sliceN hl
  | strS c l =>
    simp only [AVal.rep] at h
    cases h; rename_i s hs hl
    rw [IE.rep_ev] at hl
    exact .strS hl (fun j b hb => by have := hs j b hb; rw [IE.rep_ev] at this; exact this)
theorem subList_of : ∀ (l : List AVal) (a : Array Value), withinList d l = true → LRel ρ f (subList σ π l) a → LRel (ρ.rep σ) (f.via d π) l a := by
  intro l a hw h
  refine ⟨by rw [h.1, subList_length], ?_⟩
  intro j v v' hv hv'
  cases l with
  | nil => simp at hv
  | cons x l =>
    obtain ⟨h1, h2⟩ := and_split hw
    cases j with
    | zero =>
      simp at hv
      subst hv
      exact VRel.sub_of x v' h1 (h.2 0 _ v' rfl hv')
    | succ j =>
      have hl : LRel ρ f (subList σ π l) (a.extract 1 a.size) := by
        refine ⟨by have := h.1; simp [subList] at this; simp [subList_length, this], fun i y y' hy hy' => ?_⟩
        have e : (a.extract 1 a.size)[i]? = a[i + 1]? := by
          rw [Array.getElem?_extract]
          split
          · rw [Nat.add_comm]
          · rw [Array.getElem?_eq_none (by omega)]
        exact h.2 (i + 1) y y' (by simpa [subList] using hy) (by rw [← e]; exact hy')
      have k := subList_of l (a.extract 1 a.size) h2 hl
      refine k.2 j v v' (by simpa using hv) ?_
      rw [Array.getElem?_extract]
      have := (Array.getElem?_eq_some_iff.1 hv').1
      rw [if_pos (by omega), Nat.add_comm]
      exact hv'
end
mutual
theorem VRel.sub_to : ∀ (v : AVal) (u : Value), VRel (ρ.rep σ) (f.via d π) v u → VRel ρ f (v.rep σ π) u := by
  intro v u h
  have fin : ∀ {i : Nat} {L : Loc}, f.via d π i = some L → f (π i) = some L := by
    intro i L h
    unfold Ren.via at h
    split at h
    · exact h
    · cases h
  cases v with
  | bool b =>
    simp only [AVal.rep]
    cases h
    rw [← BE.rep_ev]
    exact .bool _
  | int k e =>
    simp only [AVal.rep]
    cases h
    rw [← IE.rep_ev]
    exact .int k _
  | str l =>
    simp only [AVal.rep]
    cases h; rename_i hs
    exact .str (SRel.sub.2 hs)
  | ptr a =>
    cases h with
    | nilPtr => exact .nilPtr
    | ptr hf => exact .ptr (fin hf)
  | slice a n c g =>
    cases h with
    | nilSlice => exact .nilSlice
    | slice hf => exact .slice (fin hf)
    | sliceG hf hn hc hs => exact .sliceG (fin hf) hn hc hs
    | sliceE hf hg hs => exact .sliceE (fin hf) hg hs
  | map r =>
    cases h with
    | nilMap => exact .nilMap
    | map hf => exact .map (fin hf)
  | func fn a b =>
    simp only [AVal.rep]
    cases h; rename_i a' b' h1 h3 h2 h4
    have ka := subList_to a a' ⟨h1, h3⟩
    have kb := subList_to b b' ⟨h2, h4⟩
    exact .func ka.1 kb.1 ka.2 kb.2
  | nilFunc => cases h; exact .nilFunc
  | iface t v =>
    cases h; rename_i v' h1
    exact .iface (VRel.sub_to v v' h1)
  | nilIface => cases h; exact .nilIface
  | agg l =>
    simp only [AVal.rep]
    cases h; rename_i a' h1 h2
    have k := subList_to l a' ⟨h1, h2⟩
    exact .agg k.1 k.2
  | tuple l =>
    simp only [AVal.rep]
    cases h; rename_i a' h1 h2
    have k := subList_to l a' ⟨h1, h2⟩
    exact .tuple k.1 k.2
  | ptrE i e s c =>
    simp only [AVal.rep]
    cases h; rename_i L hf h0
    rw [← IE.rep_ev] at h0 ⊢
    exact .ptrE (fin hf) h0
  | sliceS i a l s nn =>
    simp only [AVal.rep]
    cases h with
    | sliceS hf h0 hl hc =>
      rw [← IE.rep_ev] at h0 hl hc ⊢
      rw [← IE.rep_ev]
      exact .sliceS (fin hf) h0 hl hc
    | sliceZ hl ha =>
      rw [← IE.rep_ev] at hl
      exact .sliceZ hl ha
  | sliceA i l s =>
    simp only [AVal.rep]
    cases h with
    | sliceA hf hl hc hs =>
      rw [← IE.rep_ev] at hl hc ⊢
      exact .sliceA (fin hf) hl hc hs
    | sliceN hl =>
      rw [← IE.rep_ev] at hl
      exact .sliceN hl
  | strS c l =>
    simp only [AVal.rep]
    cases h; rename_i s hs hl
    rw [← IE.rep_ev] at hl
    exact .strS hl (fun j b hb => by rw [IE.rep_ev]; exact hs j b hb)
theorem subList_to : ∀ (l : List AVal) (a : Array Value), LRel (ρ.rep σ) (f.via d π) l a → LRel ρ f (subList σ π l) a := by
  intro l a h
  refine ⟨by rw [h.1, subList_length], ?_⟩
  intro j v v' hv hv'
  cases l with
  | nil => simp [subList] at hv
  | cons x l =>
    cases j with
    | zero =>
      simp [subList] at hv
      subst hv
      exact VRel.sub_to x v' (h.2 0 x v' rfl hv')
    | succ j =>
      have hl : LRel (ρ.rep σ) (f.via d π) l (a.extract 1 a.size) := by
        refine ⟨by have := h.1; simp at this; simp [this], fun i y y' hy hy' => ?_⟩
        have e : (a.extract 1 a.size)[i]? = a[i + 1]? := by
          rw [Array.getElem?_extract]
          split
          · rw [Nat.add_comm]
          · rw [Array.getElem?_eq_none (by omega)]
        exact h.2 (i + 1) y y' (by simpa using hy) (by rw [← e]; exact hy')
      have k := subList_to l (a.extract 1 a.size) hl
      refine k.2 j v v' (by simpa [subList] using hv) ?_
      rw [Array.getElem?_extract]
      have := (Array.getElem?_eq_some_iff.1 hv').1
      rw [if_pos (by omega), Nat.add_comm]
      exact hv'
end
end

/-! all entries of a tree -/
def T.allK {α : Type} (p : Nat → α → Bool) : T α → Nat → Nat → Bool
  | .nil, _, _ => true
  | .node v l r, a, b =>
    match (match v with
      | none => true
      | some x => p b x) with
    | true =>
      match T.allK p l (2 * a) (a + b) with
      | true => T.allK p r (2 * a) (2 * a + b)
      | false => false
    | false => false
theorem T.allK_get {α : Type} {p : Nat → α → Bool} : ∀ (t : T α) (a b : Nat), T.allK p t a b = true → ∀ (k : Nat) (x : α), t.getS k = some x → p (a * k + b) x = true := by
  intro t
  induction t with
  | nil => intro a b _ k x h; simp [T.getS] at h
  | node v l r ihl ihr =>
    intro a b h k x hx
    simp only [T.allK] at h
    split at h
    · rename_i h1
      split at h
      · rename_i h2
        simp only [T.getS] at hx
        cases hk : Nat.beq k 0
        · simp only [hk] at hx
          have hk0 : k ≠ 0 := by intro e; simp [e] at hk
          cases ho : Nat.beq (k % 2) 1
          · simp only [ho] at hx
            have ho' : k % 2 ≠ 1 := by intro e; simp [e] at ho
            have := ihr _ _ h _ _ hx
            have e : 2 * a * ((k - 1) / 2) + (2 * a + b) = a * k + b := by
              have e1 : k = 2 * ((k - 1) / 2) + 2 := by omega
              generalize (k - 1) / 2 = m at *
              subst e1
              rw [Nat.mul_add, ← Nat.mul_assoc, Nat.mul_comm a 2]
              omega
            rw [e] at this
            exact this
          · simp only [ho] at hx
            have ho' : k % 2 = 1 := Nat.eq_of_beq_eq_true ho
            have := ihl _ _ h2 _ _ hx
            have e : 2 * a * ((k - 1) / 2) + (a + b) = a * k + b := by
              have e1 : k = 2 * ((k - 1) / 2) + 1 := by omega
              generalize (k - 1) / 2 = m at *
              subst e1
              rw [Nat.mul_add, ← Nat.mul_assoc, Nat.mul_comm a 2]
              omega
            rw [e] at this
            exact this
        · simp only [hk] at hx
          have hk0 : k = 0 := Nat.eq_of_beq_eq_true hk
          subst hk0 hx
          simpa using h1
      · cases h
    · cases h
theorem T.all_get {α : Type} {p : Nat → α → Bool} {t : T α} (h : T.allK p t 1 0 = true) {k : Nat} {x : α} (hx : t.get k = some x) : p k x = true := by
  have := T.allK_get t 1 0 h k x (by rw [← T.get_eq]; exact hx)
  simpa using this

/-! a state against a pattern -/
def look : List (Nat × Nat) → Nat → Option Nat
  | [], _ => none
  | (i, j) :: l, k =>
    match Nat.beq i k with
    | true => some j
    | false => look l k
def inR (r : List (Nat × Nat)) (i : Nat) : Bool :=
  match look r i with
  | some _ => true
  | none => false
def toR (r : List (Nat × Nat)) (i : Nat) : Nat :=
  match look r i with
  | some j => j
  | none => 0
def memN (j : Nat) : List (Nat × Nat) → Bool
  | [] => false
  | p :: l =>
    match Nat.beq p.2 j with
    | true => true
    | false => memN j l
def apartL : List (Nat × Nat) → Bool
  | [] => true
  | p :: l =>
    match memN p.2 l with
    | true => false
    | false => apartL l
def belowL (n : Nat) : List (Nat × Nat) → Bool
  | [] => true
  | p :: l => Nat.blt p.1 n && belowL n l
theorem memN_ok {j : Nat} : ∀ {l : List (Nat × Nat)}, memN j l = false → ∀ i k, look l i = some k → k ≠ j := by
  intro l
  induction l with
  | nil => intro _ i k h; simp [look] at h
  | cons p l ih =>
    intro h i k hk
    unfold memN at h
    split at h
    · cases h
    · rename_i hp
      obtain ⟨a, b⟩ := p
      simp only [look] at hk
      split at hk
      · cases hk
        intro e
        simp [e] at hp
      · exact ih h i k hk
theorem apartL_ok : ∀ {l : List (Nat × Nat)}, apartL l = true → ∀ i i' k, look l i = some k → look l i' = some k → i = i' := by
  intro l
  induction l with
  | nil => intro _ i i' k h; simp [look] at h
  | cons p l ih =>
    intro h i i' k h1 h2
    obtain ⟨a, b⟩ := p
    unfold apartL at h
    split at h
    · cases h
    · rename_i hm
      simp only [look] at h1 h2
      split at h1
      · rename_i ha
        split at h2
        · rename_i ha'
          rw [← Nat.eq_of_beq_eq_true ha, ← Nat.eq_of_beq_eq_true ha']
        · cases h1
          exact absurd rfl (memN_ok hm _ _ h2)
      · split at h2
        · cases h2
          exact absurd rfl (memN_ok hm _ _ h1)
        · exact ih h i i' k h1 h2
theorem belowL_ok {n : Nat} : ∀ {l : List (Nat × Nat)}, belowL n l = true → ∀ i k, look l i = some k → i < n := by
  intro l
  induction l with
  | nil => intro _ i k h; simp [look] at h
  | cons p l ih =>
    intro h i k hk
    obtain ⟨a, b⟩ := p
    obtain ⟨h1, h2⟩ := and_split h
    simp only [look] at hk
    split at hk
    · rename_i ha
      rw [← Nat.eq_of_beq_eq_true ha]
      simpa [Nat.blt_eq] using h1
    · exact ih h2 i k hk
def valFits (σ : Nat → IE) (r : List (Nat × Nat)) (c : T AVal) (k : Nat) (v : AVal) : Bool :=
  match v.within (inR r), c.get k with
  | true, some u => (v.rep σ (toR r)).same u
  | _, _ => false
def objFits (σ : Nat → IE) (r : List (Nat × Nat)) : AObj → AObj → Bool
  | .cells c e o t, .cells c' e' o' t' => Nat.beq e e' && (bEq o o' && (Nat.beq t t' && T.allK (valFits σ r c') c 1 0))
  | .arr ks c n o, .arr ks' c' n' o' => kindsSame ks ks' && ((c.rep σ).eq c' && ((n.rep σ).eq n' && bEq o o'))
  | .ghost k vs c, .ghost k' vs' c' => Nat.beq k k' && (ieList (vs.map (IE.rep σ)) vs' && T.allK (valFits σ r c') c 1 0)
  | .win i s c e o, .win i' s' c' e' o' => (i.rep σ).eq i' && (Nat.beq s s' && (Nat.beq e e' && (bEq o o' && T.allK (valFits σ r c') c 1 0)))
  | _, _ => false
def heapFits (σ : Nat → IE) (r : List (Nat × Nat)) (h : T AObj) (i : Nat) (o : AObj) : Bool :=
  match look r i with
  | some j =>
    match h.get j with
    | some o' => objFits σ r o o'
    | none => false
  | none => false
def ASt.fits (σ : Nat → IE) (r : List (Nat × Nat)) (p s : ASt) : Bool :=
  T.allK (valFits σ r s.tm) p.tm 1 0 && (T.allK (heapFits σ r s.hp) p.hp 1 0 && (apartL r && belowL p.nx r))
theorem inR_look {r : List (Nat × Nat)} {i j : Nat} (h : look r i = some j) : inR r i = true ∧ toR r i = j := by
  unfold inR toR
  rw [h]
  exact ⟨rfl, rfl⟩
section
variable {ρ : Env} {B : Nat → Prop} {W w : World} {f : Ren} {σ : Nat → IE} {r : List (Nat × Nat)}
theorem valFits_ok {c : T AVal} {k : Nat} {v : AVal} (h : valFits σ r c k v = true) : v.within (inR r) = true ∧ c.get k = some (v.rep σ (toR r)) := by
  unfold valFits at h
  split at h
  · rename_i u h1 h2
    exact ⟨h1, by rw [h2, AVal.same_eq h]⟩
  · cases h
theorem objFits_ok {o o' : AObj} (h : objFits σ r o o' = true) {L : Loc} (ho : ORel ρ f B w L o') : ORel (ρ.rep σ) (f.via (inR r) (toR r)) B w L o ∧ o.own = o'.own ∧ ∀ b, o.foot (ρ.rep σ) w L b ↔ o'.foot ρ w L b := by
  unfold objFits at h
  split at h
  · rename_i c e ow t c' e' ow' t'
    obtain ⟨h1, h2⟩ := and_split h
    obtain ⟨h2, h3⟩ := and_split h2
    obtain ⟨h3, h4⟩ := and_split h3
    have h1 := Nat.eq_of_beq_eq_true h1
    have h2 := bEq_eq h2
    have h3 := Nat.eq_of_beq_eq_true h3
    subst h1 h2 h3
    obtain ⟨cs, fr, q1, q2, q3, q4⟩ := ho
    refine ⟨⟨cs, fr, q1, q2, q3, fun j v hj => ?_⟩, rfl, fun _ => Iff.rfl⟩
    obtain ⟨k1, k2⟩ := valFits_ok (T.all_get h4 hj)
    obtain ⟨p1, v', p2, p3⟩ := q4 _ _ k2
    exact ⟨p1, v', p2, VRel.sub_of v v' k1 p3⟩
  · rename_i ks c n ow ks' c' n' ow'
    obtain ⟨h1, h2⟩ := and_split h
    obtain ⟨h2, h3⟩ := and_split h2
    obtain ⟨h3, h4⟩ := and_split h3
    have h1 := kindsSame_eq h1
    have h2 := IE.eq_eq h2
    have h3 := IE.eq_eq h3
    have h4 := bEq_eq h4
    subst h1 h2 h3 h4
    obtain ⟨cs, el, fr, q1, q2, q3, q4⟩ := ho
    refine ⟨⟨cs, el, fr, q1, q2, q3, fun j c k hj hk => ?_⟩, rfl, fun _ => Iff.rfl⟩
    have := q4 j c k (by rw [IE.rep_ev]; exact hj) hk
    simpa only [IE.rep_ev] using this
  · rename_i k vs c k' vs' c'
    obtain ⟨h1, h2⟩ := and_split h
    obtain ⟨h2, h3⟩ := and_split h2
    have h1 := Nat.eq_of_beq_eq_true h1
    have h2 := ieList_eq h2
    subst h1 h2
    obtain ⟨⟨q0, q1⟩, qb, cs, el, fr, q2, q3, q4, q5⟩ := ho
    refine ⟨⟨⟨?_, q1⟩, qb, cs, el, fr, q2, q3, q4, fun j v hj => ?_⟩, rfl, fun _ => Iff.rfl⟩
    · have := q0
      rw [List.map_map] at this
      have e : (fun x => IE.ev ρ x) ∘ IE.rep σ = fun x => IE.ev (ρ.rep σ) x := funext fun e => IE.rep_ev ρ σ e
      rw [e] at this
      exact this
    · obtain ⟨k1, k2⟩ := valFits_ok (T.all_get h3 hj)
      obtain ⟨p1, v', p2, p3⟩ := q5 _ _ k2
      exact ⟨p1, v', p2, VRel.sub_of v v' k1 p3⟩
  · rename_i i s c e o i' s' c' e' o'
    obtain ⟨g1, g2⟩ := and_split h
    obtain ⟨g3, g4⟩ := and_split g2
    obtain ⟨g5, g6⟩ := and_split g4
    obtain ⟨g7, g8⟩ := and_split g6
    have h1 := IE.eq_eq g1
    have h2 := Nat.eq_of_beq_eq_true g3
    have h3 := Nat.eq_of_beq_eq_true g5
    have h4 := bEq_eq g7
    clear h g1 g2 g3 g4 g5 g6 g7
    subst h1 h2 h3 h4
    obtain ⟨cs, fr, q1, q2, q3, q0, q4⟩ := ho
    rw [IE.rep_ev] at q0
    refine ⟨⟨cs, fr, q1, q2, q3, q0, fun j v hj => ?_⟩, rfl, fun _ => Iff.rfl⟩
    obtain ⟨k1, k2⟩ := valFits_ok (T.all_get g8 hj)
    obtain ⟨v', p2, p3⟩ := q4 _ _ k2
    rw [IE.rep_ev] at p2
    exact ⟨v', p2, VRel.sub_of v v' k1 p3⟩
  · cases h
theorem heapFits_ok {h : T AObj} {i : Nat} {o : AObj} (hf : heapFits σ r h i o = true) : ∃ j o', look r i = some j ∧ h.get j = some o' ∧ objFits σ r o o' = true := by
  unfold heapFits at hf
  split at hf
  · rename_i j hj
    split at hf
    · rename_i o' ho
      exact ⟨j, o', hj, ho, hf⟩
    · cases hf
  · cases hf
/-- From a state to a pattern that it fits. -/
theorem ASt.fits_ok {p s : ASt} (h : p.fits σ r s = true) {n N N' : Nat} {a : Act} (hs : StRel ρ B W n N f s a w) : StRel (ρ.rep σ) B W n N' (f.via (inR r) (toR r)) p a w := by
  obtain ⟨h1, h2⟩ := and_split h
  obtain ⟨h2, h3⟩ := and_split h2
  obtain ⟨h3, h4⟩ := and_split h3
  have via : ∀ {i L}, f.via (inR r) (toR r) i = some L → ∃ j, look r i = some j ∧ f j = some L := by
    intro i L hi
    unfold Ren.via at hi
    split at hi
    · rename_i hd
      unfold inR at hd
      split at hd
      · rename_i j hj
        rw [(inR_look hj).2] at hi
        exact ⟨j, hj, hi⟩
      · cases hd
    · cases hi
  have hr := hs.heap
  refine ⟨hs.size, fun d v hd => ?_, hs.defers, ⟨hr.below, hr.bsize, fun i L hi => ?_, ?_, fun i L o hi ho => ?_⟩, fun j h5 h6 => ?_⟩
  · obtain ⟨k1, k2⟩ := valFits_ok (T.all_get h1 hd)
    exact VRel.sub_of v _ k1 (hs.tm d _ k2)
  · obtain ⟨j, _, hj⟩ := via hi
    exact hr.lt j L hj
  · intro i j Li Lj oi oj hi hj gi gj hij hown b hb hb'
    obtain ⟨i', oi', a1, a2, a3⟩ := heapFits_ok (T.all_get h2 gi)
    obtain ⟨j', oj', b1, b2, b3⟩ := heapFits_ok (T.all_get h2 gj)
    obtain ⟨i2, c1, c2⟩ := via hi
    obtain ⟨j2, d1, d2⟩ := via hj
    rw [a1] at c1; cases c1
    rw [b1] at d1; cases d1
    have hne : i' ≠ j' := fun e => hij (apartL_ok h3 i j i' a1 (by rw [e]; exact b1))
    obtain ⟨_, e1, e2⟩ := objFits_ok a3 (hr.obj i' Li oi' c2 a2)
    obtain ⟨_, _, e4⟩ := objFits_ok b3 (hr.obj j' Lj oj' d2 b2)
    exact hr.apart i' j' Li Lj oi' oj' c2 d2 a2 b2 hne (by rw [← e1]; exact hown) b ((e2 b).1 hb) ((e4 b).1 hb')
  · obtain ⟨j, o', a1, a2, a3⟩ := heapFits_ok (T.all_get h2 ho)
    obtain ⟨j2, c1, c2⟩ := via hi
    rw [a1] at c1; cases c1
    exact (objFits_ok a3 (hr.obj j L o' c2 a2)).1
  · unfold Ren.via
    split
    · rename_i hd
      unfold inR at hd
      split at hd
      · rename_i k hk
        exact absurd (belowL_ok h4 j k hk) (by omega)
      · cases hd
    · rfl
end

/-! pieces of code, from a pattern to patterns -/
/-- A list of what stands for the symbols. -/
def sub (l : List IE) : Nat → IE := fun k => l.getD k (.lit 0)
def exitSame : AExit → AExit → Bool
  | .normal, .normal => true
  | .ret, .ret => true
  | .exit i, .exit j => Nat.beq i j
  | _, _ => false
theorem exitSame_eq {a b : AExit} (h : exitSame a b = true) : a = b := by
  cases a <;> cases b <;> simp [exitSame] at h <;> simp [h]
def runTo (C : Ctx) (call : ACall) (lp : Nat → ACode) (dr : ADraw) (n L : Nat) (c : Code) (s : ASt) (e : AExit) (p : ASt) (l : List IE) (r : List (Nat × Nat)) : Bool :=
  match aCode C call lp dr n L c s with
  | some (e', s') => exitSame e' e && p.fits (sub l) r s'
  | none => false
theorem runTo_ok {C : Ctx} {P : Program} {ρ : Env} {B : Nat → Prop} {W : World} (hC : C.Ok P ρ) {call : ACall} (hcall : CallOk P ρ B W call) {lp : Nat → ACode} {dr : ADraw} (hdr : DrawOk P ρ B W dr) {n L : Nat} {c : Code} (hlp : ∀ b ∈ loopsOf c, LoopOk P ρ B W n b (lp (Code.key b)))
    {s p : ASt} {e : AExit} {l : List IE} {r : List (Nat × Nat)} (h : runTo C call lp dr n L c s e p l r = true) {f : Ren} {a : Act} {w : World} (hs : ∀ N, StRel ρ B W n N f s a w) {Q : Exit → Act → World → Prop} (hQ : ∀ (f' : Ren) a' w', f.le f' → (∀ j, j < s.nx → f' j = f j) → (∀ N, StRel (ρ.rep (sub l)) B W n N (f'.via (inR r) (toR r)) p a' w') → Q e.to a' w') : c.wp P Q a w := by
  unfold runTo at h
  split at h
  · rename_i e' s' hr
    obtain ⟨h1, h2⟩ := and_split h
    have h1 := exitSame_eq h1
    subst h1
    obtain ⟨q1, q2⟩ := aCode_ok hC hcall hdr L c hlp _ _ _ hr
    exact q2 s'.nx f a w Q (Nat.le_refl _) (hs s'.nx) fun f' a' w' hle ho hs' => hQ f' a' w' hle (fun j hj => ho j (.inl hj)) fun N => ASt.fits_ok h2 hs'
  · cases h

/-- The state behind a piece. -/
def stOf : Option (AExit × ASt) → ASt
  | some (_, s) => s
  | none => ⟨.nil, .nil, 0⟩
def endsBy (e : AExit) : Option (AExit × ASt) → Bool
  | some (e', _) => exitSame e' e
  | none => false
theorem piece_ok {C : Ctx} {P : Program} {ρ : Env} {B : Nat → Prop} {W : World} (hC : C.Ok P ρ) {call : ACall} (hcall : CallOk P ρ B W call) {lp : Nat → ACode} {dr : ADraw} (hdr : DrawOk P ρ B W dr) {n L : Nat} {c : Code} (hlp : ∀ b ∈ loopsOf c, LoopOk P ρ B W n b (lp (Code.key b)))
    {s : ASt} {e : AExit} (h : endsBy e (aCode C call lp dr n L c s) = true) {f : Ren} {a : Act} {w : World} (hs : ∀ N, StRel ρ B W n N f s a w) {Q : Exit → Act → World → Prop}
    (hQ : ∀ (f' : Ren) a' w', f.le f' → (∀ j, j < s.nx → f' j = f j) → (∀ N, StRel ρ B W n N f' (stOf (aCode C call lp dr n L c s)) a' w') → Q e.to a' w') : c.wp P Q a w := by
  unfold endsBy at h
  split at h
  · rename_i e' s' hr
    have h := exitSame_eq h
    subst h
    obtain ⟨q1, q2⟩ := aCode_ok hC hcall hdr L c hlp _ _ _ hr
    refine q2 s'.nx f a w Q (Nat.le_refl _) (hs s'.nx) fun f' a' w' hle ho hs' => hQ f' a' w' hle (fun j hj => ho j (.inl hj)) fun N => ?_
    rw [hr]
    exact ⟨hs'.size, hs'.tm, hs'.defers, hs'.heap, fun j h1 h2 => by rw [ho j (.inr h1)]; exact (hs N).fresh j (Nat.le_trans q1 h1) h2⟩
  · cases h
/-- Another expression for a slot, of the same number. -/
theorem StRel.slot {ρ : Env} {B : Nat → Prop} {W : World} {n N : Nat} {f : Ren} {s : ASt} {a : Act} {w : World} (hs : StRel ρ B W n N f s a w) {d : Nat} {k : IntKind} {e e' : IE} (hd : s.tm.get d = some (.int k e)) (he : e.ev ρ = e'.ev ρ) : StRel ρ B W n N f ⟨s.tm.set d (.int k e'), s.hp, s.nx⟩ a w := by
  refine ⟨hs.size, fun j v hj => ?_, hs.defers, hs.heap, hs.fresh⟩
  rcases T.get_set hj with ⟨rfl, rfl⟩ | ⟨_, hj⟩
  · have := hs.tm _ _ hd
    generalize a.tmps.getD j Go.undef = u at this
    cases this
    rw [he]
    exact .int k e'
  · exact hs.tm _ _ hj
theorem StRel.env {ρ ρ' : Env} (h : ρ = ρ') {B : Nat → Prop} {W : World} {n N : Nat} {f : Ren} {s : ASt} {a : Act} {w : World} (hs : StRel ρ B W n N f s a w) : StRel ρ' B W n N f s a w := h ▸ hs

/-- A function's entry. -/
theorem enter_ok {P : Program} {ρ : Env} {B : Nat → Prop} {W : World} {g : FuncId} {fn : Func} {c : Code} (hf : P.funcs[g]? = some fn) (hb : fn.body = some c) {f : Ren} {args : List AVal} {args' : Array Value} {h : T AObj} {nx : Nat} {w : World}
    (hr : HRel ρ B W f h w) (ha : LRel ρ f args args') (hn : ∀ j, nx ≤ j → f j = none) {R : Ending → World → Prop}
    (hc : ∀ a, (∀ N, StRel ρ B W (args.length + (fn.ntmps - args.length)) N f ⟨treeOf args 0 .nil, h, nx⟩ a w) → c.wp P (bodyPost P fn R) a w) : Calls P g args' w R := by
  refine calls_of_wp hf hb (hc _ fun N => ⟨?_, ?_, rfl, hr, fun j h1 _ => hn j h1⟩)
  · simp [ha.1]
  · intro j v hj
    rcases treeOf_ok _ _ _ _ _ hj with ⟨_, hj⟩ | hj
    · obtain ⟨v', h1, h2⟩ := ha.get (by simpa using hj)
      have : (args' ++ Array.replicate (fn.ntmps - args'.size) Go.undef).getD j Go.undef = v' := by
        rw [Array.getD_eq_getD_getElem?, Array.getElem?_append_left (Array.getElem?_eq_some_iff.1 h1).1, h1]
        rfl
      rw [this]
      exact h2
    · (rw [T.get_nil] at hj; cases hj)
/-- A function's end. -/
theorem leave_ok {C : Ctx} {P : Program} {ρ : Env} {B : Nat → Prop} {W : World} (hC : C.Ok P ρ) {fn : Func} {n N : Nat} {f : Ren} {s : ASt} {a : Act} {w : World} (hs : StRel ρ B W n N f s a w) {vs : List AVal} (hv : aRess C s.tm s.hp fn.results.toList = some vs)
    {R : Ending → World → Prop} (hR : ∀ v', VRel ρ f (aResult vs) v' → R (.returned v') w) : bodyPost P fn R .ret a w ∧ bodyPost P fn R .normal a w := by
  obtain ⟨us, h1, h2⟩ := aRess_ok (P := P) hC hs.heap hs.tm _ _ hv
  have : a.defers = [] ∧ ∃ v, (results fn a.tmps).run P w = .ok v w ∧ R (.returned v) w := ⟨hs.defers, _, run_results h1, hR _ (aResult_ok h2)⟩
  exact ⟨this, this⟩
theorem loopFree {P : Program} {ρ : Env} {B : Nat → Prop} {W : World} {n : Nat} {c : Code} : ∀ b ∈ loopsOf c, LoopOk P ρ B W n b ((fun _ _ => none) (Code.key b)) := fun _ _ => LoopOk.none

/-! environments of few symbols -/
def E (l : List Int) : Env := { i := fun k => l.getD k 0, b := fun _ => false }
theorem E_rep (l : List Int) (σ : List IE) : (E l).rep (sub σ) = E (σ.map (·.ev (E l))) := by
  unfold E Env.rep sub
  congr 1
  funext k
  simp only [List.getD, List.getElem?_map]
  cases σ[k]? <;> rfl
theorem symCells_rel {ρ ρ' : Env} {f g : Ren} {ks : List IntKind} {off off' : Nat} {a : Array Value} (h : LRel ρ f (symCells ks off) a) (he : ∀ j, j < ks.length → ρ'.i (off' + j) = ρ.i (off + j)) : LRel ρ' g (symCells ks off') a := by
  refine ⟨by rw [h.1, symCells_length, symCells_length], fun j v v' hv hv' => ?_⟩
  obtain ⟨k, h1, rfl⟩ := symCells_get ks off' j v hv
  have hlt := (List.getElem?_eq_some_iff.1 h1).1
  have h2 : (symCells ks off)[j]? = some (.int k (.var (off + j))) := by
    have hl : j < (symCells ks off).length := by rw [symCells_length]; exact hlt
    have := List.getElem?_eq_getElem hl
    obtain ⟨k2, h3, h4⟩ := symCells_get ks off j _ this
    rw [h1] at h3
    cases h3
    rw [this, h4]
  have := h.2 j _ v' h2 hv'
  cases this
  have e : (IE.var (off + j)).ev ρ = (IE.var (off' + j)).ev ρ' := (he j hlt).symm
  rw [e]
  exact .int k _

theorem VRel.tuple2 {ρ : Env} {f : Ren} {x y : AVal} {v : Value} (h : VRel ρ f (.tuple [x, y]) v) : ∃ x' y', v = .tuple #[x', y'] ∧ VRel ρ f x x' ∧ VRel ρ f y y' := by
  cases h; rename_i a h1 h2
  have h1 : a.size = 2 := h1
  obtain ⟨l⟩ := a
  match l, h1 with
  | [x', y'], _ => exact ⟨x', y', rfl, h2 0 x x' rfl rfl, h2 1 y y' rfl rfl⟩
theorem VRel.agg_inv {ρ : Env} {f : Ren} {l : List AVal} {v : Value} (h : VRel ρ f (.agg l) v) : ∃ a, v = .agg a ∧ LRel ρ f l a := by
  cases h; rename_i a h1 h2
  exact ⟨a, rfl, h1, h2⟩
theorem VRel.bool_eq {ρ : Env} {f : Ren} {b : Bool} {v : Value} (h : VRel ρ f (.bool (.lit b)) v) : v = .bool b := by
  cases h; rfl
theorem LRel.lits {ρ : Env} {f : Ren} : ∀ {l : List (IntKind × Int)} {a : List Value}, LRel ρ f (l.map fun p => .int p.1 (.lit p.2)) a.toArray → a = l.map fun p => .int p.1 p.2 := by
  intro l
  induction l with
  | nil => intro a h; have := h.1; simpa using this
  | cons p l ih =>
    intro a h
    cases a with
    | nil => have := h.1; simp at this
    | cons x a =>
      have h0 := h.2 0 _ x rfl rfl
      have ht : LRel ρ f (l.map fun p => .int p.1 (.lit p.2)) a.toArray := ⟨by have := h.1; simp at this; simp [this], fun j v v' h1 h2 => h.2 (j + 1) v v' (by simpa using h1) (by simpa using h2)⟩
      rw [ih ht]
      cases h0
      rfl

/-- A law reckoned from its arguments. -/
theorem says_ok {C : Ctx} {P : Program} {ρ : Env} (hC : C.Ok P ρ) {sm : Sums} (hsm : ∀ B W, SumsOk P ρ B W sm) {L d : Nat} {g : FuncId} {args : List AVal} {h : T AObj} {nx : Nat} {dec : Dec} (hd : dec.holds ρ) (hrun : saysTrue dec (aCallN C (aDraw C) sm L d g args h nx) = true) {args' : Array Value} {W : World} {f : Ren}
    (hr : HRel ρ (· < W.heap.size) W f h W) (ha : LRel ρ f args args') (hn : ∀ j, nx ≤ j → f j = none) : Calls P g args' W fun e w' => e = .returned (.bool true) ∧ Below W.heap.size W w' := by
  unfold saysTrue at hrun
  split at hrun
  · rename_i b h' nx' hrn
    split at hrun
    · rename_i u hu
      subst hrun
      refine Calls.mono ((aCallN_ok hC (aDraw_ok hC) (hsm _ W) L d _ _ _ _ _ _ _ hrn).2 f W args' hr ha (fun j h1 _ => hn j h1)) fun e w' hR => ?_
      obtain ⟨v', f', h1, h2, h3, h4, h5⟩ := hR
      refine ⟨?_, h4.below.below⟩
      rw [h1]
      cases h5
      rw [settle_ok hd b _ hu]
    · cases hrun
  · cases hrun

/-! loops -/
theorem loop_rounds {P : Program} {c : Code} {Q : Exit → Act → World → Prop} {ι : Type} (R : ι → Act → World → Prop) (μ : ι → Nat)
    (h : ∀ x a w, R x a w → c.wp P (Exit.then (fun a' w' => ∃ y, μ y < μ x ∧ R y a' w') Q) a w) : ∀ x a w, R x a w → (Code.loop c).wp P Q a w := by
  have key : ∀ m x a w, μ x < m → R x a w → Code.rounds P c Q m a w := by
    intro m
    induction m with
    | zero => intro x a w hm; omega
    | succ m ih =>
      intro x a w hm hx
      rw [rounds_succ]
      refine wp_mono (h x a w hx) fun e a' w' hq => ?_
      cases e with
      | normal =>
        obtain ⟨y, hy, hR⟩ := hq
        exact ih y a' w' (by omega) hR
      | _ => exact hq
  intro x a w hx
  exact wp_loop_rounds (μ x + 1) (key _ x a w (Nat.lt_succ_self _) hx)
end
end Go.Sx
/- Arguments opened: integers, aggregates of integers, slices of either. No condition. -/
set_option linter.unusedSimpArgs false
set_option linter.unusedVariables false
namespace Go.Sx
open Go.RowKit (Below)
open Go.ChangeShapes Go.WideShapes Go.ChangeAt Go.Deep
noncomputable section

/-! the integers in a row of cells -/
def joinKinds : List (Option (List IntKind)) → Option (List IntKind)
  | [] => some []
  | none :: _ => none
  | some a :: l =>
    match joinKinds l with
    | some b => some (a ++ b)
    | none => none
def repKinds (a : List IntKind) : Nat → List IntKind
  | 0 => []
  | n + 1 => a ++ repKinds a n
def fieldKinds (P : Program) (go : TypeId → Option (List IntKind)) : List Field → Nat → Option (List IntKind)
  | [], _ => some []
  | f :: fs, off =>
    match go f.type with
    | none => none
    | some a =>
      match Nat.beq f.offset off, Nat.beq (P.cellsOf f.type) a.length with
      | true, true =>
        match fieldKinds P go fs (off + a.length) with
        | some b => some (a ++ b)
        | none => none
      | _, _ => none
def intKinds (P : Program) : Nat → TypeId → Option (List IntKind)
  | 0, _ => none
  | d + 1, t =>
    match P.underlying t with
    | some (.int k) => some [k]
    | some (.struct fs) => fieldKinds P (intKinds P d) fs.toList 0
    | some (.array n e) =>
      match intKinds P d e with
      | some a =>
        match Nat.beq (P.cellsOf e) a.length with
        | true => some (repKinds a n)
        | false => none
      | none => none
    | _ => none
/-- The cells are integers of these kinds. -/
def AreInts (ks : List IntKind) (cs : List Value) : Prop :=
  ∀ (j : Nat) (k : IntKind), ks[j]? = some k → ∃ n : Int, cs[j]? = some (.int k n) ∧ kLo k ≤ n ∧ n ≤ kHi k
theorem AreInts.app {a b : List IntKind} {xs : List Value} (h : AreInts a (xs.take a.length)) (h' : AreInts b (xs.drop a.length)) : AreInts (a ++ b) xs := by
  intro j k hk
  by_cases hj : j < a.length
  · rw [List.getElem?_append_left hj] at hk
    obtain ⟨n, h1, h2⟩ := h j k hk
    rw [List.getElem?_take, if_pos hj] at h1
    exact ⟨n, h1, h2⟩
  · rw [List.getElem?_append_right (by omega)] at hk
    obtain ⟨n, h1, h2⟩ := h' _ k hk
    rw [List.getElem?_drop] at h1
    rw [show a.length + (j - a.length) = j by omega] at h1
    exact ⟨n, h1, h2⟩
theorem wf_range {k : IntKind} {n : Int} (h : (Lit.int k n).wf = true) : kLo k ≤ n ∧ n ≤ kHi k := by
  simp only [Lit.wf, Bool.and_eq_true, decide_eq_true_eq] at h
  cases k <;> simp only [kLo, kHi, IntKind.min, IntKind.max, IntKind.signed, IntKind.bits] at h ⊢ <;> simpa using h
section
variable {H : Type} {enc : TypeId × Value → H} {P : Program} {w : World} {base : Nat} {spare : Nat → Bool} {held : Bool}
theorem trod_ints : ∀ (d : Nat) (t : TypeId) (ks : List IntKind), intKinds P d t = some ks → ∀ (fuel : Nat) (cs : List Value) (x : DataW H × List MemPlace), DataW.trod enc P w base spare held fuel t cs = some x → AreInts ks cs := by
  intro d
  induction d with
  | zero => intro t ks h; cases h
  | succ d ih =>
    intro t ks h fuel cs x hx
    unfold intKinds at h
    split at h
    · rename_i k hu
      cases h
      obtain ⟨n, rfl, _, hw⟩ := DataW.trod_int hu hx
      intro j k' hk
      cases j with
      | zero => simp at hk; subst hk; exact ⟨n, rfl, wf_range hw⟩
      | succ j => simp at hk
    · rename_i fs hu
      obtain ⟨xs, n, _, _, hlen, _, hf⟩ := DataW.trod_struct hu hx
      have gen : ∀ (l : List Field) (k off : Nat) (ks : List IntKind), fs.toList.drop k = l → fieldKinds P (intKinds P d) l off = some ks → AreInts ks (cs.drop off) := by
        intro l
        induction l with
        | nil => intro k off ks _ h; cases h; intro j k hk; simp at hk
        | cons f l ihl =>
          intro k off ks hk h
          have hfk : fs[k]? = some f := by
            have : (fs.toList.drop k)[0]? = some f := by rw [hk]; rfl
            simpa using this
          have hk' : fs.toList.drop (k + 1) = l := by rw [← List.drop_drop, hk]; rfl
          unfold fieldKinds at h
          split at h
          · cases h
          · rename_i a ha
            split at h
            · rename_i h1 h2
              have h1 := Nat.eq_of_beq_eq_true h1
              have h2 := Nat.eq_of_beq_eq_true h2
              split at h
              · rename_i b hb
                cases h
                have t1 := hf k f hfk
                have hxk : ∃ y, xs[k]? = some y := by
                  have : k < xs.length := by
                    have := (Array.getElem?_eq_some_iff.1 hfk).1
                    omega
                  exact ⟨xs[k], by simp [this]⟩
                obtain ⟨y, hy⟩ := hxk
                rw [hy] at t1
                have q := ih _ _ ha _ _ _ t1
                rw [h1, h2] at q
                refine AreInts.app q ?_
                rw [List.drop_drop]
                exact ihl (k + 1) _ _ hk' hb
              · cases h
            · cases h
      have := gen fs.toList 0 0 ks rfl h
      simpa using this
    · rename_i n e hu
      split at h
      · rename_i a ha
        split at h
        · rename_i hc
          have hc := Nat.eq_of_beq_eq_true hc
          cases h
          obtain ⟨xs, m, _, _, hlen, hxl, hf⟩ := DataW.trod_array hu hx
          have gen : ∀ (r j : Nat), j + r = n → AreInts (repKinds a r) (cs.drop (j * a.length)) := by
            intro r
            induction r with
            | zero => intro j _ i k hk; simp [repKinds] at hk
            | succ r ihr =>
              intro j hj
              have t1 := hf j (by omega)
              have hxj : xs[j]? = some (xs[j]'(by omega)) := by simp
              rw [hxj] at t1
              have q := ih _ _ ha _ _ _ t1
              rw [hc] at q
              refine AreInts.app q ?_
              rw [List.drop_drop]
              have := ihr (j + 1) (by omega)
              rw [Nat.add_mul, Nat.one_mul] at this
              exact this
          have := gen n 0 (by omega)
          simpa using this
        · cases h
      · cases h
    · cases h
end

/-! parameters -/
inductive PQ where
  | int (k : IntKind)
  | agg (ks : List IntKind)
  | sl (ks : List IntKind) (nn : Bool) (hi : Int)
  | nilS
def PQ.ok (P : Program) (t : TypeId) : PQ → Bool
  | .int k => pkOk P t (.int k)
  | .agg ks => pkOk P t (.agg ks)
  | .sl ks _ _ =>
    match P.underlying t with
    | some (.slice e) =>
      match intKinds P 20 e with
      | some ks' => kindsSame ks ks' && (Nat.beq (P.cellsOf e) ks.length && Nat.blt 0 ks.length)
      | none => false
    | _ => false
  | .nilS => true
/-- What is known of an argument beside its type. -/
def PQ.fit : PQ → Value → Prop
  | .sl _ nn hi, v => (nn = true → v ≠ .slice none 0 0) ∧ (0 ≤ hi ∧ ∀ a n c, v = .slice a n c → (n : Int) ≤ hi)
  | .nilS, v => v = .slice none 0 0
  | _, _ => True
def PQ.wide : PQ → Nat
  | .int _ => 1
  | .agg ks => ks.length
  | .sl _ _ _ => 2
  | .nilS => 0
def PQ.sym (off : Nat) : PQ → AVal
  | .int k => .int k (.var off)
  | .agg ks => .agg (symCells ks off)
  | .sl ks nn _ => .sliceS off (.lit 0) (.var (off + 1)) ks.length nn
  | .nilS => .slice none 0 0 0
def kindR (k : IntKind) : Option (Int × Int) := some (k.min, k.max)
def PQ.bds : PQ → List (Option (Int × Int))
  | .int k => [kindR k]
  | .agg ks => ks.map kindR
  | .sl _ _ hi => [none, some (0, hi)]
  | .nilS => []
theorem PQ.bds_length (p : PQ) : p.bds.length = p.wide := by cases p <;> simp [PQ.bds, PQ.wide]
def pqsOk (P : Program) : List TypeId → List PQ → Bool
  | [], [] => true
  | t :: ts, p :: ps =>
    match p.ok P t with
    | true => pqsOk P ts ps
    | false => false
  | _, _ => false
def pqArgs : List PQ → Nat → List AVal
  | [], _ => []
  | p :: ps, off => p.sym off :: pqArgs ps (off + p.wide)
def pqObjs : List PQ → Nat → T AObj
  | [], _ => .nil
  | .sl ks _ _ :: ps, off => (pqObjs ps (off + 2)).set off (.arr ks (.var off) (.var (off + 1)) false)
  | p :: ps, off => pqObjs ps (off + p.wide)
def kindsAt : List PQ → Nat → Nat → Option (List IntKind)
  | [], _, _ => none
  | .sl ks _ _ :: ps, off, i => if i = off then some ks else kindsAt ps (off + 2) i
  | p :: ps, off, i => kindsAt ps (off + p.wide) i
def pqBds : List PQ → List (Option (Int × Int))
  | [] => []
  | p :: ps => p.bds ++ pqBds ps
def pqWide : List PQ → Nat
  | [] => 0
  | p :: ps => p.wide + pqWide ps
def inBd (b : Option (Int × Int)) (n : Int) : Prop := ∀ lo hi, b = some (lo, hi) → lo ≤ n ∧ n ≤ hi
/-- What an argument's block is, for the numbers of its symbols. -/
def slot (off : Nat) (p : PQ) (L : Loc) (w : World) (ns : List Int) : Prop :=
  match p with
  | .sl ks _ _ => ∀ (ρ : Env) (f : Ren) (B : Nat → Prop), (∀ (j : Nat) (n : Int), ns[j]? = some n → ρ.i (off + j) = n) → ORel ρ f B w L (.arr ks (.var off) (.var (off + 1)) false)
  | _ => True
section
variable {H : Type} {enc : TypeId × Value → H} {P : Program} {w : World} {base : Nat} {spare : Nat → Bool} {held : Bool}
theorem cells_row {P : Program} {w : World} {a : Addr} {len s : Nat} {ks : List IntKind} (hs : s = ks.length) (hs0 : 0 < s) (hlen : 0 < len)
    (h : ∀ i, i < len → ∃ cs, AreInts ks cs ∧ ∀ j, j < s → w.cell? (a.add (i * s + j)) = cs[j]?) :
    ∃ (cs : Array Value) (el : TypeId) (fr : Nat × Nat) (code : Int), a.spot = none ∧ w.heap[a.block]? = some (.cells cs el fr) ∧
      ∀ (j c : Nat) (k : IntKind), j < len → ks[c]? = some k → cs[a.off + (j * s + c)]? = some (.int k (rowGet code (j * s + c : Nat))) ∧ kLo k ≤ rowGet code (j * s + c : Nat) ∧ rowGet code (j * s + c : Nat) ≤ kHi k := by
  have cell : ∀ i j k, i < len → ks[j]? = some k → ∃ n : Int, w.cell? (a.add (i * s + j)) = some (.int k n) ∧ kLo k ≤ n ∧ n ≤ kHi k := by
    intro i j k hi hk
    obtain ⟨cs, h1, h2⟩ := h i hi
    obtain ⟨n, h3, h4⟩ := h1 j k hk
    have hj : j < s := by rw [hs]; exact (List.getElem?_eq_some_iff.1 hk).1
    exact ⟨n, by rw [h2 j hj, h3], h4⟩
  have hk0 : ∃ k, ks[0]? = some k := ⟨ks[0]'(by omega), by simp⟩
  obtain ⟨k0, hk0⟩ := hk0
  obtain ⟨n0, hn0, _⟩ := cell 0 0 k0 hlen hk0
  rw [Nat.zero_mul, Nat.zero_add] at hn0
  have ha0 : a.add 0 = a := by
    cases a
    unfold Addr.add
    simp
  rw [ha0] at hn0
  have hb : ∃ cs el fr, w.heap[a.block]? = some (.cells cs el fr) ∧ a.spot = none := by
    unfold World.cell? at hn0
    split at hn0
    · rename_i cs el fr hc
      split at hn0
      · cases hn0
      · rename_i hsp
        exact ⟨cs, el, fr, hc, by simpa using hsp⟩
    · cases hn0
  obtain ⟨cs, el, fr, hc, hsp⟩ := hb
  have get : ∀ m, w.cell? (a.add m) = cs[a.off + m]? := by
    intro m
    obtain ⟨b, o, sp⟩ := a
    simp only at hsp hc
    subst hsp
    rw [addr_add]
    simp [World.cell?, hc]
  let val : Option Value → Int := fun v => match v with
    | some (.int _ n) => n
    | _ => 0
  let zs : List Int := (List.range (len * s)).map fun m => val (cs[a.off + m]?)
  refine ⟨cs, el, fr, (rowOf zs : Nat), hsp, hc, fun j c k hj hk => ?_⟩
  obtain ⟨n, h1, h2⟩ := cell j c k hj hk
  rw [get] at h1
  have hcs : c < s := by rw [hs]; exact (List.getElem?_eq_some_iff.1 hk).1
  have hlt : j * s + c < len * s := by
    have : (j + 1) * s ≤ len * s := Nat.mul_le_mul_right _ hj
    rw [Nat.add_mul] at this
    omega
  have hz : zs[j * s + c]? = some n := by
    simp only [zs, List.getElem?_map, List.getElem?_range hlt, Option.map_some, h1, val]
  have e := rowGet_of zs (j * s + c) n hz (kind_inRow h2.1 h2.2)
  rw [e]
  exact ⟨h1, h2⟩
theorem open_pq {W : World} {t : TypeId} {p : PQ} {v : Value} {d : DataW H} {ps : List MemPlace} (hp : p.ok P t = true) (hfit : p.fit v) (hv : Value.okWide P W .any base t v) (ht : DataW.Trod enc P W 0 (fun _ => true) true t v d ps) :
    ∃ (ns : List Int) (L : Loc), ns.length = p.wide ∧ (∀ (j : Nat) b n, p.bds[j]? = some b → ns[j]? = some n → inBd b n) ∧
      ∀ (off : Nat), (∀ (ρ : Env) (f : Ren), (∀ (j : Nat) (n : Int), ns[j]? = some n → ρ.i (off + j) = n) → (∀ ks nn hi, p = .sl ks nn hi → 0 < ns.getD 1 0 → f off = some L) → VRel ρ f (p.sym off) v) ∧ (∀ ks nn hi, p = .sl ks nn hi → 0 < ns.getD 1 0 → slot off p L W ns) := by
  cases p with
  | int k =>
    obtain ⟨ns, h1, h2, h3⟩ := open_one (W := W) (base := base) (pk := .int k) hp hv
    refine ⟨ns, ⟨0, 0, 0⟩, h1, fun j b n hb hn lo hi hlo => ?_, fun off => ⟨fun ρ f hρ _ => h3 ρ f off hρ, fun ks nn hi hk => by cases hk⟩⟩
    cases j with
    | zero =>
      simp [PQ.bds, kindR] at hb
      subst hb
      simp at hlo
      obtain ⟨rfl, rfl⟩ := hlo
      exact h2 0 k n rfl hn
    | succ j => simp [PQ.bds] at hb
  | agg ks =>
    obtain ⟨ns, h1, h2, h3⟩ := open_one (W := W) (base := base) (pk := .agg ks) hp hv
    refine ⟨ns, ⟨0, 0, 0⟩, h1, fun j b n hb hn lo hi hlo => ?_, fun off => ⟨fun ρ f hρ _ => h3 ρ f off hρ, fun ks nn hi hk => by cases hk⟩⟩
    simp only [PQ.bds, List.getElem?_map, Option.map_eq_some_iff] at hb
    obtain ⟨k, hk, rfl⟩ := hb
    simp [kindR] at hlo
    obtain ⟨rfl, rfl⟩ := hlo
    exact h2 j k n hk hn
  | nilS => exact ⟨[], ⟨0, 0, 0⟩, rfl, fun j b n hb => by simp [PQ.bds] at hb, fun off => ⟨fun ρ f _ _ => by rw [show v = .slice none 0 0 from hfit]; exact .nilSlice, fun ks nn hi hk => by cases hk⟩⟩
  | sl ks nn hi =>
    obtain ⟨hfn, hhi0, hfh⟩ := hfit
    unfold PQ.ok at hp
    simp only at hp
    split at hp
    · rename_i e hu
      split at hp
      · rename_i ks' hks
        obtain ⟨p1, p2⟩ := and_split hp
        obtain ⟨p2, p3⟩ := and_split p2
        have p1 := kindsSame_eq p1
        subst p1
        have p2 := Nat.eq_of_beq_eq_true p2
        have p3 : 0 < ks.length := by simpa [Nat.blt_eq] using p3
        obtain ⟨fuel, hf⟩ := ht
        have bds : ∀ (len : Nat) (code : Int), (len : Int) ≤ hi → ∀ (j : Nat) b n, (PQ.sl ks nn hi).bds[j]? = some b → [code, (len : Int)][j]? = some n → inBd b n := by
          intro len code hl j b n hb hn lo hi2 hlo
          cases j with
          | zero => simp [PQ.bds] at hb; subst hb; cases hlo
          | succ j =>
            cases j with
            | zero =>
              simp [PQ.bds] at hb hn
              subst hb; subst hn
              simp at hlo
              obtain ⟨rfl, rfl⟩ := hlo
              omega
            | succ j => simp [PQ.bds] at hb
        have nil : ∀ (a : Option Addr) (c : Nat), (a = none → c = 0 ∧ nn = false) → v = .slice a 0 c → ∃ (ns : List Int) (L : Loc), ns.length = (PQ.sl ks nn hi).wide ∧ (∀ (j : Nat) b n, (PQ.sl ks nn hi).bds[j]? = some b → ns[j]? = some n → inBd b n) ∧
            ∀ (off : Nat), (∀ (ρ : Env) (f : Ren), (∀ (j : Nat) (n : Int), ns[j]? = some n → ρ.i (off + j) = n) → (∀ ks' nn' hi', PQ.sl ks nn hi = .sl ks' nn' hi' → 0 < ns.getD 1 0 → f off = some L) → VRel ρ f ((PQ.sl ks nn hi).sym off) v) ∧ (∀ ks' nn' hi', PQ.sl ks nn hi = .sl ks' nn' hi' → 0 < ns.getD 1 0 → slot off (.sl ks nn hi) L W ns) := by
          intro a c hac hv'
          refine ⟨[0, 0], ⟨0, 0, 0⟩, rfl, bds 0 0 hhi0, fun off => ⟨fun ρ f hρ _ => ?_, fun ks' _ _ _ h0 => by simp at h0⟩⟩
          subst hv'
          exact .sliceZ (nn := nn) (by have := hρ 1 0 rfl; simpa [IE.ev] using this) hac
        have hcells : v.cells.toList = [v] ∨ ∃ a, v = .agg a := by
          cases v <;> first | exact .inl rfl | exact .inr ⟨_, rfl⟩
        have hnotagg : ∀ a, v ≠ .agg a := by
          rintro a rfl
          unfold Value.okWide at hv
          rw [hu] at hv
          simp only at hv
          unfold Cell.okWide at hv
          rw [hu] at hv
          simp only at hv
          unfold Cell.ok at hv
          rw [hu] at hv
          exact hv
        have hcells : v.cells.toList = [v] := by
          rcases hcells with h | ⟨a, h⟩
          · exact h
          · exact absurd h (hnotagg a)
        rw [hcells] at hf
        rcases open_slice hu hf with ⟨h0, _⟩ | ⟨a, len, cap, m, n, D, Pl, h1, _, hlc, hcm, hm, _, hin⟩
        · simp at h0
          exact nil none 0 (fun _ => ⟨rfl, by cases nn with | false => rfl | true => exact absurd h0 (hfn rfl)⟩) h0
        · simp at h1
          by_cases h0 : len = 0
          · subst h0
            exact nil (some a) cap (fun h => by cases h) h1
          · have hm : m = cap := by simpa using hm
            obtain ⟨cs, el, fr, code, q1, q2, q3⟩ := cells_row (P := P) (w := W) (a := a) (len := len) (s := ks.length) (ks := ks) rfl p3 (by omega) (fun i hil => by
              obtain ⟨cs', c1, c2⟩ := hin i (by omega)
              obtain ⟨_, c3, c4⟩ := World.cells?_some c1
              refine ⟨cs', trod_ints 20 e ks hks n cs' _ c2, fun j hj => ?_⟩
              have := c4 j (by rw [p2]; exact hj)
              rw [← this, p2]
              congr 1
              obtain ⟨b, o, sp⟩ := a
              unfold Addr.add
              simp only
              by_cases hz : i * ks.length = 0
              · rw [if_pos hz]
                rw [hz, Nat.zero_add]
              · rw [if_neg hz, if_neg (by omega)]
                by_cases hj0 : j = 0
                · rw [if_pos hj0, hj0, Nat.add_zero]
                · rw [if_neg hj0]
                  simp [Nat.add_assoc])
            have hmax : (len : Int) ≤ hi := hfh _ _ _ h1
            refine ⟨[code, (len : Int)], ⟨a.block, a.off, cs.size⟩, rfl, bds len code hmax, fun off => ⟨fun ρ f hρ hL => ?_, fun ks' nn' hi' hk' hpos => ?_⟩⟩
            · have e1 : ρ.i (off + 1) = (len : Int) := hρ 1 _ rfl
              have hfo := hL ks nn hi rfl (by simp; omega)
              subst h1
              have := VRel.sliceS (ρ := ρ) (f := f) (i := off) (s := ks.length) (st := .lit 0) (len := .var (off + 1)) (nn := nn) (c := cap) hfo (by simp [IE.ev]) (by simp [IE.ev, e1]) (by simp [IE.ev, e1]; exact hlc)
              simp only [IE.ev, e1, Int.toNat_natCast] at this
              have e2 : (⟨a.block, a.off + Int.toNat 0 * ks.length, none⟩ : Addr) = a := by
                obtain ⟨b, o, sp⟩ := a
                simp only at q1
                subst q1
                simp
              rw [e2] at this
              exact this
            · intro ρ f B hρ
              have e0 : ρ.i off = code := hρ 0 _ rfl
              have e1 : ρ.i (off + 1) = (len : Int) := hρ 1 _ rfl
              refine ⟨cs, el, fr, q2, rfl, fun h => (by cases h), fun j c k hj hk => ?_⟩
              simp only [IE.ev, e0, e1] at hj ⊢
              exact q3 j c k (by omega) hk
      · cases hp
    · cases hp



theorem pqObjs_get : ∀ (ps : List PQ) (off i : Nat) (o : AObj), (pqObjs ps off).get i = some o → off ≤ i ∧ ∃ ks, kindsAt ps off i = some ks ∧ o = .arr ks (.var i) (.var (i + 1)) false := by
  intro ps
  induction ps with
  | nil => intro off i o h; rw [show pqObjs [] off = .nil from rfl, T.get_nil] at h; cases h
  | cons p ps ih =>
    intro off i o h
    cases p with
    | int k =>
      obtain ⟨h1, ks, h2, h3⟩ := ih _ _ _ h
      exact ⟨by omega, ks, h2, h3⟩
    | agg ks =>
      obtain ⟨h1, ks, h2, h3⟩ := ih _ _ _ h
      exact ⟨by omega, ks, h2, h3⟩
    | nilS =>
      obtain ⟨h1, ks, h2, h3⟩ := ih _ _ _ h
      exact ⟨by simp only [PQ.wide] at h1; omega, ks, h2, h3⟩
    | sl ks nn hi =>
      rcases T.get_set h with ⟨rfl, rfl⟩ | ⟨_, h⟩
      · exact ⟨Nat.le_refl _, ks, if_pos rfl, rfl⟩
      · obtain ⟨h1, ks', h2, h3⟩ := ih _ _ _ h
        refine ⟨by omega, ks', ?_, h3⟩
        show (if i = off then some ks else kindsAt ps (off + 2) i) = some ks'
        rw [if_neg (by omega)]
        exact h2
/-- All the parameters opened, from symbol number off on: numbers for the symbols, places for the blocks. -/
theorem open_pqs {W : World} : ∀ (ts : List TypeId) (ps : List PQ) (vs : List Value) (ds : List (DataW H)) (mp : List MemPlace), pqsOk P ts ps = true → (∀ (j : Nat) p v, ps[j]? = some p → vs[j]? = some v → p.fit v) → (∀ (j : Nat) t v, ts[j]? = some t → vs[j]? = some v → Value.okWide P W .any base t v) →
    DataW.TrodAll enc P W 0 (fun _ => true) true ts vs ds mp →
    ∀ off : Nat, ∃ (ns : List Int) (g : Ren), ns.length = pqWide ps ∧ (∀ (j : Nat) b n, (pqBds ps)[j]? = some b → ns[j]? = some n → inBd b n) ∧ (∀ i, (i < off ∨ off + pqWide ps ≤ i) → g i = none) ∧ (∀ i L, g i = some L → ∃ ks, kindsAt ps off i = some ks) ∧
      ∀ (ρ : Env), (∀ (j : Nat) (n : Int), ns[j]? = some n → ρ.i (off + j) = n) →
        (∀ f : Ren, (∀ i L, off ≤ i → i < off + pqWide ps → g i = some L → f i = some L) → LRel ρ f (pqArgs ps off) vs.toArray) ∧
        ∀ (f : Ren) (B : Nat → Prop) (i : Nat) (L : Loc) (ks : List IntKind), g i = some L → kindsAt ps off i = some ks → ORel ρ f B W L (.arr ks (.var i) (.var (i + 1)) false) := by
  intro ts
  induction ts with
  | nil =>
    intro ps vs ds mp hp hft hv ht off
    cases ps with
    | cons p ps => cases hp
    | nil =>
      cases vs with
      | cons v vs => cases ds <;> exact ht.elim
      | nil => exact ⟨[], fun _ => none, rfl, fun j b n h => by simp [pqBds] at h, fun _ _ => rfl, fun i L h => (by cases h), fun ρ _ => ⟨fun f _ => LRel.nil, fun f B i L ks h => by cases h⟩⟩
  | cons t ts ih =>
    intro ps vs ds mp hp hft hv ht off
    cases ps with
    | nil => cases hp
    | cons p ps =>
      cases vs with
      | nil => cases ds <;> exact ht.elim
      | cons v vs =>
        cases ds with
        | nil => exact ht.elim
        | cons d ds =>
          obtain ⟨m1, m2, ht1, ht2, _⟩ := ht
          unfold pqsOk at hp
          split at hp
          · rename_i hp1
            obtain ⟨ns1, L1, a1, a2, a3⟩ := open_pq hp1 (hft 0 p v rfl rfl) (hv 0 t v rfl rfl) ht1
            obtain ⟨ns2, g2, b1, b2, b3, b4, b5⟩   := ih ps vs ds m2 hp (fun j p' v' h1 h2 => hft (j + 1) p' v' (by simpa using h1) (by simpa using h2)) (fun j t' v' h1 h2 => hv (j + 1) t' v' (by simpa using h1) (by simpa using h2)) ht2 (off + p.wide)
            have ev1 : ∀ (ρ : Env), (∀ (j : Nat) (n : Int), (ns1 ++ ns2)[j]? = some n → ρ.i (off + j) = n) → ∀ (j : Nat) (n : Int), ns1[j]? = some n → ρ.i (off + j) = n := by
              intro ρ hρ j n hn
              refine hρ j n ?_
              rw [List.getElem?_append_left (List.getElem?_eq_some_iff.1 hn).1]
              exact hn
            have ev2 : ∀ (ρ : Env), (∀ (j : Nat) (n : Int), (ns1 ++ ns2)[j]? = some n → ρ.i (off + j) = n) → ∀ (j : Nat) (n : Int), ns2[j]? = some n → ρ.i (off + p.wide + j) = n := by
              intro ρ hρ j n hn
              rw [Nat.add_assoc]
              refine hρ _ n ?_
              rw [List.getElem?_append_right (by omega), ← a1]
              rw [show ns1.length + j - ns1.length = j by omega]
              exact hn
            have bds : ∀ (j : Nat) b n, (pqBds (p :: ps))[j]? = some b → (ns1 ++ ns2)[j]? = some n → inBd b n := by
              intro j b n hb hn
              simp only [pqBds] at hb
              by_cases hj : j < ns1.length
              · rw [List.getElem?_append_left hj] at hn
                rw [List.getElem?_append_left (by rw [PQ.bds_length]; omega)] at hb
                exact a2 j b n hb hn
              · rw [List.getElem?_append_right (by omega)] at hn
                rw [List.getElem?_append_right (by rw [PQ.bds_length]; omega), PQ.bds_length, ← a1] at hb
                exact b2 _ b n hb hn
            by_cases hsl : ∃ ks nn hi, p = .sl ks nn hi ∧ 0 < ns1.getD 1 0
            · obtain ⟨ks0, nn0, hi0, rfl, h0⟩ := hsl
              refine ⟨ns1 ++ ns2, fun i => if i = off then some L1 else g2 i, by simp [pqWide, a1, b1], bds, fun i hi => ?_, fun i L hi => ?_, fun ρ hρ => ⟨fun f hf => ?_, fun f B i L ks hg hk => ?_⟩⟩
              · have e : (if i = off then some L1 else g2 i) = g2 i := if_neg (by simp only [pqWide, PQ.wide] at hi; omega)
                show (if i = off then some L1 else g2 i) = none
                rw [e]
                exact b3 i (by simp only [pqWide] at hi; omega)
              · have hi : (if i = off then some L1 else g2 i) = some L := hi
                by_cases h : i = off
                · exact ⟨ks0, if_pos h⟩
                · rw [if_neg h] at hi
                  obtain ⟨ks, hk⟩ := b4 i L hi
                  exact ⟨ks, (if_neg h).trans hk⟩
              · refine LRel.cons ((a3 off).1 ρ f (ev1 ρ hρ) (fun ks _ _ hk h0 => ?_)) ((b5 ρ (ev2 ρ hρ)).1 f (fun i L h1 h2 h3 => ?_))
                · exact hf off L1 (Nat.le_refl _) (by simp [pqWide, PQ.wide]; omega) (if_pos rfl)
                · refine hf i L (by omega) (by simp only [pqWide]; omega) ?_
                  show (if i = off then some L1 else g2 i) = some L
                  rw [if_neg (by simp only [PQ.wide] at h1; omega)]
                  exact h3
              · have hg : (if i = off then some L1 else g2 i) = some L := hg
                have hk : (if i = off then some ks0 else kindsAt ps (off + 2) i) = some ks := hk
                by_cases hi : i = off
                · subst hi
                  rw [if_pos rfl] at hg hk
                  cases hg; cases hk
                  exact (a3 i).2 _ _ _ rfl h0 ρ f B (ev1 ρ hρ)
                · rw [if_neg hi] at hg hk
                  exact (b5 ρ (ev2 ρ hρ)).2 f B i L ks hg hk
            · refine ⟨ns1 ++ ns2, g2, by simp [pqWide, a1, b1], bds, fun i hi => b3 i (by simp only [pqWide] at hi; omega), fun i L hi => ?_, fun ρ hρ => ⟨fun f hf => ?_, fun f B i L ks hg hk => ?_⟩⟩
              · obtain ⟨ks, hk⟩ := b4 i L hi
                cases p with
                | int k => exact ⟨ks, hk⟩
                | agg k => exact ⟨ks, hk⟩
                | nilS => exact ⟨ks, hk⟩
                | sl ks0 nn0 hi0 =>
                  by_cases h : i = off
                  · exact ⟨ks0, if_pos h⟩
                  · exact ⟨ks, (if_neg h).trans hk⟩
              · refine LRel.cons ((a3 off).1 ρ f (ev1 ρ hρ) (fun ks nn hi hk h0 => absurd ⟨ks, nn, hi, hk, h0⟩ hsl)) ((b5 ρ (ev2 ρ hρ)).1 f (fun i L h1 h2 h3 => ?_))
                exact hf i L (by omega) (by simp only [pqWide]; omega) h3
              · cases p with
                | int k => exact (b5 ρ (ev2 ρ hρ)).2 f B i L ks hg hk
                | agg k => exact (b5 ρ (ev2 ρ hρ)).2 f B i L ks hg hk
                | nilS => exact (b5 ρ (ev2 ρ hρ)).2 f B i L ks hg hk
                | sl ks0 nn0 hi0 =>
                  have hk : (if i = off then some ks0 else kindsAt ps (off + 2) i) = some ks := hk
                  by_cases hi : i = off
                  · subst hi
                    rw [b3 i (.inl (by simp [PQ.wide]))] at hg
                    cases hg
                  · rw [if_neg hi] at hk
                    exact (b5 ρ (ev2 ρ hρ)).2 f B i L ks hg hk
          · cases hp
/-- The bounds of the symbols. -/
def pqBd (ps : List PQ) : Bd := fun i =>
  match (treeOf (pqBds ps) 0 .nil).get i with
  | some (some b) => some b
  | _ => none
/-- The start of a law: the symbols' numbers, and the state at its entry. -/
theorem open_law {W : World} {ts : List TypeId} {ps : List PQ} {args : Array Value} {ds : List (DataW H)} {mp : List MemPlace} (hp : pqsOk P ts ps = true) (hft : ∀ (j : Nat) p v, ps[j]? = some p → args[j]? = some v → p.fit v) (hv : ∀ (j : Nat) t v, ts[j]? = some t → args[j]? = some v → Value.okWide P W .any base t v)
    (ht : DataW.TrodAll enc P W 0 (fun _ => true) true ts args.toList ds mp) :
    ∃ I : Nat → Int, ∀ ρ : Env, (∀ i, i < pqWide ps → ρ.i i = I i) → (∀ i lo hi, pqBd ps i = some (lo, hi) → lo ≤ ρ.i i ∧ ρ.i i ≤ hi) ∧
      ∃ f : Ren, HRel ρ (· < W.heap.size) W f (pqObjs ps 0) W ∧ LRel ρ f (pqArgs ps 0) args ∧ ∀ i, pqWide ps ≤ i → f i = none := by
  obtain ⟨ns, g, h1, h2, h3, h5, h4⟩ := open_pqs (W := W) (base := base) ts ps args.toList ds mp hp (fun j p v a b => hft j p v a (by simpa using b)) (fun j t v a b => hv j t v a (by simpa using b)) ht 0
  refine ⟨fun i => ns.getD i 0, fun ρ hρ => ?_⟩
  have hev : ∀ (j : Nat) (n : Int), ns[j]? = some n → ρ.i (0 + j) = n := by
    intro j n hn
    have hlt := (List.getElem?_eq_some_iff.1 hn).1
    rw [Nat.zero_add, hρ j (by omega)]
    simp [List.getD, hn]
  obtain ⟨q1, q2⟩ := h4 ρ hev
  refine ⟨fun i lo hi hb => ?_, g, ⟨Kept.refl _ _, fun _ h => h, fun i L hi => ?_, fun i j Li Lj oi oj hi hj gi gj hij hown => ?_, fun i L o hi ho => ?_⟩, ?_, fun i hi => h3 i (.inr (by omega))⟩
  · unfold pqBd at hb
    split at hb
    · rename_i b hk
      cases hb
      rcases treeOf_ok _ _ _ _ _ hk with ⟨_, hk⟩ | hk
      · have hk : (pqBds ps)[i]? = some (some (lo, hi)) := by simpa using hk
        have hlt : i < ns.length := by
          have hl : ∀ ps : List PQ, (pqBds ps).length = pqWide ps := by
            intro ps
            induction ps with
            | nil => rfl
            | cons p ps ih => simp [pqBds, pqWide, PQ.bds_length, ih]
          have := (List.getElem?_eq_some_iff.1 hk).1
          rw [hl] at this
          omega
        have hn : ns[i]? = some ns[i] := by simp [hlt]
        have := h2 i _ _ hk hn lo hi rfl
        have e := hev i _ hn
        rw [Nat.zero_add] at e
        rw [e]
        exact this
      · (rw [T.get_nil] at hk; cases hk)
    · cases hb
  · obtain ⟨ks, hk⟩ := h5 i L hi
    have o := q2 (fun _ => none) (fun _ => False) i L ks hi hk
    exact o.foot_lt o.foot_self
  · obtain ⟨_, ks, _, rfl⟩ := pqObjs_get _ _ _ _ gi
    cases hown
  · obtain ⟨_, ks, hk, rfl⟩ := pqObjs_get _ _ _ _ ho
    exact q2 _ _ i L ks hi hk
  · have := q1 g (fun i L _ _ hg => hg)
    simpa using this
/-- How long a slice among the arguments is, by its reading. -/
theorem slice_len {t e : TypeId} {a : Option Addr} {n c : Nat} {d : DataW H} {p : List MemPlace} (hu : P.underlying t = some (.slice e)) (h : DataW.Trod enc P w base spare held t (.slice a n c) d p) : n = 0 ∨ ∃ elems rest, d = .slice elems rest ∧ elems.length = n := by
  obtain ⟨fuel, hf⟩ := h
  have hf : DataW.trod enc P w base spare held fuel t [.slice a n c] = some (d, p) := hf
  rcases open_slice hu hf with ⟨h0, _⟩ | ⟨a', len, cap, m, k, D, Pl, h1, _, _, _, _, hx, _⟩
  · simp at h0; exact .inl h0.2.1
  · simp at h1
    obtain ⟨_, rfl, _⟩ := h1
    simp only [Prod.mk.injEq] at hx
    exact .inr ⟨_, _, hx.1, by simp⟩
end
end
end Go.Sx
/- Outcomes as trees: an undecided test parts the run; parts that end alike are joined again. No condition. -/
set_option linter.unusedSimpArgs false
set_option linter.unusedVariables false
namespace Go.Sx
open Go.RowKit (Below)
noncomputable section

/-! two values joined under a test -/
def BE.sel : BE → IE → IE → Option IE
  | .lit true, x, _ => some x
  | .lit false, _, y => some y
  | .var _, _, _ => none
  | .eq a b, x, y => some (.sel false a b x y)
  | .lt a b, x, y => some (.sel true a b x y)
  | .not t, x, y => BE.sel t y x
theorem BE.sel_ev {ρ : Env} : ∀ {b : BE} {x y z : IE}, b.sel x y = some z → z.ev ρ = if b.ev ρ then x.ev ρ else y.ev ρ := by
  intro b
  induction b with
  | lit v => intro x y z h; cases v <;> (cases h; simp [BE.ev])
  | var i => intro x y z h; cases h
  | eq a b => intro x y z h; cases h; simp [IE.ev, selI, BE.ev]
  | lt a b => intro x y z h; cases h; simp [IE.ev, selI, BE.ev]
  | not t ih => intro x y z h; rw [ih h]; cases ht : t.ev ρ <;> simp [BE.ev, ht]
/-- Equality, in few steps where both are symbols or numbers. -/
def IE.eqF (x y : IE) : Bool :=
  match x with
  | .var i => match y with
    | .var j => Nat.beq i j
    | _ => false
  | .lit a => match y with
    | .lit b => intEq a b
    | _ => false
  | _ => match y with
    | .var _ => false
    | .lit _ => false
    | _ => x.eq y
theorem IE.eqF_eq {x y : IE} (h : x.eqF y = true) : x = y := by
  unfold IE.eqF at h
  split at h
  · split at h
    · rw [Nat.eq_of_beq_eq_true h]
    · cases h
  · split at h
    · rw [intEq_eq h]
    · cases h
  · split at h
    · cases h
    · cases h
    · exact IE.eq_eq h
def IE.mrg (b : BE) (x y : IE) : Option IE :=
  match x.eqF y with
  | true => some x
  | false => b.sel x y
theorem IE.mrg_ev {ρ : Env} {b : BE} {x y z : IE} (h : IE.mrg b x y = some z) : z.ev ρ = if b.ev ρ then x.ev ρ else y.ev ρ := by
  unfold IE.mrg at h
  split at h
  · rename_i he
    cases h
    rw [IE.eqF_eq he]
    simp
  · exact BE.sel_ev h
def BE.mrg (b x y : BE) : Option BE :=
  match x.same y with
  | true => some x
  | false =>
    match x.num, y.num with
    | some p, some q =>
      match b.sel p q with
      | some z => some (.eq z (.lit 1))
      | none => none
    | _, _ => none
theorem BE.mrg_ev {ρ : Env} {b x y z : BE} (h : BE.mrg b x y = some z) : z.ev ρ = if b.ev ρ then x.ev ρ else y.ev ρ := by
  unfold BE.mrg at h
  split at h
  · rename_i he
    cases h
    rw [BE.same_eq he]
    simp
  · split at h
    · rename_i p q hp hq
      split at h
      · rename_i e he
        cases h
        have h1 := BE.sel_ev (ρ := ρ) he
        rw [BE.num_ev hp, BE.num_ev hq] at h1
        have e1 : (IE.lit 1).ev ρ = 1 := rfl
        show decide (e.ev ρ = (IE.lit 1).ev ρ) = _
        rw [h1, e1]
        cases b.ev ρ <;> cases x.ev ρ <;> cases y.ev ρ <;> rfl
      · cases h
    · cases h
/-- One of two. -/
def pickV {α : Type} (v : Bool) (x y : α) : α := match v with | true => x | false => y
theorem ie_pick {ρ : Env} {b : BE} {x y z : IE} {v : Bool} (h : IE.mrg b x y = some z) (hb : b.ev ρ = v) : z.ev ρ = (pickV v x y).ev ρ := by
  rw [IE.mrg_ev h, hb]
  cases v <;> rfl
def mrgIEs (b : BE) : List IE → List IE → Option (List IE)
  | [], l =>
    match l with
    | [] => some []
    | _ => none
  | x :: l, m =>
    match m with
    | [] => none
    | y :: m =>
      match IE.mrg b x y with
      | some z =>
        match mrgIEs b l m with
        | some zs => some (z :: zs)
        | none => none
      | none => none
theorem mrgIEs_ev {ρ : Env} {b : BE} {v : Bool} (hb : b.ev ρ = v) : ∀ {l m z : List IE}, mrgIEs b l m = some z → z.map (·.ev ρ) = (pickV v l m).map (·.ev ρ) := by
  intro l
  induction l with
  | nil =>
    intro m z h
    cases m with
    | nil => cases h; cases v <;> rfl
    | cons y m => cases h
  | cons x l ih =>
    intro m z h
    cases m with
    | nil => cases h
    | cons y m =>
      simp only [mrgIEs] at h
      split at h
      · rename_i e he
        split at h
        · rename_i es hes
          cases h
          have h1 := ie_pick he hb
          have h2 := ih hes
          cases v
          · simp only [pickV, List.map_cons] at h2 ⊢
            rw [h2, h1]
            rfl
          · simp only [pickV, List.map_cons] at h2 ⊢
            rw [h2, h1]
            rfl
        · cases h
      · cases h
mutual
def AVal.mrg (b : BE) : AVal → AVal → Option AVal
  | .bool x, y =>
    match y with
    | .bool y =>
      match BE.mrg b x y with
      | some z => some (.bool z)
      | none => none
    | _ => none
  | .int k x, y =>
    match y with
    | .int j y =>
      match kindEq k j with
      | true =>
        match IE.mrg b x y with
        | some z => some (.int k z)
        | none => none
      | false => none
    | _ => none
  | .agg l, y =>
    match y with
    | .agg m =>
      match mrgList b l m with
      | some z => some (.agg z)
      | none => none
    | _ => none
  | .tuple l, y =>
    match y with
    | .tuple m =>
      match mrgList b l m with
      | some z => some (.tuple z)
      | none => none
    | _ => none
  | .iface t v, y =>
    match y with
    | .iface t' v' =>
      match Nat.beq t t' with
      | true =>
        match v.mrg b v' with
        | some z => some (.iface t z)
        | none => none
      | false => none
    | _ => none
  | .str l, y =>
    match y with
    | .str m =>
      match mrgIEs b l m with
      | some z => some (.str z)
      | none => none
    | _ => none
  | .strS c l, y =>
    match y with
    | .strS c' l' =>
      match IE.mrg b c c', IE.mrg b l l' with
      | some p, some q => some (.strS p q)
      | _, _ => none
    | _ => none
  | .sliceS i a l s nn, y =>
    match y with
    | .sliceS i' a' l' s' nn' =>
      match Nat.beq i i' && (Nat.beq s s' && bEq nn nn') with
      | true =>
        match IE.mrg b a a', IE.mrg b l l' with
        | some p, some q => some (.sliceS i p q s nn)
        | _, _ => none
      | false => none
    | _ => none
  | .sliceA i l s, y =>
    match y with
    | .sliceA i' l' s' =>
      match Nat.beq i i' && Nat.beq s s' with
      | true =>
        match IE.mrg b l l' with
        | some q => some (.sliceA i q s)
        | none => none
      | false => none
    | _ => none
  | .ptrE i e s c, y =>
    match y with
    | .ptrE i' e' s' c' =>
      match Nat.beq i i' && (Nat.beq s s' && Nat.beq c c') with
      | true =>
        match IE.mrg b e e' with
        | some p => some (.ptrE i p s c)
        | none => none
      | false => none
    | _ => none
  | x, y =>
    match x.same y with
    | true => some x
    | false => none
def mrgList (b : BE) : List AVal → List AVal → Option (List AVal)
  | [], l =>
    match l with
    | [] => some []
    | _ => none
  | x :: l, m =>
    match m with
    | [] => none
    | y :: m =>
      match x.mrg b y with
      | some z =>
        match mrgList b l m with
        | some zs => some (z :: zs)
        | none => none
      | none => none
end
theorem mrgList_length {b : BE} : ∀ {l m z : List AVal}, mrgList b l m = some z → z.length = l.length ∧ z.length = m.length := by
  intro l
  induction l with
  | nil =>
    intro m z h
    cases m with
    | nil => cases h; exact ⟨rfl, rfl⟩
    | cons y m => cases h
  | cons x l ih =>
    intro m z h
    cases m with
    | nil => cases h
    | cons y m =>
      simp only [mrgList] at h
      split at h
      · split at h
        · rename_i h2
          cases h
          have := ih h2
          simp [this.1, ← this.2]
        · cases h
      · cases h
section
variable {ρ : Env} {b : BE}
/-- Values of the same numbers. -/
theorem VRel.ints {f : Ren} {k : IntKind} {e e' : IE} {u : Value} (h : e'.ev ρ = e.ev ρ) (hv : VRel ρ f (.int k e) u) : VRel ρ f (.int k e') u := by
  cases hv
  rw [← h]
  exact .int k e'
theorem VRel.bools {f : Ren} {e e' : BE} {u : Value} (h : e'.ev ρ = e.ev ρ) (hv : VRel ρ f (.bool e) u) : VRel ρ f (.bool e') u := by
  cases hv
  rw [← h]
  exact .bool e'
theorem VRel.strSs {f : Ren} {c l c' l' : IE} {u : Value} (h : c'.ev ρ = c.ev ρ) (h' : l'.ev ρ = l.ev ρ) (hv : VRel ρ f (.strS c l) u) : VRel ρ f (.strS c' l') u := by
  cases hv; rename_i s hs hl
  exact .strS (h'.trans hl) (fun j x hx => by rw [h]; exact hs j x hx)
theorem VRel.sliceSs {f : Ren} {i s : Nat} {nn : Bool} {c l c' l' : IE} {u : Value} (h : c'.ev ρ = c.ev ρ) (h' : l'.ev ρ = l.ev ρ) (hv : VRel ρ f (.sliceS i c l s nn) u) : VRel ρ f (.sliceS i c' l' s nn) u := by
  cases hv with
  | sliceS hf h0 hl hc =>
    rw [← h] at h0
    rw [← h'] at hl hc
    rw [← h, ← h']
    exact .sliceS hf h0 hl hc
  | sliceZ hl ha => exact .sliceZ (h'.trans hl) ha
theorem VRel.sliceAs {f : Ren} {i s : Nat} {l l' : IE} {u : Value} (h' : l'.ev ρ = l.ev ρ) (hv : VRel ρ f (.sliceA i l s) u) : VRel ρ f (.sliceA i l' s) u := by
  cases hv with
  | sliceA hf hl hc hs =>
    rw [← h'] at hl hc ⊢
    exact .sliceA hf hl hc hs
  | sliceN hl => exact .sliceN (h'.trans hl)
theorem VRel.ptrEs {f : Ren} {i s c : Nat} {e e' : IE} {u : Value} (h : e'.ev ρ = e.ev ρ) (hv : VRel ρ f (.ptrE i e s c) u) : VRel ρ f (.ptrE i e' s c) u := by
  cases hv; rename_i L hf h0
  rw [← h] at h0 ⊢
  exact .ptrE hf h0
mutual
theorem AVal.mrg_ok : ∀ (x y z : AVal) (v : Bool) (f : Ren) (u : Value), AVal.mrg b x y = some z → b.ev ρ = v → VRel ρ f (pickV v x y) u → VRel ρ f z u := by
  intro x y z v f u h hb hu
  have same : (match x.same y with | true => some x | false => none) = some z → VRel ρ f z u := by
    intro h
    split at h
    · rename_i he
      cases h
      have := AVal.same_eq he
      subst this
      cases v <;> exact hu
    · cases h
  cases x with
  | bool x =>
    simp only [AVal.mrg] at h
    split at h
    · split at h
      · rename_i y' e he
        cases h
        have := BE.mrg_ev (ρ := ρ) he
        rw [hb] at this
        cases v
        · exact VRel.bools this hu
        · exact VRel.bools this hu
      · cases h
    · cases h
  | int k x =>
    simp only [AVal.mrg] at h
    split at h
    · split at h
      · rename_i j y' hk
        have hk := kindEq_eq hk
        subst hk
        split at h
        · rename_i e he
          cases h
          have := ie_pick he hb
          cases v
          · exact VRel.ints this hu
          · exact VRel.ints this hu
        · cases h
      · cases h
    · cases h
  | agg l =>
    simp only [AVal.mrg] at h
    split at h
    · rename_i m
      split at h
      · rename_i e he
        cases h
        have : ∃ a, u = .agg a ∧ LRel ρ f (pickV v l m) a := by
          cases v
          · exact VRel.agg_inv hu
          · exact VRel.agg_inv hu
        obtain ⟨a, rfl, ha⟩ := this
        have := mrgList_ok l m e v f a he hb ha
        exact .agg this.1 this.2
      · cases h
    · cases h
  | tuple l =>
    simp only [AVal.mrg] at h
    split at h
    · rename_i m
      split at h
      · rename_i e he
        cases h
        have : ∃ a, u = .tuple a ∧ LRel ρ f (pickV v l m) a := by
          cases v
          · cases hu; rename_i a h1 h2; exact ⟨a, rfl, h1, h2⟩
          · cases hu; rename_i a h1 h2; exact ⟨a, rfl, h1, h2⟩
        obtain ⟨a, rfl, ha⟩ := this
        have := mrgList_ok l m e v f a he hb ha
        exact .tuple this.1 this.2
      · cases h
    · cases h
  | iface t x =>
    simp only [AVal.mrg] at h
    split at h
    · rename_i t' y'
      split at h
      · rename_i ht
        have ht := Nat.eq_of_beq_eq_true ht
        subst ht
        split at h
        · rename_i e he
          cases h
          have : ∃ a, u = .iface t a ∧ VRel ρ f (pickV v x y') a := by
            cases v
            · cases hu; rename_i a h1; exact ⟨a, rfl, h1⟩
            · cases hu; rename_i a h1; exact ⟨a, rfl, h1⟩
          obtain ⟨a, rfl, ha⟩ := this
          exact .iface (AVal.mrg_ok x y' e v f a he hb ha)
        · cases h
      · cases h
    · cases h
  | str l =>
    simp only [AVal.mrg] at h
    split at h
    · split at h
      · rename_i m z' he
        cases h
        have e := mrgIEs_ev (ρ := ρ) hb he
        cases v
        · cases hu; rename_i s hs; exact .str (hs.trans e.symm)
        · cases hu; rename_i s hs; exact .str (hs.trans e.symm)
      · cases h
    · cases h
  | strS c l =>
    simp only [AVal.mrg] at h
    split at h
    · split at h
      · rename_i p q h1 h2
        cases h
        have e1 := ie_pick h1 hb
        have e2 := ie_pick h2 hb
        cases v
        · exact VRel.strSs e1 e2 hu
        · exact VRel.strSs e1 e2 hu
      · cases h
    · cases h
  | sliceS i a l s nn =>
    simp only [AVal.mrg] at h
    split at h
    · split at h
      · rename_i hk
        obtain ⟨k1, k2⟩ := and_split hk
        obtain ⟨k2, k3⟩ := and_split k2
        have k1 := Nat.eq_of_beq_eq_true k1
        have k2 := Nat.eq_of_beq_eq_true k2
        have k3 := bEq_eq k3
        subst k1 k2 k3
        split at h
        · rename_i p q h1 h2
          cases h
          have e1 := ie_pick h1 hb
          have e2 := ie_pick h2 hb
          cases v
          · exact VRel.sliceSs e1 e2 hu
          · exact VRel.sliceSs e1 e2 hu
        · cases h
      · cases h
    · cases h
  | sliceA i l s =>
    simp only [AVal.mrg] at h
    split at h
    · split at h
      · rename_i hk
        obtain ⟨k1, k2⟩ := and_split hk
        have k1 := Nat.eq_of_beq_eq_true k1
        have k2 := Nat.eq_of_beq_eq_true k2
        subst k1 k2
        split at h
        · rename_i q h2
          cases h
          have e2 := ie_pick h2 hb
          cases v
          · exact VRel.sliceAs e2 hu
          · exact VRel.sliceAs e2 hu
        · cases h
      · cases h
    · cases h
  | ptrE i e s c =>
    simp only [AVal.mrg] at h
    split at h
    · split at h
      · rename_i hk
        obtain ⟨k1, k2⟩ := and_split hk
        obtain ⟨k2, k3⟩ := and_split k2
        have k1 := Nat.eq_of_beq_eq_true k1
        have k2 := Nat.eq_of_beq_eq_true k2
        have k3 := Nat.eq_of_beq_eq_true k3
        subst k1 k2 k3
        split at h
        · rename_i p h1
          cases h
          have e1 := ie_pick h1 hb
          cases v
          · exact VRel.ptrEs e1 hu
          · exact VRel.ptrEs e1 hu
        · cases h
      · cases h
    · cases h
  | ptr a => exact same (by simpa only [AVal.mrg] using h)
  | slice a l c g => exact same (by simpa only [AVal.mrg] using h)
  | map r => exact same (by simpa only [AVal.mrg] using h)
  | func fn a c => exact same (by simpa only [AVal.mrg] using h)
  | nilFunc => exact same (by simpa only [AVal.mrg] using h)
  | nilIface => exact same (by simpa only [AVal.mrg] using h)
theorem mrgList_ok : ∀ (l m z : List AVal) (v : Bool) (f : Ren) (a : Array Value), mrgList b l m = some z → b.ev ρ = v → LRel ρ f (pickV v l m) a → LRel ρ f z a := by
  intro l m z v f a h hb ha
  cases l with
  | nil =>
    cases m with
    | nil => cases h; cases v <;> exact ha
    | cons y m => cases h
  | cons x l =>
    cases m with
    | nil => cases h
    | cons y m =>
      simp only [mrgList] at h
      split at h
      · rename_i e he
        split at h
        · rename_i es hes
          cases h
          obtain ⟨a⟩ := a
          have split : ∃ u us, a = u :: us ∧ VRel ρ f (pickV v x y) u ∧ LRel ρ f (pickV v l m) us.toArray := by
            cases a with
            | nil => cases v <;> (have := ha.1; simp [pickV] at this)
            | cons u us =>
              refine ⟨u, us, rfl, ?_, ?_⟩
              · cases v <;> exact ha.2 0 _ u rfl rfl
              · cases v
                · exact ⟨by have := ha.1; simp [pickV] at this; simp [pickV, this], fun j p q h1 h2 => ha.2 (j + 1) p q (by simpa [pickV] using h1) (by simpa using h2)⟩
                · exact ⟨by have := ha.1; simp [pickV] at this; simp [pickV, this], fun j p q h1 h2 => ha.2 (j + 1) p q (by simpa [pickV] using h1) (by simpa using h2)⟩
          obtain ⟨u, us, rfl, h1, h2⟩ := split
          exact LRel.cons (AVal.mrg_ok x y e v f u he hb h1) (mrgList_ok l m es v f us.toArray hes hb h2)
        · cases h
      · cases h
end
end

/-- The same, in few steps for integers. -/
def AVal.mrgF (b : BE) (x y : AVal) : Option AVal :=
  match x with
  | .int k e =>
    match y with
    | .int j e' =>
      match Nat.beq (kindNo k) (kindNo j) with
      | true =>
        match IE.mrg b e e' with
        | some z => some (.int k z)
        | none => none
      | false => none
    | _ => none
  | _ => x.mrg b y
theorem AVal.mrgF_eq (b : BE) (x y : AVal) : AVal.mrgF b x y = AVal.mrg b x y := by
  unfold AVal.mrgF
  split
  · split
    · simp only [AVal.mrg, kindEq]
    · simp only [AVal.mrg]
  · rfl

/-! trees and objects joined -/
def T.mk {α : Type} (v : Option α) (l r : T α) : T α :=
  Option.rec (motive := fun _ => T α)
    (T.rec (motive := fun _ => T α)
      (T.rec (motive := fun _ => T α) .nil (fun a b c _ _ => .node none .nil (.node a b c)) r)
      (fun x y z _ _ => T.rec (motive := fun _ => T α) (.node none (.node x y z) .nil) (fun a b c _ _ => .node none (.node x y z) (.node a b c)) r) l)
    (fun v => T.rec (motive := fun _ => T α)
      (T.rec (motive := fun _ => T α) (.node (some v) .nil .nil) (fun a b c _ _ => .node (some v) .nil (.node a b c)) r)
      (fun x y z _ _ => T.rec (motive := fun _ => T α) (.node (some v) (.node x y z) .nil) (fun a b c _ _ => .node (some v) (.node x y z) (.node a b c)) r) l) v
theorem T.mk_getS {α : Type} (v : Option α) (l r : T α) (k : Nat) : (T.mk v l r).getS k = (T.node v l r).getS k := by
  cases v <;> cases l <;> cases r <;> first | rfl | (simp only [T.mk, T.getS]; split <;> first | rfl | (split <;> rfl))
def mrgO {α : Type} (g : α → α → Option α) : Option α → Option α → Option α
  | some x, y =>
    match y with
    | some y => g x y
    | none => none
  | none, _ => none
def T.mrg {α : Type} (g : α → α → Option α) (t : T α) : T α → T α :=
  T.rec (motive := fun _ => T α → T α) (fun _ => .nil)
    (fun v _ _ il ir t' => T.rec (motive := fun _ => T α) .nil (fun v' l' r' _ _ => T.mk (mrgO g v v') (il l') (ir r')) t') t
theorem T.mrg_node {α : Type} (g : α → α → Option α) (v v' : Option α) (l r l' r' : T α) : T.mrg g (.node v l r) (.node v' l' r') = T.mk (mrgO g v v') (T.mrg g l l') (T.mrg g r r') := rfl
theorem T.mrg_nil {α : Type} (g : α → α → Option α) (t : T α) : T.mrg g .nil t = .nil := rfl
theorem T.mrg_nil' {α : Type} (g : α → α → Option α) (v : Option α) (l r : T α) : T.mrg g (.node v l r) .nil = .nil := rfl
theorem T.mrg_getS {α : Type} {g : α → α → Option α} : ∀ (t t' : T α) (k : Nat) (z : α), (T.mrg g t t').getS k = some z → ∃ x y, t.getS k = some x ∧ t'.getS k = some y ∧ g x y = some z := by
  intro t
  induction t with
  | nil => intro t' k z h; rw [T.mrg_nil] at h; simp [T.getS] at h
  | node v l r ihl ihr =>
    intro t' k z h
    cases t' with
    | nil => rw [T.mrg_nil'] at h; simp [T.getS] at h
    | node v' l' r' =>
      rw [T.mrg_node, T.mk_getS] at h
      simp only [T.getS] at h ⊢
      cases hk : Nat.beq k 0
      · simp only [hk] at h ⊢
        cases ho : Nat.beq (k % 2) 1
        · simp only [ho] at h ⊢
          exact ihr _ _ _ h
        · simp only [ho] at h ⊢
          exact ihl _ _ _ h
      · simp only [hk] at h ⊢
        unfold mrgO at h
        split at h
        · split at h
          · exact ⟨_, _, rfl, rfl, h⟩
          · cases h
        · cases h
theorem T.mrg_get {α : Type} {g : α → α → Option α} {t t' : T α} {k : Nat} {z : α} (h : (T.mrg g t t').get k = some z) : ∃ x y, t.get k = some x ∧ t'.get k = some y ∧ g x y = some z := by
  rw [T.get_eq] at h
  obtain ⟨x, y, h1, h2, h3⟩ := T.mrg_getS _ _ _ _ h
  exact ⟨x, y, by rw [T.get_eq]; exact h1, by rw [T.get_eq]; exact h2, h3⟩
def sameEs : List (AVal × AVal) → List (AVal × AVal) → Bool
  | [], l =>
    match l with
    | [] => true
    | _ => false
  | x :: l, m =>
    match m with
    | [] => false
    | y :: m => x.1.same y.1 && (x.2.same y.2 && sameEs l m)
theorem sameEs_eq : ∀ {l m : List (AVal × AVal)}, sameEs l m = true → l = m := by
  intro l
  induction l with
  | nil => intro m h; cases m with
    | nil => rfl
    | cons y m => cases h
  | cons x l ih =>
    intro m h
    cases m with
    | nil => cases h
    | cons y m =>
      obtain ⟨h1, h2⟩ := and_split h
      obtain ⟨h2, h3⟩ := and_split h2
      rw [ih h3]
      have e1 := AVal.same_eq h1
      have e2 := AVal.same_eq h2
      obtain ⟨x1, x2⟩ := x
      obtain ⟨y1, y2⟩ := y
      simp only at e1 e2
      rw [e1, e2]
def AObj.mrg (b : BE) : AObj → AObj → Option AObj
  | .cells c e o t, y =>
    match y with
    | .cells c' e' o' t' =>
      match Nat.beq e e' && (bEq o o' && Nat.beq t t') with
      | true => some (.cells (T.mrg (AVal.mrgF b) c c') e o t)
      | false => none
    | _ => none
  | .map es, y =>
    match y with
    | .map es' =>
      match sameEs es es' with
      | true => some (.map es)
      | false => none
    | _ => none
  | .arr ks c n o, y =>
    match y with
    | .arr ks' c' n' o' =>
      match kindsSame ks ks' && bEq o o' with
      | true =>
        match IE.mrg b c c', IE.mrg b n n' with
        | some p, some q => some (.arr ks p q o)
        | _, _ => none
      | false => none
    | _ => none
  | .ghost k vs c, y =>
    match y with
    | .ghost k' vs' c' =>
      match Nat.beq k k' with
      | true =>
        match mrgIEs b vs vs' with
        | some z => some (.ghost k z (T.mrg (AVal.mrgF b) c c'))
        | none => none
      | false => none
    | _ => none
  | .win i s c e o, y =>
    match y with
    | .win i' s' c' e' o' =>
      match i.eqF i' && (Nat.beq s s' && (Nat.beq e e' && bEq o o')) with
      | true => some (.win i s (T.mrg (AVal.mrgF b) c c') e o)
      | false => none
    | _ => none
  | .col s c k code m d n, y =>
    match y with
    | .col s' c' k' code' m' d' n' =>
      match Nat.beq s s' && (Nat.beq c c' && (kindEq k k' && (code.eqF code' && (Nat.beq m m' && (Nat.beq d d' && n.eqF n'))))) with
      | true => some (.col s c k code m d n)
      | false => none
    | _ => none
  | .it0, y =>
    match y with
    | .it0 => some .it0
    | _ => none
/-- What the second says is also said by the first. -/
structure OCov (ρ : Env) (q o : AObj) : Prop where
  own : o.own = q.own
  foot : ∀ w L c, o.foot ρ w L c ↔ q.foot ρ w L c
  rel : ∀ f B w L, ORel ρ f B w L q → ORel ρ f B w L o
theorem AObj.mrg_ok {ρ : Env} {b : BE} {v : Bool} (hb : b.ev ρ = v) {x y z : AObj} (h : AObj.mrg b x y = some z) : OCov ρ (pickV v x y) z := by
  cases x with
  | cells c e o t =>
    simp only [AObj.mrg] at h
    split at h
    · rename_i c' e' o' t'
      split at h
      · rename_i hk
        cases h
        obtain ⟨k1, k2⟩ := and_split hk
        obtain ⟨k2, k3⟩ := and_split k2
        have k1 := Nat.eq_of_beq_eq_true k1
        have k2 := bEq_eq k2
        have k3 := Nat.eq_of_beq_eq_true k3
        subst k1 k2 k3
        refine ⟨by cases v <;> rfl, by cases v <;> exact fun _ _ _ => Iff.rfl, fun f B w L ho => ?_⟩
        have ho' : ORel ρ f B w L (.cells (pickV v c c') e o t) := by cases v <;> exact ho
        obtain ⟨cs, fr, h1, h2, h3, h4⟩ := ho'
        refine ⟨cs, fr, h1, h2, h3, fun j z hz => ?_⟩
        obtain ⟨p, q, g1, g2, g3⟩ := T.mrg_get hz
        have : (pickV v c c').get j = some (pickV v p q) := by cases v <;> first | exact g1 | exact g2
        obtain ⟨a1, v', a2, a3⟩ := h4 j _ this
        exact ⟨a1, v', a2, AVal.mrg_ok p q z v f v' (by rw [← AVal.mrgF_eq]; exact g3) hb a3⟩
      · cases h
    · cases h
  | map es =>
    simp only [AObj.mrg] at h
    split at h
    · rename_i es'
      split at h
      · rename_i hk
        cases h
        have := sameEs_eq hk
        subst this
        cases v <;> exact ⟨rfl, fun _ _ _ => Iff.rfl, fun _ _ _ _ h => h⟩
      · cases h
    · cases h
  | arr ks c n o =>
    simp only [AObj.mrg] at h
    split at h
    · rename_i ks' c' n' o'
      split at h
      · rename_i hk
        obtain ⟨k1, k2⟩ := and_split hk
        have k1 := kindsSame_eq k1
        have k2 := bEq_eq k2
        subst k1 k2
        split at h
        · rename_i p q hp hq
          cases h
          have e1 := ie_pick hp hb
          have e2 := ie_pick hq hb
          refine ⟨by cases v <;> rfl, by cases v <;> exact fun _ _ _ => Iff.rfl, fun f B w L ho => ?_⟩
          have ho' : ORel ρ f B w L (.arr ks (pickV v c c') (pickV v n n') o) := by cases v <;> exact ho
          obtain ⟨cs, el, fr, h1, h2, h3, h4⟩ := ho'
          refine ⟨cs, el, fr, h1, h2, h3, ?_⟩
          rw [e1, e2]
          exact h4
        · cases h
      · cases h
    · cases h
  | ghost k vs c =>
    simp only [AObj.mrg] at h
    split at h
    · rename_i k' vs' c'
      split at h
      · rename_i hk
        have hk := Nat.eq_of_beq_eq_true hk
        subst hk
        split at h
        · rename_i z hz
          cases h
          have e1 := mrgIEs_ev hb hz
          refine ⟨by cases v <;> rfl, by cases v <;> exact fun _ _ _ => Iff.rfl, fun f B w L ho => ?_⟩
          have ho' : ORel ρ f B w L (.ghost k (pickV v vs vs') (pickV v c c')) := by cases v <;> exact ho
          obtain ⟨⟨h1, h2⟩, hb0, cs, el, fr, h3, h4, h5, h6⟩ := ho'
          refine ⟨⟨?_, h2⟩, hb0, cs, el, fr, h3, h4, h5, fun j z hz => ?_⟩
          · rw [e1]
            exact h1
          · obtain ⟨p, q, g1, g2, g3⟩ := T.mrg_get hz
            have : (pickV v c c').get j = some (pickV v p q) := by cases v <;> first | exact g1 | exact g2
            obtain ⟨a1, v', a2, a3⟩ := h6 j _ this
            exact ⟨a1, v', a2, AVal.mrg_ok p q z v f v' (by rw [← AVal.mrgF_eq]; exact g3) hb a3⟩
        · cases h
      · cases h
    · cases h
  | it0 =>
    simp only [AObj.mrg] at h
    split at h
    · cases h
      cases v <;> exact ⟨rfl, fun _ _ _ => Iff.rfl, fun _ _ _ _ h => h⟩
    · cases h
  | col s c k code m d n => 
    simp only [AObj.mrg] at h
    split at h
    · rename_i s' c' k' code' m' d' n'
      split at h
      · rename_i hk
        cases h
        obtain ⟨k1, hk⟩ := and_split hk
        obtain ⟨k2, hk⟩ := and_split hk
        obtain ⟨k3, hk⟩ := and_split hk
        obtain ⟨k4, hk⟩ := and_split hk
        obtain ⟨k5, hk⟩ := and_split hk
        obtain ⟨k6, k7⟩ := and_split hk
        have k1 := Nat.eq_of_beq_eq_true k1
        have k2 := Nat.eq_of_beq_eq_true k2
        have k3 := kindEq_eq k3
        have k4 := IE.eqF_eq k4
        have k5 := Nat.eq_of_beq_eq_true k5
        have k6 := Nat.eq_of_beq_eq_true k6
        have k7 := IE.eqF_eq k7
        subst k1 k2 k3 k4 k5 k6 k7
        cases v <;> exact ⟨rfl, fun _ _ _ => Iff.rfl, fun _ _ _ _ h => h⟩
      · cases h
    · cases h
  | win i s c e o =>
    simp only [AObj.mrg] at h
    split at h
    · rename_i i' s' c' e' o'
      split at h
      · rename_i hk
        cases h
        obtain ⟨k1, k2⟩ := and_split hk
        obtain ⟨k2, k3⟩ := and_split k2
        obtain ⟨k3, k4⟩ := and_split k3
        have k1 := IE.eqF_eq k1
        have k2 := Nat.eq_of_beq_eq_true k2
        have k3 := Nat.eq_of_beq_eq_true k3
        have k4 := bEq_eq k4
        subst k1 k2 k3 k4
        refine ⟨by cases v <;> rfl, by cases v <;> exact fun _ _ _ => Iff.rfl, fun f B w L ho => ?_⟩
        have ho' : ORel ρ f B w L (.win i s (pickV v c c') e o) := by cases v <;> exact ho
        obtain ⟨cs, fr, h1, h2, h3, h0, h4⟩ := ho'
        refine ⟨cs, fr, h1, h2, h3, h0, fun j z hz => ?_⟩
        obtain ⟨p, q, g1, g2, g3⟩ := T.mrg_get hz
        have : (pickV v c c').get j = some (pickV v p q) := by cases v <;> first | exact g1 | exact g2
        obtain ⟨v', a2, a3⟩ := h4 j _ this
        exact ⟨v', a2, AVal.mrg_ok p q z v f v' (by rw [← AVal.mrgF_eq]; exact g3) hb a3⟩
      · cases h
    · cases h

/-! states joined -/
structure SCov (ρ : Env) (s t : ASt) : Prop where
  tm : ∀ k v, t.tm.get k = some v → ∃ u, s.tm.get k = some u ∧ ∀ f x, VRel ρ f u x → VRel ρ f v x
  hp : ∀ i o, t.hp.get i = some o → ∃ q, s.hp.get i = some q ∧ OCov ρ q o
  nx : s.nx ≤ t.nx
theorem SCov.refl (ρ : Env) (s : ASt) : SCov ρ s s := ⟨fun k v h => ⟨v, h, fun _ _ h => h⟩, fun i o h => ⟨o, h, rfl, fun _ _ _ => Iff.rfl, fun _ _ _ _ h => h⟩, Nat.le_refl _⟩
theorem SCov.trans {ρ : Env} {a b c : ASt} (h : SCov ρ a b) (k : SCov ρ b c) : SCov ρ a c := by
  refine ⟨fun i v hv => ?_, fun i o ho => ?_, Nat.le_trans h.nx k.nx⟩
  · obtain ⟨u, h1, h2⟩ := k.tm i v hv
    obtain ⟨t, h3, h4⟩ := h.tm i u h1
    exact ⟨t, h3, fun f x hx => h2 f x (h4 f x hx)⟩
  · obtain ⟨u, h1, h2⟩ := k.hp i o ho
    obtain ⟨t, h3, h4⟩ := h.hp i u h1
    exact ⟨t, h3, OCov.own h2 |>.trans (OCov.own h4), fun w L c => (OCov.foot h2 w L c).trans (OCov.foot h4 w L c), fun f B w L hx => OCov.rel h2 f B w L (OCov.rel h4 f B w L hx)⟩
theorem SCov.heap {ρ : Env} {s t : ASt} (h : SCov ρ s t) {B : Nat → Prop} {W w : World} {f : Ren} (hr : HRel ρ B W f s.hp w) : HRel ρ B W f t.hp w := by
  refine ⟨hr.below, hr.bsize, hr.lt, fun i j Li Lj oi oj hi hj gi gj hij hown c hc hc' => ?_, fun i L o hi ho => ?_⟩
  · obtain ⟨qi, a1, a2⟩ := h.hp i oi gi
    obtain ⟨qj, b1, b2⟩ := h.hp j oj gj
    exact hr.apart i j Li Lj qi qj hi hj a1 b1 hij (by rw [← a2.own]; exact hown) c ((a2.foot _ _ _).1 hc) ((b2.foot _ _ _).1 hc')
  · obtain ⟨q, a1, a2⟩ := h.hp i o ho
    exact a2.rel _ _ _ _ (hr.obj i L q hi a1)
theorem SCov.st {ρ : Env} {s t : ASt} (h : SCov ρ s t) {B : Nat → Prop} {W w : World} {n N : Nat} {f : Ren} {a : Act} (hs : StRel ρ B W n N f s a w) : StRel ρ B W n N f t a w := by
  refine ⟨hs.size, fun k v hv => ?_, hs.defers, h.heap hs.heap, fun j h1 h2 => hs.fresh j (Nat.le_trans h.nx h1) h2⟩
  obtain ⟨u, h1, h2⟩ := h.tm k v hv
  exact h2 f _ (hs.tm k u h1)
def ASt.mrg (b : BE) (s t : ASt) : ASt :=
  ⟨T.mrg (AVal.mrgF b) s.tm t.tm, T.mrg (AObj.mrg b) s.hp t.hp, match Nat.ble s.nx t.nx with | true => t.nx | false => s.nx⟩
theorem ASt.mrg_ok {ρ : Env} {b : BE} {v : Bool} (hb : b.ev ρ = v) (s t : ASt) : SCov ρ (pickV v s t) (ASt.mrg b s t) := by
  refine ⟨fun k z hz => ?_, fun i o ho => ?_, ?_⟩
  · obtain ⟨p, q, g1, g2, g3⟩ := T.mrg_get hz
    exact ⟨pickV v p q, by cases v <;> first | exact g1 | exact g2, fun f x hx => AVal.mrg_ok p q z v f x (by rw [← AVal.mrgF_eq]; exact g3) hb hx⟩
  · obtain ⟨p, q, g1, g2, g3⟩ := T.mrg_get ho
    exact ⟨pickV v p q, by cases v <;> first | exact g1 | exact g2, AObj.mrg_ok hb g3⟩
  · show _ ≤ (match Nat.ble s.nx t.nx with | true => t.nx | false => s.nx)
    cases h : Nat.ble s.nx t.nx
    · have : ¬ s.nx ≤ t.nx := fun hle => by have := Nat.ble_eq_true_of_le hle; rw [h] at this; cases this
      cases v <;> simp only [pickV] <;> omega
    · have : s.nx ≤ t.nx := Nat.le_of_ble_eq_true h
      cases v <;> simp only [pickV] <;> omega
end
end Go.Sx
/- Tests decided by cases: choices within expressions parted one by one. No condition. -/
set_option linter.unusedSimpArgs false
set_option linter.unusedVariables false
namespace Go.Sx
noncomputable section

/-- j, where m + 1 is 2 to the j. -/
def maskBits (m : Nat) : Nat → Option Nat
  | 0 => none
  | j + 1 =>
    match Nat.beq (2 ^ j) (m + 1) with
    | true => some j
    | false => maskBits m j
theorem maskBits_ok {m : Nat} : ∀ {n j : Nat}, maskBits m n = some j → m = 2 ^ j - 1 := by
  intro n
  induction n with
  | zero => intro j h; cases h
  | succ n ih =>
    intro j h
    unfold maskBits at h
    split at h
    · rename_i hb
      cases h
      have := Nat.eq_of_beq_eq_true hb
      omega
    · exact ih h
/-- A mask as a remainder. -/
def maskRem (bd : Bd) (k : IntKind) (a : IE) : Int → Option IE
  | .ofNat m =>
    match natLe m (kTop k), maskBits m 64 with
    | true, some _ =>
      match rng bd a with
      | some (l, h) => if intLe 0 l && intLe h (kHi k) then some (mkRem a (.lit (.ofNat (m + 1)))) else none
      | none => none
    | _, _ => none
  | _ => none
theorem maskRem_ev {ρ : Env} {bd : Bd} (hρ : ρ.ok bd) {k : IntKind} {a z : IE} {m : Int} (h : maskRem bd k a m = some z) : z.ev ρ = bitsI .and k (a.ev ρ) m := by
  unfold maskRem at h
  split at h
  · rename_i m
    split at h
    · rename_i j hm hj
      split at h
      · rename_i l u hr
        split at h
        · rename_i hc
          cases h
          obtain ⟨c1, c2⟩ := and_split hc
          have hb := rng_ok hρ a l u hr
          have c1 : (0 : Int) ≤ l := by simpa [intLe_iff] using c1
          have c2 : u ≤ kHi k := by simpa [intLe_iff] using c2
          rw [mkRem_ev]
          have h0 : 0 ≤ a.ev ρ := by omega
          obtain ⟨x, hx⟩ := Int.eq_ofNat_of_zero_le h0
          have hxk : x ≤ kTop k := by
            have : (x : Int) ≤ kHi k := by omega
            rw [← kTop_hi] at this
            omega
          have hm' : m ≤ kTop k := by simpa [natLe] using hm
          rw [hx]
          show (x : Int).tmod ((m + 1 : Nat) : Int) = bitsI .and k (x : Int) (m : Int)
          rw [bitsI_nat .and k x m hxk hm']
          have e := maskBits_ok hj
          subst e
          show (x : Int).tmod ((2 ^ j - 1 + 1 : Nat) : Int) = ((Nat.land x (2 ^ j - 1) : Nat) : Int)
          have e2 : 2 ^ j - 1 + 1 = 2 ^ j := Nat.sub_add_cancel (Nat.one_le_two_pow)
          rw [e2]
          have e3 : Nat.land x (2 ^ j - 1) = x % 2 ^ j := Nat.and_two_pow_sub_one_eq_mod x j
          rw [e3]
          rfl
        · cases h
      · cases h
    · cases h
  · cases h
/-! quotients, shifts, joined bits -/
def loGe (bd : Bd) (a : IE) : Bool :=
  match rng bd a with
  | some (l, _) => intLe 0 l
  | none => false
theorem loGe_ok {ρ : Env} {bd : Bd} (hρ : ρ.ok bd) {a : IE} (h : loGe bd a = true) : 0 ≤ a.ev ρ := by
  unfold loGe at h
  split at h
  · rename_i l u hr
    have := rng_ok hρ a l u hr
    have h : (0 : Int) ≤ l := by simpa [intLe_iff] using h
    omega
  · cases h
def quoBy (bd : Bd) (n : Int) : IE → IE
  | .quo x (.lit m) =>
    match intLe 1 m && (intLe 1 n && loGe bd x) with
    | true => .quo x (.lit (m * n))
    | false => mkQuo (.quo x (.lit m)) (.lit n)
  | .mul x (.lit m) =>
    match intEq m n && intLe 1 n with
    | true => x
    | false => mkQuo (.mul x (.lit m)) (.lit n)
  | a => mkQuo a (.lit n)
theorem quoBy_ev {ρ : Env} {bd : Bd} (hρ : ρ.ok bd) (n : Int) (a : IE) : (quoBy bd n a).ev ρ = (a.ev ρ).tdiv n := by
  unfold quoBy
  split
  · rename_i x m
    split
    · rename_i hc
      obtain ⟨c1, c2⟩ := and_split hc
      obtain ⟨c2, c3⟩ := and_split c2
      have c1 : (1 : Int) ≤ m := by simpa [intLe_iff] using c1
      have c2 : (1 : Int) ≤ n := by simpa [intLe_iff] using c2
      have c3 := loGe_ok hρ c3
      show (x.ev ρ).tdiv (m * n) = ((x.ev ρ).tdiv m).tdiv n
      rw [Int.tdiv_eq_ediv_of_nonneg c3, Int.tdiv_eq_ediv_of_nonneg c3, Int.tdiv_eq_ediv_of_nonneg (Int.ediv_nonneg c3 (by omega)), Int.ediv_ediv_of_nonneg (by omega)]
    · exact mkQuo_ev ρ _ _
  · rename_i x m
    split
    · rename_i hc
      obtain ⟨c1, c2⟩ := and_split hc
      have c1 := intEq_eq c1
      have c2 : (1 : Int) ≤ n := by simpa [intLe_iff] using c2
      subst c1
      show x.ev ρ = (x.ev ρ * m).tdiv m
      rw [Int.mul_tdiv_cancel _ (by omega)]
    · exact mkQuo_ev ρ _ _
  · exact mkQuo_ev ρ _ _
/-- A quotient by a number; by 1 it is the thing itself. -/
def quo1 (bd : Bd) (n : Int) (a : IE) : IE :=
  match intEq n 1 with
  | true => a
  | false =>
    match rng bd a with
    | some (l, h) =>
      match intLe 0 l && intLt h n with
      | true => .lit 0
      | false =>
        match intLe 0 l && (intLt 0 n && intEq (l / n) (h / n)) with
        | true => .lit (l / n)
        | false => quoBy bd n a
    | none => quoBy bd n a
theorem quo1_ev {ρ : Env} {bd : Bd} (hρ : ρ.ok bd) (n : Int) (a : IE) : (quo1 bd n a).ev ρ = (a.ev ρ).tdiv n := by
  unfold quo1
  split
  · rename_i h
    rw [intEq_eq h, Int.tdiv_one]
  · split
    · rename_i l u hr
      split
      · rename_i hc
        obtain ⟨c1, c2⟩ := and_split hc
        rw [intLe_iff] at c1
        rw [intLt_iff] at c2
        have c1 := of_decide_eq_true c1
        have c2 := of_decide_eq_true c2
        obtain ⟨r1, r2⟩ := rng_ok hρ a _ _ hr
        exact (Int.tdiv_eq_zero_of_lt (by omega) (by omega)).symm
      · split
        · rename_i hc
          obtain ⟨c1, c2⟩ := and_split hc
          obtain ⟨c2, c3⟩ := and_split c2
          rw [intLe_iff] at c1
          rw [intLt_iff] at c2
          have c1 := of_decide_eq_true c1
          have c2 := of_decide_eq_true c2
          have c3 := intEq_eq c3
          obtain ⟨r1, r2⟩ := rng_ok hρ a _ _ hr
          have e1 := Int.ediv_le_ediv c2 r1
          have e2 := Int.ediv_le_ediv c2 r2
          show l / n = (a.ev ρ).tdiv n
          rw [Int.tdiv_eq_ediv_of_nonneg (by omega)]
          omega
        · exact quoBy_ev hρ n a
    · exact quoBy_ev hρ n a
/-- A multiple of n as a number of times. -/
def divM (n : Int) : IE → Option IE
  | .lit c =>
    match intEq (c % n) 0 with
    | true => some (.lit (c / n))
    | false => none
  | .mul x (.lit c) =>
    match intEq (c % n) 0 with
    | true =>
      match intEq (c / n) 1 with
      | true => some x
      | false => some (.mul x (.lit (c / n)))
    | false => none
  | _ => none
theorem divM_ok {ρ : Env} {n : Int} {e z : IE} (h : divM n e = some z) : e.ev ρ = z.ev ρ * n := by
  unfold divM at h
  split at h
  · rename_i c
    split at h
    · rename_i hc
      cases h
      show c = c / n * n
      exact (Int.ediv_mul_cancel (Int.dvd_of_emod_eq_zero (intEq_eq hc))).symm
    · cases h
  · rename_i x c
    split at h
    · rename_i hc
      have hd := Int.ediv_mul_cancel (Int.dvd_of_emod_eq_zero (intEq_eq hc))
      split at h
      · rename_i h1
        cases h
        rw [intEq_eq h1] at hd
        show z.ev ρ * c = z.ev ρ * n
        rw [← hd, Int.one_mul]
      · cases h
        show x.ev ρ * c = x.ev ρ * (c / n) * n
        rw [Int.mul_assoc, hd]
    · cases h
  · cases h
/-- A sum of what is not negative, parted: times n, and the rest. -/
def splitQ (bd : Bd) (n : Int) : IE → Option (IE × IE)
  | .add x y =>
    match splitQ bd n x with
    | some (m, r) =>
      match splitQ bd n y with
      | some (m', r') => some (mkAdd m m', mkAdd r r')
      | none => none
    | none => none
  | e =>
    match loGe bd e with
    | false => none
    | true =>
      match divM n e with
      | some z => some (z, .lit 0)
      | none => some (.lit 0, e)
theorem splitQ_ok {ρ : Env} {bd : Bd} (hρ : ρ.ok bd) {n : Int} : ∀ {e m r : IE}, splitQ bd n e = some (m, r) → e.ev ρ = m.ev ρ * n + r.ev ρ ∧ 0 ≤ r.ev ρ ∧ 0 ≤ e.ev ρ := by
  intro e
  have leaf : ∀ {e m r : IE}, (match loGe bd e with | false => none | true => match divM n e with | some z => some (z, IE.lit 0) | none => some (IE.lit 0, e)) = some (m, r) → e.ev ρ = m.ev ρ * n + r.ev ρ ∧ 0 ≤ r.ev ρ ∧ 0 ≤ e.ev ρ := by
    intro e m r h
    split at h
    · cases h
    · rename_i hl
      have hl := loGe_ok hρ hl
      split at h
      · rename_i z hz
        cases h
        have := divM_ok (ρ := ρ) hz
        exact ⟨by rw [this]; show _ = _ + 0; omega, by show (0 : Int) ≤ 0; omega, hl⟩
      · cases h
        exact ⟨by show _ = 0 * n + _; omega, hl, hl⟩
  induction e with
  | add x y ihx ihy =>
    intro m r h
    unfold splitQ at h
    split at h
    · rename_i m1 r1 h1
      split at h
      · rename_i m2 r2 h2
        cases h
        obtain ⟨a1, a2, a3⟩ := ihx h1
        obtain ⟨b1, b2, b3⟩ := ihy h2
        refine ⟨?_, ?_, ?_⟩
        · show x.ev ρ + y.ev ρ = _
          rw [mkAdd_ev, mkAdd_ev, a1, b1, Int.add_mul]
          omega
        · rw [mkAdd_ev]; omega
        · show 0 ≤ x.ev ρ + y.ev ρ
          omega
      · cases h
    · cases h
  | _ => intro m r h; exact leaf h
/-- A quotient of a sum some of whose parts are multiples. -/
def quoS (bd : Bd) (n : Int) (a : IE) : IE :=
  match a with
  | .add x y =>
    match intLt 1 n with
    | true =>
      match splitQ bd n (.add x y) with
      | some (m, r) => mkAdd m (quo1 bd n r)
      | none => quo1 bd n (.add x y)
    | false => quo1 bd n (.add x y)
  | a => quo1 bd n a
theorem quoS_ev {ρ : Env} {bd : Bd} (hρ : ρ.ok bd) (n : Int) (a : IE) : (quoS bd n a).ev ρ = (a.ev ρ).tdiv n := by
  unfold quoS
  split
  · rename_i x y
    split
    · rename_i hn
      rw [intLt_iff] at hn
      have hn := of_decide_eq_true hn
      split
      · rename_i m r hs
        obtain ⟨h1, h2, h3⟩ := splitQ_ok hρ hs
        rw [mkAdd_ev, quo1_ev hρ]
        have h3 : 0 ≤ (IE.add x y).ev ρ := h3
        rw [Int.tdiv_eq_ediv_of_nonneg h3, Int.tdiv_eq_ediv_of_nonneg h2, h1, Int.add_comm (m.ev ρ * n), Int.add_mul_ediv_right _ _ (by omega), Int.add_comm]
      · exact quo1_ev hρ n _
    · exact quo1_ev hρ n _
  · exact quo1_ev hρ n _
def nrmQuo (bd : Bd) (a b : IE) : IE :=
  match b with
  | .lit n => quoS bd n a
  | b => mkQuo a b
theorem nrmQuo_ev {ρ : Env} {bd : Bd} (hρ : ρ.ok bd) (a b : IE) : (nrmQuo bd a b).ev ρ = (a.ev ρ).tdiv (b.ev ρ) := by
  unfold nrmQuo
  split
  · exact quoS_ev hρ _ a
  · exact mkQuo_ev ρ a _
def nrmShl (bd : Bd) (k : IntKind) (a b : IE) : IE :=
  match b with
  | .lit (.ofNat n) => mkWrap bd k (mkMul a (.lit ((2 ^ (min n k.bits) : Nat) : Int)))
  | b => mkShl k a b
theorem nrmShl_ev {ρ : Env} {bd : Bd} (hρ : ρ.ok bd) (k : IntKind) (a b : IE) : (nrmShl bd k a b).ev ρ = shlI k (a.ev ρ) (b.ev ρ) := by
  unfold nrmShl
  split
  · rename_i n
    rw [mkWrap_ev hρ, mkMul_ev]
    show k.wrap (a.ev ρ * ((2 ^ (min n k.bits) : Nat) : Int)) = k.wrap (a.ev ρ * 2 ^ (min (n : Int).toNat k.bits))
    rw [Int.toNat_natCast]
    push_cast
    rfl
  · exact mkShl_ev ρ k a _
/-- A shift by fewer than all bits is one of any kind. -/
def shrK (bd : Bd) (k : IntKind) (b : IE) : IntKind :=
  match rng bd b with
  | some (_, h) => match intLe h (.ofNat (kb k)) with
    | true => .i64
    | false => k
  | none => k
theorem shrK_ev {ρ : Env} {bd : Bd} (hρ : ρ.ok bd) (k : IntKind) (x : Int) (b : IE) : shrI (shrK bd k b) x (b.ev ρ) = shrI k x (b.ev ρ) := by
  unfold shrK
  split
  · rename_i l h hr
    split
    · rename_i hh
      rw [intLe_iff] at hh
      have hh : h ≤ ((kb k : Nat) : Int) := of_decide_eq_true hh
      have hb := (rng_ok hρ b l h hr).2
      unfold shrI
      have e1 : kb k = k.bits := by cases k <;> rfl
      have e2 : kb k ≤ 64 := by cases k <;> decide
      have m1 : min (b.ev ρ).toNat IntKind.i64.bits = (b.ev ρ).toNat := Nat.min_eq_left (by show _ ≤ 64; omega)
      have m2 : min (b.ev ρ).toNat k.bits = (b.ev ρ).toNat := Nat.min_eq_left (by omega)
      rw [m1, m2]
    · rfl
  · rfl
def nrmShr (bd : Bd) (k : IntKind) (a b : IE) : IE :=
  match b with
  | .lit (.ofNat n) =>
    match loGe bd a with
    | true => quoS bd ((2 ^ (min n k.bits) : Nat) : Int) a
    | false => mkShr k a b
  | b => mkShr (shrK bd k b) a b
theorem nrmShr_ev {ρ : Env} {bd : Bd} (hρ : ρ.ok bd) (k : IntKind) (a b : IE) : (nrmShr bd k a b).ev ρ = shrI k (a.ev ρ) (b.ev ρ) := by
  unfold nrmShr
  split
  · rename_i n
    split
    · rename_i h0
      have h0 := loGe_ok hρ h0
      rw [quoS_ev hρ]
      show (a.ev ρ).tdiv ((2 ^ (min n k.bits) : Nat) : Int) = (a.ev ρ).fdiv (2 ^ (min (n : Int).toNat k.bits))
      rw [Int.toNat_natCast, Int.tdiv_eq_ediv_of_nonneg h0, Int.fdiv_eq_ediv_of_nonneg _ (by exact_mod_cast Nat.zero_le _)]
      push_cast
      rfl
    · exact mkShr_ev ρ k a _
  · rw [mkShr_ev, shrK_ev hρ]
/-! remainders, digits put together again -/
def rcheck (bd : Bd) (m : Int) (a b : IE) : IE :=
  match rng bd a with
  | some (l, h) =>
    match intLe 0 l && intLt h m with
    | true => a
    | false => b
  | none => b
theorem rcheck_ev {ρ : Env} {bd : Bd} (hρ : ρ.ok bd) {m : Int} {a b : IE} (h : b.ev ρ = (a.ev ρ).tmod m) : (rcheck bd m a b).ev ρ = (a.ev ρ).tmod m := by
  unfold rcheck
  split
  · rename_i l u hr
    split
    · rename_i hc
      obtain ⟨c1, c2⟩ := and_split hc
      rw [intLe_iff] at c1
      rw [intLt_iff] at c2
      have c1 := of_decide_eq_true c1
      have c2 := of_decide_eq_true c2
      obtain ⟨r1, r2⟩ := rng_ok hρ a _ _ hr
      rw [Int.tmod_eq_emod_of_nonneg (by omega)]
      exact (Int.emod_eq_of_lt (by omega) (by omega)).symm
    · exact h
  · exact h
/-- Surely a multiple? -/
def multM (m : Int) : IE → Bool
  | .lit c => intEq (c % m) 0
  | .mul _ (.lit c) => intEq (c % m) 0
  | _ => false
theorem multM_ok {ρ : Env} {m : Int} {e : IE} (h : multM m e = true) : m ∣ e.ev ρ := by
  unfold multM at h
  split at h
  · exact Int.dvd_of_emod_eq_zero (intEq_eq h)
  · exact Int.dvd_trans (Int.dvd_of_emod_eq_zero (intEq_eq h)) (Int.dvd_mul_left _ _)
  · cases h
def remS (bd : Bd) (m : Int) : IE → IE
  | .add x y => rcheck bd m (.add x y) (match multM m y && (loGe bd x && loGe bd y) with
    | true => remS bd m x
    | false =>
      match multM m x && (loGe bd x && loGe bd y) with
      | true => remS bd m y
      | false => mkRem (.add x y) (.lit m))
  | .rem x (.lit n) => rcheck bd m (.rem x (.lit n)) (match intEq (n % m) 0 && (intLe 1 n && loGe bd x) with
    | true => .rem x (.lit m)
    | false => mkRem (.rem x (.lit n)) (.lit m))
  | .mul x (.lit n) => rcheck bd m (.mul x (.lit n)) (match intEq (n % m) 0 with
    | true => .lit 0
    | false => mkRem (.mul x (.lit n)) (.lit m))
  | .wrap k x => rcheck bd m (.wrap k x) (match (match k with | .u8 | .u16 | .u32 | .u64 => intEq (pow2 k % m) 0 && loGe bd x | _ => false) with
    | true => remS bd m x
    | false => mkRem (.wrap k x) (.lit m))
  | a => rcheck bd m a (mkRem a (.lit m))
theorem remS_ev {ρ : Env} {bd : Bd} (hρ : ρ.ok bd) {m : Int} (hm : 1 ≤ m) (a : IE) : (remS bd m a).ev ρ = (a.ev ρ).tmod m := by
  have base : ∀ a : IE, (rcheck bd m a (mkRem a (.lit m))).ev ρ = (a.ev ρ).tmod m := fun a => rcheck_ev hρ (mkRem_ev ρ a _)
  induction a with
  | add x y ihx ihy =>
    unfold remS
    refine rcheck_ev hρ ?_
    split
    · rename_i hc
      obtain ⟨c1, hc⟩ := and_split hc
      obtain ⟨c2, c3⟩ := and_split hc
      have c1 := multM_ok (ρ := ρ) c1
      have c2 := loGe_ok hρ c2
      have c3 := loGe_ok hρ c3
      obtain ⟨q, hq⟩ := c1
      rw [ihx]
      show _ = (x.ev ρ + y.ev ρ).tmod m
      rw [Int.tmod_eq_emod_of_nonneg c2, Int.tmod_eq_emod_of_nonneg (by omega), hq, Int.add_mul_emod_self_left]
    · split
      · rename_i hc
        obtain ⟨c1, hc⟩ := and_split hc
        obtain ⟨c2, c3⟩ := and_split hc
        have c1 := multM_ok (ρ := ρ) c1
        have c2 := loGe_ok hρ c2
        have c3 := loGe_ok hρ c3
        obtain ⟨q, hq⟩ := c1
        rw [ihy]
        show _ = (x.ev ρ + y.ev ρ).tmod m
        rw [Int.tmod_eq_emod_of_nonneg c3, Int.tmod_eq_emod_of_nonneg (by omega), hq, Int.add_comm, Int.add_mul_emod_self_left]
      · exact mkRem_ev ρ _ _
  | rem x n ihx _ =>
    cases n with
    | lit n' =>
      refine rcheck_ev hρ ?_
      split
      · rename_i hc
        obtain ⟨c1, hc⟩ := and_split hc
        obtain ⟨c2, c3⟩ := and_split hc
        have c1 := Int.dvd_of_emod_eq_zero (intEq_eq c1)
        rw [intLe_iff] at c2
        have c2 := of_decide_eq_true c2
        have c3 := loGe_ok hρ c3
        show (x.ev ρ).tmod m = ((x.ev ρ).tmod n').tmod m
        rw [Int.tmod_eq_emod_of_nonneg c3, Int.tmod_eq_emod_of_nonneg c3, Int.tmod_eq_emod_of_nonneg (Int.emod_nonneg _ (by omega)), Int.emod_emod_of_dvd _ c1]
      · exact mkRem_ev ρ _ _
    | _ => exact base _
  | mul x n _ _ =>
    cases n with
    | lit n =>
      refine rcheck_ev hρ ?_
      split
      · rename_i hc
        obtain ⟨q, hq⟩ := Int.dvd_of_emod_eq_zero (intEq_eq hc)
        show (0 : Int) = (x.ev ρ * n).tmod m
        rw [hq, ← Int.mul_assoc, Int.mul_right_comm, Int.mul_tmod_left]
      · exact mkRem_ev ρ _ _
    | _ => exact base _
  | wrap k x ih =>
    refine rcheck_ev hρ ?_
    split
    · rename_i hc
      have key : intEq (pow2 k % m) 0 = true ∧ loGe bd x = true ∧ k.wrap (x.ev ρ) = x.ev ρ % pow2 k := by
        cases k <;> first
          | (cases hc; done)
          | exact ⟨(and_split hc).1, (and_split hc).2, wrap_eq _ _⟩
      obtain ⟨k1, k2, k3⟩ := key
      have hx := loGe_ok hρ k2
      have hp : 0 < pow2 k := by cases k <;> decide
      rw [ih]
      show (x.ev ρ).tmod m = (k.wrap (x.ev ρ)).tmod m
      rw [k3, Int.tmod_eq_emod_of_nonneg hx, Int.tmod_eq_emod_of_nonneg (Int.emod_nonneg _ (by omega)), Int.emod_emod_of_dvd _ (Int.dvd_of_emod_eq_zero (intEq_eq k1))]
    · exact mkRem_ev ρ _ _
  | _ => exact base _
def nrmRem (bd : Bd) (a b : IE) : IE :=
  match b with
  | .lit m =>
    match intEq m 1 with
    | true => .lit 0
    | false =>
      match intLe 1 m with
      | true => remS bd m a
      | false => mkRem a (.lit m)
  | b => mkRem a b
theorem nrmRem_ev {ρ : Env} {bd : Bd} (hρ : ρ.ok bd) (a b : IE) : (nrmRem bd a b).ev ρ = (a.ev ρ).tmod (b.ev ρ) := by
  unfold nrmRem
  split
  · rename_i m
    split
    · rename_i h
      rw [intEq_eq h]
      exact (Int.tmod_one _).symm
    · split
      · rename_i h
        rw [intLe_iff] at h
        exact remS_ev hρ (of_decide_eq_true h) a
      · exact mkRem_ev ρ _ _
  · exact mkRem_ev ρ _ _
/-! sums in order -/
def partIE (p : Int × IE) : IE :=
  match intEq p.1 0 with
  | true => p.2
  | false =>
    match intEq p.1 1 with
    | true => p.2
    | false => .mul p.2 (.lit p.1)
def addParts : IE → List (Int × IE) → List (Int × IE)
  | .add x y, l => addParts x (addParts y l)
  | .mul x (.lit c), l =>
    match intEq c 0 with
    | true => (0, .lit 0) :: l
    | false => (c, x) :: l
  | .lit n, l => (0, .lit n) :: l
  | e, l => (1, e) :: l
def partsEv (ρ : Env) : List (Int × IE) → Int
  | [] => 0
  | p :: l => (partIE p).ev ρ + partsEv ρ l
theorem addParts_ev (ρ : Env) : ∀ (e : IE) (l : List (Int × IE)), partsEv ρ (addParts e l) = e.ev ρ + partsEv ρ l := by
  intro e
  induction e with
  | add x y ihx ihy =>
    intro l
    show partsEv ρ (addParts x (addParts y l)) = x.ev ρ + y.ev ρ + partsEv ρ l
    rw [ihx, ihy, Int.add_assoc]
  | mul x c _ _ =>
    intro l
    cases c with
    | lit c =>
      show partsEv ρ (match intEq c 0 with
        | true => (0, .lit 0) :: l
        | false => (c, x) :: l) = x.ev ρ * c + partsEv ρ l
      split
      · rename_i hc
        rw [intEq_eq hc]
        show (0 : Int) + partsEv ρ l = x.ev ρ * 0 + partsEv ρ l
        rw [Int.mul_zero]
      · rename_i hc
        show (partIE (c, x)).ev ρ + partsEv ρ l = x.ev ρ * c + partsEv ρ l
        unfold partIE
        simp only [hc]
        split
        · rename_i h1
          rw [intEq_eq h1, Int.mul_one]
        · rfl
    | _ => rfl
  | lit n => intro l; rfl
  | _ => intro l; rfl
def insPart (p : Int × IE) : List (Int × IE) → List (Int × IE)
  | [] => [p]
  | q :: l =>
    match intLt q.1 p.1 with
    | true => p :: q :: l
    | false => q :: insPart p l
theorem insPart_ev (ρ : Env) (p : Int × IE) : ∀ l, partsEv ρ (insPart p l) = (partIE p).ev ρ + partsEv ρ l := by
  intro l
  induction l with
  | nil => rfl
  | cons q l ih =>
    unfold insPart
    split
    · rfl
    · show (partIE q).ev ρ + partsEv ρ (insPart p l) = (partIE p).ev ρ + ((partIE q).ev ρ + partsEv ρ l)
      rw [ih]; omega
def sortParts : List (Int × IE) → List (Int × IE) → List (Int × IE)
  | [], acc => acc
  | p :: l, acc => sortParts l (insPart p acc)
theorem sortParts_ev (ρ : Env) : ∀ l acc, partsEv ρ (sortParts l acc) = partsEv ρ l + partsEv ρ acc := by
  intro l
  induction l with
  | nil => intro acc; show partsEv ρ acc = 0 + partsEv ρ acc; omega
  | cons p l ih =>
    intro acc
    show partsEv ρ (sortParts l (insPart p acc)) = (partIE p).ev ρ + partsEv ρ l + partsEv ρ acc
    rw [ih, insPart_ev]; omega
def sumParts : IE → List (Int × IE) → IE
  | e, [] => e
  | e, p :: l => sumParts (mkAdd e (partIE p)) l
theorem sumParts_ev (ρ : Env) : ∀ l e, (sumParts e l).ev ρ = e.ev ρ + partsEv ρ l := by
  intro l
  induction l with
  | nil => intro e; show e.ev ρ = e.ev ρ + 0; omega
  | cons p l ih =>
    intro e
    show (sumParts (mkAdd e (partIE p)) l).ev ρ = e.ev ρ + ((partIE p).ev ρ + partsEv ρ l)
    rw [ih, mkAdd_ev]; omega
def inOrder (e : IE) : IE :=
  match e with
  | .add x y =>
    match sortParts (addParts (.add x y) []) [] with
    | [] => .add x y
    | p :: l => sumParts (partIE p) l
  | e => e
theorem inOrder_ev (ρ : Env) (e : IE) : (inOrder e).ev ρ = e.ev ρ := by
  unfold inOrder
  split
  · rename_i x y
    have h := sortParts_ev ρ (addParts (.add x y) []) []
    rw [addParts_ev] at h
    split
    · rfl
    · rename_i p l hl
      rw [hl] at h
      rw [sumParts_ev]
      have h : (partIE p).ev ρ + partsEv ρ l = (IE.add x y).ev ρ + 0 + 0 := h
      omega
  · rfl
def nrmAdd0 (bd : Bd) (a b : IE) : IE :=
  match a with
  | .mul (.quo w (.lit n)) (.lit n') =>
    match b with
    | .mul (.rem (.quo w' (.lit m)) (.lit k)) (.lit m') =>
      match intEq n n' && (intEq m m' && (intEq n (m * k) && (w.eq w' && (intLe 1 m && (intLe 1 k && loGe bd w))))) with
      | true => .mul (.quo w (.lit m)) (.lit m)
      | false => mkAdd (.mul (.quo w (.lit n)) (.lit n')) (.mul (.rem (.quo w' (.lit m)) (.lit k)) (.lit m'))
    | .rem w' (.lit k) =>
      match intEq n n' && (intEq n k && (w.eq w' && (intLe 1 n && loGe bd w))) with
      | true => w
      | false => mkAdd (.mul (.quo w (.lit n)) (.lit n')) (.rem w' (.lit k))
    | b => mkAdd (.mul (.quo w (.lit n)) (.lit n')) b
  | a => mkAdd a b
theorem digits_join {x m k : Int} (hx : 0 ≤ x) (hm : 1 ≤ m) (hk : 1 ≤ k) : x / m * m = x / (m * k) * (m * k) + x / m % k * m := by
  have h1 := Int.emod_add_mul_ediv (x / m) k
  rw [Int.ediv_ediv_of_nonneg (by omega)] at h1
  have h2 : x / m * m = (x / m % k + k * (x / (m * k))) * m := by rw [h1]
  rw [h2, Int.add_mul, Int.add_comm]
  congr 1
  rw [Int.mul_comm k, Int.mul_assoc, Int.mul_comm k m]
theorem nrmAdd0_ev {ρ : Env} {bd : Bd} (hρ : ρ.ok bd) (a b : IE) : (nrmAdd0 bd a b).ev ρ = a.ev ρ + b.ev ρ := by
  unfold nrmAdd0
  split
  · rename_i w n n'
    split
    · rename_i w' m k m'
      split
      · rename_i hc
        obtain ⟨c1, hc⟩ := and_split hc
        obtain ⟨c2, hc⟩ := and_split hc
        obtain ⟨c3, hc⟩ := and_split hc
        obtain ⟨c4, hc⟩ := and_split hc
        obtain ⟨c5, hc⟩ := and_split hc
        obtain ⟨c6, c7⟩ := and_split hc
        have c1 := intEq_eq c1; have c2 := intEq_eq c2; have c3 := intEq_eq c3; have c4 := IE.eq_eq c4
        rw [intLe_iff] at c5 c6
        have c5 := of_decide_eq_true c5
        have c6 := of_decide_eq_true c6
        have c7 := loGe_ok hρ c7
        subst c1; subst c2; subst c4; subst c3
        show (w.ev ρ).tdiv m * m = (w.ev ρ).tdiv (m * k) * (m * k) + ((w.ev ρ).tdiv m).tmod k * m
        rw [Int.tdiv_eq_ediv_of_nonneg c7, Int.tdiv_eq_ediv_of_nonneg c7, Int.tmod_eq_emod_of_nonneg (Int.ediv_nonneg c7 (by omega))]
        exact digits_join c7 c5 c6
      · exact mkAdd_ev ρ _ _
    · rename_i w' k
      split
      · rename_i hc
        obtain ⟨c1, hc⟩ := and_split hc
        obtain ⟨c2, hc⟩ := and_split hc
        obtain ⟨c3, hc⟩ := and_split hc
        obtain ⟨c4, c5⟩ := and_split hc
        have c1 := intEq_eq c1; have c2 := intEq_eq c2; have c3 := IE.eq_eq c3
        rw [intLe_iff] at c4
        have c4 := of_decide_eq_true c4
        have c5 := loGe_ok hρ c5
        subst c1; subst c2; subst c3
        show w.ev ρ = (w.ev ρ).tdiv n * n + (w.ev ρ).tmod n
        rw [Int.tdiv_eq_ediv_of_nonneg c5, Int.tmod_eq_emod_of_nonneg c5, Int.mul_comm]
        exact (Int.mul_ediv_add_emod _ _).symm
      · exact mkAdd_ev ρ _ _
    · exact mkAdd_ev ρ _ _
  · exact mkAdd_ev ρ _ _
/-- The lowest digits put together. -/
def nrmAdd1 (bd : Bd) (a b : IE) : IE :=
  match a with
  | .rem w (.lit m) =>
    match b with
    | .mul (.rem (.quo w' (.lit m')) (.lit k)) (.lit m'') =>
      match intEq m m' && (intEq m m'' && (w.eq w' && (intLe 1 m && (intLe 1 k && loGe bd w)))) with
      | true => .rem w (.lit (m * k))
      | false => mkAdd (.rem w (.lit m)) (.mul (.rem (.quo w' (.lit m')) (.lit k)) (.lit m''))
    | .mul (.quo w' (.lit m')) (.lit m'') =>
      match intEq m m' && (intEq m m'' && (w.eq w' && (intLe 1 m && loGe bd w))) with
      | true => w
      | false => mkAdd (.rem w (.lit m)) (.mul (.quo w' (.lit m')) (.lit m''))
    | b => mkAdd (.rem w (.lit m)) b
  | .mul (.rem (.quo w' (.lit m')) (.lit k)) (.lit m'') =>
    match b with
    | .rem w (.lit m) =>
      match intEq m m' && (intEq m m'' && (w.eq w' && (intLe 1 m && (intLe 1 k && loGe bd w)))) with
      | true => .rem w (.lit (m * k))
      | false => mkAdd (.mul (.rem (.quo w' (.lit m')) (.lit k)) (.lit m'')) (.rem w (.lit m))
    | b => mkAdd (.mul (.rem (.quo w' (.lit m')) (.lit k)) (.lit m'')) b
  | a => nrmAdd0 bd a b
theorem nrmAdd1_ev {ρ : Env} {bd : Bd} (hρ : ρ.ok bd) (a b : IE) : (nrmAdd1 bd a b).ev ρ = a.ev ρ + b.ev ρ := by
  unfold nrmAdd1
  split
  · rename_i w m
    split
    · rename_i w' m' k m''
      split
      · rename_i hc
        obtain ⟨c1, hc⟩ := and_split hc
        obtain ⟨c2, hc⟩ := and_split hc
        obtain ⟨c3, hc⟩ := and_split hc
        obtain ⟨c4, hc⟩ := and_split hc
        obtain ⟨c5, c6⟩ := and_split hc
        have c1 := intEq_eq c1; have c2 := intEq_eq c2; have c3 := IE.eq_eq c3
        rw [intLe_iff] at c4 c5
        have c4 := of_decide_eq_true c4
        have c5 := of_decide_eq_true c5
        have c6 := loGe_ok hρ c6
        subst c1; subst c2; subst c3
        show (w.ev ρ).tmod (m * k) = (w.ev ρ).tmod m + ((w.ev ρ).tdiv m).tmod k * m
        rw [Int.tdiv_eq_ediv_of_nonneg c6, Int.tmod_eq_emod_of_nonneg c6, Int.tmod_eq_emod_of_nonneg c6, Int.tmod_eq_emod_of_nonneg (Int.ediv_nonneg c6 (by omega))]
        have h1 := digits_join c6 c4 c5
        have h2 := Int.emod_add_mul_ediv (w.ev ρ) m
        have h3 := Int.emod_add_mul_ediv (w.ev ρ) (m * k)
        rw [Int.mul_comm m] at h2
        rw [Int.mul_comm (m * k)] at h3
        omega
      · exact mkAdd_ev ρ _ _
    · rename_i w' m' m''
      split
      · rename_i hc
        obtain ⟨c1, hc⟩ := and_split hc
        obtain ⟨c2, hc⟩ := and_split hc
        obtain ⟨c3, hc⟩ := and_split hc
        obtain ⟨c4, c5⟩ := and_split hc
        have c1 := intEq_eq c1; have c2 := intEq_eq c2; have c3 := IE.eq_eq c3
        have c5 := loGe_ok hρ c5
        subst c1; subst c2; subst c3
        show w.ev ρ = (w.ev ρ).tmod m + (w.ev ρ).tdiv m * m
        rw [Int.tdiv_eq_ediv_of_nonneg c5, Int.tmod_eq_emod_of_nonneg c5, Int.mul_comm]
        exact (Int.emod_add_mul_ediv _ _).symm
      · exact mkAdd_ev ρ _ _
    · exact mkAdd_ev ρ _ _
  · rename_i w' m' k m''
    split
    · rename_i w m
      split
      · rename_i hc
        obtain ⟨c1, hc⟩ := and_split hc
        obtain ⟨c2, hc⟩ := and_split hc
        obtain ⟨c3, hc⟩ := and_split hc
        obtain ⟨c4, hc⟩ := and_split hc
        obtain ⟨c5, c6⟩ := and_split hc
        have c1 := intEq_eq c1; have c2 := intEq_eq c2; have c3 := IE.eq_eq c3
        rw [intLe_iff] at c4 c5
        have c4 := of_decide_eq_true c4
        have c5 := of_decide_eq_true c5
        have c6 := loGe_ok hρ c6
        subst c1; subst c2; subst c3
        show (w.ev ρ).tmod (m * k) = ((w.ev ρ).tdiv m).tmod k * m + (w.ev ρ).tmod m
        rw [Int.tdiv_eq_ediv_of_nonneg c6, Int.tmod_eq_emod_of_nonneg c6, Int.tmod_eq_emod_of_nonneg c6, Int.tmod_eq_emod_of_nonneg (Int.ediv_nonneg c6 (by omega))]
        have h1 := digits_join c6 c4 c5
        have h2 := Int.emod_add_mul_ediv (w.ev ρ) m
        have h3 := Int.emod_add_mul_ediv (w.ev ρ) (m * k)
        rw [Int.mul_comm m] at h2
        rw [Int.mul_comm (m * k)] at h3
        omega
      · exact mkAdd_ev ρ _ _
    · exact mkAdd_ev ρ _ _
  · exact nrmAdd0_ev hρ _ _
def nrmAdd (bd : Bd) (a b : IE) : IE := inOrder (nrmAdd1 bd a b)
theorem nrmAdd_ev {ρ : Env} {bd : Bd} (hρ : ρ.ok bd) (a b : IE) : (nrmAdd bd a b).ev ρ = a.ev ρ + b.ev ρ := (inOrder_ev ρ _).trans (nrmAdd1_ev hρ a b)
/-- j, where the expression is a multiple of 2 to the j. -/
def multOf1 : IE → Option Nat
  | .mul _ (.lit (.ofNat m)) => maskBits (m - 1) 64
  | .wrap k (.mul _ (.lit (.ofNat m))) =>
    match maskBits (m - 1) 64 with
    | some j =>
      match Nat.ble j (kb k) with
      | true => some j
      | false => none
    | none => none
  | _ => none
theorem multOf1_ok {ρ : Env} {e : IE} {j : Nat} (h : multOf1 e = some j) : ((2 ^ j : Nat) : Int) ∣ e.ev ρ ∨ e.ev ρ = 0 := by
  have base : ∀ (x : IE) (m j : Nat), maskBits (m - 1) 64 = some j → ((2 ^ j : Nat) : Int) ∣ x.ev ρ * (m : Int) := fun x m j hm => by
    have e := maskBits_ok hm
    have hp : 1 ≤ 2 ^ j := Nat.one_le_two_pow
    cases m with
    | zero => rw [Int.natCast_zero, Int.mul_zero]; exact Int.dvd_zero _
    | succ m =>
      have : m + 1 = 2 ^ j := by omega
      rw [this]
      exact Int.dvd_mul_left _ _
  unfold multOf1 at h
  split at h
  · rename_i x m
    exact .inl (base x m j h)
  · rename_i k x m
    split at h
    · rename_i j' hj
      split at h
      · rename_i hk
        cases h
        refine .inl ?_
        have h1 := base x m j hj
        have h2 := wrap_dvd k (x.ev ρ * m)
        have h3 : ((2 ^ j : Nat) : Int) ∣ pow2 k := by
          have hk := Nat.le_of_ble_eq_true hk
          have : pow2 k = ((2 ^ kb k : Nat) : Int) := by cases k <;> rfl
          rw [this]
          exact Int.natCast_dvd_natCast.2 (Nat.pow_dvd_pow 2 hk)
        have h4 := Int.dvd_trans h3 h2
        have := Int.dvd_add h4 h1
        rw [Int.sub_add_cancel] at this
        exact this
      · cases h
    · cases h
  · cases h
def multOf : IE → Option Nat
  | .add x y =>
    match multOf x, multOf1 y with
    | some i, some j => some (Nat.min i j)
    | _, _ => none
  | e => multOf1 e
theorem multOf_ok {ρ : Env} : ∀ {e : IE} {j : Nat}, multOf e = some j → ((2 ^ j : Nat) : Int) ∣ e.ev ρ ∨ e.ev ρ = 0 := by
  intro e
  induction e with
  | add x y ihx _ =>
    intro j h
    unfold multOf at h
    split at h
    · rename_i i k hi hk
      cases h
      have low : ∀ {a b : Nat} {z : Int}, a ≤ b → (((2 ^ b : Nat) : Int) ∣ z ∨ z = 0) → ((2 ^ a : Nat) : Int) ∣ z := fun {a b z} hab hz => by
        rcases hz with hz | rfl
        · exact Int.dvd_trans (Int.natCast_dvd_natCast.2 (Nat.pow_dvd_pow 2 hab)) hz
        · exact Int.dvd_zero _
      exact .inl (Int.dvd_add (low (Nat.min_le_left i k) (ihx hi)) (low (Nat.min_le_right i k) (multOf1_ok hk)))
    · cases h
  | _ => intro j h; exact multOf1_ok h
/-- Bits put together that do not meet. -/
def joinOfM (bd : Bd) (k : IntKind) (a b : IE) : Option IE :=
  match multOf a with
  | some j =>
    match rng bd a, rng bd b with
    | some (l, h), some (l', h') =>
      match intLe 0 l && (intLe h (kHi k) && (intLe 0 l' && (intLt h' ((2 ^ j : Nat) : Int) && intLe h' (kHi k)))) with
      | true => some (nrmAdd bd a b)
      | false => none
    | _, _ => none
  | none => none
theorem join_nat (j a b : Nat) (ha : 2 ^ j ∣ a) (hb : b < 2 ^ j) : a ||| b = a + b ∧ a ^^^ b = a + b := by
  obtain ⟨q, rfl⟩ := ha
  have h1 : 2 ^ j * q + b = 2 ^ j * q ||| b := Nat.two_pow_add_eq_or_of_lt hb q
  refine ⟨h1.symm, ?_⟩
  rw [h1]
  apply Nat.eq_of_testBit_eq
  intro i
  rw [Nat.testBit_xor, Nat.testBit_or]
  by_cases hi : i < j
  · rw [show (2 ^ j * q).testBit i = false by rw [Nat.testBit_two_pow_mul]; simp; omega]
    simp
  · rw [Nat.testBit_lt_two_pow (Nat.lt_of_lt_of_le hb (Nat.pow_le_pow_right (by decide) (by omega)))]
    simp
theorem joinOfM_ev {ρ : Env} {bd : Bd} (hρ : ρ.ok bd) {k : IntKind} {a b z : IE} (h : joinOfM bd k a b = some z) : z.ev ρ = bitsI .or k (a.ev ρ) (b.ev ρ) ∧ z.ev ρ = bitsI .xor k (a.ev ρ) (b.ev ρ) := by
  unfold joinOfM at h
  split at h
  · rename_i j hj
    split at h
    · rename_i l u l' u' hr hr'
      split at h
      · rename_i hc
        cases h
        obtain ⟨c1, hc⟩ := and_split hc
        obtain ⟨c2, hc⟩ := and_split hc
        obtain ⟨c3, hc⟩ := and_split hc
        obtain ⟨c4, c5⟩ := and_split hc
        have c1 : (0 : Int) ≤ l := by simpa [intLe_iff] using c1
        have c2 : u ≤ kHi k := by simpa [intLe_iff] using c2
        have c3 : (0 : Int) ≤ l' := by simpa [intLe_iff] using c3
        rw [intLt_iff] at c4
        have c4 : u' < ((2 ^ j : Nat) : Int) := of_decide_eq_true c4
        have c5 : u' ≤ kHi k := by simpa [intLe_iff] using c5
        have b1 := rng_ok hρ a _ _ hr
        have b2 := rng_ok hρ b _ _ hr'
        obtain ⟨x, hx⟩ := Int.eq_ofNat_of_zero_le (show 0 ≤ a.ev ρ by omega)
        obtain ⟨y, hy⟩ := Int.eq_ofNat_of_zero_le (show 0 ≤ b.ev ρ by omega)
        have kx : x ≤ kTop k := by
          have : (x : Int) ≤ kHi k := by omega
          rw [← kTop_hi] at this; omega
        have ky : y ≤ kTop k := by
          have : (y : Int) ≤ kHi k := by omega
          rw [← kTop_hi] at this; omega
        have hm : 2 ^ j ∣ x := by
          rcases multOf_ok (ρ := ρ) hj with h | h
          · rw [hx] at h; exact Int.natCast_dvd_natCast.1 h
          · rw [hx] at h; have : x = 0 := by omega
            subst this; exact Nat.dvd_zero _
        have hlt : y < 2 ^ j := by
          have : (y : Int) < ((2 ^ j : Nat) : Int) := by omega
          exact Int.ofNat_lt.1 this
        obtain ⟨e1, e2⟩ := join_nat j x y hm hlt
        rw [nrmAdd_ev hρ, hx, hy]
        refine ⟨?_, ?_⟩
        · rw [bitsI_nat .or k x y kx ky]
          show (x : Int) + y = ((Nat.lor x y : Nat) : Int)
          have : Nat.lor x y = x + y := e1
          rw [this]; rfl
        · rw [bitsI_nat .xor k x y kx ky]
          show (x : Int) + y = ((Nat.xor x y : Nat) : Int)
          have : Nat.xor x y = x + y := e2
          rw [this]; rfl
      · cases h
    · cases h
  · cases h
/-- Nothing joined to bits. -/
def zeroOf (bd : Bd) (k : IntKind) (a b : IE) : Option IE :=
  match a with
  | .lit z =>
    match intEq z 0, rng bd b with
    | true, some (l, h) =>
      match intLe 0 l && intLe h (kHi k) with
      | true => some b
      | false => none
    | _, _ => none
  | _ => none
theorem zeroOf_ev {ρ : Env} {bd : Bd} (hρ : ρ.ok bd) {k : IntKind} {a b z : IE} (h : zeroOf bd k a b = some z) : z.ev ρ = bitsI .or k (a.ev ρ) (b.ev ρ) ∧ z.ev ρ = bitsI .xor k (a.ev ρ) (b.ev ρ) := by
  unfold zeroOf at h
  split at h
  · split at h
    · rename_i l u hz hr
      split at h
      · rename_i hc
        cases h
        obtain ⟨c1, c2⟩ := and_split hc
        have c1 : (0 : Int) ≤ l := by simpa [intLe_iff] using c1
        have c2 : u ≤ kHi k := by simpa [intLe_iff] using c2
        have hb := rng_ok hρ b l u hr
        rw [intEq_eq hz]
        obtain ⟨n, hn⟩ := Int.eq_ofNat_of_zero_le (show 0 ≤ b.ev ρ by omega)
        have hle : n ≤ kTop k := by
          have := kTop_hi k
          omega
        show b.ev ρ = bitsI .or k 0 (b.ev ρ) ∧ b.ev ρ = bitsI .xor k 0 (b.ev ρ)
        rw [hn]
        have e1 := bitsI_nat .or k 0 n (Nat.zero_le _) hle
        have e2 := bitsI_nat .xor k 0 n (Nat.zero_le _) hle
        have z0 : ((0 : Nat) : Int) = 0 := rfl
        rw [z0] at e1 e2
        rw [e1, e2]
        refine ⟨?_, ?_⟩
        · show (n : Int) = (Nat.lor 0 n : Nat)
          have : Nat.lor 0 n = n := Nat.zero_or n
          rw [this]
        · show (n : Int) = (Nat.xor 0 n : Nat)
          have : Nat.xor 0 n = n := Nat.zero_xor n
          rw [this]
      · cases h
    · cases h
  · cases h
def joinOf (bd : Bd) (k : IntKind) (a b : IE) : Option IE :=
  match joinOfM bd k a b with
  | some z => some z
  | none => zeroOf bd k a b
theorem joinOf_ev {ρ : Env} {bd : Bd} (hρ : ρ.ok bd) {k : IntKind} {a b z : IE} (h : joinOf bd k a b = some z) : z.ev ρ = bitsI .or k (a.ev ρ) (b.ev ρ) ∧ z.ev ρ = bitsI .xor k (a.ev ρ) (b.ev ρ) := by
  unfold joinOf at h
  split at h
  · rename_i y hy
    cases h
    exact joinOfM_ev hρ hy
  · exact zeroOf_ev hρ h
/-- The low bits cleared. -/
def clearOf (bd : Bd) (k : IntKind) (a : IE) : Int → Option IE
  | .ofNat m =>
    match natLe m (kTop k), maskBits m 64 with
    | true, some _ =>
      match rng bd a with
      | some (l, h) =>
        match intLe 0 l && intLe h (kHi k) with
        | true => some (mkMul (quoBy bd ((m + 1 : Nat) : Int) a) (.lit ((m + 1 : Nat) : Int)))
        | false => none
      | none => none
    | _, _ => none
  | _ => none
theorem clear_nat (j a : Nat) : a ^^^ (a &&& (2 ^ j - 1)) = a / 2 ^ j * 2 ^ j := by
  rw [Nat.and_two_pow_sub_one_eq_mod]
  have h := Nat.div_add_mod a (2 ^ j)
  have hlt := Nat.mod_lt a (Nat.two_pow_pos j)
  have e : a = 2 ^ j * (a / 2 ^ j) ^^^ a % 2 ^ j := by
    rw [(join_nat j (2 ^ j * (a / 2 ^ j)) (a % 2 ^ j) (Nat.dvd_mul_right _ _) hlt).2]
    exact h.symm
  have e2 : (2 ^ j * (a / 2 ^ j) ^^^ a % 2 ^ j) ^^^ a % 2 ^ j = 2 ^ j * (a / 2 ^ j) := by
    rw [Nat.xor_assoc, Nat.xor_self, Nat.xor_zero]
  rw [← e] at e2
  rw [e2, Nat.mul_comm]
theorem clearOf_ev {ρ : Env} {bd : Bd} (hρ : ρ.ok bd) {k : IntKind} {a z : IE} {m : Int} (h : clearOf bd k a m = some z) : z.ev ρ = bitsI .andNot k (a.ev ρ) m := by
  unfold clearOf at h
  split at h
  · rename_i m
    split at h
    · rename_i j hm hj
      split at h
      · rename_i l u hr
        split at h
        · rename_i hc
          cases h
          obtain ⟨c1, c2⟩ := and_split hc
          have hb := rng_ok hρ a l u hr
          have c1 : (0 : Int) ≤ l := by simpa [intLe_iff] using c1
          have c2 : u ≤ kHi k := by simpa [intLe_iff] using c2
          obtain ⟨x, hx⟩ := Int.eq_ofNat_of_zero_le (show 0 ≤ a.ev ρ by omega)
          have hxk : x ≤ kTop k := by
            have : (x : Int) ≤ kHi k := by omega
            rw [← kTop_hi] at this
            omega
          have hm' : m ≤ kTop k := by simpa [natLe] using hm
          rw [mkMul_ev, quoBy_ev hρ, hx]
          show (x : Int).tdiv ((m + 1 : Nat) : Int) * ((m + 1 : Nat) : Int) = bitsI .andNot k (x : Int) (m : Int)
          rw [bitsI_nat .andNot k x m hxk hm']
          have e := maskBits_ok hj
          have e2 : m + 1 = 2 ^ j := by have : 1 ≤ 2 ^ j := Nat.one_le_two_pow; omega
          rw [e2]
          have := clear_nat j x
          show _ = ((Nat.xor x (Nat.land x m) : Nat) : Int)
          have e3 : Nat.xor x (Nat.land x m) = x / 2 ^ j * 2 ^ j := by rw [e]; exact this
          rw [e3]
          rfl
        · cases h
      · cases h
    · cases h
  · cases h
def nrmTop (bd : Bd) : IE → IE
  | .rem a b => nrmRem bd a b
  | z => z
theorem nrmTop_ev {ρ : Env} {bd : Bd} (hρ : ρ.ok bd) (z : IE) : (nrmTop bd z).ev ρ = z.ev ρ := by
  unfold nrmTop
  split
  · exact nrmRem_ev hρ _ _
  · rfl
def nrmBits (bd : Bd) (op : BinOp) (k : IntKind) (a b : IE) : IE :=
  match op with
  | .and =>
    match b with
    | .lit m =>
      match maskRem bd k a m with
      | some z => nrmTop bd z
      | none => mkBits .and k a (.lit m)
    | b => mkBits .and k a b
  | .andNot =>
    match b with
    | .lit m =>
      match clearOf bd k a m with
      | some z => z
      | none => mkBits .andNot k a (.lit m)
    | b => mkBits .andNot k a b
  | .or =>
    match joinOf bd k a b with
    | some z => z
    | none =>
      match joinOf bd k b a with
      | some z => z
      | none => mkBits .or k a b
  | .xor =>
    match joinOf bd k a b with
    | some z => z
    | none =>
      match joinOf bd k b a with
      | some z => z
      | none => mkBits .xor k a b
  | op => mkBits op k a b
theorem bitsI_comm (op : BinOp) (h : op = .or ∨ op = .xor) (k : IntKind) (x y : Int) : bitsI op k x y = bitsI op k y x := by
  rcases h with rfl | rfl
  · show k.wrap _ = k.wrap _
    rw [BitVec.or_comm]
  · show k.wrap _ = k.wrap _
    rw [BitVec.xor_comm]
theorem nrmBits_ev {ρ : Env} {bd : Bd} (hρ : ρ.ok bd) (op : BinOp) (k : IntKind) (a b : IE) : (nrmBits bd op k a b).ev ρ = bitsI op k (a.ev ρ) (b.ev ρ) := by
  unfold nrmBits
  split
  · split
    · split
      · rename_i z hz
        exact (nrmTop_ev hρ z).trans (maskRem_ev hρ hz)
      · exact mkBits_ev ρ _ k _ _
    · exact mkBits_ev ρ _ k _ _
  · split
    · split
      · rename_i z hz
        exact clearOf_ev hρ hz
      · exact mkBits_ev ρ _ k _ _
    · exact mkBits_ev ρ _ k _ _
  · split
    · rename_i z hz
      exact (joinOf_ev hρ hz).1
    · split
      · rename_i z hz
        rw [bitsI_comm .or (.inl rfl)]
        exact (joinOf_ev hρ hz).1
      · exact mkBits_ev ρ _ k _ _
  · split
    · rename_i z hz
      exact (joinOf_ev hρ hz).2
    · split
      · rename_i z hz
        rw [bitsI_comm .xor (.inr rfl)]
        exact (joinOf_ev hρ hz).2
      · exact mkBits_ev ρ _ k _ _
  · exact mkBits_ev ρ _ k _ _
/-- The sides of a test, without a number that is added. -/
def shft1 (a b : IE) : IE × IE :=
  match a with
  | .add x (.lit c) =>
    match b with
    | .lit n => (x, .lit (n - c))
    | b => (.add x (.lit c), b)
  | .sub (.lit c) x =>
    match b with
    | .lit n => (.lit (c - n), x)
    | b => (.sub (.lit c) x, b)
  | .lit n =>
    match b with
    | .add x (.lit c) => (.lit (n - c), x)
    | .sub (.lit c) x => (x, .lit (c - n))
    | b => (.lit n, b)
  | a => (a, b)
theorem shft1_ev (ρ : Env) (a b : IE) : (shft1 a b).1.ev ρ - (shft1 a b).2.ev ρ = a.ev ρ - b.ev ρ := by
  unfold shft1
  split
  · rename_i x c
    split
    · rename_i n
      show x.ev ρ - (n - c) = x.ev ρ + c - n
      omega
    · rfl
  · rename_i c x
    split
    · rename_i n
      show (c - n) - x.ev ρ = c - x.ev ρ - n
      omega
    · rfl
  · rename_i n
    split
    · rename_i x c
      show n - c - x.ev ρ = n - (x.ev ρ + c)
      omega
    · rename_i c x
      show x.ev ρ - (c - n) = n - (c - x.ev ρ)
      omega
    · rfl
  · rfl
def shft (a b : IE) : IE × IE := shft1 (shft1 a b).1 (shft1 a b).2
theorem shft_ev (ρ : Env) (a b : IE) : (shft a b).1.ev ρ - (shft a b).2.ev ρ = a.ev ρ - b.ev ρ := (shft1_ev ρ _ _).trans (shft1_ev ρ a b)
/-! differences that are numbers -/
def linX : IE → Int → Lin → Int → Lin × Int
  | .lit n, s, l, c => (l, c + s * n)
  | .add a b, s, l, c => linX b s (linX a s l c).1 (linX a s l c).2
  | .sub a b, s, l, c => linX b (-s) (linX a s l c).1 (linX a s l c).2
  | .mul a (.lit n), s, l, c => linX a (s * n) l c
  | e, s, l, c => (addAtom e s l, c)
theorem linX_ok (ρ : Env) (e : IE) : ∀ (s : Int) (l : Lin) (c : Int), linEv ρ (linX e s l c).1 + (linX e s l c).2 = s * e.ev ρ + (linEv ρ l + c) := by
  have atom : ∀ (e : IE) (s : Int) (l : Lin) (c : Int), linEv ρ (addAtom e s l) + c = s * e.ev ρ + (linEv ρ l + c) := fun e s l c => by
    rw [addAtom_ev]; omega
  induction e with
  | lit n => intro s l c; show linEv ρ l + (c + s * n) = s * n + (linEv ρ l + c); omega
  | add a b iha ihb =>
    intro s l c
    show linEv ρ (linX b s (linX a s l c).1 (linX a s l c).2).1 + (linX b s (linX a s l c).1 (linX a s l c).2).2 = s * (a.ev ρ + b.ev ρ) + (linEv ρ l + c)
    rw [ihb, iha, Int.mul_add]; omega
  | sub a b iha ihb =>
    intro s l c
    show linEv ρ (linX b (-s) (linX a s l c).1 (linX a s l c).2).1 + (linX b (-s) (linX a s l c).1 (linX a s l c).2).2 = s * (a.ev ρ - b.ev ρ) + (linEv ρ l + c)
    rw [ihb, iha, Int.mul_sub, Int.neg_mul]; omega
  | mul a b iha _ =>
    intro s l c
    cases b with
    | lit n =>
      show linEv ρ (linX a (s * n) l c).1 + (linX a (s * n) l c).2 = s * (a.ev ρ * n) + (linEv ρ l + c)
      rw [iha, Int.mul_assoc, Int.mul_comm n]
    | _ => exact atom _ s l c
  | _ => intro s l c; exact atom _ s l c
def allZero : Lin → Bool
  | [] => true
  | (_, s) :: l =>
    match intEq s 0 with
    | true => allZero l
    | false => false
theorem allZero_ev (ρ : Env) : ∀ {l : Lin}, allZero l = true → linEv ρ l = 0 := by
  intro l
  induction l with
  | nil => intro _; rfl
  | cons p l ih =>
    intro h
    obtain ⟨a, s⟩ := p
    unfold allZero at h
    split at h
    · rename_i hs
      rw [intEq_eq hs, ] at *
      show 0 * a.ev ρ + linEv ρ l = 0
      rw [ih h]; omega
    · cases h
def diffC (a b : IE) : Option Int :=
  match linX b (-1) (linX a 1 [] 0).1 (linX a 1 [] 0).2 with
  | (l, c) =>
    match allZero l with
    | true => some c
    | false => none
theorem diffC_ok {ρ : Env} {a b : IE} {c : Int} (h : diffC a b = some c) : a.ev ρ - b.ev ρ = c := by
  unfold diffC at h
  split at h
  rename_i l c' hl
  split at h
  · rename_i hz
    cases h
    have h1 := linX_ok ρ b (-1) (linX a 1 [] 0).1 (linX a 1 [] 0).2
    have h2 := linX_ok ρ a 1 [] 0
    rw [hl] at h1
    have h1 : linEv ρ l + c = -1 * b.ev ρ + (linEv ρ (linX a 1 [] 0).1 + (linX a 1 [] 0).2) := h1
    rw [h2, allZero_ev ρ hz] at h1
    have h3 : linEv ρ [] = 0 := rfl
    rw [h3] at h1
    omega
  · cases h
def nrmEq (bd : Bd) (a b : IE) : BE :=
  match diffC a b with
  | some c => .lit (intEq c 0)
  | none => mkEq bd (shft a b).1 (shft a b).2
def nrmLt (bd : Bd) (a b : IE) : BE :=
  match diffC a b with
  | some c => .lit (intLt c 0)
  | none => mkLt bd (shft a b).1 (shft a b).2
theorem nrmEq_ev {ρ : Env} {bd : Bd} (hρ : ρ.ok bd) (a b : IE) : (nrmEq bd a b).ev ρ = decide (a.ev ρ = b.ev ρ) := by
  unfold nrmEq
  split
  · rename_i c hc
    have := diffC_ok (ρ := ρ) hc
    show intEq c 0 = _
    rw [intEq_iff, decide_eq_decide]
    omega
  · rw [mkEq_ev hρ]
    have := shft_ev ρ a b
    rw [decide_eq_decide]
    omega
theorem nrmLt_ev {ρ : Env} {bd : Bd} (hρ : ρ.ok bd) (a b : IE) : (nrmLt bd a b).ev ρ = decide (a.ev ρ < b.ev ρ) := by
  unfold nrmLt
  split
  · rename_i c hc
    have := diffC_ok (ρ := ρ) hc
    show intLt c 0 = _
    rw [intLt_iff, decide_eq_decide]
    omega
  · rw [mkLt_ev hρ]
    have := shft_ev ρ a b
    rw [decide_eq_decide]
    omega
/-- A quotient below a number. -/
def nrmLtQ (bd : Bd) (a b : IE) : BE :=
  match a, b with
  | .quo x (.lit (.ofNat (m + 1))), .lit (.ofNat k) =>
    match loGe bd x with
    | true => nrmLt bd x (.lit (.ofNat (Nat.mul k (m + 1))))
    | false => nrmLt bd (.quo x (.lit (.ofNat (m + 1)))) (.lit (.ofNat k))
  | a, b => nrmLt bd a b
theorem nrmLtQ_ev {ρ : Env} {bd : Bd} (hρ : ρ.ok bd) (a b : IE) : (nrmLtQ bd a b).ev ρ = decide (a.ev ρ < b.ev ρ) := by
  unfold nrmLtQ
  split
  · rename_i x m k
    split
    · rename_i hx
      have hx := loGe_ok hρ hx
      rw [nrmLt_ev hρ, decide_eq_decide]
      show x.ev ρ < ((Nat.mul k (m + 1) : Nat) : Int) ↔ (x.ev ρ).tdiv ((m + 1 : Nat) : Int) < ((k : Nat) : Int)
      rw [Int.tdiv_eq_ediv_of_nonneg hx, Int.ediv_lt_iff_lt_mul (by omega)]
      have : ((Nat.mul k (m + 1) : Nat) : Int) = (k : Int) * ((m + 1 : Nat) : Int) := Int.natCast_mul k (m + 1)
      rw [this]
    · exact nrmLt_ev hρ _ _
  · exact nrmLt_ev hρ _ _
def nrmSel (bd : Bd) (dec : Dec) (s : Bool) (a b x y : IE) : IE :=
  match settle dec (match s with | true => nrmLt bd a b | false => nrmEq bd a b) with
  | some true => x
  | some false => y
  | none => mkSel bd s a b x y
theorem nrmSel_ev {ρ : Env} {bd : Bd} (hρ : ρ.ok bd) {dec : Dec} (hd : dec.holds ρ) (s : Bool) (a b x y : IE) : (nrmSel bd dec s a b x y).ev ρ = selI s (a.ev ρ) (b.ev ρ) (x.ev ρ) (y.ev ρ) := by
  have key : (match s with | true => nrmLt bd a b | false => nrmEq bd a b).ev ρ = (if s then decide (a.ev ρ < b.ev ρ) else decide (a.ev ρ = b.ev ρ)) := by
    cases s
    · exact nrmEq_ev hρ a b
    · exact nrmLt_ev hρ a b
  unfold nrmSel
  split
  · rename_i h
    have := settle_ok hd _ _ h
    rw [key] at this
    cases s <;> simp at this <;> simp [selI] <;> intro h' <;> omega
  · rename_i h
    have := settle_ok hd _ _ h
    rw [key] at this
    cases s <;> simp at this <;> simp [selI] <;> intro h' <;> omega
  · exact mkSel_ev hρ s a b x y
/-- A digit of a row that digits were put in. -/
def in80 : Option (Int × Int) → Bool
  | some (l, h) => intLe (-604462909807314587353088) l && intLt h 604462909807314587353088
  | none => false
theorem in80_ok {ρ : Env} {bd : Bd} (hρ : ρ.ok bd) {e : IE} (h : in80 (rng bd e) = true) : -604462909807314587353088 ≤ e.ev ρ ∧ e.ev ρ < 604462909807314587353088 := by
  unfold in80 at h
  split at h
  · rename_i l u hr
    obtain ⟨h1, h2⟩ := and_split h
    have := rng_ok hρ e l u hr
    have h1 : (-604462909807314587353088 : Int) ≤ l := by simpa [intLe_iff] using h1
    have h2 : u < 604462909807314587353088 := by simpa [intLt_iff] using h2
    omega
  · cases h
/-- Is it a digit of a row? -/
def isDig : IE → Bool
  | .fn c _ _ _ => Nat.beq c 0
  | _ => false
theorem rowGet_80 (d j : Int) : -604462909807314587353088 ≤ rowGet d j ∧ rowGet d j < 604462909807314587353088 := by
  unfold rowGet rowPut
  have h : Nat.mod (Nat.shiftRight d.toNat (Nat.mul 80 j.toNat)) 1208925819614629174706176 < 1208925819614629174706176 := Nat.mod_lt _ (by decide)
  generalize Nat.mod (Nat.shiftRight d.toNat (Nat.mul 80 j.toNat)) 1208925819614629174706176 = u at h ⊢
  split
  · rename_i hb
    have hb : u < 604462909807314587353088 := by simpa [Nat.blt_eq] using hb
    omega
  · rename_i hb
    have hb : ¬ u < 604462909807314587353088 := by simpa [Nat.blt_eq] using hb
    omega
theorem isDig_ok {ρ : Env} {v : IE} (h : isDig v = true) : -604462909807314587353088 ≤ v.ev ρ ∧ v.ev ρ < 604462909807314587353088 := by
  cases v with
  | fn c x y z =>
    have h : c = 0 := Nat.eq_of_beq_eq_true h
    subst h
    exact rowGet_80 _ _
  | _ => cases h
def getRow (bd : Bd) (i : Nat) : IE → IE
  | .fn c d j v =>
    match Nat.beq c 1, j with
    | true, .lit (.ofNat b) =>
      match Nat.beq i b with
      | true =>
        match isDig v || in80 (rng bd v) with
        | true => v
        | false => mkFn 0 (.fn c d j v) (.lit (.ofNat i)) (.lit 0)
      | false => getRow bd i d
    | _, .lit (.ofNat b) =>
      match Nat.beq c 5 && Nat.blt i b with
      | true => getRow bd i d
      | false => mkFn 0 (.fn c d j v) (.lit (.ofNat i)) (.lit 0)
    | _, _ => mkFn 0 (.fn c d j v) (.lit (.ofNat i)) (.lit 0)
  | e => mkFn 0 e (.lit (.ofNat i)) (.lit 0)
theorem rowGet_set_ne (d v : Int) {i j : Nat} (h : j ≠ i) : rowGet (rowSet d i v) j = rowGet d j := by
  rw [rowGet_dig, rowSet_toNat, dig_put _ _ _ _ (rowDig_lt v), if_neg h, rowGet_dig]
theorem getRow_ev {ρ : Env} {bd : Bd} (hρ : ρ.ok bd) (i : Nat) (e : IE) : (getRow bd i e).ev ρ = rowGet (e.ev ρ) i := by
  have base : ∀ e : IE, (mkFn 0 e (.lit (.ofNat i)) (.lit 0)).ev ρ = rowGet (e.ev ρ) i := fun e => by rw [mkFn_ev]; rfl
  induction e with
  | fn c d j v ih _ _ =>
    unfold getRow
    split
    · have hc : c = 1 := Nat.eq_of_beq_eq_true (by assumption)
      rename_i b _ _
      subst hc
      have e1 : (IE.fn 1 d (.lit (.ofNat b)) v).ev ρ = rowSet (d.ev ρ) b (v.ev ρ) := rfl
      split
      · rename_i hib
        have hib := Nat.eq_of_beq_eq_true hib
        subst hib
        split
        · rename_i h8
          obtain ⟨h1, h2⟩ : -604462909807314587353088 ≤ v.ev ρ ∧ v.ev ρ < 604462909807314587353088 := by
            rcases Bool.or_eq_true_iff.1 h8 with h8 | h8
            · exact isDig_ok h8
            · exact in80_ok hρ h8
          rw [e1, rowGet_set _ _ _ _ h1 h2, if_pos rfl]
        · exact base _
      · rename_i hib
        have hib : i ≠ b := by intro e; simp [e] at hib
        rw [e1, rowGet_set_ne _ _ hib, ih]
    · rename_i b _ _
      split
      · rename_i hc
        obtain ⟨h1, h2⟩ := Bool.and_eq_true_iff.1 hc
        have h1 : c = 5 := Nat.eq_of_beq_eq_true h1
        subst h1
        have h2 : i < b := by simpa [Nat.blt_eq] using h2
        rw [ih]
        exact (rowGet_top _ _ _ _ h2).symm
      · exact base _
    · exact base _
  | _ => exact base _
/-- The digits from lo to hi are nothing. -/
def zeroCut (R lo hi : Nat) : Bool := Nat.beq (Nat.mod (Nat.shiftRight R (Nat.mul 80 lo)) (Nat.shiftLeft 1 (Nat.mul 80 (Nat.sub (Nat.succ hi) lo)))) 0
theorem rowGet_zero (j : Nat) : rowGet 0 j = 0 := by
  rw [rowGet_dig]
  show rowPut (dig 0 j) = 0
  unfold dig
  rw [Nat.zero_div, Nat.zero_mod]
  rfl
theorem zeroCut_ok {R lo hi : Nat} (h : zeroCut R lo hi = true) {j : Int} (h1 : (lo : Int) ≤ j) (h2 : j ≤ hi) : rowGet (R : Int) j = 0 := by
  obtain ⟨k, rfl⟩ := Int.eq_ofNat_of_zero_le (show 0 ≤ j by omega)
  have h := Nat.eq_of_beq_eq_true h
  have hc : rowCut (R : Int) lo ((hi + 1 - lo : Nat) : Int) = 0 := by
    unfold rowCut
    have e : ((Nat.mod (Nat.shiftRight ((R : Int)).toNat (Nat.mul 80 ((lo : Int)).toNat)) (Nat.shiftLeft 1 (Nat.mul 80 (((hi + 1 - lo : Nat) : Int)).toNat)) : Nat) : Int) = ((0 : Nat) : Int) := by
      rw [Int.toNat_natCast, Int.toNat_natCast, Int.toNat_natCast]
      exact congrArg _ h
    exact e
  have := rowGet_cut (R : Int) lo (hi + 1 - lo) (k - lo) (by omega)
  rw [hc, rowGet_zero, show lo + (k - lo) = k by omega] at this
  exact this.symm
theorem rowSet_zero {R lo : Nat} (h : Nat.blt R (Nat.shiftLeft 1 (Nat.mul 80 lo)) = true) {j : Int} (h1 : (lo : Int) ≤ j) : rowSet (R : Int) j 0 = R := by
  obtain ⟨k, rfl⟩ := Int.eq_ofNat_of_zero_le (show 0 ≤ j by omega)
  have h : R < 2 ^ (80 * lo) := by
    have : R < 1 <<< (80 * lo) := by simpa [Nat.blt_eq] using h
    rwa [Nat.shiftLeft_eq, Nat.one_mul] at this
  have hk : R < 2 ^ (80 * k) := Nat.lt_of_lt_of_le h (Nat.pow_le_pow_right (by decide) (by omega))
  have h0 : 0 ≤ rowSet (R : Int) k 0 := Int.natCast_nonneg _
  have e := rowSet_toNat (R : Int) 0 k
  rw [Int.toNat_natCast] at e
  have hd : dig R k = 0 := by unfold dig; rw [Nat.div_eq_of_lt hk]
  unfold put at e
  rw [hd] at e
  have hr : rowDig 0 = 0 := rfl
  rw [hr] at e
  omega
def nrmFn (bd : Bd) (c : Nat) (x y z : IE) : IE :=
  match Nat.beq c 0, y with
  | true, .lit (.ofNat i) => getRow bd i x
  | true, y =>
    match x, rng bd y with
    | .lit (.ofNat R), some (.ofNat lo, .ofNat hi) =>
      match zeroCut R lo hi with
      | true => .lit 0
      | false => mkFn c (.lit (.ofNat R)) y z
    | x, _ => mkFn c x y z
  | false, y =>
    match x, rng bd y, z with
    | .lit (.ofNat R), some (.ofNat lo, _), .lit (.ofNat 0) =>
      match Nat.beq c 1 && Nat.blt R (Nat.shiftLeft 1 (Nat.mul 80 lo)) with
      | true => .lit (.ofNat R)
      | false => mkFn c (.lit (.ofNat R)) y (.lit (.ofNat 0))
    | x, _, z => mkFn c x y z
theorem nrmFn_ev {ρ : Env} {bd : Bd} (hρ : ρ.ok bd) (c : Nat) (x y z : IE) : (nrmFn bd c x y z).ev ρ = fnI ρ c (x.ev ρ) (y.ev ρ) (z.ev ρ) := by
  unfold nrmFn
  split
  · rename_i i hc
    have hc := Nat.eq_of_beq_eq_true hc
    subst hc
    rw [getRow_ev hρ]
    rfl
  · rename_i hc _
    have hc := Nat.eq_of_beq_eq_true hc
    subst hc
    split
    · rename_i R lo hi hr
      split
      · rename_i hz
        obtain ⟨r1, r2⟩ := rng_ok hρ _ _ _ hr
        exact (zeroCut_ok hz r1 r2).symm
      · exact mkFn_ev _ _ _ _ _
    · exact mkFn_ev _ _ _ _ _
  · split
    · rename_i R lo _ hr
      split
      · rename_i hz
        obtain ⟨h1, h2⟩ := Bool.and_eq_true_iff.1 hz
        have h1 := Nat.eq_of_beq_eq_true h1
        subst h1
        obtain ⟨r1, r2⟩ := rng_ok hρ _ _ _ hr
        exact (rowSet_zero h2 r1).symm
      · exact mkFn_ev _ _ _ _ _
    · exact mkFn_ev _ _ _ _ _
/-- A number's row cut or set behind its end. -/
def cutD (bd : Bd) (d R : Nat) (y z : IE) : IE :=
  match Nat.beq d 1, z with
  | true, .lit (.ofNat 0) =>
    match rng bd y with
    | some (.ofNat lo, _) =>
      match Nat.blt R (Nat.shiftLeft 1 (Nat.mul 80 lo)) with
      | true => .lit (.ofNat R)
      | false => .fn d (.lit (.ofNat R)) y z
    | _ => .fn d (.lit (.ofNat R)) y z
  | _, z =>
    match Nat.beq d 2, y with
    | true, .lit (.ofNat 0) =>
      match rng bd z with
      | some (.ofNat lo, _) =>
        match Nat.blt R (Nat.shiftLeft 1 (Nat.mul 80 lo)) with
        | true => .lit (.ofNat R)
        | false => .fn d (.lit (.ofNat R)) (.lit (.ofNat 0)) z
      | _ => .fn d (.lit (.ofNat R)) (.lit (.ofNat 0)) z
    | _, y => .fn d (.lit (.ofNat R)) y z
theorem rowCut_all {R lo : Nat} (h : Nat.blt R (Nat.shiftLeft 1 (Nat.mul 80 lo)) = true) {j : Int} (h1 : (lo : Int) ≤ j) : rowCut (R : Int) 0 j = R := by
  obtain ⟨k, rfl⟩ := Int.eq_ofNat_of_zero_le (show 0 ≤ j by omega)
  have h : R < 2 ^ (80 * lo) := by
    have : R < 1 <<< (80 * lo) := by simpa [Nat.blt_eq] using h
    rwa [Nat.shiftLeft_eq, Nat.one_mul] at this
  have hk : R < 2 ^ (80 * k) := Nat.lt_of_lt_of_le h (Nat.pow_le_pow_right (by decide) (by omega))
  have e := rowCut_toNat (R : Int) 0 k
  have h0 : 0 ≤ rowCut (R : Int) 0 k := Int.natCast_nonneg _
  rw [Int.toNat_natCast, Nat.mul_zero, Nat.pow_zero, Nat.div_one, Nat.mod_eq_of_lt hk] at e
  have e0 : ((0 : Nat) : Int) = 0 := rfl
  rw [e0] at e
  omega
theorem cutD_ev {ρ : Env} {bd : Bd} (hρ : ρ.ok bd) (d R : Nat) (y z : IE) : (cutD bd d R y z).ev ρ = fnI ρ d (R : Int) (y.ev ρ) (z.ev ρ) := by
  unfold cutD
  split
  · rename_i hd
    have hd := Nat.eq_of_beq_eq_true hd
    subst hd
    split
    · rename_i lo _ hr
      split
      · rename_i hz
        obtain ⟨r1, r2⟩ := rng_ok hρ _ _ _ hr
        exact (rowSet_zero hz r1).symm
      · rfl
    · rfl
  · split
    · rename_i hd
      have hd := Nat.eq_of_beq_eq_true hd
      subst hd
      split
      · rename_i lo _ hr
        split
        · rename_i hz
          obtain ⟨r1, r2⟩ := rng_ok hρ _ _ _ hr
          exact (rowCut_all hz r1).symm
        · rfl
      · rfl
    · rfl
/-- The same, with what is known of the place. -/
def nrmFnD (bd : Bd) (dec : Dec) (c : Nat) (x y z : IE) : IE :=
  match nrmFn bd c x y z with
  | .fn d (.lit (.ofNat R)) y' z' =>
    match Nat.beq d 0, rng (bdN bd dec) y' with
    | true, some (.ofNat lo, .ofNat hi) =>
      match zeroCut R lo hi with
      | true => .lit 0
      | false => .fn d (.lit (.ofNat R)) y' z'
    | _, _ => cutD (bdN bd dec) d R y' z'
  | e => e
theorem nrmFnD_ev {ρ : Env} {bd : Bd} (hρ : ρ.ok bd) {dec : Dec} (hd : dec.holds ρ) (c : Nat) (x y z : IE) : (nrmFnD bd dec c x y z).ev ρ = fnI ρ c (x.ev ρ) (y.ev ρ) (z.ev ρ) := by
  rw [← nrmFn_ev hρ]
  unfold nrmFnD
  split
  · rename_i d R y' z' he
    rw [he]
    split
    · rename_i lo hi hc hr
      have hc := Nat.eq_of_beq_eq_true hc
      subst hc
      split
      · rename_i hz
        obtain ⟨r1, r2⟩ := rng_ok (bdN_ok hρ hd) _ _ _ hr
        exact (zeroCut_ok hz r1 r2).symm
      · rfl
    · exact cutD_ev (bdN_ok hρ hd) _ _ _ _
  · rfl
/-- A symbol, or the number that it is known to be. -/
def nrmVar (dec : Dec) (i : Nat) : IE :=
  match Dec.num (.var i) dec with
  | some n => .lit n
  | none => .var i
theorem nrmVar_ev {ρ : Env} {dec : Dec} (hd : dec.holds ρ) (i : Nat) : (nrmVar dec i).ev ρ = ρ.i i := by
  unfold nrmVar
  split
  · rename_i n h
    exact (Dec.num_ok (.var i) hd h).symm
  · rfl
/-- A byte of a word as a remainder. -/
def byteRem (bd : Bd) (a : IE) : IE :=
  match rng bd a with
  | some (.ofNat _, _) => nrmRem bd a (.lit 256)
  | _ => .wrap .u8 a
theorem byteRem_ev {ρ : Env} {bd : Bd} (hρ : ρ.ok bd) (a : IE) : (byteRem bd a).ev ρ = IntKind.u8.wrap (a.ev ρ) := by
  unfold byteRem
  split
  · rename_i n m hr
    obtain ⟨r1, _⟩ := rng_ok hρ a _ _ hr
    have h0 : 0 ≤ a.ev ρ := Int.le_trans (Int.natCast_nonneg n) r1
    rw [nrmRem_ev hρ, wrap_eq]
    show (a.ev ρ).tmod 256 = a.ev ρ % 256
    exact Int.tmod_eq_emod_of_nonneg h0
  · rfl
def nrmWrap (bd : Bd) (k : IntKind) (a : IE) : IE :=
  match mkWrap bd k a with
  | .wrap .u8 (.quo x y) => byteRem bd (.quo x y)
  | .wrap .u8 (.wrap j x) => byteRem bd (.wrap j x)
  | e => e
theorem nrmWrap_ev {ρ : Env} {bd : Bd} (hρ : ρ.ok bd) (k : IntKind) (a : IE) : (nrmWrap bd k a).ev ρ = k.wrap (a.ev ρ) := by
  rw [← mkWrap_ev hρ]
  unfold nrmWrap
  split
  · rename_i x y h
    rw [h]
    exact byteRem_ev hρ _
  · rename_i j x h
    rw [h]
    exact byteRem_ev hρ _
  · rfl
def IE.nrm (bd : Bd) (dec : Dec) : IE → IE
  | .lit n => .lit n
  | .var i => nrmVar dec i
  | .add a b => nrmAdd bd (a.nrm bd dec) (b.nrm bd dec)
  | .sub a b => mkSub (a.nrm bd dec) (b.nrm bd dec)
  | .mul a b => mkMul (a.nrm bd dec) (b.nrm bd dec)
  | .wrap k a => nrmWrap bd k (a.nrm bd dec)
  | .bits op k a b => nrmBits bd op k (a.nrm bd dec) (b.nrm bd dec)
  | .quo a b => nrmQuo bd (a.nrm bd dec) (b.nrm bd dec)
  | .rem a b => nrmRem bd (a.nrm bd dec) (b.nrm bd dec)
  | .shl k a b => nrmShl bd k (a.nrm bd dec) (b.nrm bd dec)
  | .shr k a b => nrmShr bd k (a.nrm bd dec) (b.nrm bd dec)
  | .fn c x y z => nrmFnD bd dec c (x.nrm bd dec) (y.nrm bd dec) (z.nrm bd dec)
  | .sel s a b x y => nrmSel bd dec s (a.nrm bd dec) (b.nrm bd dec) (x.nrm bd dec) (y.nrm bd dec)
theorem IE.nrm_ev {ρ : Env} {bd : Bd} (hρ : ρ.ok bd) {dec : Dec} (hd : dec.holds ρ) (e : IE) : (e.nrm bd dec).ev ρ = e.ev ρ := by
  induction e with
  | lit n => rfl
  | var i => exact nrmVar_ev hd i
  | add a b iha ihb => simp only [IE.nrm, nrmAdd_ev hρ, IE.ev, iha, ihb]
  | sub a b iha ihb => simp only [IE.nrm, mkSub_ev, IE.ev, iha, ihb]
  | mul a b iha ihb => simp only [IE.nrm, mkMul_ev, IE.ev, iha, ihb]
  | wrap k a iha => simp only [IE.nrm, nrmWrap_ev hρ, IE.ev, iha]
  | bits op k a b iha ihb => simp only [IE.nrm, nrmBits_ev hρ, IE.ev, iha, ihb]
  | quo a b iha ihb => simp only [IE.nrm, nrmQuo_ev hρ, IE.ev, iha, ihb]
  | rem a b iha ihb => simp only [IE.nrm, nrmRem_ev hρ, IE.ev, iha, ihb]
  | shl k a b iha ihb => simp only [IE.nrm, nrmShl_ev hρ, IE.ev, iha, ihb]
  | shr k a b iha ihb => simp only [IE.nrm, nrmShr_ev hρ, IE.ev, iha, ihb]
  | fn c x y z ihx ihy ihz => simp only [IE.nrm, nrmFnD_ev hρ hd, IE.ev, ihx, ihy, ihz]
  | sel s a b x y iha ihb ihx ihy => simp only [IE.nrm, nrmSel_ev hρ hd, IE.ev, iha, ihb, ihx, ihy]
def BE.nrm (bd : Bd) (dec : Dec) : BE → BE
  | .lit b => .lit b
  | .var i => .var i
  | .eq a b => nrmEq bd (a.nrm bd dec) (b.nrm bd dec)
  | .lt a b => nrmLtQ bd (a.nrm bd dec) (b.nrm bd dec)
  | .not t => .not (t.nrm bd dec)
theorem BE.nrm_ev {ρ : Env} {bd : Bd} (hρ : ρ.ok bd) {dec : Dec} (hd : dec.holds ρ) (b : BE) : (b.nrm bd dec).ev ρ = b.ev ρ := by
  induction b with
  | lit v => rfl
  | var i => rfl
  | eq a b => simp only [BE.nrm, nrmEq_ev hρ, BE.ev, IE.nrm_ev hρ hd]
  | lt a b => simp only [BE.nrm, nrmLtQ_ev hρ, BE.ev, IE.nrm_ev hρ hd]
  | not t ih => simp only [BE.nrm, BE.ev, ih]
/-- The first choice within. -/
def IE.choice : IE → Option BE
  | .lit _ => none
  | .var _ => none
  | .add a b => match a.choice with | some t => some t | none => b.choice
  | .sub a b => match a.choice with | some t => some t | none => b.choice
  | .mul a b => match a.choice with | some t => some t | none => b.choice
  | .wrap _ a => a.choice
  | .bits _ _ a b => match a.choice with | some t => some t | none => b.choice
  | .quo a b => match a.choice with | some t => some t | none => b.choice
  | .rem a b => match a.choice with | some t => some t | none => b.choice
  | .shl _ a b => match a.choice with | some t => some t | none => b.choice
  | .shr _ a b => match a.choice with | some t => some t | none => b.choice
  | .fn _ x y z => match x.choice with
    | some t => some t
    | none => match y.choice with
      | some t => some t
      | none => z.choice
  | .sel s a b _ _ =>
    match a.choice with
    | some t => some t
    | none =>
      match b.choice with
      | some t => some t
      | none => some (match s with | true => .lt a b | false => .eq a b)
def BE.choice : BE → Option BE
  | .lit _ => none
  | .var _ => none
  | .eq a b => match a.choice with | some t => some t | none => b.choice
  | .lt a b => match a.choice with | some t => some t | none => b.choice
  | .not t => t.choice
/-- What the bounds tell of a test's sides. -/
def sideFacts (bd : Bd) (e : IE) (d : Dec) : Dec :=
  match e with
  | .lit _ => d
  | _ =>
    match rng bd e with
    | some (l, h) => (.lt e (.lit l), false) :: (.lt (.lit h) e, false) :: d
    | none => d
def facts (bd : Bd) (t : BE) (d : Dec) : Dec :=
  match t with
  | .eq a b => sideFacts bd a (sideFacts bd b d)
  | .lt a b => sideFacts bd a (sideFacts bd b d)
  | _ => d
theorem sideFacts_ok {ρ : Env} {bd : Bd} (hρ : ρ.ok bd) (e : IE) {d : Dec} (hd : d.holds ρ) : (sideFacts bd e d).holds ρ := by
  unfold sideFacts
  split
  · exact hd
  · split
    · rename_i l h hr
      have hb := rng_ok hρ e l h hr
      intro p hp
      rcases List.mem_cons.1 hp with rfl | hp
      · show decide (e.ev ρ < (IE.lit l).ev ρ) = false
        exact decide_eq_false (by show ¬ (e.ev ρ < l); omega)
      · rcases List.mem_cons.1 hp with rfl | hp
        · show decide ((IE.lit h).ev ρ < e.ev ρ) = false
          exact decide_eq_false (by show ¬ (h < e.ev ρ); omega)
        · exact hd p hp
    · exact hd
theorem facts_ok {ρ : Env} {bd : Bd} (hρ : ρ.ok bd) (t : BE) {d : Dec} (hd : d.holds ρ) : (facts bd t d).holds ρ := by
  unfold facts
  split
  · exact sideFacts_ok hρ _ (sideFacts_ok hρ _ hd)
  · exact sideFacts_ok hρ _ (sideFacts_ok hρ _ hd)
  · exact hd
def atomLo (bd : Bd) (a : IE) (s : Int) : Option Int :=
  match intEq s 0 with
  | true => some 0
  | false =>
    match rng bd a with
    | some (lo, hi) =>
      match intLt s 0 with
      | true => some (s * hi)
      | false => some (s * lo)
    | none => none
theorem atomLo_ok {ρ : Env} {bd : Bd} (hρ : ρ.ok bd) {a : IE} {s m : Int} (h : atomLo bd a s = some m) : m ≤ s * a.ev ρ := by
  unfold atomLo at h
  split at h
  · rename_i hs
    cases h
    rw [intEq_eq hs, Int.zero_mul]
    exact Int.le_refl _
  · split at h
    · rename_i lo hi hr
      obtain ⟨q1, q2⟩ := rng_ok hρ _ _ _ hr
      split at h
      · rename_i hs
        cases h
        rw [intLt_iff] at hs
        exact Int.mul_le_mul_of_nonpos_left (Int.le_of_lt (of_decide_eq_true hs)) q2
      · rename_i hs
        cases h
        rw [intLt_iff] at hs
        exact Int.mul_le_mul_of_nonneg_left q1 (Int.not_lt.1 (of_decide_eq_false hs))
    · cases h
def linLo (bd : Bd) : Lin → Option Int
  | [] => some 0
  | (a, s) :: l =>
    match atomLo bd a s with
    | some x =>
      match linLo bd l with
      | some y => some (x + y)
      | none => none
    | none => none
theorem linLo_ok {ρ : Env} {bd : Bd} (hρ : ρ.ok bd) : ∀ {l : Lin} {m : Int}, linLo bd l = some m → m ≤ linEv ρ l := by
  intro l
  induction l with
  | nil => intro m h; cases h; exact Int.le_refl _
  | cons p l ih =>
    intro m h
    obtain ⟨a, s⟩ := p
    unfold linLo at h
    split at h
    · rename_i x hx
      split at h
      · rename_i y hy
        cases h
        have q1 := atomLo_ok hρ hx
        have q2 := ih hy
        show x + y ≤ s * a.ev ρ + linEv ρ l
        omega
      · cases h
    · cases h
/-- The one difference is at least k. -/
def geK (bd : Bd) (a b : IE) (k : Int) : Bool :=
  match linX b (-1) (linX a 1 [] 0).1 (linX a 1 [] 0).2 with
  | (l, c) =>
    match linLo bd l with
    | some m => intLe k (m + c)
    | none => false
theorem geK_ok {ρ : Env} {bd : Bd} (hρ : ρ.ok bd) {a b : IE} {k : Int} (h : geK bd a b k = true) : k ≤ a.ev ρ - b.ev ρ := by
  unfold geK at h
  split at h
  rename_i l c hl
  split at h
  · rename_i m hm
    rw [intLe_iff] at h
    have h := of_decide_eq_true h
    have h0 := linLo_ok hρ hm
    have h1 := linX_ok ρ b (-1) (linX a 1 [] 0).1 (linX a 1 [] 0).2
    have h2 := linX_ok ρ a 1 [] 0
    rw [hl] at h1
    have h1 : linEv ρ l + c = -1 * b.ev ρ + (linEv ρ (linX a 1 [] 0).1 + (linX a 1 [] 0).2) := h1
    rw [h2] at h1
    have h3 : linEv ρ [] = 0 := rfl
    rw [h3] at h1
    omega
  · cases h
/-- What one comparison tells of another. -/
def relOne (bd : Bd) (a b c d : IE) : Bool → Option Bool
  | true =>
    match geK bd (.add b c) (.add a d) 0 with
    | true => some true
    | false =>
      match geK bd (.add a c) (.add b d) (-1) with
      | true => some false
      | false => none
  | false =>
    match geK bd (.add b d) (.add a c) 1 with
    | true => some true
    | false =>
      match geK bd (.add a d) (.add b c) 0 with
      | true => some false
      | false => none
theorem relOne_ok {ρ : Env} {bd : Bd} (hρ : ρ.ok bd) {a b c d : IE} {v u : Bool} (h : relOne bd a b c d v = some u) (hv : (BE.lt c d).ev ρ = v) : (BE.lt a b).ev ρ = u := by
  have hv : decide (c.ev ρ < d.ev ρ) = v := hv
  show decide (a.ev ρ < b.ev ρ) = u
  have e : ∀ x y : IE, (IE.add x y).ev ρ = x.ev ρ + y.ev ρ := fun _ _ => rfl
  cases v
  · have hv := of_decide_eq_false hv
    unfold relOne at h
    split at h
    · rename_i _ _ h1
      cases h1
    · split at h
      · rename_i h2
        cases h
        have := geK_ok hρ h2
        rw [e, e] at this
        exact decide_eq_true (by omega)
      · split at h
        · rename_i h2
          cases h
          have := geK_ok hρ h2
          rw [e, e] at this
          exact decide_eq_false (by omega)
        · cases h
  · have hv := of_decide_eq_true hv
    unfold relOne at h
    split at h
    · split at h
      · rename_i h2
        cases h
        have := geK_ok hρ h2
        rw [e, e] at this
        exact decide_eq_true (by omega)
      · split at h
        · rename_i h2
          cases h
          have := geK_ok hρ h2
          rw [e, e] at this
          exact decide_eq_false (by omega)
        · cases h
    · rename_i _ _ h1
      cases h1
def relate (bd : Bd) (a b : IE) : Dec → Option Bool
  | [] => none
  | (.lt c d, v) :: l =>
    match relOne bd a b c d v with
    | some u => some u
    | none => relate bd a b l
  | _ :: l => relate bd a b l
theorem relate_ok {ρ : Env} {bd : Bd} (hρ : ρ.ok bd) {a b : IE} {u : Bool} : ∀ (dec : Dec), dec.holds ρ → relate bd a b dec = some u → (BE.lt a b).ev ρ = u
  | [], _, h => by cases h
  | (.lt c d, v) :: l, hd, h => by
    unfold relate at h
    split at h
    · rename_i w hw
      cases h
      exact relOne_ok hρ hw (hd _ (List.mem_cons_self ..))
    · exact relate_ok hρ l (fun p hp => hd p (List.mem_cons_of_mem _ hp)) h
  | (.eq _ _, _) :: l, hd, h => relate_ok hρ l (fun p hp => hd p (List.mem_cons_of_mem _ hp)) h
  | (.lit _, _) :: l, hd, h => relate_ok hρ l (fun p hp => hd p (List.mem_cons_of_mem _ hp)) h
  | (.not _, _) :: l, hd, h => relate_ok hρ l (fun p hp => hd p (List.mem_cons_of_mem _ hp)) h
  | (.var _, _) :: l, hd, h => relate_ok hρ l (fun p hp => hd p (List.mem_cons_of_mem _ hp)) h
/-- A quotient below something, as the thing itself below a multiple. -/
def quoUp (bd : Bd) (x y : IE) : Option BE :=
  match x with
  | .quo a (.lit (.ofNat (m + 1))) =>
    match loGe bd a with
    | true => some (mkLt bd a (mkMul y (.lit (.ofNat (m + 1)))))
    | false => none
  | _ => none
theorem quoUp_ev {ρ : Env} {bd : Bd} (hρ : ρ.ok bd) {x y : IE} {c : BE} (h : quoUp bd x y = some c) : c.ev ρ = (BE.lt x y).ev ρ := by
  unfold quoUp at h
  split at h
  · rename_i a m
    split at h
    · rename_i h0
      cases h
      rw [mkLt_ev hρ, mkMul_ev]
      have h0 := loGe_ok hρ h0
      show decide (a.ev ρ < y.ev ρ * ((m + 1 : Nat) : Int)) = decide ((a.ev ρ).tdiv ((m + 1 : Nat) : Int) < y.ev ρ)
      rw [Int.tdiv_eq_ediv_of_nonneg h0]
      congr 1
      apply propext
      have hm : (0 : Int) < ((m + 1 : Nat) : Int) := by omega
      exact (Int.ediv_lt_iff_lt_mul hm).symm
    · cases h
  · cases h
/-- A test that the outcomes settle; a comparison also by the comparisons that are known. -/
def settleR (bd : Bd) (dec : Dec) (b : BE) : Option Bool :=
  match settle dec b with
  | some v => some v
  | none =>
    match b with
    | .lt x y =>
      match relate bd x y dec with
      | some v => some v
      | none =>
        match quoUp bd x y with
        | some c => settle dec c
        | none => none
    | .eq x y =>
      match relate bd x y dec with
      | some true => some false
      | some false =>
        match relate bd y x dec with
        | some true => some false
        | some false => some true
        | none => none
      | none => none
    | _ => none
theorem settleR_ok {ρ : Env} {bd : Bd} (hρ : ρ.ok bd) {dec : Dec} (hd : dec.holds ρ) (b : BE) (v : Bool) (h : settleR bd dec b = some v) : b.ev ρ = v := by
  unfold settleR at h
  split at h
  · rename_i u hu
    cases h
    exact settle_ok hd _ _ hu
  · split at h
    · split at h
      · rename_i hu
        cases h
        exact relate_ok hρ dec hd hu
      · split at h
        · rename_i c hc
          rw [← quoUp_ev hρ hc]
          exact settle_ok hd _ _ h
        · cases h
    · rename_i x y _
      have lt : ∀ {x y : IE} {u : Bool}, relate bd x y dec = some u → decide (x.ev ρ < y.ev ρ) = u := fun h => relate_ok hρ dec hd h
      split at h
      · rename_i h1
        cases h
        have h1 := of_decide_eq_true (lt h1)
        exact decide_eq_false (by omega)
      · rename_i h1
        have h1 := of_decide_eq_false (lt h1)
        split at h
        · rename_i h2
          cases h
          have h2 := of_decide_eq_true (lt h2)
          exact decide_eq_false (by omega)
        · rename_i h2
          cases h
          have h2 := of_decide_eq_false (lt h2)
          exact decide_eq_true (by omega)
        · cases h
      · cases h
    · cases h
/-- A test decided, if need be by cases. -/
def proveN (bd : Bd) : Nat → Dec → BE → Option Bool
  | 0, dec, b => settleR bd dec (b.nrm bd dec)
  | k + 1, dec, b =>
    match b.nrm bd dec with
    | .lit v => some v
    | b' =>
      match settleR bd dec b' with
      | some v => some v
      | none =>
        match b'.choice with
        | none => none
        | some t =>
          match settleR bd (facts bd t dec) t with
          | some v => proveN bd k ((t, v) :: facts bd t dec) b'
          | none =>
            match proveN bd k ((t, true) :: facts bd t dec) b' with
            | some true =>
              match proveN bd k ((t, false) :: facts bd t dec) b' with
              | some true => some true
              | _ => none
            | some false =>
              match proveN bd k ((t, false) :: facts bd t dec) b' with
              | some false => some false
              | _ => none
            | none => none
theorem decAdd {ρ : Env} {dec : Dec} (h : dec.holds ρ) {t : BE} {v : Bool} (ht : t.ev ρ = v) : Dec.holds ρ ((t, v) :: dec) := by
  intro p hp
  rcases List.mem_cons.1 hp with rfl | hp
  · exact ht
  · exact h p hp
theorem proveN_ok {ρ : Env} {bd : Bd} (hρ : ρ.ok bd) : ∀ (k : Nat) (dec : Dec) (b : BE) (v : Bool), dec.holds ρ → proveN bd k dec b = some v → b.ev ρ = v := by
  intro k
  induction k with
  | zero =>
    intro dec b v hd h
    rw [← BE.nrm_ev hρ hd b]
    exact settleR_ok hρ hd _ _ h
  | succ k ih =>
    intro dec b v hd h
    rw [← BE.nrm_ev hρ hd b]
    unfold proveN at h
    split at h
    · rename_i u hu
      cases h
      rw [hu]
      rfl
    · generalize b.nrm bd dec = b' at h ⊢
      split at h
      · rename_i u hu
        cases h
        exact settleR_ok hρ hd _ _ hu
      · split at h
        · cases h
        · rename_i t _
          have hf := facts_ok (bd := bd) hρ t hd
          split at h
          · rename_i u hu
            exact ih _ _ _ (decAdd hf (settleR_ok hρ hf _ _ hu)) h
          · have both : ∀ v, proveN bd k ((t, true) :: facts bd t dec) b' = some v → proveN bd k ((t, false) :: facts bd t dec) b' = some v → b'.ev ρ = v := by
              intro v h1 h2
              cases ht : t.ev ρ
              · exact ih _ _ _ (decAdd hf ht) h2
              · exact ih _ _ _ (decAdd hf ht) h1
            split at h
            · rename_i h1
              split at h
              · rename_i h2
                cases h
                exact both true h1 h2
              · cases h
            · rename_i h1
              split at h
              · rename_i h2
                cases h
                exact both false h1 h2
              · cases h
            · cases h
/-- The same; first as it stands. -/
def prove (bd : Bd) (k : Nat) (dec : Dec) (b : BE) : Option Bool :=
  match settle dec b with
  | some v => some v
  | none => proveN bd k dec b
theorem prove_ok {ρ : Env} {bd : Bd} (hρ : ρ.ok bd) (k : Nat) (dec : Dec) (b : BE) (v : Bool) (hd : dec.holds ρ) (h : prove bd k dec b = some v) : b.ev ρ = v := by
  unfold prove at h
  split at h
  · rename_i u hu
    cases h
    exact settle_ok hd _ _ hu
  · exact proveN_ok hρ k dec b v hd h
end
end Go.Sx
