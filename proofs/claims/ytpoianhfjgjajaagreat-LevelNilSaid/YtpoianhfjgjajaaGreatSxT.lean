/- Outcomes as trees: an undecided test parts the run; parts that end alike are joined again. No condition. -/
import Derived.Test.YtpoianhfjgjajaaGreatSxO
set_option linter.unusedSimpArgs false
set_option linter.unusedVariables false
namespace Go.Sx
open Go.RowKit (Below)
noncomputable section

/-! two values joined under a test -/
def BE.sel : BE → IE → IE → Option IE
  | .lit true, x, _ => some x
  | .lit false, _, y => some y
  | .var _, _, _ => none
  | .eq a b, x, y => some (.sel false a b x y)
  | .lt a b, x, y => some (.sel true a b x y)
  | .not t, x, y => BE.sel t y x
theorem BE.sel_ev {ρ : Env} : ∀ {b : BE} {x y z : IE}, b.sel x y = some z → z.ev ρ = if b.ev ρ then x.ev ρ else y.ev ρ := by
  intro b
  induction b with
  | lit v => intro x y z h; cases v <;> (cases h; simp [BE.ev])
  | var i => intro x y z h; cases h
  | eq a b => intro x y z h; cases h; simp [IE.ev, selI, BE.ev]
  | lt a b => intro x y z h; cases h; simp [IE.ev, selI, BE.ev]
  | not t ih => intro x y z h; rw [ih h]; cases ht : t.ev ρ <;> simp [BE.ev, ht]
/-- Equality, in few steps where both are symbols or numbers. -/
def IE.eqF (x y : IE) : Bool :=
  match x with
  | .var i => match y with
    | .var j => Nat.beq i j
    | _ => false
  | .lit a => match y with
    | .lit b => intEq a b
    | _ => false
  | _ => match y with
    | .var _ => false
    | .lit _ => false
    | _ => x.eq y
theorem IE.eqF_eq {x y : IE} (h : x.eqF y = true) : x = y := by
  unfold IE.eqF at h
  split at h
  · split at h
    · rw [Nat.eq_of_beq_eq_true h]
    · cases h
  · split at h
    · rw [intEq_eq h]
    · cases h
  · split at h
    · cases h
    · cases h
    · exact IE.eq_eq h
def IE.mrg (b : BE) (x y : IE) : Option IE :=
  match x.eqF y with
  | true => some x
  | false => b.sel x y
theorem IE.mrg_ev {ρ : Env} {b : BE} {x y z : IE} (h : IE.mrg b x y = some z) : z.ev ρ = if b.ev ρ then x.ev ρ else y.ev ρ := by
  unfold IE.mrg at h
  split at h
  · rename_i he
    cases h
    rw [IE.eqF_eq he]
    simp
  · exact BE.sel_ev h
def BE.mrg (b x y : BE) : Option BE :=
  match x.same y with
  | true => some x
  | false =>
    match x.num, y.num with
    | some p, some q =>
      match b.sel p q with
      | some z => some (.eq z (.lit 1))
      | none => none
    | _, _ => none
theorem BE.mrg_ev {ρ : Env} {b x y z : BE} (h : BE.mrg b x y = some z) : z.ev ρ = if b.ev ρ then x.ev ρ else y.ev ρ := by
  unfold BE.mrg at h
  split at h
  · rename_i he
    cases h
    rw [BE.same_eq he]
    simp
  · split at h
    · rename_i p q hp hq
      split at h
      · rename_i e he
        cases h
        have h1 := BE.sel_ev (ρ := ρ) he
        rw [BE.num_ev hp, BE.num_ev hq] at h1
        have e1 : (IE.lit 1).ev ρ = 1 := rfl
        show decide (e.ev ρ = (IE.lit 1).ev ρ) = _
        rw [h1, e1]
        cases b.ev ρ <;> cases x.ev ρ <;> cases y.ev ρ <;> rfl
      · cases h
    · cases h
mutual
def AVal.mrg (b : BE) : AVal → AVal → Option AVal
  | .bool x, y =>
    match y with
    | .bool y =>
      match BE.mrg b x y with
      | some z => some (.bool z)
      | none => none
    | _ => none
  | .int k x, y =>
    match y with
    | .int j y =>
      match kindEq k j with
      | true =>
        match IE.mrg b x y with
        | some z => some (.int k z)
        | none => none
      | false => none
    | _ => none
  | .agg l, y =>
    match y with
    | .agg m =>
      match mrgList b l m with
      | some z => some (.agg z)
      | none => none
    | _ => none
  | .tuple l, y =>
    match y with
    | .tuple m =>
      match mrgList b l m with
      | some z => some (.tuple z)
      | none => none
    | _ => none
  | .iface t v, y =>
    match y with
    | .iface t' v' =>
      match Nat.beq t t' with
      | true =>
        match v.mrg b v' with
        | some z => some (.iface t z)
        | none => none
      | false => none
    | _ => none
  | .strS c l, y =>
    match y with
    | .strS c' l' =>
      match IE.mrg b c c', IE.mrg b l l' with
      | some p, some q => some (.strS p q)
      | _, _ => none
    | _ => none
  | .sliceS i a l s nn, y =>
    match y with
    | .sliceS i' a' l' s' nn' =>
      match Nat.beq i i' && (Nat.beq s s' && bEq nn nn') with
      | true =>
        match IE.mrg b a a', IE.mrg b l l' with
        | some p, some q => some (.sliceS i p q s nn)
        | _, _ => none
      | false => none
    | _ => none
  | .sliceA i l s, y =>
    match y with
    | .sliceA i' l' s' =>
      match Nat.beq i i' && Nat.beq s s' with
      | true =>
        match IE.mrg b l l' with
        | some q => some (.sliceA i q s)
        | none => none
      | false => none
    | _ => none
  | .ptrE i e s c, y =>
    match y with
    | .ptrE i' e' s' c' =>
      match Nat.beq i i' && (Nat.beq s s' && Nat.beq c c') with
      | true =>
        match IE.mrg b e e' with
        | some p => some (.ptrE i p s c)
        | none => none
      | false => none
    | _ => none
  | x, y =>
    match x.same y with
    | true => some x
    | false => none
def mrgList (b : BE) : List AVal → List AVal → Option (List AVal)
  | [], l =>
    match l with
    | [] => some []
    | _ => none
  | x :: l, m =>
    match m with
    | [] => none
    | y :: m =>
      match x.mrg b y with
      | some z =>
        match mrgList b l m with
        | some zs => some (z :: zs)
        | none => none
      | none => none
end
theorem mrgList_length {b : BE} : ∀ {l m z : List AVal}, mrgList b l m = some z → z.length = l.length ∧ z.length = m.length := by
  intro l
  induction l with
  | nil =>
    intro m z h
    cases m with
    | nil => cases h; exact ⟨rfl, rfl⟩
    | cons y m => cases h
  | cons x l ih =>
    intro m z h
    cases m with
    | nil => cases h
    | cons y m =>
      simp only [mrgList] at h
      split at h
      · split at h
        · rename_i h2
          cases h
          have := ih h2
          simp [this.1, ← this.2]
        · cases h
      · cases h
section
variable {ρ : Env} {b : BE}
/-- Values of the same numbers. -/
theorem VRel.ints {f : Ren} {k : IntKind} {e e' : IE} {u : Value} (h : e'.ev ρ = e.ev ρ) (hv : VRel ρ f (.int k e) u) : VRel ρ f (.int k e') u := by
  cases hv
  rw [← h]
  exact .int k e'
theorem VRel.bools {f : Ren} {e e' : BE} {u : Value} (h : e'.ev ρ = e.ev ρ) (hv : VRel ρ f (.bool e) u) : VRel ρ f (.bool e') u := by
  cases hv
  rw [← h]
  exact .bool e'
theorem VRel.strSs {f : Ren} {c l c' l' : IE} {u : Value} (h : c'.ev ρ = c.ev ρ) (h' : l'.ev ρ = l.ev ρ) (hv : VRel ρ f (.strS c l) u) : VRel ρ f (.strS c' l') u := by
  cases hv; rename_i s hs hl
  exact .strS (h'.trans hl) (fun j x hx => by rw [h]; exact hs j x hx)
theorem VRel.sliceSs {f : Ren} {i s : Nat} {nn : Bool} {c l c' l' : IE} {u : Value} (h : c'.ev ρ = c.ev ρ) (h' : l'.ev ρ = l.ev ρ) (hv : VRel ρ f (.sliceS i c l s nn) u) : VRel ρ f (.sliceS i c' l' s nn) u := by
  cases hv with
  | sliceS hf h0 hl hc =>
    rw [← h] at h0
    rw [← h'] at hl hc
    rw [← h, ← h']
    exact .sliceS hf h0 hl hc
  | sliceZ hl ha => exact .sliceZ (h'.trans hl) ha
theorem VRel.sliceAs {f : Ren} {i s : Nat} {l l' : IE} {u : Value} (h' : l'.ev ρ = l.ev ρ) (hv : VRel ρ f (.sliceA i l s) u) : VRel ρ f (.sliceA i l' s) u := by
  cases hv with
  | sliceA hf hl hc hs =>
    rw [← h'] at hl hc ⊢
    exact .sliceA hf hl hc hs
  | sliceN hl => exact .sliceN (h'.trans hl)
theorem VRel.ptrEs {f : Ren} {i s c : Nat} {e e' : IE} {u : Value} (h : e'.ev ρ = e.ev ρ) (hv : VRel ρ f (.ptrE i e s c) u) : VRel ρ f (.ptrE i e' s c) u := by
  cases hv; rename_i L hf h0
  rw [← h] at h0 ⊢
  exact .ptrE hf h0
/-- One of two. -/
def pickV {α : Type} (v : Bool) (x y : α) : α := match v with | true => x | false => y
theorem ie_pick {x y z : IE} {v : Bool} (h : IE.mrg b x y = some z) (hb : b.ev ρ = v) : z.ev ρ = (pickV v x y).ev ρ := by
  rw [IE.mrg_ev h, hb]
  cases v <;> rfl
mutual
theorem AVal.mrg_ok : ∀ (x y z : AVal) (v : Bool) (f : Ren) (u : Value), AVal.mrg b x y = some z → b.ev ρ = v → VRel ρ f (pickV v x y) u → VRel ρ f z u := by
  intro x y z v f u h hb hu
  have same : (match x.same y with | true => some x | false => none) = some z → VRel ρ f z u := by
    intro h
    split at h
    · rename_i he
      cases h
      have := AVal.same_eq he
      subst this
      cases v <;> exact hu
    · cases h
  cases x with
  | bool x =>
    simp only [AVal.mrg] at h
    split at h
    · split at h
      · rename_i y' e he
        cases h
        have := BE.mrg_ev (ρ := ρ) he
        rw [hb] at this
        cases v
        · exact VRel.bools this hu
        · exact VRel.bools this hu
      · cases h
    · cases h
  | int k x =>
    simp only [AVal.mrg] at h
    split at h
    · split at h
      · rename_i j y' hk
        have hk := kindEq_eq hk
        subst hk
        split at h
        · rename_i e he
          cases h
          have := ie_pick he hb
          cases v
          · exact VRel.ints this hu
          · exact VRel.ints this hu
        · cases h
      · cases h
    · cases h
  | agg l =>
    simp only [AVal.mrg] at h
    split at h
    · rename_i m
      split at h
      · rename_i e he
        cases h
        have : ∃ a, u = .agg a ∧ LRel ρ f (pickV v l m) a := by
          cases v
          · exact VRel.agg_inv hu
          · exact VRel.agg_inv hu
        obtain ⟨a, rfl, ha⟩ := this
        have := mrgList_ok l m e v f a he hb ha
        exact .agg this.1 this.2
      · cases h
    · cases h
  | tuple l =>
    simp only [AVal.mrg] at h
    split at h
    · rename_i m
      split at h
      · rename_i e he
        cases h
        have : ∃ a, u = .tuple a ∧ LRel ρ f (pickV v l m) a := by
          cases v
          · cases hu; rename_i a h1 h2; exact ⟨a, rfl, h1, h2⟩
          · cases hu; rename_i a h1 h2; exact ⟨a, rfl, h1, h2⟩
        obtain ⟨a, rfl, ha⟩ := this
        have := mrgList_ok l m e v f a he hb ha
        exact .tuple this.1 this.2
      · cases h
    · cases h
  | iface t x =>
    simp only [AVal.mrg] at h
    split at h
    · rename_i t' y'
      split at h
      · rename_i ht
        have ht := Nat.eq_of_beq_eq_true ht
        subst ht
        split at h
        · rename_i e he
          cases h
          have : ∃ a, u = .iface t a ∧ VRel ρ f (pickV v x y') a := by
            cases v
            · cases hu; rename_i a h1; exact ⟨a, rfl, h1⟩
            · cases hu; rename_i a h1; exact ⟨a, rfl, h1⟩
          obtain ⟨a, rfl, ha⟩ := this
          exact .iface (AVal.mrg_ok x y' e v f a he hb ha)
        · cases h
      · cases h
    · cases h
  | strS c l =>
    simp only [AVal.mrg] at h
    split at h
    · split at h
      · rename_i p q h1 h2
        cases h
        have e1 := ie_pick h1 hb
        have e2 := ie_pick h2 hb
        cases v
        · exact VRel.strSs e1 e2 hu
        · exact VRel.strSs e1 e2 hu
      · cases h
    · cases h
  | sliceS i a l s nn =>
    simp only [AVal.mrg] at h
    split at h
    · split at h
      · rename_i hk
        obtain ⟨k1, k2⟩ := and_split hk
        obtain ⟨k2, k3⟩ := and_split k2
        have k1 := Nat.eq_of_beq_eq_true k1
        have k2 := Nat.eq_of_beq_eq_true k2
        have k3 := bEq_eq k3
        subst k1 k2 k3
        split at h
        · rename_i p q h1 h2
          cases h
          have e1 := ie_pick h1 hb
          have e2 := ie_pick h2 hb
          cases v
          · exact VRel.sliceSs e1 e2 hu
          · exact VRel.sliceSs e1 e2 hu
        · cases h
      · cases h
    · cases h
  | sliceA i l s =>
    simp only [AVal.mrg] at h
    split at h
    · split at h
      · rename_i hk
        obtain ⟨k1, k2⟩ := and_split hk
        have k1 := Nat.eq_of_beq_eq_true k1
        have k2 := Nat.eq_of_beq_eq_true k2
        subst k1 k2
        split at h
        · rename_i q h2
          cases h
          have e2 := ie_pick h2 hb
          cases v
          · exact VRel.sliceAs e2 hu
          · exact VRel.sliceAs e2 hu
        · cases h
      · cases h
    · cases h
  | ptrE i e s c =>
    simp only [AVal.mrg] at h
    split at h
    · split at h
      · rename_i hk
        obtain ⟨k1, k2⟩ := and_split hk
        obtain ⟨k2, k3⟩ := and_split k2
        have k1 := Nat.eq_of_beq_eq_true k1
        have k2 := Nat.eq_of_beq_eq_true k2
        have k3 := Nat.eq_of_beq_eq_true k3
        subst k1 k2 k3
        split at h
        · rename_i p h1
          cases h
          have e1 := ie_pick h1 hb
          cases v
          · exact VRel.ptrEs e1 hu
          · exact VRel.ptrEs e1 hu
        · cases h
      · cases h
    · cases h
  | str l => exact same (by simpa only [AVal.mrg] using h)
  | ptr a => exact same (by simpa only [AVal.mrg] using h)
  | slice a l c g => exact same (by simpa only [AVal.mrg] using h)
  | map r => exact same (by simpa only [AVal.mrg] using h)
  | func fn a c => exact same (by simpa only [AVal.mrg] using h)
  | nilFunc => exact same (by simpa only [AVal.mrg] using h)
  | nilIface => exact same (by simpa only [AVal.mrg] using h)
theorem mrgList_ok : ∀ (l m z : List AVal) (v : Bool) (f : Ren) (a : Array Value), mrgList b l m = some z → b.ev ρ = v → LRel ρ f (pickV v l m) a → LRel ρ f z a := by
  intro l m z v f a h hb ha
  cases l with
  | nil =>
    cases m with
    | nil => cases h; cases v <;> exact ha
    | cons y m => cases h
  | cons x l =>
    cases m with
    | nil => cases h
    | cons y m =>
      simp only [mrgList] at h
      split at h
      · rename_i e he
        split at h
        · rename_i es hes
          cases h
          obtain ⟨a⟩ := a
          have split : ∃ u us, a = u :: us ∧ VRel ρ f (pickV v x y) u ∧ LRel ρ f (pickV v l m) us.toArray := by
            cases a with
            | nil => cases v <;> (have := ha.1; simp [pickV] at this)
            | cons u us =>
              refine ⟨u, us, rfl, ?_, ?_⟩
              · cases v <;> exact ha.2 0 _ u rfl rfl
              · cases v
                · exact ⟨by have := ha.1; simp [pickV] at this; simp [pickV, this], fun j p q h1 h2 => ha.2 (j + 1) p q (by simpa [pickV] using h1) (by simpa using h2)⟩
                · exact ⟨by have := ha.1; simp [pickV] at this; simp [pickV, this], fun j p q h1 h2 => ha.2 (j + 1) p q (by simpa [pickV] using h1) (by simpa using h2)⟩
          obtain ⟨u, us, rfl, h1, h2⟩ := split
          exact LRel.cons (AVal.mrg_ok x y e v f u he hb h1) (mrgList_ok l m es v f us.toArray hes hb h2)
        · cases h
      · cases h
end
end

/-- The same, in few steps for integers. -/
def AVal.mrgF (b : BE) (x y : AVal) : Option AVal :=
  match x with
  | .int k e =>
    match y with
    | .int j e' =>
      match Nat.beq (kindNo k) (kindNo j) with
      | true =>
        match IE.mrg b e e' with
        | some z => some (.int k z)
        | none => none
      | false => none
    | _ => none
  | _ => x.mrg b y
theorem AVal.mrgF_eq (b : BE) (x y : AVal) : AVal.mrgF b x y = AVal.mrg b x y := by
  unfold AVal.mrgF
  split
  · split
    · simp only [AVal.mrg, kindEq]
    · simp only [AVal.mrg]
  · rfl

/-! trees and objects joined -/
def T.mk {α : Type} (v : Option α) (l r : T α) : T α :=
  Option.rec (motive := fun _ => T α)
    (T.rec (motive := fun _ => T α)
      (T.rec (motive := fun _ => T α) .nil (fun a b c _ _ => .node none .nil (.node a b c)) r)
      (fun x y z _ _ => T.rec (motive := fun _ => T α) (.node none (.node x y z) .nil) (fun a b c _ _ => .node none (.node x y z) (.node a b c)) r) l)
    (fun v => T.rec (motive := fun _ => T α)
      (T.rec (motive := fun _ => T α) (.node (some v) .nil .nil) (fun a b c _ _ => .node (some v) .nil (.node a b c)) r)
      (fun x y z _ _ => T.rec (motive := fun _ => T α) (.node (some v) (.node x y z) .nil) (fun a b c _ _ => .node (some v) (.node x y z) (.node a b c)) r) l) v
theorem T.mk_getS {α : Type} (v : Option α) (l r : T α) (k : Nat) : (T.mk v l r).getS k = (T.node v l r).getS k := by
  cases v <;> cases l <;> cases r <;> first | rfl | (simp only [T.mk, T.getS]; split <;> first | rfl | (split <;> rfl))
def mrgO {α : Type} (g : α → α → Option α) : Option α → Option α → Option α
  | some x, y =>
    match y with
    | some y => g x y
    | none => none
  | none, _ => none
def T.mrg {α : Type} (g : α → α → Option α) (t : T α) : T α → T α :=
  T.rec (motive := fun _ => T α → T α) (fun _ => .nil)
    (fun v _ _ il ir t' => T.rec (motive := fun _ => T α) .nil (fun v' l' r' _ _ => T.mk (mrgO g v v') (il l') (ir r')) t') t
theorem T.mrg_node {α : Type} (g : α → α → Option α) (v v' : Option α) (l r l' r' : T α) : T.mrg g (.node v l r) (.node v' l' r') = T.mk (mrgO g v v') (T.mrg g l l') (T.mrg g r r') := rfl
theorem T.mrg_nil {α : Type} (g : α → α → Option α) (t : T α) : T.mrg g .nil t = .nil := rfl
theorem T.mrg_nil' {α : Type} (g : α → α → Option α) (v : Option α) (l r : T α) : T.mrg g (.node v l r) .nil = .nil := rfl
theorem T.mrg_getS {α : Type} {g : α → α → Option α} : ∀ (t t' : T α) (k : Nat) (z : α), (T.mrg g t t').getS k = some z → ∃ x y, t.getS k = some x ∧ t'.getS k = some y ∧ g x y = some z := by
  intro t
  induction t with
  | nil => intro t' k z h; rw [T.mrg_nil] at h; simp [T.getS] at h
  | node v l r ihl ihr =>
    intro t' k z h
    cases t' with
    | nil => rw [T.mrg_nil'] at h; simp [T.getS] at h
    | node v' l' r' =>
      rw [T.mrg_node, T.mk_getS] at h
      simp only [T.getS] at h ⊢
      cases hk : Nat.beq k 0
      · simp only [hk] at h ⊢
        cases ho : Nat.beq (k % 2) 1
        · simp only [ho] at h ⊢
          exact ihr _ _ _ h
        · simp only [ho] at h ⊢
          exact ihl _ _ _ h
      · simp only [hk] at h ⊢
        unfold mrgO at h
        split at h
        · split at h
          · exact ⟨_, _, rfl, rfl, h⟩
          · cases h
        · cases h
theorem T.mrg_get {α : Type} {g : α → α → Option α} {t t' : T α} {k : Nat} {z : α} (h : (T.mrg g t t').get k = some z) : ∃ x y, t.get k = some x ∧ t'.get k = some y ∧ g x y = some z := by
  rw [T.get_eq] at h
  obtain ⟨x, y, h1, h2, h3⟩ := T.mrg_getS _ _ _ _ h
  exact ⟨x, y, by rw [T.get_eq]; exact h1, by rw [T.get_eq]; exact h2, h3⟩
def mrgIEs (b : BE) : List IE → List IE → Option (List IE)
  | [], l =>
    match l with
    | [] => some []
    | _ => none
  | x :: l, m =>
    match m with
    | [] => none
    | y :: m =>
      match IE.mrg b x y with
      | some z =>
        match mrgIEs b l m with
        | some zs => some (z :: zs)
        | none => none
      | none => none
theorem mrgIEs_ev {ρ : Env} {b : BE} {v : Bool} (hb : b.ev ρ = v) : ∀ {l m z : List IE}, mrgIEs b l m = some z → z.map (·.ev ρ) = (pickV v l m).map (·.ev ρ) := by
  intro l
  induction l with
  | nil =>
    intro m z h
    cases m with
    | nil => cases h; cases v <;> rfl
    | cons y m => cases h
  | cons x l ih =>
    intro m z h
    cases m with
    | nil => cases h
    | cons y m =>
      simp only [mrgIEs] at h
      split at h
      · rename_i e he
        split at h
        · rename_i es hes
          cases h
          have h1 := ie_pick he hb
          have h2 := ih hes
          cases v
          · simp only [pickV, List.map_cons] at h2 ⊢
            rw [h2, h1]
            rfl
          · simp only [pickV, List.map_cons] at h2 ⊢
            rw [h2, h1]
            rfl
        · cases h
      · cases h
def sameEs : List (AVal × AVal) → List (AVal × AVal) → Bool
  | [], l =>
    match l with
    | [] => true
    | _ => false
  | x :: l, m =>
    match m with
    | [] => false
    | y :: m => x.1.same y.1 && (x.2.same y.2 && sameEs l m)
theorem sameEs_eq : ∀ {l m : List (AVal × AVal)}, sameEs l m = true → l = m := by
  intro l
  induction l with
  | nil => intro m h; cases m with
    | nil => rfl
    | cons y m => cases h
  | cons x l ih =>
    intro m h
    cases m with
    | nil => cases h
    | cons y m =>
      obtain ⟨h1, h2⟩ := and_split h
      obtain ⟨h2, h3⟩ := and_split h2
      rw [ih h3]
      have e1 := AVal.same_eq h1
      have e2 := AVal.same_eq h2
      obtain ⟨x1, x2⟩ := x
      obtain ⟨y1, y2⟩ := y
      simp only at e1 e2
      rw [e1, e2]
def AObj.mrg (b : BE) : AObj → AObj → Option AObj
  | .cells c e o t, y =>
    match y with
    | .cells c' e' o' t' =>
      match Nat.beq e e' && (bEq o o' && Nat.beq t t') with
      | true => some (.cells (T.mrg (AVal.mrgF b) c c') e o t)
      | false => none
    | _ => none
  | .map es, y =>
    match y with
    | .map es' =>
      match sameEs es es' with
      | true => some (.map es)
      | false => none
    | _ => none
  | .arr ks c n o, y =>
    match y with
    | .arr ks' c' n' o' =>
      match kindsSame ks ks' && bEq o o' with
      | true =>
        match IE.mrg b c c', IE.mrg b n n' with
        | some p, some q => some (.arr ks p q o)
        | _, _ => none
      | false => none
    | _ => none
  | .ghost k vs c, y =>
    match y with
    | .ghost k' vs' c' =>
      match Nat.beq k k' with
      | true =>
        match mrgIEs b vs vs' with
        | some z => some (.ghost k z (T.mrg (AVal.mrgF b) c c'))
        | none => none
      | false => none
    | _ => none
  | .win i s c e o, y =>
    match y with
    | .win i' s' c' e' o' =>
      match i.eqF i' && (Nat.beq s s' && (Nat.beq e e' && bEq o o')) with
      | true => some (.win i s (T.mrg (AVal.mrgF b) c c') e o)
      | false => none
    | _ => none
  | .col s c k code m d n, y =>
    match y with
    | .col s' c' k' code' m' d' n' =>
      match Nat.beq s s' && (Nat.beq c c' && (kindEq k k' && (code.eqF code' && (Nat.beq m m' && (Nat.beq d d' && n.eqF n'))))) with
      | true => some (.col s c k code m d n)
      | false => none
    | _ => none
  | .it0, y =>
    match y with
    | .it0 => some .it0
    | _ => none
/-- What the second says is also said by the first. -/
structure OCov (ρ : Env) (q o : AObj) : Prop where
  own : o.own = q.own
  foot : ∀ w L c, o.foot ρ w L c ↔ q.foot ρ w L c
  rel : ∀ f B w L, ORel ρ f B w L q → ORel ρ f B w L o
theorem AObj.mrg_ok {ρ : Env} {b : BE} {v : Bool} (hb : b.ev ρ = v) {x y z : AObj} (h : AObj.mrg b x y = some z) : OCov ρ (pickV v x y) z := by
  cases x with
  | cells c e o t =>
    simp only [AObj.mrg] at h
    split at h
    · rename_i c' e' o' t'
      split at h
      · rename_i hk
        cases h
        obtain ⟨k1, k2⟩ := and_split hk
        obtain ⟨k2, k3⟩ := and_split k2
        have k1 := Nat.eq_of_beq_eq_true k1
        have k2 := bEq_eq k2
        have k3 := Nat.eq_of_beq_eq_true k3
        subst k1 k2 k3
        refine ⟨by cases v <;> rfl, by cases v <;> exact fun _ _ _ => Iff.rfl, fun f B w L ho => ?_⟩
        have ho' : ORel ρ f B w L (.cells (pickV v c c') e o t) := by cases v <;> exact ho
        obtain ⟨cs, fr, h1, h2, h3, h4⟩ := ho'
        refine ⟨cs, fr, h1, h2, h3, fun j z hz => ?_⟩
        obtain ⟨p, q, g1, g2, g3⟩ := T.mrg_get hz
        have : (pickV v c c').get j = some (pickV v p q) := by cases v <;> first | exact g1 | exact g2
        obtain ⟨a1, v', a2, a3⟩ := h4 j _ this
        exact ⟨a1, v', a2, AVal.mrg_ok p q z v f v' (by rw [← AVal.mrgF_eq]; exact g3) hb a3⟩
      · cases h
    · cases h
  | map es =>
    simp only [AObj.mrg] at h
    split at h
    · rename_i es'
      split at h
      · rename_i hk
        cases h
        have := sameEs_eq hk
        subst this
        cases v <;> exact ⟨rfl, fun _ _ _ => Iff.rfl, fun _ _ _ _ h => h⟩
      · cases h
    · cases h
  | arr ks c n o =>
    simp only [AObj.mrg] at h
    split at h
    · rename_i ks' c' n' o'
      split at h
      · rename_i hk
        obtain ⟨k1, k2⟩ := and_split hk
        have k1 := kindsSame_eq k1
        have k2 := bEq_eq k2
        subst k1 k2
        split at h
        · rename_i p q hp hq
          cases h
          have e1 := ie_pick hp hb
          have e2 := ie_pick hq hb
          refine ⟨by cases v <;> rfl, by cases v <;> exact fun _ _ _ => Iff.rfl, fun f B w L ho => ?_⟩
          have ho' : ORel ρ f B w L (.arr ks (pickV v c c') (pickV v n n') o) := by cases v <;> exact ho
          obtain ⟨cs, el, fr, h1, h2, h3, h4⟩ := ho'
          refine ⟨cs, el, fr, h1, h2, h3, ?_⟩
          rw [e1, e2]
          exact h4
        · cases h
      · cases h
    · cases h
  | ghost k vs c =>
    simp only [AObj.mrg] at h
    split at h
    · rename_i k' vs' c'
      split at h
      · rename_i hk
        have hk := Nat.eq_of_beq_eq_true hk
        subst hk
        split at h
        · rename_i z hz
          cases h
          have e1 := mrgIEs_ev hb hz
          refine ⟨by cases v <;> rfl, by cases v <;> exact fun _ _ _ => Iff.rfl, fun f B w L ho => ?_⟩
          have ho' : ORel ρ f B w L (.ghost k (pickV v vs vs') (pickV v c c')) := by cases v <;> exact ho
          obtain ⟨⟨h1, h2⟩, hb0, cs, el, fr, h3, h4, h5, h6⟩ := ho'
          refine ⟨⟨?_, h2⟩, hb0, cs, el, fr, h3, h4, h5, fun j z hz => ?_⟩
          · rw [e1]
            exact h1
          · obtain ⟨p, q, g1, g2, g3⟩ := T.mrg_get hz
            have : (pickV v c c').get j = some (pickV v p q) := by cases v <;> first | exact g1 | exact g2
            obtain ⟨a1, v', a2, a3⟩ := h6 j _ this
            exact ⟨a1, v', a2, AVal.mrg_ok p q z v f v' (by rw [← AVal.mrgF_eq]; exact g3) hb a3⟩
        · cases h
      · cases h
    · cases h
  | it0 =>
    simp only [AObj.mrg] at h
    split at h
    · cases h
      cases v <;> exact ⟨rfl, fun _ _ _ => Iff.rfl, fun _ _ _ _ h => h⟩
    · cases h
  | col s c k code m d n => 
    simp only [AObj.mrg] at h
    split at h
    · rename_i s' c' k' code' m' d' n'
      split at h
      · rename_i hk
        cases h
        obtain ⟨k1, hk⟩ := and_split hk
        obtain ⟨k2, hk⟩ := and_split hk
        obtain ⟨k3, hk⟩ := and_split hk
        obtain ⟨k4, hk⟩ := and_split hk
        obtain ⟨k5, hk⟩ := and_split hk
        obtain ⟨k6, k7⟩ := and_split hk
        have k1 := Nat.eq_of_beq_eq_true k1
        have k2 := Nat.eq_of_beq_eq_true k2
        have k3 := kindEq_eq k3
        have k4 := IE.eqF_eq k4
        have k5 := Nat.eq_of_beq_eq_true k5
        have k6 := Nat.eq_of_beq_eq_true k6
        have k7 := IE.eqF_eq k7
        subst k1 k2 k3 k4 k5 k6 k7
        cases v <;> exact ⟨rfl, fun _ _ _ => Iff.rfl, fun _ _ _ _ h => h⟩
      · cases h
    · cases h
  | win i s c e o =>
    simp only [AObj.mrg] at h
    split at h
    · rename_i i' s' c' e' o'
      split at h
      · rename_i hk
        cases h
        obtain ⟨k1, k2⟩ := and_split hk
        obtain ⟨k2, k3⟩ := and_split k2
        obtain ⟨k3, k4⟩ := and_split k3
        have k1 := IE.eqF_eq k1
        have k2 := Nat.eq_of_beq_eq_true k2
        have k3 := Nat.eq_of_beq_eq_true k3
        have k4 := bEq_eq k4
        subst k1 k2 k3 k4
        refine ⟨by cases v <;> rfl, by cases v <;> exact fun _ _ _ => Iff.rfl, fun f B w L ho => ?_⟩
        have ho' : ORel ρ f B w L (.win i s (pickV v c c') e o) := by cases v <;> exact ho
        obtain ⟨cs, fr, h1, h2, h3, h0, h4⟩ := ho'
        refine ⟨cs, fr, h1, h2, h3, h0, fun j z hz => ?_⟩
        obtain ⟨p, q, g1, g2, g3⟩ := T.mrg_get hz
        have : (pickV v c c').get j = some (pickV v p q) := by cases v <;> first | exact g1 | exact g2
        obtain ⟨v', a2, a3⟩ := h4 j _ this
        exact ⟨v', a2, AVal.mrg_ok p q z v f v' (by rw [← AVal.mrgF_eq]; exact g3) hb a3⟩
      · cases h
    · cases h

/-! states joined -/
structure SCov (ρ : Env) (s t : ASt) : Prop where
  tm : ∀ k v, t.tm.get k = some v → ∃ u, s.tm.get k = some u ∧ ∀ f x, VRel ρ f u x → VRel ρ f v x
  hp : ∀ i o, t.hp.get i = some o → ∃ q, s.hp.get i = some q ∧ OCov ρ q o
  nx : s.nx ≤ t.nx
theorem SCov.refl (ρ : Env) (s : ASt) : SCov ρ s s := ⟨fun k v h => ⟨v, h, fun _ _ h => h⟩, fun i o h => ⟨o, h, rfl, fun _ _ _ => Iff.rfl, fun _ _ _ _ h => h⟩, Nat.le_refl _⟩
theorem SCov.trans {ρ : Env} {a b c : ASt} (h : SCov ρ a b) (k : SCov ρ b c) : SCov ρ a c := by
  refine ⟨fun i v hv => ?_, fun i o ho => ?_, Nat.le_trans h.nx k.nx⟩
  · obtain ⟨u, h1, h2⟩ := k.tm i v hv
    obtain ⟨t, h3, h4⟩ := h.tm i u h1
    exact ⟨t, h3, fun f x hx => h2 f x (h4 f x hx)⟩
  · obtain ⟨u, h1, h2⟩ := k.hp i o ho
    obtain ⟨t, h3, h4⟩ := h.hp i u h1
    exact ⟨t, h3, OCov.own h2 |>.trans (OCov.own h4), fun w L c => (OCov.foot h2 w L c).trans (OCov.foot h4 w L c), fun f B w L hx => OCov.rel h2 f B w L (OCov.rel h4 f B w L hx)⟩
theorem SCov.heap {ρ : Env} {s t : ASt} (h : SCov ρ s t) {B : Nat → Prop} {W w : World} {f : Ren} (hr : HRel ρ B W f s.hp w) : HRel ρ B W f t.hp w := by
  refine ⟨hr.below, hr.bsize, hr.lt, fun i j Li Lj oi oj hi hj gi gj hij hown c hc hc' => ?_, fun i L o hi ho => ?_⟩
  · obtain ⟨qi, a1, a2⟩ := h.hp i oi gi
    obtain ⟨qj, b1, b2⟩ := h.hp j oj gj
    exact hr.apart i j Li Lj qi qj hi hj a1 b1 hij (by rw [← a2.own]; exact hown) c ((a2.foot _ _ _).1 hc) ((b2.foot _ _ _).1 hc')
  · obtain ⟨q, a1, a2⟩ := h.hp i o ho
    exact a2.rel _ _ _ _ (hr.obj i L q hi a1)
theorem SCov.st {ρ : Env} {s t : ASt} (h : SCov ρ s t) {B : Nat → Prop} {W w : World} {n N : Nat} {f : Ren} {a : Act} (hs : StRel ρ B W n N f s a w) : StRel ρ B W n N f t a w := by
  refine ⟨hs.size, fun k v hv => ?_, hs.defers, h.heap hs.heap, fun j h1 h2 => hs.fresh j (Nat.le_trans h.nx h1) h2⟩
  obtain ⟨u, h1, h2⟩ := h.tm k v hv
  exact h2 f _ (hs.tm k u h1)
def ASt.mrg (b : BE) (s t : ASt) : ASt :=
  ⟨T.mrg (AVal.mrgF b) s.tm t.tm, T.mrg (AObj.mrg b) s.hp t.hp, match Nat.ble s.nx t.nx with | true => t.nx | false => s.nx⟩
theorem ASt.mrg_ok {ρ : Env} {b : BE} {v : Bool} (hb : b.ev ρ = v) (s t : ASt) : SCov ρ (pickV v s t) (ASt.mrg b s t) := by
  refine ⟨fun k z hz => ?_, fun i o ho => ?_, ?_⟩
  · obtain ⟨p, q, g1, g2, g3⟩ := T.mrg_get hz
    exact ⟨pickV v p q, by cases v <;> first | exact g1 | exact g2, fun f x hx => AVal.mrg_ok p q z v f x (by rw [← AVal.mrgF_eq]; exact g3) hb hx⟩
  · obtain ⟨p, q, g1, g2, g3⟩ := T.mrg_get ho
    exact ⟨pickV v p q, by cases v <;> first | exact g1 | exact g2, AObj.mrg_ok hb g3⟩
  · show _ ≤ (match Nat.ble s.nx t.nx with | true => t.nx | false => s.nx)
    cases h : Nat.ble s.nx t.nx
    · have : ¬ s.nx ≤ t.nx := fun hle => by have := Nat.ble_eq_true_of_le hle; rw [h] at this; cases this
      cases v <;> simp only [pickV] <;> omega
    · have : s.nx ≤ t.nx := Nat.le_of_ble_eq_true h
      cases v <;> simp only [pickV] <;> omega
end
end Go.Sx
