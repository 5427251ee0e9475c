/- Contracts put to use at calls. No condition. -/
import Derived.Test.YtpoianhfjgjajaaGreatSxC
set_option linter.unusedSimpArgs false
set_option linter.unusedVariables false
namespace Go.Sx
open Go.RowKit (Below)
noncomputable section

/-- What a function does: from a pattern of its arguments and of the blocks that it is given. -/
structure Con where
  g : FuncId
  args : List AVal
  os : List AObj := []
  bds : List (Nat × Int × Int) := []
  pre : Dec := []
  res : AVal
  os' : List AObj := []
/-- Bounds of symbols. -/
def bdL : List (Nat × Int × Int) → Bd
  | [], _ => none
  | (i, lo, hi) :: l, j =>
    match Nat.beq i j with
    | true => some (lo, hi)
    | false => bdL l j
/-- An object of which nothing is said. -/
def AObj.dead : AObj → Bool
  | .arr [] _ _ _ => true
  | _ => false
/-- Objects by their numbers, those left out of which nothing is said. -/
def outT : List AObj → Nat → T AObj → T AObj
  | [], _, t => t
  | o :: l, k, t => outT l (k + 1) (match o.dead with
    | true => t
    | false => t.set k o)
/-- A way to run something: from values and a world to what holds of the value and the world behind. -/
abbrev RunR := Array Value → World → (Value → World → Prop) → Prop
def RMono (R : RunR) : Prop := ∀ args w (Q Q' : Value → World → Prop), R args w Q → (∀ v w, Q v w → Q' v w) → R args w Q'
/-- The given functions and things. -/
def Env.std (G : Nat → Int → Int → Int → Int) (GH : Nat → Ghost) (ρ : Env) : Prop := ρ.g = G ∧ ρ.gh = GH
def Con.OkAt (c : Con) (R : RunR) (ρ : Env) : Prop :=
  ∀ B W f w args', HRel ρ B W f (treeOf c.os 0 .nil) w → LRel ρ f c.args args' → (∀ j, c.os.length ≤ j → f j = none) →
    R args' w fun v' w' => ∃ f', f.le f' ∧ Outside f f' c.os.length c.os'.length ∧ HRel ρ B W f' (outT c.os' 0 .nil) w' ∧ VRel ρ f' c.res v'
def Con.OkR (c : Con) (R : RunR) (G : Nat → Int → Int → Int → Int) (GH : Nat → Ghost) : Prop :=
  ∀ ρ : Env, ρ.std G GH → ρ.ok (bdL c.bds) → c.pre.holds ρ → c.OkAt R ρ
/-- The call of a function. -/
def callR (P : Program) (g : FuncId) : RunR := fun args w Q => Calls P g args w fun e w' => ∃ v, e = .returned v ∧ Q v w'
theorem callR_mono (P : Program) (g : FuncId) : RMono (callR P g) := fun _ _ _ _ h hq => Calls.mono h fun _ w' ⟨v, e, q⟩ => ⟨v, e, hq v w' q⟩
def Con.Ok (P : Program) (G : Nat → Int → Int → Int → Int) (GH : Nat → Ghost) (c : Con) : Prop := c.OkR (callR P c.g) G GH

/-! what the symbols and blocks of a pattern stand for (found, not proved: it is checked) -/
structure Mt where
  sg : T IE
  bl : T Nat
def rowSrc : IE → Option (IE × Nat)
  | .wrap _ (.fn c x (.lit (.ofNat j)) _) => match Nat.beq c 0 with
    | true => some (x, j)
    | false => none
  | .fn c x (.lit (.ofNat j)) _ => match Nat.beq c 0 with
    | true => some (x, j)
    | false => none
  | _ => none
def sameSrc (x : IE) : Nat → List IE → Bool
  | _, [] => true
  | j, e :: l =>
    match rowSrc e with
    | some (y, i) =>
      match Nat.beq i j, x.eqF y with
      | true, true => sameSrc x (j + 1) l
      | _, _ => false
    | none => false
def buildRow : Nat → IE → List IE → IE
  | _, acc, [] => acc
  | j, acc, e :: l => buildRow (j + 1) (mkFn 1 acc (.lit (.ofNat j)) e) l
def packRow (l : List IE) : IE :=
  match l with
  | [] => .lit 0
  | e :: _ =>
    match rowSrc e with
    | some (x, 0) =>
      match sameSrc x 0 l with
      | true => x
      | false => buildRow 0 (.lit 0) l
    | _ => buildRow 0 (.lit 0) l
def bindI (m : Mt) (i : Nat) (e : IE) : Mt :=
  match m.sg.get i with
  | some _ => m
  | none => ⟨m.sg.set i e, m.bl⟩
def bindB (m : Mt) (i j : Nat) : Mt :=
  match m.bl.get i with
  | some _ => m
  | none => ⟨m.sg, m.bl.set i j⟩
def mIE : IE → IE → Mt → Mt
  | .var i, a, m => bindI m i a
  | .wrap k p, a, m =>
    match a with
    | .wrap j b =>
      match kindEq k j with
      | true => mIE p b m
      | false => mIE p (.wrap j b) m
    | a => mIE p a m
  | .fn _ x y z, a, m =>
    match a with
    | .fn _ x' y' z' => mIE z z' (mIE y y' (mIE x x' m))
    | _ => m
  | _, _, m => m
def mBE : BE → BE → Mt → Mt
  | .eq (.var i) (.lit 1), b, m =>
    match b.num with
    | some e => bindI m i e
    | none => m
  | _, _, m => m
def rowVar : AVal → Option (Nat × Nat)
  | .int _ e =>
    match rowSrc e with
    | some (.var v, j) => some (v, j)
    | _ => none
  | _ => none
/-- The integers of a row at the head of a list. -/
def rowInts (v : Nat) : List AVal → List AVal → List IE
  | p :: ps, a =>
    match rowVar p, a with
    | some (u, _), .int _ e :: as =>
      match Nat.beq u v with
      | true => e :: rowInts v ps as
      | false => []
    | _, _ => []
  | _, _ => []
mutual
def mAV : AVal → AVal → Mt → Mt
  | .int _ p, .int _ a, m => mIE p a m
  | .bool p, .bool a, m => mBE p a m
  | .ptr (some (i, _)), .ptr (some (j, _)), m => bindB m i j
  | .slice (some (i, _)) _ _ _, .slice (some (j, _)) _ _ _, m => bindB m i j
  | .map (some i), .map (some j), m => bindB m i j
  | .iface _ p, .iface _ a, m => mAV p a m
  | .agg l, .agg l', m => mAL l l' m
  | .tuple l, .tuple l', m => mAL l l' m
  | .func _ l k, .func _ l' k', m => mAL k k' (mAL l l' m)
  | .ptrE i e _ _, .ptrE j e' _ _, m => mIE e e' (bindB m i j)
  | .sliceS i a l _ _, .sliceS j a' l' _ _, m => mIE l l' (mIE a a' (bindB m i j))
  | .sliceS i a l s _, .slice (some (j, o)) n _ _, m => mIE l (.lit (.ofNat n)) (mIE a (.lit (.ofNat (o / s))) (bindB m i j))
  | .sliceS _ a l _ _, .slice none _ _ _, m => mIE l (.lit 0) (mIE a (.lit 0) m)
  | .sliceA i l _, .sliceA j l' _, m => mIE l l' (bindB m i j)
  | .sliceA _ l _, .slice none _ _ _, m => mIE l (.lit 0) m
  | .strS c l, .strS c' l', m => mIE l l' (mIE c c' m)
  | .strS c l, .str bs, m => mIE l (.lit (.ofNat bs.length)) (mIE c (packRow bs) m)
  | _, _, m => m
def mAL : List AVal → List AVal → Mt → Mt
  | [], _, m => m
  | p :: ps, l, m =>
    match l with
    | [] => m
    | a :: as =>
      match rowVar p with
      | some (v, 0) => mAL ps as (mAV p a (bindI m v (packRow (rowInts v (p :: ps) (a :: as)))))
      | _ => mAL ps as (mAV p a m)
end
/-- The cells of a pattern, and those that they stand for. -/
def cellPairs (p a : T AVal) : Nat → Nat → List AVal × List AVal
  | _, 0 => ([], [])
  | j, n + 1 =>
    match p.get j, a.get j with
    | some x, some y => match cellPairs p a (j + 1) n with
      | (l, k) => (x :: l, y :: k)
    | _, _ => cellPairs p a (j + 1) n
def cellInts (c : T AVal) : Nat → Nat → List IE
  | _, 0 => []
  | j, n + 1 =>
    match c.get j with
    | some (.int _ e) => e :: cellInts c (j + 1) n
    | _ => []
def mIEs : List IE → List IE → Mt → Mt
  | p :: ps, a :: as, m => mIEs ps as (mIE p a m)
  | _, _, m => m
/-- The greatest place, at most. -/
def T.most : T AVal → Nat → Nat → Nat
  | .nil, _, _ => 0
  | .node v l r, a, b => Nat.add (match v with
    | none => 0
    | some _ => b + 1) (max (T.most l (2 * a) (a + b)) (T.most r (2 * a) (2 * a + b)))
def T.count {α : Type} : T α → Nat
  | .nil => 0
  | .node v l r => Nat.add (match v with
    | none => 0
    | some _ => 1) (Nat.add (T.count l) (T.count r))
/-- The places of a tree, in the tree's order. -/
def T.places {α : Type} : T α → Nat → Nat → List (Nat × α) → List (Nat × α)
  | .nil, _, _, acc => acc
  | .node v l r, a, b, acc =>
    match v with
    | none => T.places l (Nat.mul 2 a) (Nat.add a b) (T.places r (Nat.mul 2 a) (Nat.add (Nat.mul 2 a) b) acc)
    | some x => (b, x) :: T.places l (Nat.mul 2 a) (Nat.add a b) (T.places r (Nat.mul 2 a) (Nat.add (Nat.mul 2 a) b) acc)
def pairsAt (a : T AVal) : List (Nat × AVal) → List AVal × List AVal
  | [] => ([], [])
  | (j, x) :: l =>
    match a.get j with
    | some y => match pairsAt a l with
      | (m, k) => (x :: m, y :: k)
    | none => pairsAt a l
/-- Where few cells are spoken of, these alone. -/
def cellPairsF (p a : T AVal) (t : Nat) : List AVal × List AVal :=
  match Nat.blt (Nat.mul 4 (T.count p)) t with
  | true => pairsAt a (T.places p 1 0 [])
  | false => cellPairs p a 0 t
def mAO : AObj → AObj → Mt → Mt
  | .cells p _ _ t, .cells a _ _ _, m => match cellPairsF p a t with
    | (l, k) => mAL l k m
  | .arr _ c n _, .arr _ c' n' _, m => mIE n n' (mIE c c' m)
  | .arr _ c n _, .cells a _ _ t, m => mIE c (packRow (cellInts a 0 t)) m
  | .ghost _ vs p, .ghost _ vs' a, m => match cellPairs p a 0 (T.most p 1 0) with
    | (l, k) => mAL l k (mIEs vs vs' m)
  | .win _ _ p _ _, .win _ _ a _ _, m => match cellPairs p a 0 (T.most p 1 0) with
    | (l, k) => mAL l k m
  | _, _, m => m
def mOs (h : T AObj) : Nat → List AObj → Mt → Mt
  | _, [], m => m
  | i, o :: os, m =>
    match m.bl.get i with
    | none => mOs h (i + 1) os m
    | some j =>
      match h.get j with
      | some a => mOs h (i + 1) os (mAO o a m)
      | none => mOs h (i + 1) os m
def blocks (m : Mt) : Nat → Nat → Option (List Nat)
  | _, 0 => some []
  | i, n + 1 =>
    match m.bl.get i, blocks m (i + 1) n with
    | some j, some l => some (j :: l)
    | _, _ => none
def Con.match? (c : Con) (args : List AVal) (h : T AObj) : Option (T IE × List Nat) :=
  match mOs h 0 c.os (mAL c.args args ⟨.nil, .nil⟩) with
  | m =>
    match blocks m 0 c.os.length with
    | some l => some (m.sg, l)
    | none => none

/-! the check -/
def sigOf (sg : T IE) : Nat → IE := fun i =>
  match sg.get i with
  | some e => e
  | none => .lit 0
/-- Blocks of the pattern, and those behind them. -/
def piOf (pb : List Nat) (n nx : Nat) : Nat → Nat := fun i =>
  match pb[i]? with
  | some j => j
  | none => nx + (i - n)
def bdsIn (C : Ctx) (σ : Nat → IE) : List (Nat × Int × Int) → Bool
  | [] => true
  | (i, lo, hi) :: l =>
    match (match rng C.bd (σ i) with
      | some (a, b) => intLe lo a && intLe b hi
      | none => false) with
    | true => bdsIn C σ l
    | false =>
      match settle C.dec (mkLt C.bd (σ i) (.lit lo)), settle C.dec (mkLt C.bd (.lit hi) (σ i)) with
      | some false, some false => bdsIn C σ l
      | _, _ => false
def preIn (C : Ctx) (σ : Nat → IE) : Dec → Bool
  | [] => true
  | (b, v) :: l =>
    match prove C.bd 6 C.dec (b.rep σ) with
    | some u =>
      match bEq u v with
      | true => preIn C σ l
      | false => false
    | none => false
def putR (σ : Nat → IE) (π : Nat → Nat) : AObj → AObj
  | .cells c e o t => .cells (c.mapV (AVal.rep σ π)) e o t
  | .map es => .map es
  | .arr ks c n o => .arr ks (c.rep σ) (n.rep σ) o
  | .ghost k vs c => .ghost k (vs.map (IE.rep σ)) (c.mapV (AVal.rep σ π))
  | .win i s c e o => .win (i.rep σ) s (c.mapV (AVal.rep σ π)) e o
  | .col s c k code m d n => .col s c k (code.rep σ) m d (n.rep σ)
  | .it0 => .it0
def AObj.lend : AObj → AObj
  | .cells c e _ t => .cells c e false t
  | .arr ks c n _ => .arr ks c n false
  | .win i s c e _ => .win i s c e false
  | o => o
def pickO (own : Bool) (a : AObj) : AObj :=
  match own with
  | true => a
  | false => a.lend
def osIn (bd : Bd) (dec : Dec) (σ : Nat → IE) (π : Nat → Nat) (h : T AObj) : List AObj → List Nat → Bool
  | [], l =>
    match l with
    | [] => true
    | _ => false
  | o :: os, l =>
    match l with
    | [] => false
    | j :: pb =>
      match h.get j with
      | some a =>
        match (putR σ π o).cov bd dec (pickO o.own a) with
        | true => osIn bd dec σ π h os pb
        | false => false
      | none => false
/-- Distinct, and below nx. -/
def memL (j : Nat) : List Nat → Bool
  | [] => false
  | k :: l =>
    match Nat.beq j k with
    | true => true
    | false => memL j l
def sepL (nx : Nat) : List Nat → Bool
  | [] => true
  | j :: l =>
    match Nat.blt j nx, memL j l with
    | true, false => sepL nx l
    | _, _ => false
def objIn (d : Nat → Bool) : AObj → Bool
  | .cells c _ _ _ => T.allK (fun _ v => v.within d) c 1 0
  | .map _ => false
  | .arr _ _ _ _ => true
  | .ghost _ _ c => T.allK (fun _ v => v.within d) c 1 0
  | .win _ _ c _ _ => T.allK (fun _ v => v.within d) c 1 0
  | .col _ _ _ _ _ _ _ => true
  | .it0 => true
def objsIn (d : Nat → Bool) : List AObj → Bool
  | [] => true
  | o :: l => objIn d o && objsIn d l
def ownsL : List AObj → List AObj → Bool
  | [], l => allOwn l
  | o :: os, l =>
    match l with
    | [] => false
    | o' :: os' =>
      match o.own, o'.own with
      | true, false => false
      | _, _ => ownsL os os'
where allOwn : List AObj → Bool
  | [] => true
  | o :: l => o.own && (!o.dead && allOwn l)
/-- The contract is in order. -/
def Con.wf (c : Con) : Bool := withinList (Nat.blt · c.os.length) c.args && (objsIn (Nat.blt · c.os.length) c.os && (ownsL c.os c.os' && Nat.ble c.os'.length 1000000))
/-- The heap behind a call. -/
def heapBehind (put : AObj → AObj) (nx : Nat) : List AObj → List AObj → List Nat → T AObj → T AObj
  | [], os', _, h => newOnes put nx os' h
  | o :: os, os', pb, h =>
    match os', pb with
    | o' :: os', j :: pb =>
      match o.own with
      | true => heapBehind put nx os os' pb (match o'.dead with
        | true => h.del j
        | false => h.set j (put o'))
      | false => heapBehind put nx os os' pb h
    | _, _ => h
where newOnes (put : AObj → AObj) : Nat → List AObj → T AObj → T AObj
  | _, [], h => h
  | nx, o :: os, h => newOnes put (nx + 1) os (h.set nx (put o))
/-- Does the contract hold here? What its symbols and blocks stand for. -/
def Con.fit (C : Ctx) (c : Con) (args : List AVal) (h : T AObj) (nx : Nat) : Option (T IE × List Nat) :=
  match c.match? args h with
  | none => none
  | some (sg, pb) =>
    match covList C.bd C.dec (subList (sigOf sg) (piOf pb c.os.length nx) c.args) args && (osIn C.bd C.dec (sigOf sg) (piOf pb c.os.length nx) h c.os pb && (sepL nx pb && (bdsIn C (sigOf sg) c.bds && preIn C (sigOf sg) c.pre))) with
    | false => none
    | true => some (sg, pb)
/-- What stands behind. -/
def Con.then (C : Ctx) (c : Con) (h : T AObj) (nx : Nat) (sg : T IE) (pb : List Nat) : AVal × T AObj × Nat :=
  (putV C.bd C.dec (sigOf sg) (piOf pb c.os.length nx) c.res, heapBehind (putO C.bd C.dec (sigOf sg) (piOf pb c.os.length nx)) nx c.os c.os' pb h, nx + (c.os'.length - c.os.length))
def Con.call (C : Ctx) (c : Con) : ACall := fun g args h nx =>
  match Nat.beq g c.g with
  | false => none
  | true =>
    match c.fit C args h nx with
    | none => none
    | some (sg, pb) => some (c.then C h nx sg pb)
def conCall (C : Ctx) : List Con → ACall
  | [], _, _, _, _ => none
  | c :: l, g, args, h, nx =>
    match c.call C g args h nx with
    | some r => some r
    | none => conCall C l g args h nx

/-! what it is worth -/
theorem bdL_ok {ρ : Env} : ∀ {l : List (Nat × Int × Int)}, (∀ i lo hi, (i, lo, hi) ∈ l → lo ≤ ρ.i i ∧ ρ.i i ≤ hi) → ρ.ok (bdL l) := by
  intro l
  induction l with
  | nil => intro _ i lo hi h; cases h
  | cons p l ih =>
    intro hl i lo hi h
    obtain ⟨j, a, b⟩ := p
    simp only [bdL] at h
    split at h
    · rename_i hj
      have hj := Nat.eq_of_beq_eq_true hj
      subst hj
      cases h
      exact hl _ _ _ (by simp)
    · exact ih (fun i lo hi hm => hl i lo hi (by simp [hm])) i lo hi h
theorem bdsIn_ok {C : Ctx} {P : Program} {ρ : Env} (hC : C.Ok P ρ) {σ : Nat → IE} : ∀ {l : List (Nat × Int × Int)}, bdsIn C σ l = true → ∀ i lo hi, (i, lo, hi) ∈ l → lo ≤ (ρ.rep σ).i i ∧ (ρ.rep σ).i i ≤ hi := by
  intro l
  induction l with
  | nil => intro _ i lo hi h; cases h
  | cons p l ih =>
    intro h i lo hi hm
    obtain ⟨j, a, b⟩ := p
    have key : bdsIn C σ l = true → (a ≤ (σ j).ev ρ ∧ (σ j).ev ρ ≤ b) → lo ≤ (ρ.rep σ).i i ∧ (ρ.rep σ).i i ≤ hi := by
      intro h1 h2
      rcases List.mem_cons.1 hm with e | hm
      · cases e; exact h2
      · exact ih h1 i lo hi hm
    simp only [bdsIn] at h
    split at h
    · rename_i hr
      refine key h ?_
      split at hr
      · rename_i x y hxy
        obtain ⟨h1, h2⟩ := and_split hr
        have := rng_ok hC.bd _ _ _ hxy
        have h1 : a ≤ x := by simpa [intLe_iff] using h1
        have h2 : y ≤ b := by simpa [intLe_iff] using h2
        omega
      · cases hr
    · split at h
      · rename_i h1 h2
        refine key h ?_
        have h1 := settle_ok hC.dec _ _ h1
        have h2 := settle_ok hC.dec _ _ h2
        rw [mkLt_ev hC.bd] at h1 h2
        have h1 := of_decide_eq_false h1
        have h2 := of_decide_eq_false h2
        have e1 : (IE.lit a).ev ρ = a := rfl
        have e2 : (IE.lit b).ev ρ = b := rfl
        rw [e1] at h1
        rw [e2] at h2
        omega
      · cases h
theorem preIn_ok {C : Ctx} {P : Program} {ρ : Env} (hC : C.Ok P ρ) {σ : Nat → IE} : ∀ {l : Dec}, preIn C σ l = true → l.holds (ρ.rep σ) := by
  intro l
  induction l with
  | nil => intro _ p hp; cases hp
  | cons p l ih =>
    intro h q hq
    obtain ⟨b, v⟩ := p
    simp only [preIn] at h
    split at h
    · rename_i u hu
      split at h
      · rename_i huv
        have huv := bEq_eq huv
        subst huv
        rcases List.mem_cons.1 hq with rfl | hq
        · have := prove_ok hC.bd _ _ _ _ hC.dec hu
          rw [BE.rep_ev] at this
          exact this
        · exact ih h q hq
      · cases h
    · cases h
theorem osIn_ok {bd : Bd} {dec : Dec} {σ : Nat → IE} {π : Nat → Nat} {h : T AObj} : ∀ {os : List AObj} {pb : List Nat}, osIn bd dec σ π h os pb = true → os.length = pb.length ∧ ∀ (i : Nat) (o : AObj), os[i]? = some o → ∃ j a, pb[i]? = some j ∧ h.get j = some a ∧ (putR σ π o).cov bd dec (pickO o.own a) = true := by
  intro os
  induction os with
  | nil =>
    intro pb h
    cases pb with
    | nil => exact ⟨rfl, fun i o ho => by simp at ho⟩
    | cons j pb => simp [osIn] at h
  | cons o os ih =>
    intro pb h
    cases pb with
    | nil => simp [osIn] at h
    | cons j pb =>
      simp only [osIn] at h
      split at h
      · rename_i a ha
        split at h
        · rename_i hc
          obtain ⟨h1, h2⟩ := ih h
          refine ⟨by simp [h1], fun i x hx => ?_⟩
          cases i with
          | zero => simp at hx; subst hx; exact ⟨j, a, rfl, ha, hc⟩
          | succ i => exact h2 i x (by simpa using hx)
        · cases h
      · cases h
theorem memL_ok {j : Nat} : ∀ {l : List Nat}, memL j l = false → ∀ i : Nat, l[i]? ≠ some j := by
  intro l
  induction l with
  | nil => intro _ i h; simp at h
  | cons k l ih =>
    intro h i hi
    unfold memL at h
    split at h
    · cases h
    · rename_i hk
      cases i with
      | zero => simp at hi; simp [hi] at hk
      | succ i => exact ih h i (by simpa using hi)
theorem sepL_ok {nx : Nat} : ∀ {l : List Nat}, sepL nx l = true → (∀ (i j : Nat), l[i]? = some j → j < nx) ∧ ∀ (i i' j : Nat), l[i]? = some j → l[i']? = some j → i = i' := by
  intro l
  induction l with
  | nil => intro _; exact ⟨fun i j h => by simp at h, fun i i' j h => by simp at h⟩
  | cons k l ih =>
    intro h
    unfold sepL at h
    split at h
    · rename_i h1 h2
      obtain ⟨q1, q2⟩ := ih h
      have h1 : k < nx := by simpa [Nat.blt_eq] using h1
      refine ⟨fun i j hj => ?_, fun i i' j hi hi' => ?_⟩
      · cases i with
        | zero => simp at hj; omega
        | succ i => exact q1 i j (by simpa using hj)
      · cases i with
        | zero =>
          cases i' with
          | zero => rfl
          | succ i' =>
            simp at hi
            subst hi
            exact absurd (by simpa using hi') (memL_ok h2 i')
        | succ i =>
          cases i' with
          | zero =>
            simp at hi'
            subst hi'
            exact absurd (by simpa using hi) (memL_ok h2 i)
          | succ i' => rw [q2 i i' j (by simpa using hi) (by simpa using hi')]
    · cases h
theorem putR_own (σ : Nat → IE) (π : Nat → Nat) (o : AObj) : (putR σ π o).own = o.own := by cases o <;> rfl
section
variable {ρ : Env} {f : Ren} {σ : Nat → IE} {π : Nat → Nat} {d : Nat → Bool} {B B' : Nat → Prop} {w : World} {L : Loc}
theorem putR_ok {o : AObj} (ho : objIn d o = true) (h : ORel ρ f B w L (putR σ π o)) (hB : o.own = true → ∀ b, o.foot (ρ.rep σ) w L b → ¬ B' b) : ORel (ρ.rep σ) (f.via d π) B' w L o ∧ ∀ b, (putR σ π o).foot ρ w L b ↔ o.foot (ρ.rep σ) w L b := by
  cases o with
  | cells c e ow t =>
    obtain ⟨cs, fr, q1, q2, q3, q4⟩ := h
    refine ⟨⟨cs, fr, q1, q2, fun ho => ⟨hB ho _ rfl, (q3 ho).2⟩, fun j v hj => ?_⟩, fun _ => Iff.rfl⟩
    obtain ⟨p1, v', p2, p3⟩ := q4 j (v.rep σ π) (by rw [T.get_mapV, hj]; rfl)
    exact ⟨p1, v', p2, VRel.sub_of v v' (T.all_get (p := fun _ v => v.within d) (show T.allK (fun _ v => v.within d) c 1 0 = true from ho) hj) p3⟩
  | map es => simp [objIn] at ho
  | arr ks c n ow =>
    obtain ⟨cs, el, fr, q1, q2, q3, q4⟩ := h
    refine ⟨⟨cs, el, fr, q1, q2, fun ho => ⟨hB ho _ rfl, (q3 ho).2⟩, fun j c2 k hj hk => ?_⟩, fun _ => Iff.rfl⟩
    rw [← IE.rep_ev] at hj ⊢
    exact q4 j c2 k hj hk
  | ghost k vs c =>
    obtain ⟨⟨q0, q1⟩, qb, cs, el, fr, q2, q3, q4, q5⟩ := h
    have e1 : (vs.map (IE.rep σ)).map (·.ev ρ) = vs.map (·.ev (ρ.rep σ)) := by
      rw [List.map_map]
      congr 1
      funext e
      exact IE.rep_ev ρ σ e
    refine ⟨⟨⟨by rw [← e1]; exact q0, hB rfl⟩, qb, cs, el, fr, q2, q3, q4, fun j v hj => ?_⟩, fun _ => Iff.rfl⟩
    obtain ⟨p1, v', p2, p3⟩ := q5 j (v.rep σ π) (by rw [T.get_mapV, hj]; rfl)
    exact ⟨p1, v', p2, VRel.sub_of v v' (T.all_get (p := fun _ v => v.within d) (show T.allK (fun _ v => v.within d) c 1 0 = true from ho) hj) p3⟩
  | win i s c e ow =>
    obtain ⟨cs, fr, q1, q2, q3, q0, q4⟩ := h
    rw [IE.rep_ev] at q0
    refine ⟨⟨cs, fr, q1, q2, fun ho => ⟨hB ho _ rfl, (q3 ho).2⟩, q0, fun j v hj => ?_⟩, fun _ => Iff.rfl⟩
    obtain ⟨v', p2, p3⟩ := q4 j (v.rep σ π) (by rw [T.get_mapV, hj]; rfl)
    rw [IE.rep_ev] at p2
    exact ⟨v', p2, VRel.sub_of v v' (T.all_get (p := fun _ v => v.within d) (show T.allK (fun _ v => v.within d) c 1 0 = true from ho) hj) p3⟩
  | col s c k code m d n =>
    obtain ⟨cs, el, fr, q1, q2⟩ := h
    refine ⟨⟨cs, el, fr, q1, fun j hj => ?_⟩, fun _ => Iff.rfl⟩
    rw [← IE.rep_ev] at hj ⊢
    exact q2 j hj
  | it0 => exact ⟨h, fun _ => Iff.rfl⟩
theorem lend_ok {a : AObj} (h : ORel ρ f B w L a) : ORel ρ f B w L a.lend ∧ ∀ b, a.lend.foot ρ w L b ↔ a.foot ρ w L b := by
  cases a with
  | cells c e ow t =>
    obtain ⟨cs, fr, q1, q2, q3, q4⟩ := h
    exact ⟨⟨cs, fr, q1, q2, (fun ho => (by cases ho)), q4⟩, fun _ => Iff.rfl⟩
  | arr ks c n ow =>
    obtain ⟨cs, el, fr, q1, q2, q3, q4⟩ := h
    exact ⟨⟨cs, el, fr, q1, q2, (fun ho => (by cases ho)), q4⟩, fun _ => Iff.rfl⟩
  | map es => exact ⟨h, fun _ => Iff.rfl⟩
  | ghost k vs c => exact ⟨h, fun _ => Iff.rfl⟩
  | win i s c e ow =>
    obtain ⟨cs, fr, q1, q2, q3, q4⟩ := h
    exact ⟨⟨cs, fr, q1, q2, (fun ho => (by cases ho)), q4⟩, fun _ => Iff.rfl⟩
  | col s c k code m d n => exact ⟨h, fun _ => Iff.rfl⟩
  | it0 => exact ⟨h, fun _ => Iff.rfl⟩
theorem pickO_ok {own : Bool} {a : AObj} (h : ORel ρ f B w L a) : ORel ρ f B w L (pickO own a) ∧ ∀ b, (pickO own a).foot ρ w L b ↔ a.foot ρ w L b := by
  cases own
  · exact lend_ok h
  · exact ⟨h, fun _ => Iff.rfl⟩
theorem own_foot {o : AObj} (h : ORel ρ f B w L o) (ho : o.own = true) : ∀ b, o.foot ρ w L b → ¬ B b := by
  cases o with
  | cells c e ow t => obtain ⟨cs, fr, q1, q2, q3, q4⟩ := h; intro b hb; cases hb; exact (q3 ho).1
  | arr ks c n ow => obtain ⟨cs, el, fr, q1, q2, q3, q4⟩ := h; intro b hb; cases hb; exact (q3 ho).1
  | map es => obtain ⟨q0, _⟩ := h; intro b hb; cases hb; exact q0
  | ghost k vs c => exact h.1.2
  | win i s c e ow => obtain ⟨cs, fr, q1, q2, q3, q4⟩ := h; intro b hb; cases hb; exact (q3 ho).1
  | col s c k code m d n => cases ho
  | it0 => cases ho
end
theorem allOwn_get : ∀ {l : List AObj}, ownsL.allOwn l = true → ∀ (i : Nat) (o : AObj), l[i]? = some o → o.own = true ∧ o.dead = false := by
  intro l
  induction l with
  | nil => intro _ i o h; simp at h
  | cons x l ih =>
    intro h i o ho
    obtain ⟨h1, h2⟩ := and_split h
    obtain ⟨h2, h3⟩ := and_split h2
    cases i with
    | zero => simp at ho; subst ho; exact ⟨h1, by simpa using h2⟩
    | succ i => exact ih h3 i o (by simpa using ho)
theorem ownsL_ok : ∀ {os os' : List AObj}, ownsL os os' = true → os.length ≤ os'.length ∧ ∀ (i : Nat) (o : AObj), os'[i]? = some o → (∀ o0 : AObj, os[i]? = some o0 → o0.own = true) → o.own = true ∧ (os.length ≤ i → o.dead = false) := by
  intro os
  induction os with
  | nil => intro os' h; exact ⟨Nat.zero_le _, fun i o ho _ => ⟨(allOwn_get (by simpa [ownsL] using h) i o ho).1, fun _ => (allOwn_get (by simpa [ownsL] using h) i o ho).2⟩⟩
  | cons x os ih =>
    intro os' h
    cases os' with
    | nil => simp [ownsL] at h
    | cons y os' =>
      simp only [ownsL] at h
      split at h
      · cases h
      · rename_i hxy
        obtain ⟨h1, h2⟩ := ih h
        refine ⟨by simp; omega, fun i o ho h0 => ?_⟩
        cases i with
        | zero =>
          simp at ho
          subst ho
          have hx : x.own = true := h0 x (by simp)
          cases hy : y.own
          · exact absurd hy (by intro hy; exact hxy hx hy)
          · exact ⟨rfl, fun h => by simp at h⟩
        | succ i =>
          obtain ⟨k1, k2⟩ := h2 i o (by simpa using ho) (fun o0 h => h0 o0 (by simpa using h))
          exact ⟨k1, fun h => k2 (by simp at h; omega)⟩
theorem newOnes_get {put : AObj → AObj} : ∀ {l : List AObj} {nx : Nat} {h : T AObj} {j : Nat} {o : AObj}, (heapBehind.newOnes put nx l h).get j = some o →
    (∃ k o', l[k]? = some o' ∧ j = nx + k ∧ o = put o') ∨ ((∀ k, k < l.length → j ≠ nx + k) ∧ h.get j = some o) := by
  intro l
  induction l with
  | nil => intro nx h j o hg; exact .inr ⟨fun k hk => by simp at hk, hg⟩
  | cons x l ih =>
    intro nx h j o hg
    rcases ih (by simpa [heapBehind.newOnes] using hg) with ⟨k, o', h1, h2, h3⟩ | ⟨h1, h2⟩
    · exact .inl ⟨k + 1, o', by simpa using h1, by omega, h3⟩
    · rcases T.get_set h2 with ⟨rfl, rfl⟩ | ⟨h3, h4⟩
      · exact .inl ⟨0, x, rfl, by omega, rfl⟩
      · refine .inr ⟨fun k hk => ?_, h4⟩
        cases k with
        | zero => omega
        | succ k => have := h1 k (by simpa using hk); omega
theorem heapBehind_get {put : AObj → AObj} {nx : Nat} : ∀ {os os' : List AObj} {pb : List Nat} {h : T AObj} {j : Nat} {o : AObj}, os.length = pb.length → os.length ≤ os'.length → (heapBehind put nx os os' pb h).get j = some o →
    (∃ (i : Nat) (o0 o' : AObj), os[i]? = some o0 ∧ o0.own = true ∧ os'[i]? = some o' ∧ o'.dead = false ∧ pb[i]? = some j ∧ o = put o') ∨ (∃ k o', os'[os.length + k]? = some o' ∧ j = nx + k ∧ o = put o') ∨
      ((∀ (i : Nat) (o0 : AObj), os[i]? = some o0 → o0.own = true → pb[i]? ≠ some j) ∧ (∀ k, k < os'.length - os.length → j ≠ nx + k) ∧ h.get j = some o) := by
  intro os
  induction os with
  | nil =>
    intro os' pb h j o h1 h2 hg
    rcases newOnes_get (by simpa [heapBehind] using hg) with ⟨k, o', q1, q2, q3⟩ | ⟨q1, q2⟩
    · exact .inr (.inl ⟨k, o', by simpa using q1, q2, q3⟩)
    · exact .inr (.inr ⟨fun i o0 h => by simp at h, fun k hk => q1 k (by simpa using hk), q2⟩)
  | cons x os ih =>
    intro os' pb h j o h1 h2 hg
    cases pb with
    | nil => simp at h1
    | cons y pb =>
      cases os' with
      | nil => simp at h2
      | cons z os' =>
        simp only [List.length_cons, Nat.add_right_cancel_iff, Nat.add_le_add_iff_right] at h1 h2
        have fin : ∀ h0 : T AObj, (heapBehind put nx os os' pb h0).get j = some o → (h0.get j = some o → (x.own = true → y = j → o = put z ∧ z.dead = false) ∧ (x.own = true → y = j ∨ h.get j = some o) ∧ (x.own = false → h.get j = some o)) →
            (∃ (i : Nat) (o0 o' : AObj), (x :: os)[i]? = some o0 ∧ o0.own = true ∧ (z :: os')[i]? = some o' ∧ o'.dead = false ∧ (y :: pb)[i]? = some j ∧ o = put o') ∨ (∃ k o', (z :: os')[(x :: os).length + k]? = some o' ∧ j = nx + k ∧ o = put o') ∨
            ((∀ (i : Nat) (o0 : AObj), (x :: os)[i]? = some o0 → o0.own = true → (y :: pb)[i]? ≠ some j) ∧ (∀ k, k < (z :: os').length - (x :: os).length → j ≠ nx + k) ∧ h.get j = some o) := by
          intro h0 hg h0g
          rcases ih h1 h2 hg with ⟨i, o0, o', q1, q2, q3, qd, q4, q5⟩ | ⟨k, o', q1, q2, q3⟩ | ⟨q1, q2, q3⟩
          · exact .inl ⟨i + 1, o0, o', by simpa using q1, q2, by simpa using q3, qd, by simpa using q4, q5⟩
          · refine .inr (.inl ⟨k, o', ?_, q2, q3⟩)
            rw [show (x :: os).length + k = os.length + k + 1 by simp; omega]
            simpa using q1
          · obtain ⟨r1, r2, r3⟩ := h0g q3
            have rest : (∀ k, k < (z :: os').length - (x :: os).length → j ≠ nx + k) := fun k hk => q2 k (by simpa using hk)
            cases hx : x.own
            · refine .inr (.inr ⟨fun i o0 hi ho => ?_, rest, r3 hx⟩)
              cases i with
              | zero => simp at hi; subst hi; rw [hx] at ho; cases ho
              | succ i => exact q1 i o0 (by simpa using hi) ho
            · by_cases hy : y = j
              · exact .inl ⟨0, x, z, rfl, hx, rfl, (r1 hx hy).2, by simp [hy], (r1 hx hy).1⟩
              · refine .inr (.inr ⟨fun i o0 hi ho => ?_, rest, (r2 hx).resolve_left hy⟩)
                cases i with
                | zero => simp; exact hy
                | succ i => exact q1 i o0 (by simpa using hi) ho
        simp only [heapBehind] at hg
        split at hg
        · rename_i hx
          refine fin _ hg fun h0 => ?_
          cases hz : z.dead
          · rw [hz] at h0
            rcases T.get_set h0 with ⟨e1, e2⟩ | ⟨e1, e2⟩
            · exact ⟨fun _ _ => ⟨e2.symm, rfl⟩, fun _ => .inl e1.symm, (fun h => (by rw [hx] at h; cases h))⟩
            · exact ⟨fun _ e => absurd e.symm e1, fun _ => .inr e2, fun _ => e2⟩
          · rw [hz] at h0
            obtain ⟨e1, e2⟩ := T.get_del h0
            exact ⟨fun _ e => absurd e.symm e1, fun _ => .inr e2, fun _ => e2⟩
        · rename_i hx
          refine fin _ hg fun h0 => ⟨(fun h => (by rw [hx] at h; cases h)), (fun h => (by rw [hx] at h; cases h)), fun _ => h0⟩
theorem objsIn_get {d : Nat → Bool} : ∀ {l : List AObj}, objsIn d l = true → ∀ (i : Nat) (o : AObj), l[i]? = some o → objIn d o = true := by
  intro l
  induction l with
  | nil => intro _ i o h; simp at h
  | cons x l ih =>
    intro h i o ho
    obtain ⟨h1, h2⟩ := and_split h
    cases i with
    | zero => simp at ho; subst ho; exact h1
    | succ i => exact ih h2 i o (by simpa using ho)
theorem listTree {α : Type} {l : List α} {k : Nat} {x : α} (h : (treeOf l 0 T.nil).get k = some x) : l[k]? = some x := by
  rcases treeOf_ok _ _ _ _ _ h with ⟨_, h⟩ | h
  · simpa using h
  · rw [T.get_nil] at h; cases h
theorem treeOf_keep {α : Type} : ∀ (l : List α) (k j : Nat) (t : T α), j < k → k + l.length < 4611686018427387904 → (treeOf l k t).get j = t.get j := by
  intro l
  induction l with
  | nil => intro k j t _ _; rfl
  | cons x l ih =>
    intro k j t hj hk
    simp only [List.length_cons] at hk
    show (treeOf l (k + 1) (t.set k x)).get j = _
    rw [ih (k + 1) j _ (by omega) (by omega), T.get_set_ne (by omega) (by omega)]
theorem treeOf_same {α : Type} : ∀ (l : List α) (k i : Nat) (t : T α) (x : α), l[i]? = some x → k + l.length < 4611686018427387904 → (treeOf l k t).get (k + i) = some x := by
  intro l
  induction l with
  | nil => intro k i t x h; simp at h
  | cons y l ih =>
    intro k i t x h hk
    simp only [List.length_cons] at hk
    show (treeOf l (k + 1) (t.set k y)).get (k + i) = _
    cases i with
    | zero =>
      simp at h
      subst h
      rw [treeOf_keep _ _ _ _ (by omega) (by omega)]
      exact T.get_set_same (k := k) (by omega)
    | succ i =>
      have := ih (k + 1) i (t.set k y) x (by simpa using h) (by omega)
      rw [show k + (i + 1) = k + 1 + i by omega]
      exact this
theorem outT_keep : ∀ (l : List AObj) (k j : Nat) (t : T AObj), j < k → k + l.length < 4611686018427387904 → (outT l k t).get j = t.get j := by
  intro l
  induction l with
  | nil => intro k j t _ _; rfl
  | cons x l ih =>
    intro k j t hj hk
    simp only [List.length_cons] at hk
    show (outT l (k + 1) _).get j = _
    rw [ih (k + 1) j _ (by omega) (by omega)]
    cases x.dead
    · exact T.get_set_ne (by omega) (by omega)
    · rfl
theorem outT_same : ∀ (l : List AObj) (k i : Nat) (t : T AObj) (x : AObj), l[i]? = some x → x.dead = false → k + l.length < 4611686018427387904 → (outT l k t).get (k + i) = some x := by
  intro l
  induction l with
  | nil => intro k i t x h; simp at h
  | cons y l ih =>
    intro k i t x h hd hk
    simp only [List.length_cons] at hk
    show (outT l (k + 1) _).get (k + i) = _
    cases i with
    | zero =>
      simp at h
      subst h
      rw [outT_keep _ _ _ _ (by omega) (by omega), hd]
      exact T.get_set_same (k := k) (by omega)
    | succ i =>
      have := ih (k + 1) i (match y.dead with | true => t | false => t.set k y) x (by simpa using h) hd (by omega)
      rw [show k + (i + 1) = k + 1 + i by omega]
      exact this
theorem outT_get : ∀ (l : List AObj) (k : Nat) (t : T AObj) (j : Nat) (x : AObj), (outT l k t).get j = some x → (k ≤ j ∧ l[j - k]? = some x ∧ x.dead = false) ∨ t.get j = some x := by
  intro l
  induction l with
  | nil => intro k t j x h; exact .inr h
  | cons y l ih =>
    intro k t j x h
    rcases ih (k + 1) _ j x h with ⟨h1, h2, h3⟩ | h1
    · refine .inl ⟨by omega, ?_, h3⟩
      rw [show j - k = j - (k + 1) + 1 by omega]
      simpa using h2
    · cases hd : y.dead
      · rw [hd] at h1
        rcases T.get_set h1 with ⟨e1, e2⟩ | ⟨_, e2⟩
        · subst e1; subst e2
          exact .inl ⟨Nat.le_refl _, by simp, hd⟩
        · exact .inr e2
      · rw [hd] at h1
        exact .inr h1
theorem outList {l : List AObj} {k : Nat} {x : AObj} (h : (outT l 0 T.nil).get k = some x) : l[k]? = some x ∧ x.dead = false := by
  rcases outT_get _ _ _ _ _ h with ⟨_, h, h'⟩ | h
  · exact ⟨by simpa using h, h'⟩
  · rw [T.get_nil] at h; cases h
/-- A list none of whose objects is left out. -/
theorem outT_all : ∀ (l : List AObj) (k : Nat) (t : T AObj), (∀ o ∈ l, o.dead = false) → outT l k t = treeOf l k t := by
  intro l
  induction l with
  | nil => intro k t _; rfl
  | cons y l ih =>
    intro k t h
    show outT l (k + 1) _ = treeOf l (k + 1) (t.set k y)
    rw [h y (by simp)]
    exact ih _ _ fun o ho => h o (by simp [ho])
theorem Con.fit_ok {C : Ctx} {P : Program} {ρ : Env} (hC : C.Ok P ρ) {c : Con} (hwf : c.wf = true) {args : List AVal} {h : T AObj} {nx : Nat} {sg : T IE} {pb : List Nat} (he : c.fit C args h nx = some (sg, pb)) :
    (ρ.rep (sigOf sg)).ok (bdL c.bds) ∧ c.pre.holds (ρ.rep (sigOf sg)) ∧ ∀ (R : RunR), RMono R → c.OkAt R (ρ.rep (sigOf sg)) → ∀ B W f w args', HRel ρ B W f h w → LRel ρ f args args' → Fresh f nx (nx + (c.os'.length - c.os.length)) →
      R args' w fun v' w' => ∃ f', f.le f' ∧ Outside f f' nx (nx + (c.os'.length - c.os.length)) ∧ HRel ρ B W f' (c.then C h nx sg pb).2.1 w' ∧ VRel ρ f' (c.then C h nx sg pb).1 v' := by
  unfold Con.fit at he
  split at he
  · cases he
  · rename_i sg0 pb0 hm
    split at he
    · cases he
    · rename_i hck
      cases he
      · 
        clear hm
        obtain ⟨k1, hck⟩ := and_split hck
        obtain ⟨k2, hck⟩ := and_split hck
        obtain ⟨k3, hck⟩ := and_split hck
        obtain ⟨k4, k5⟩ := and_split hck
        clear hck
        obtain ⟨w1, hwf⟩ := and_split hwf
        obtain ⟨w2, hwf⟩ := and_split hwf
        obtain ⟨w3, w4⟩ := and_split hwf
        have w4 := Nat.le_of_ble_eq_true w4
        clear hwf
        unfold Con.then
        generalize hσ : sigOf sg = σ at *
        generalize hπ : piOf pb c.os.length nx = π at *
        obtain ⟨o1, o2⟩ := osIn_ok k2
        obtain ⟨s1, s2⟩ := sepL_ok k3
        obtain ⟨x1, x2⟩ := ownsL_ok w3
        have hpi : ∀ i j, pb[i]? = some j → π i = j := fun i j hj => by rw [← hπ]; unfold piOf; rw [hj]
        have hpi' : ∀ i, pb.length ≤ i → π i = nx + (i - c.os.length) := fun i hi => by rw [← hπ]; unfold piOf; rw [List.getElem?_eq_none hi]
        refine ⟨bdL_ok (bdsIn_ok hC k4), preIn_ok hC k5, fun R hR hc B W f w args' hr ha hfr => ?_⟩
        let d : Nat → Bool := (Nat.blt · c.os.length)
        have hd : ∀ i, d i = true ↔ i < c.os.length := fun i => by simp [d, Nat.blt_eq]
        let Pat : Nat → Prop := fun j => ∃ (i : Nat) (o' : AObj), c.os[i]? = some o' ∧ o'.own = true ∧ pb[i]? = some j
        let B1 : Nat → Prop := fun b => b < w.heap.size ∧ (B b ∨ ∃ j L o, f j = some L ∧ h.get j = some o ∧ ¬ Pat j ∧ o.foot ρ w L b)
        have ha1 : LRel (ρ.rep σ) (f.via d π) c.args args' := subList_of c.args args' w1 (covList_ok hC.bd hC.dec ha k1)
        have via : ∀ i L, f.via d π i = some L → ∃ j, pb[i]? = some j ∧ f j = some L := by
          intro i L hi
          unfold Ren.via at hi
          split at hi
          · rename_i hdi
            have hlt := (hd i).1 hdi
            have : pb[i]? = some (pb[i]'(by omega)) := List.getElem?_eq_getElem (by omega)
            rw [hpi i _ this] at hi
            exact ⟨_, this, hi⟩
          · cases hi
        have pat : ∀ (i : Nat) (o : AObj), c.os[i]? = some o → ∀ L, f.via d π i = some L → ∃ j a, pb[i]? = some j ∧ f j = some L ∧ h.get j = some a ∧ ORel ρ f B w L a ∧ ORel ρ f B w L (putR σ π o) ∧ (∀ b, o.foot (ρ.rep σ) w L b → a.foot ρ w L b) ∧ (o.own = true → a.own = true) ∧ objIn d o = true ∧ (∀ b, (putR σ π o).foot ρ w L b ↔ o.foot (ρ.rep σ) w L b) := by
          intro i o ho L hL
          obtain ⟨j, a, p1, p2, p3⟩ := o2 i o ho
          obtain ⟨j', q1, q2⟩ := via i L hL
          rw [p1] at q1
          cases q1
          have ho1 := hr.obj j L a q2 p2
          obtain ⟨ho2, hf2⟩ := pickO_ok (own := o.own) ho1
          obtain ⟨ho3, hown, hf3⟩ := AObj.cov_ok hC.bd hC.dec p3 ho2
          have hin := objsIn_get w2 i o ho
          have hf4 : ∀ b, (putR σ π o).foot ρ w L b ↔ o.foot (ρ.rep σ) w L b := by
            intro b
            cases o with
            | cells c e ow t => exact Iff.rfl
            | map es => exact Iff.rfl
            | arr ks c n ow => exact Iff.rfl
            | ghost k vs c => exact Iff.rfl
            | win i s c e ow => exact Iff.rfl
            | col s c k code m d n => exact Iff.rfl
            | it0 => exact Iff.rfl
          refine ⟨j, a, p1, q2, p2, ho1, ho3, fun b hb => (hf2 b).1 ((hf3 b).1 ((hf4 b).2 hb)), fun hob => ?_, hin, hf4⟩
          rw [hob] at hown
          rw [putR_own, hob] at hown
          exact hown.symm
        have hB1 : ∀ (i : Nat) (o : AObj), c.os[i]? = some o → ∀ L, f.via d π i = some L → o.own = true → ∀ b, o.foot (ρ.rep σ) w L b → ¬ B1 b := by
          intro i o ho L hL hown b hb ⟨_, hbb⟩
          obtain ⟨j, a, p1, p2, p3, p4, p5, p6, p7, p8, p9⟩ := pat i o ho L hL
          rcases hbb with hbb | ⟨j', L', o', q1, q2, q3, q4⟩
          · exact own_foot p4 (p7 hown) b (p6 b hb) hbb
          · exact hr.apart j j' L L' a o' p2 q1 p3 q2 (fun e => q3 ⟨i, o, ho, hown, by rw [← e]; exact p1⟩) (p7 hown) b (p6 b hb) q4
        have H : HRel (ρ.rep σ) B1 w (f.via d π) (treeOf c.os 0 .nil) w := by
          refine ⟨Kept.refl _ _, fun b hb => hb.1, fun i L hi => ?_, fun i i' Li Li' oi oi' hi hi' gi gi' hii hown b hb hb' => ?_, fun i L o hi hg => ?_⟩
          · obtain ⟨j, _, hj⟩ := via i L hi
            exact hr.lt j L hj
          · obtain ⟨j, a, p1, p2, p3, p4, p5, p6, p7, p8, p9⟩ := pat i oi (listTree gi) Li hi
            obtain ⟨j', a', r1, r2, r3, r4, r5, r6, r7, r8, r9⟩ := pat i' oi' (listTree gi') Li' hi'
            exact hr.apart j j' Li Li' a a' p2 r2 p3 r3 (fun e => hii (s2 i i' j p1 (by rw [e]; exact r1))) (p7 hown) b (p6 b hb) (r6 b hb')
          · obtain ⟨j, a, p1, p2, p3, p4, p5, p6, p7, p8, p9⟩ := pat i o (listTree hg) L hi
            exact (putR_ok p8 p5 (fun hown => hB1 i o (listTree hg) L hi hown)).1
        have hf1 : ∀ j, c.os.length ≤ j → f.via d π j = none := by
          intro j hj
          unfold Ren.via
          split
          · rename_i hdj
            have := (hd j).1 hdj
            omega
          · rfl
        refine hR _ _ _ _ (hc B1 w _ w args' H ha1 hf1) fun v' w' ⟨f1', e2, e3, e4, e5⟩ => ?_
        let f' : Ren := fun j => if nx ≤ j ∧ j < nx + (c.os'.length - c.os.length) then f1' (c.os.length + (j - nx)) else f j
        have win : ∀ j, nx ≤ j ∧ j < nx + (c.os'.length - c.os.length) → f' j = f1' (c.os.length + (j - nx)) := fun j hj => if_pos hj
        have out : ∀ j, ¬ (nx ≤ j ∧ j < nx + (c.os'.length - c.os.length)) → f' j = f j := fun j hj => if_neg hj
        have le : f.le f' := by
          intro j L hj
          by_cases hw : nx ≤ j ∧ j < nx + (c.os'.length - c.os.length)
          · have := hfr j hw.1 hw.2
            rw [this] at hj
            cases hj
          · rw [out j hw]; exact hj
        have old : ∀ i j, pb[i]? = some j → f1' i = f' j := by
          intro i j hj
          have hi : i < c.os.length := by rw [o1]; exact (List.getElem?_eq_some_iff.1 hj).1
          rw [e3 i (.inl hi), out j (by have := s1 i j hj; omega), Ren.via_in ((hd i).2 hi), hpi i j hj]
        have lev : f1'.le (f'.via (fun _ => true) π) := by
          intro i L hi
          rw [Ren.via_in rfl]
          rcases Nat.lt_or_ge i c.os.length with hlt | hge
          · have : pb[i]? = some (pb[i]'(by omega)) := List.getElem?_eq_getElem (by omega)
            rw [hpi i _ this, ← old i _ this]
            exact hi
          · rcases Nat.lt_or_ge i c.os'.length with hlt | hge'
            · rw [hpi' i (by omega), win _ (by omega)]
              rw [show c.os.length + (nx + (i - c.os.length) - nx) = i by omega]
              exact hi
            · rw [e3 i (.inr hge'), hf1 i hge] at hi
              cases hi
        have hBB : ∀ b, B b → B1 b := fun b hb => ⟨Nat.lt_of_lt_of_le (hr.bsize b hb) hr.below.size, .inl hb⟩
        -- what stands behind: an object of the contract's, or one that was there
        have cases3 : ∀ j L o, f' j = some L → (heapBehind (putO C.bd C.dec σ π) nx c.os c.os' pb h).get j = some o →
            (∃ (i : Nat) (o' : AObj), c.os'[i]? = some o' ∧ f1' i = some L ∧ o = putO C.bd C.dec σ π o' ∧ (o'.own = true ∧ o'.dead = false) ∧ ((∃ q, pb[i]? = some q ∧ q = j) ∨ (pb.length ≤ i ∧ j = nx + (i - c.os.length)))) ∨
            (f j = some L ∧ h.get j = some o ∧ ¬ Pat j) := by
          intro j L o hj hg
          rcases heapBehind_get o1 x1 hg with ⟨i, o0, o', q1, q2, q3, qd, q4, q5⟩ | ⟨k, o', q1, q2, q3⟩ | ⟨q1, q2, q3⟩
          · exact .inl ⟨i, o', q3, by rw [old i j q4]; exact hj, q5, ⟨(x2 i o' q3 (fun o1 h1 => by rw [q1] at h1; cases h1; exact q2)).1, qd⟩, .inl ⟨j, q4, rfl⟩⟩
          · have hk : c.os.length + k < c.os'.length := (List.getElem?_eq_some_iff.1 q1).1
            have hx2 := x2 _ o' q1 (fun o1 h1 => by
              rw [List.getElem?_eq_none (by omega)] at h1
              cases h1)
            refine .inl ⟨c.os.length + k, o', q1, ?_, q3, ⟨hx2.1, hx2.2 (by omega)⟩, .inr ⟨by omega, by omega⟩⟩
            rw [win j (by omega)] at hj
            rw [show c.os.length + (j - nx) = c.os.length + k by omega] at hj
            exact hj
          · refine .inr ⟨?_, q3, fun ⟨i, o', p1, p2, p3⟩ => q1 i o' p1 p2 p3⟩
            rw [out j (fun hw => q2 (j - nx) (by omega) (by omega))] at hj
            exact hj
        have mine : ∀ (i : Nat) (o' : AObj) (L : Loc), c.os'[i]? = some o' → f1' i = some L → o'.own = true ∧ o'.dead = false → ORel ρ f' B w' L (putO C.bd C.dec σ π o') ∧ (∀ b, (putO C.bd C.dec σ π o').foot ρ w' L b ↔ o'.foot (ρ.rep σ) w' L b) ∧ ∀ b, o'.foot (ρ.rep σ) w' L b → ¬ B1 b := by
          intro i o' L hi hL hown
          have hT : (outT c.os' 0 T.nil).get i = some o' := by
            have := outT_same c.os' 0 i .nil o' hi hown.2 (by omega)
            rwa [Nat.zero_add] at this
          have ho := e4.obj i L o' hL hT
          have hnb := own_foot ho hown.1
          obtain ⟨r1, r2⟩ := putO_ok (B' := B) hC.bd hC.dec lev (fun _ b hb hbB => hnb b hb (hBB b hbB)) ho
          exact ⟨r1, r2, hnb⟩
        have tree : ∀ (i : Nat) (o' : AObj), c.os'[i]? = some o' → o'.dead = false → (outT c.os' 0 T.nil).get i = some o' := by
          intro i o' hi hd
          have := outT_same c.os' 0 i .nil o' hi hd (by omega)
          rwa [Nat.zero_add] at this
        have theirs : ∀ (j : Nat) (L : Loc) (o : AObj), f j = some L → h.get j = some o → ¬ Pat j → ORel ρ f' B w' L o ∧ (∀ b, o.foot ρ w' L b → o.foot ρ w L b) ∧ ∀ b, o.foot ρ w L b → B1 b := by
          intro j L o hj hg hp
          have ho := hr.obj j L o hj hg
          have hb1 : ∀ b, o.foot ρ w L b → B1 b := fun b hb => ⟨ho.foot_lt hb, .inr ⟨j, L, o, hj, hg, hp, hb⟩⟩
          obtain ⟨r1, r2⟩ := ho.of_foot e4.below.size fun b hb => e4.below.block b (hb1 b hb)
          exact ⟨r1.mono le, r2, hb1⟩
        refine ⟨f', le, fun j hj => out j (by omega), ⟨hr.below.trans (e4.below.mono hBB), hr.bsize, fun j L hj => ?_, fun j1 j2 L1 L2 oa ob h1 h2 g1 g2 h12 hown b hb hb' => ?_, fun j L o hj hg => ?_⟩, putV_ok hC.bd hC.dec lev e5⟩
        · by_cases hw : nx ≤ j ∧ j < nx + (c.os'.length - c.os.length)
          · rw [win j hw] at hj
            exact e4.lt _ L hj
          · rw [out j hw] at hj
            exact Nat.lt_of_lt_of_le (hr.lt j L hj) e4.below.size
        · rcases cases3 j1 L1 oa h1 g1 with ⟨i1, o1', p1, p2, p3, p4, p5⟩ | ⟨p1, p2, p3⟩
          · obtain ⟨m1, m2, m3⟩ := mine i1 o1' L1 p1 p2 p4
            rw [p3] at hb
            rcases cases3 j2 L2 ob h2 g2 with ⟨i2, o2', q1, q2, q3, q4, q5⟩ | ⟨q1, q2, q3⟩
            · obtain ⟨n1, n2, n3⟩ := mine i2 o2' L2 q1 q2 q4
              rw [q3] at hb'
              refine e4.apart i1 i2 L1 L2 o1' o2' p2 q2 (tree i1 o1' p1 p4.2) (tree i2 o2' q1 q4.2) (fun e => h12 ?_) p4.1 b ((m2 b).1 hb) ((n2 b).1 hb')
              subst e
              rcases p5 with ⟨a, a1, a2⟩ | ⟨a1, a2⟩
              · rcases q5 with ⟨c1, c2, c3⟩ | ⟨c1, c2⟩
                · rw [a1] at c2
                  cases c2
                  omega
                · rw [List.getElem?_eq_none c1] at a1
                  cases a1
              · rcases q5 with ⟨c1, c2, c3⟩ | ⟨c1, c2⟩
                · rw [List.getElem?_eq_none a1] at c2
                  cases c2
                · omega
            · obtain ⟨n1, n2, n3⟩ := theirs j2 L2 ob q1 q2 q3
              exact m3 b ((m2 b).1 hb) (n3 b (n2 b hb'))
          · obtain ⟨m1, m2, m3⟩ := theirs j1 L1 oa p1 p2 p3
            rcases cases3 j2 L2 ob h2 g2 with ⟨i2, o2', q1, q2, q3, q4, q5⟩ | ⟨q1, q2, q3⟩
            · obtain ⟨n1, n2, n3⟩ := mine i2 o2' L2 q1 q2 q4
              rw [q3] at hb'
              exact n3 b ((n2 b).1 hb') (m3 b (m2 b hb))
            · obtain ⟨n1, n2, n3⟩ := theirs j2 L2 ob q1 q2 q3
              exact hr.apart j1 j2 L1 L2 oa ob p1 q1 p2 q2 h12 hown b (m2 b hb) (n2 b hb')
        · rcases cases3 j L o hj hg with ⟨i, o', p1, p2, p3, p4, p5⟩ | ⟨p1, p2, p3⟩
          · rw [p3]
            exact (mine i o' L p1 p2 p4).1
          · exact (theirs j L o p1 p2 p3).1
theorem Con.call_ok {C : Ctx} {P : Program} {ρ : Env} (hC : C.Ok P ρ) {G : Nat → Int → Int → Int → Int} {GH : Nat → Ghost} (hρ : ρ.std G GH) {c : Con} (hwf : c.wf = true) (hc : c.Ok P G GH) {B : Nat → Prop} {W : World} : CallOk P ρ B W (c.call C) := by
  intro g args h nx v h' nx' he
  unfold Con.call at he
  split at he
  · cases he
  · rename_i hg
    have hg := Nat.eq_of_beq_eq_true hg
    subst hg
    split at he
    · cases he
    · rename_i sg pb hm
      cases he
      obtain ⟨h1, h2, h3⟩ := Con.fit_ok hC hwf hm
      refine ⟨Nat.le_add_right _ _, fun f w args' hr ha hfr => (h3 _ (callR_mono P c.g) (hc _ ⟨hρ.1, hρ.2⟩ h1 h2) B W f w args' hr ha hfr).mono fun e w' ⟨v', e1, f', e2, e3, e4, e5⟩ => ⟨v', f', e1, e2, e3, e4, e5⟩⟩
/-- A list of contracts. -/
def ConsOk (P : Program) (G : Nat → Int → Int → Int → Int) (GH : Nat → Ghost) (l : List Con) : Prop := ∀ c ∈ l, c.wf = true ∧ c.Ok P G GH
theorem conCall_ok {C : Ctx} {P : Program} {ρ : Env} (hC : C.Ok P ρ) {G : Nat → Int → Int → Int → Int} {GH : Nat → Ghost} (hρ : ρ.std G GH) {B : Nat → Prop} {W : World} : ∀ {l : List Con}, ConsOk P G GH l → CallOk P ρ B W (conCall C l) := by
  intro l
  induction l with
  | nil => intro _ g args h nx v h' nx' he; cases he
  | cons c l ih =>
    intro hl g args h nx v h' nx' he
    simp only [conCall] at he
    split at he
    · rename_i r hr
      cases he
      exact Con.call_ok hC hρ (hl c (by simp)).1 (hl c (by simp)).2 _ _ _ _ _ _ _ hr
    · exact ih (fun c hc => hl c (by simp [hc])) _ _ _ _ _ _ _ he
theorem ConsOk.cons {P : Program} {G : Nat → Int → Int → Int → Int} {GH : Nat → Ghost} {c : Con} {l : List Con} (hw : c.wf = true) (h : c.Ok P G GH) (hl : ConsOk P G GH l) : ConsOk P G GH (c :: l) := by
  intro x hx
  rcases List.mem_cons.1 hx with rfl | hx
  · exact ⟨hw, h⟩
  · exact hl x hx
theorem ConsOk.nil {P : Program} {G : Nat → Int → Int → Int → Int} {GH : Nat → Ghost} : ConsOk P G GH [] := fun c h => by cases h
/-- What a contract asks before it can be put to use. -/
def bdsAsk (C : Ctx) (σ : Nat → IE) : List (Nat × Int × Int) → Option (List BE)
  | [] => some []
  | (i, lo, hi) :: l =>
    match (match rng C.bd (σ i) with
      | some (a, b) => intLe lo a && intLe b hi
      | none => false) with
    | true => bdsAsk C σ l
    | false =>
      match mkLt C.bd (σ i) (.lit lo), mkLt C.bd (.lit hi) (σ i) with
      | x, y =>
        match settle C.dec x with
        | some true => none
        | none => some [x]
        | some false =>
          match settle C.dec y with
          | some true => none
          | none => some [y]
          | some false => bdsAsk C σ l
def preAsk (C : Ctx) (σ : Nat → IE) : Dec → List BE
  | [] => []
  | (b, v) :: l =>
    match prove C.bd 6 C.dec (b.rep σ) with
    | some u =>
      match bEq u v with
      | true => preAsk C σ l
      | false => []
    | none => [(b.rep σ).nrm C.bd C.dec]
def Con.ask (C : Ctx) (c : Con) (args : List AVal) (h : T AObj) : List BE :=
  match c.match? args h with
  | none => []
  | some (sg, pb) =>
    match covList C.bd C.dec (subList (sigOf sg) (piOf pb c.os.length 0) c.args) args && osIn C.bd C.dec (sigOf sg) (piOf pb c.os.length 0) h c.os pb with
    | false => []
    | true =>
      match bdsAsk C (sigOf sg) c.bds with
      | none => []
      | some (b :: l) => b :: l
      | some [] => preAsk C (sigOf sg) c.pre
def conAsk (C : Ctx) : List Con → FuncId → List AVal → T AObj → List BE
  | [], _, _, _ => []
  | c :: l, g, args, h =>
    match Nat.beq g c.g with
    | false => conAsk C l g args h
    | true =>
      match c.ask C args h with
      | [] => conAsk C l g args h
      | bs => bs
end
end Go.Sx
