/- Symbolic values and the abstract heap against the model's values and world. No condition. -/
import Derived.Test.YtfjcjlbleliknaaSx3
namespace Go.Sx
open Go.RowKit (Below)

/-- Where an abstract block lies: its block, its first cell there, the block's size. -/
structure Loc where
  blk : Nat
  base : Nat
  sz : Nat
abbrev Ren := Nat → Option Loc
def Ren.le (f g : Ren) : Prop := ∀ i L, f i = some L → g i = some L
theorem Ren.le_refl (f : Ren) : f.le f := fun _ _ h => h
theorem Ren.le_trans {f g h : Ren} (a : f.le g) (b : g.le h) : f.le h := fun i L e => b i L (a i L e)
def Ren.put (f : Ren) (i : Nat) (L : Loc) : Ren := fun j => if j = i then some L else f j
theorem Ren.put_same (f : Ren) (i : Nat) (L : Loc) : f.put i L i = some L := by simp [Ren.put]
theorem Ren.put_other (f : Ren) {i j : Nat} (L : Loc) (h : j ≠ i) : f.put i L j = f j := by simp [Ren.put, h]
theorem Ren.le_put {f : Ren} {i : Nat} (L : Loc) (h : f i = none) : f.le (f.put i L) := fun j M e => by
  by_cases hj : j = i
  · subst hj; rw [h] at e; cases e
  · rw [Ren.put_other f L hj]; exact e

inductive AVal where
  | bool (b : BE)
  | int (k : IntKind) (e : IE)
  | str (l : List IE)
  | ptr (a : Option (Nat × Nat))
  | slice (a : Option (Nat × Nat)) (len cap g : Nat)
  | map (r : Option Nat)
  | func (fn : Fn) (first capt : List AVal)
  | nilFunc
  | iface (t : TypeId) (v : AVal)
  | nilIface
  | agg (cs : List AVal)
  | tuple (vs : List AVal)
  deriving Inhabited
def AVal.cells : AVal → List AVal
  | .agg cs => cs
  | v => [v]
def AVal.one : AVal → Bool
  | .agg _ | .tuple _ => false
  | _ => true

def SRel (ρ : Env) (l : List IE) (s : ByteArray) : Prop := s.data.toList.map (fun b => (b.toNat : Int)) = l.map (·.ev ρ)

inductive VRel (ρ : Env) (f : Ren) : AVal → Value → Prop where
  | bool (b : BE) : VRel ρ f (.bool b) (.bool (b.ev ρ))
  | int (k : IntKind) (e : IE) : VRel ρ f (.int k e) (.int k (e.ev ρ))
  | str {l : List IE} {s : ByteArray} (h : SRel ρ l s) : VRel ρ f (.str l) (.string s)
  | nilPtr : VRel ρ f (.ptr none) (.pointer none)
  | ptr {i o : Nat} {L : Loc} (h : f i = some L) : VRel ρ f (.ptr (some (i, o))) (.pointer (some ⟨L.blk, L.base + o, none⟩))
  | nilSlice : VRel ρ f (.slice none 0 0 0) (.slice none 0 0)
  | slice {i o n c : Nat} {L : Loc} (h : f i = some L) : VRel ρ f (.slice (some (i, o)) n c 0) (.slice (some ⟨L.blk, L.base + o, none⟩) n c)
  | sliceG {i o n c c' g : Nat} {L : Loc} (h : f i = some L) (hn : n ≤ c) (hc : c ≤ c') (hs : L.base + o + c' * (g + 1) ≤ L.sz) :
      VRel ρ f (.slice (some (i, o)) n c (g + 1)) (.slice (some ⟨L.blk, L.base + o, none⟩) n c')
  | sliceE {i o o' c' g : Nat} {L : Loc} (h : f i = some L) (hg : g = 0 → c' = 0) (hs : o' + c' * g ≤ L.sz) :
      VRel ρ f (.slice (some (i, o)) 0 0 g) (.slice (some ⟨L.blk, o', none⟩) 0 c')
  | nilMap : VRel ρ f (.map none) (.map none)
  | map {i : Nat} {L : Loc} (h : f i = some L) : VRel ρ f (.map (some i)) (.map (some L.blk))
  | func {fn : Fn} {a b : List AVal} {a' b' : Array Value} (ha : a'.size = a.length) (hb : b'.size = b.length)
      (ha' : ∀ (i : Nat) (v : AVal) (v' : Value), a[i]? = some v → a'[i]? = some v' → VRel ρ f v v') (hb' : ∀ (i : Nat) (v : AVal) (v' : Value), b[i]? = some v → b'[i]? = some v' → VRel ρ f v v') :
      VRel ρ f (.func fn a b) (.func fn a' b')
  | nilFunc : VRel ρ f .nilFunc .nilFunc
  | iface {t : TypeId} {v : AVal} {v' : Value} (h : VRel ρ f v v') : VRel ρ f (.iface t v) (.iface t v')
  | nilIface : VRel ρ f .nilIface .nilIface
  | agg {a : List AVal} {a' : Array Value} (ha : a'.size = a.length) (ha' : ∀ (i : Nat) (v : AVal) (v' : Value), a[i]? = some v → a'[i]? = some v' → VRel ρ f v v') :
      VRel ρ f (.agg a) (.agg a')
  | tuple {a : List AVal} {a' : Array Value} (ha : a'.size = a.length) (ha' : ∀ (i : Nat) (v : AVal) (v' : Value), a[i]? = some v → a'[i]? = some v' → VRel ρ f v v') :
      VRel ρ f (.tuple a) (.tuple a')

theorem VRel.mono {ρ : Env} {f g : Ren} (h : f.le g) {v : AVal} {v' : Value} (hv : VRel ρ f v v') : VRel ρ g v v' := by
  induction hv with
  | bool b => exact .bool b
  | int k e => exact .int k e
  | str h => exact .str h
  | nilPtr => exact .nilPtr
  | ptr hh => exact .ptr (h _ _ hh)
  | nilSlice => exact .nilSlice
  | slice hh => exact .slice (h _ _ hh)
  | sliceG hh hn hc hs => exact .sliceG (h _ _ hh) hn hc hs
  | sliceE hh hg hs => exact .sliceE (h _ _ hh) hg hs
  | nilMap => exact .nilMap
  | map hh => exact .map (h _ _ hh)
  | func ha hb _ _ iha ihb => exact .func ha hb iha ihb
  | nilFunc => exact .nilFunc
  | iface _ ih => exact .iface ih
  | nilIface => exact .nilIface
  | agg ha _ ih => exact .agg ha ih
  | tuple ha _ ih => exact .tuple ha ih

/-- A list of values against an array. -/
def LRel (ρ : Env) (f : Ren) (l : List AVal) (a : Array Value) : Prop :=
  a.size = l.length ∧ ∀ (i : Nat) (v : AVal) (v' : Value), l[i]? = some v → a[i]? = some v' → VRel ρ f v v'
theorem LRel.mono {ρ : Env} {f g : Ren} (h : f.le g) {l : List AVal} {a : Array Value} (hl : LRel ρ f l a) : LRel ρ g l a :=
  ⟨hl.1, fun i v v' h1 h2 => (hl.2 i v v' h1 h2).mono h⟩
theorem LRel.get {ρ : Env} {f : Ren} {l : List AVal} {a : Array Value} (hl : LRel ρ f l a) {i : Nat} {v : AVal} (h : l[i]? = some v) :
    ∃ v', a[i]? = some v' ∧ VRel ρ f v v' := by
  have hi : i < l.length := (List.getElem?_eq_some_iff.1 h).1
  have hi' : i < a.size := by rw [hl.1]; exact hi
  exact ⟨a[i], by simp [hi'], hl.2 i v _ h (by simp [hi'])⟩
theorem LRel.nil {ρ : Env} {f : Ren} : LRel ρ f [] #[] := ⟨rfl, by simp⟩
theorem LRel.cons {ρ : Env} {f : Ren} {l : List AVal} {v : AVal} {a : List Value} {v' : Value} (hv : VRel ρ f v v') (h : LRel ρ f l a.toArray) : LRel ρ f (v :: l) (v' :: a).toArray := by
  refine ⟨by have := h.1; simp at this ⊢; exact this, fun i u u' h1 h2 => ?_⟩
  cases i with
  | zero => simp at h1 h2; subst h1; subst h2; exact hv
  | succ i => exact h.2 i u u' (by simpa using h1) (by simpa using h2)
theorem LRel.cells {ρ : Env} {f : Ren} {v : AVal} {v' : Value} (h : VRel ρ f v v') : LRel ρ f v.cells v'.cells := by
  have one : ∀ {u : AVal} {u' : Value}, VRel ρ f u u' → LRel ρ f [u] #[u'] := fun hu => by simpa using LRel.cons hu (a := []) LRel.nil
  cases h with
  | agg ha ha' => exact ⟨ha, ha'⟩
  | bool b => exact one (.bool b)
  | int k e => exact one (.int k e)
  | str h => exact one (.str h)
  | nilPtr => exact one .nilPtr
  | ptr hh => exact one (.ptr hh)
  | nilSlice => exact one .nilSlice
  | slice hh => exact one (.slice hh)
  | sliceG hh hn hc hs => exact one (.sliceG hh hn hc hs)
  | sliceE hh hg hs => exact one (.sliceE hh hg hs)
  | nilMap => exact one .nilMap
  | map hh => exact one (.map hh)
  | func ha hb iha ihb => exact one (.func ha hb iha ihb)
  | nilFunc => exact one .nilFunc
  | iface ih => exact one (.iface ih)
  | nilIface => exact one .nilIface
  | tuple ha ih => exact one (.tuple ha ih)
theorem VRel.one {ρ : Env} {f : Ren} {v : AVal} {v' : Value} (h : VRel ρ f v v') (h1 : v.one = true) : v'.oneCell' = true := by
  cases h <;> first | rfl | cases h1

/-! the heap -/
inductive AObj where
  | cells (c : T AVal) (elem : TypeId) (own : Bool) (top : Nat)
  | map (es : List (AVal × AVal))
  deriving Inhabited
def AObj.own : AObj → Bool
  | .cells _ _ o _ => o
  | .map _ => true

def ORel (ρ : Env) (f : Ren) (B : Nat) (w : World) (L : Loc) : AObj → Prop
  | .cells c elem own top => ∃ cs fr, w.heap[L.blk]? = some (.cells cs elem fr) ∧ cs.size = L.sz ∧
      (own = true → B ≤ L.blk ∧ ∀ j, j < L.sz → ¬ (fr.1 ≤ j ∧ j < fr.2)) ∧
      ∀ (j : Nat) (v : AVal), c.get j = some v → j < top ∧ ∃ v', cs[L.base + j]? = some v' ∧ VRel ρ f v v'
  | .map es => B ≤ L.blk ∧ ∃ es' clock, w.heap[L.blk]? = some (.map es' clock) ∧ es'.size = es.length ∧
      ∀ (i : Nat) (e : AVal × AVal) (e' : MapEntry), es[i]? = some e → es'[i]? = some e' → VRel ρ f e.1 e'.key ∧ VRel ρ f e.2 e'.val

structure HRel (ρ : Env) (B : Nat) (W : World) (f : Ren) (h : T AObj) (w : World) : Prop where
  below : Below B W w
  bsize : B ≤ W.heap.size
  lt : ∀ i L, f i = some L → L.blk < w.heap.size
  apart : ∀ i j Li Lj oi oj, f i = some Li → f j = some Lj → h.get i = some oi → h.get j = some oj → i ≠ j → oi.own = true → Li.blk ≠ Lj.blk
  obj : ∀ i L o, f i = some L → h.get i = some o → ORel ρ f B w L o

theorem ORel.mono {ρ : Env} {f g : Ren} (h : f.le g) {B : Nat} {w : World} {L : Loc} {o : AObj} (ho : ORel ρ f B w L o) : ORel ρ g B w L o := by
  cases o with
  | cells c elem own top =>
    obtain ⟨cs, fr, h1, h2, h3, h4⟩ := ho
    exact ⟨cs, fr, h1, h2, h3, fun j v hj => let ⟨lt, v', a, b⟩ := h4 j v hj; ⟨lt, v', a, b.mono h⟩⟩
  | map es =>
    obtain ⟨h0, es', cl, h1, h2, h3⟩ := ho
    exact ⟨h0, es', cl, h1, h2, fun i e e' a b => ⟨(h3 i e e' a b).1.mono h, (h3 i e e' a b).2.mono h⟩⟩
theorem ORel.of_block {ρ : Env} {f : Ren} {B : Nat} {w w' : World} {L : Loc} {o : AObj} (he : w'.heap[L.blk]? = w.heap[L.blk]?) (ho : ORel ρ f B w L o) : ORel ρ f B w' L o := by
  cases o with
  | cells c elem own top => obtain ⟨cs, fr, h1, h⟩ := ho; exact ⟨cs, fr, he.trans h1, h⟩
  | map es => obtain ⟨h0, es', cl, h1, h⟩ := ho; exact ⟨h0, es', cl, he.trans h1, h⟩
theorem HRel.of_heap {ρ : Env} {B : Nat} {W w w' : World} {f : Ren} {h : T AObj} (hr : HRel ρ B W f h w) (he : w'.heap = w.heap) (hb : Below B W w') : HRel ρ B W f h w' :=
  ⟨hb, hr.bsize, fun i L e => by rw [he]; exact hr.lt i L e, hr.apart, fun i L o e g => (hr.obj i L o e g).of_block (by rw [he])⟩
theorem HRel.drew {ρ : Env} {B : Nat} {W w : World} {f : Ren} {h : T AObj} (hr : HRel ρ B W f h w) (n : Nat) : HRel ρ B W f h { w with drawn := n } :=
  hr.of_heap rfl ⟨hr.below.os, hr.below.tape, hr.below.output, hr.below.size, hr.below.block⟩
/-- What is no longer looked at may be anything. -/
theorem HRel.less {ρ : Env} {B : Nat} {W w : World} {f : Ren} {h h' : T AObj} (hr : HRel ρ B W f h w) (hl : ∀ i o, h'.get i = some o → h.get i = some o) : HRel ρ B W f h' w :=
  ⟨hr.below, hr.bsize, hr.lt, fun i j Li Lj oi oj a b c d => hr.apart i j Li Lj oi oj a b (hl _ _ c) (hl _ _ d), fun i L o a b => hr.obj i L o a (hl _ _ b)⟩

theorem heap_setCell_at (w : World) (g i : Nat) (cs : Array Value) (t : TypeId) (fr : Nat × Nat) (v : Value) (hg : w.heap[g]? = some (.cells cs t fr)) :
    (w.setCell ⟨g, i, none⟩ v).heap[g]? = some (.cells (cs.setIfInBounds i v) t fr) := by
  simp only [World.setCell, Array.getElem?_modify, if_true, hg]
  rfl

/-! reading -/
def aGet (h : T AObj) (i o : Nat) : Option AVal :=
  match h.get i with
  | some (.cells c _ _ _) => c.get o
  | _ => none
theorem aGet_ok {ρ : Env} {B : Nat} {W w : World} {f : Ren} {h : T AObj} (hr : HRel ρ B W f h w) {i o : Nat} {L : Loc} (hf : f i = some L) {v : AVal} (hg : aGet h i o = some v) :
    ∃ v', w.cell? ⟨L.blk, L.base + o, none⟩ = some v' ∧ VRel ρ f v v' := by
  unfold aGet at hg
  split at hg
  · rename_i c elem own top he
    obtain ⟨cs, fr, h1, _, _, h4⟩ := hr.obj i L _ hf he
    obtain ⟨_, v', a, b⟩ := h4 _ _ hg
    exact ⟨v', by simp [World.cell?, h1, a], b⟩
  · cases hg
def aGetN (h : T AObj) (i : Nat) : Nat → Nat → Option (List AVal)
  | _, 0 => some []
  | o, n + 1 =>
    match aGet h i o with
    | none => none
    | some v =>
      match aGetN h i (o + 1) n with
      | none => none
      | some l => some (v :: l)
theorem aGetN_ok {ρ : Env} {B : Nat} {W w : World} {f : Ren} {h : T AObj} (hr : HRel ρ B W f h w) {i : Nat} {L : Loc} (hf : f i = some L) :
    ∀ (n o : Nat) (l : List AVal), aGetN h i o n = some l → ∃ cs : List Value, LRel ρ f l cs.toArray ∧ cs.length = n ∧ ∀ j v', cs[j]? = some v' → w.cell? ⟨L.blk, L.base + o + j, none⟩ = some v' := by
  intro n
  induction n with
  | zero => intro o l hl; simp [aGetN] at hl; subst hl; exact ⟨[], LRel.nil, rfl, by simp⟩
  | succ n ih =>
    intro o l hl
    simp only [aGetN] at hl
    split at hl
    · cases hl
    · rename_i v hv
      split at hl
      · cases hl
      · rename_i l' hl'
        cases hl
        obtain ⟨v', h1, h2⟩ := aGet_ok hr hf hv
        obtain ⟨cs, h3, h4, h5⟩ := ih _ _ hl'
        refine ⟨v' :: cs, LRel.cons h2 h3, by simp [h4], fun j u hj => ?_⟩
        cases j with
        | zero => simp at hj; subst hj; simpa using h1
        | succ j =>
          have := h5 j u (by simpa using hj)
          rw [show L.base + o + (j + 1) = L.base + (o + 1) + j by omega]
          exact this
theorem run_loadCells_at {P : Program} {w : World} {b o n : Nat} {cs : List Value} (hn : cs.length = n) (h : ∀ j v', cs[j]? = some v' → w.cell? ⟨b, o + j, none⟩ = some v') :
    (loadCells ⟨b, o, none⟩ n).run P w = .ok cs.toArray w := by
  rw [← hn]
  refine run_loadCells_list w _ cs fun j v hv => ?_
  rw [← h j v hv]
  unfold Addr.add
  split
  · rename_i e; subst e; rfl
  · rfl

/-! writing -/
def aSet (h : T AObj) (i o : Nat) (v : AVal) : Option (T AObj) :=
  match h.get i with
  | some (.cells c elem true top) =>
    match c.get o, v.one with
    | some _, true => some (h.set i (.cells (c.set o v) elem true top))
    | _, _ => none
  | _ => none
theorem aSet_ok {ρ : Env} {B : Nat} {W w : World} {f : Ren} {h h' : T AObj} (hr : HRel ρ B W f h w) {i o : Nat} {L : Loc} (hf : f i = some L) {v : AVal} {v' : Value} (hv : VRel ρ f v v') (hg : aSet h i o v = some h') :
    HRel ρ B W f h' (w.setCell ⟨L.blk, L.base + o, none⟩ v') ∧ ∀ P, (store ⟨L.blk, L.base + o, none⟩ v').run P w = .ok () (w.setCell ⟨L.blk, L.base + o, none⟩ v') := by
  unfold aSet at hg
  split at hg
  · rename_i c elem top he
    split at hg
    · rename_i u hu hone
      cases hg
      obtain ⟨cs, fr, h1, h2, h3, h4⟩ := hr.obj i L _ hf he
      obtain ⟨hB, hfr⟩ := h3 rfl
      obtain ⟨hlt0, u', hu1, _⟩ := h4 _ _ hu
      have hlt : L.base + o < cs.size := (Array.getElem?_eq_some_iff.1 hu1).1
      have hcell : w.cell? ⟨L.blk, L.base + o, none⟩ = some u' := by simp [World.cell?, h1, hu1]
      have hfro : w.frozen? ⟨L.blk, L.base + o, none⟩ = false := by
        have := hfr (L.base + o) (by omega)
        simp only [World.frozen?, h1]
        simpa using this
      refine ⟨⟨hr.below.setCell hB v', hr.bsize, fun j M e => by simpa [World.setCell] using hr.lt j M e, ?_, ?_⟩, fun P => ?_⟩
      · intro a b La Lb oa ob ha hb hga hgb hab hown
        have key : ∀ {k ok}, (h.set i (.cells (c.set o v) elem true top)).get k = some ok → ∃ ok', h.get k = some ok' ∧ ok'.own = ok.own := by
          intro k ok hk
          rcases T.get_set hk with ⟨rfl, rfl⟩ | ⟨_, hk⟩
          · exact ⟨_, he, rfl⟩
          · exact ⟨ok, hk, rfl⟩
        obtain ⟨oa', hga', hoa⟩ := key hga
        obtain ⟨ob', hgb', _⟩ := key hgb
        exact hr.apart a b La Lb oa' ob' ha hb hga' hgb' hab (by rw [hoa]; exact hown)
      · intro k M ok hk hgk
        rcases T.get_set hgk with ⟨rfl, rfl⟩ | ⟨hki, hgk⟩
        · obtain rfl : M = L := by rw [hf] at hk; exact (Option.some.inj hk).symm
          refine ⟨cs.setIfInBounds (M.base + o) v', fr, heap_setCell_at w _ _ cs elem fr v' h1, by simpa using h2, h3, fun j x hx => ?_⟩
          rcases T.get_set hx with ⟨rfl, rfl⟩ | ⟨hjo, hx⟩
          · exact ⟨hlt0, v', by simp [hlt], hv⟩
          · obtain ⟨hx0, x', hx1, hx2⟩ := h4 _ _ hx
            refine ⟨hx0, x', ?_, hx2⟩
            rw [Array.getElem?_setIfInBounds_ne (by omega)]
            exact hx1
        · have hne : L.blk ≠ M.blk := hr.apart i k L M _ ok hf hk he hgk (Ne.symm hki) rfl
          exact (hr.obj k M ok hk hgk).of_block (Below.heap_setCell _ _ _ _ (Ne.symm hne))
      · rw [run_store P w _ v' _ (hv.one hone), hcell]
        simp [hfro]
    · cases hg
  · cases hg
def aSetN (i : Nat) : T AObj → Nat → List AVal → Option (T AObj)
  | h, _, [] => some h
  | h, o, v :: l =>
    match aSet h i o v with
    | none => none
    | some h' => aSetN i h' (o + 1) l
theorem aSetN_ok {ρ : Env} {B : Nat} {W : World} {f : Ren} {i : Nat} {L : Loc} (hf : f i = some L) (P : Program) (o : Nat) :
    ∀ (l : List AVal) (k : Nat) (h h' : T AObj) (w : World) (cs : List Value), HRel ρ B W f h w → LRel ρ f l cs.toArray → aSetN i h (o + k) l = some h' →
      ∃ w', (storeCells ⟨L.blk, L.base + o, none⟩ cs k).run P w = .ok () w' ∧ HRel ρ B W f h' w' ∧ w'.heap.size = w.heap.size := by
  intro l
  induction l with
  | nil =>
    intro k h h' w cs hr hl hs
    have : cs = [] := by have := hl.1; simpa using this
    subst this
    simp only [aSetN] at hs
    cases hs
    exact ⟨w, rfl, hr, rfl⟩
  | cons v l ih =>
    intro k h h' w cs hr hl hs
    simp only [aSetN] at hs
    split at hs
    · cases hs
    · rename_i h1 he
      cases cs with
      | nil => have := hl.1; simp at this
      | cons v' cs =>
        have hv : VRel ρ f v v' := hl.2 0 v v' (by simp) (by simp)
        obtain ⟨a, b⟩ := aSet_ok hr hf hv he
        have hl' : LRel ρ f l cs.toArray := ⟨by have := hl.1; simp at this ⊢; exact this, fun j x x' hx hx' => hl.2 (j + 1) x x' (by simpa using hx) (by simpa using hx')⟩
        obtain ⟨w', c1, c2, c3⟩ := ih (k + 1) h1 h' _ cs a hl' (by rw [← Nat.add_assoc]; exact hs)
        refine ⟨w', ?_, c2, by rw [c3]; simp [World.setCell]⟩
        have hadd : (⟨L.blk, L.base + o, none⟩ : Addr).add k = ⟨L.blk, L.base + (o + k), none⟩ := by
          unfold Addr.add; split
          · rename_i e; subst e; rfl
          · simp [Nat.add_assoc]
        simp only [storeCells, Sem.run_bind, hadd, b P, Result.andThen_ok]
        exact c1
end Go.Sx
