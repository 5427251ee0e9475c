/- Symbolic values and the abstract heap against the model's values and world. No condition. -/
import Derived.Test.YtpoianhfjgjajaaGreatSxR
namespace Go.Sx
open Go.RowKit (Below)
noncomputable section

/-- Where an abstract block lies: its block, its first cell there, the block's size. -/
structure Loc where
  blk : Nat
  base : Nat
  sz : Nat
abbrev Ren := Nat → Option Loc
def Ren.le (f g : Ren) : Prop := ∀ i L, f i = some L → g i = some L
theorem Ren.le_refl (f : Ren) : f.le f := fun _ _ h => h
theorem Ren.le_trans {f g h : Ren} (a : f.le g) (b : g.le h) : f.le h := fun i L e => b i L (a i L e)
def Ren.put (f : Ren) (i : Nat) (L : Loc) : Ren := fun j => if j = i then some L else f j
theorem Ren.put_same (f : Ren) (i : Nat) (L : Loc) : f.put i L i = some L := by simp [Ren.put]
theorem Ren.put_other (f : Ren) {i j : Nat} (L : Loc) (h : j ≠ i) : f.put i L j = f j := by simp [Ren.put, h]
theorem Ren.le_put {f : Ren} {i : Nat} (L : Loc) (h : f i = none) : f.le (f.put i L) := fun j M e => by
  by_cases hj : j = i
  · subst hj; rw [h] at e; cases e
  · rw [Ren.put_other f L hj]; exact e

inductive AVal where
  | bool (b : BE)
  | int (k : IntKind) (e : IE)
  | str (l : List IE)
  | ptr (a : Option (Nat × Nat))
  | slice (a : Option (Nat × Nat)) (len cap g : Nat)
  | map (r : Option Nat)
  | func (fn : Fn) (first capt : List AVal)
  | nilFunc
  | iface (t : TypeId) (v : AVal)
  | nilIface
  | agg (cs : List AVal)
  | tuple (vs : List AVal)
  | ptrE (i : Nat) (idx : IE) (s c : Nat)
  | sliceS (i : Nat) (st len : IE) (s : Nat) (nn : Bool)
  | strS (code len : IE)
  | sliceA (i : Nat) (len : IE) (s : Nat)
  deriving Inhabited
def AVal.cells : AVal → List AVal
  | .agg cs => cs
  | v => [v]
def AVal.one : AVal → Bool
  | .agg _ | .tuple _ => false
  | _ => true

def SRel (ρ : Env) (l : List IE) (s : ByteArray) : Prop := s.data.toList.map (fun b => (b.toNat : Int)) = l.map (·.ev ρ)

inductive VRel (ρ : Env) (f : Ren) : AVal → Value → Prop where
  | bool (b : BE) : VRel ρ f (.bool b) (.bool (b.ev ρ))
  | int (k : IntKind) (e : IE) : VRel ρ f (.int k e) (.int k (e.ev ρ))
  | str {l : List IE} {s : ByteArray} (h : SRel ρ l s) : VRel ρ f (.str l) (.string s)
  | nilPtr : VRel ρ f (.ptr none) (.pointer none)
  | ptr {i o : Nat} {L : Loc} (h : f i = some L) : VRel ρ f (.ptr (some (i, o))) (.pointer (some ⟨L.blk, L.base + o, none⟩))
  | nilSlice : VRel ρ f (.slice none 0 0 0) (.slice none 0 0)
  | slice {i o n c : Nat} {L : Loc} (h : f i = some L) : VRel ρ f (.slice (some (i, o)) n c 0) (.slice (some ⟨L.blk, L.base + o, none⟩) n c)
  | sliceG {i o n c c' g : Nat} {L : Loc} (h : f i = some L) (hn : n ≤ c) (hc : c ≤ c') (hs : L.base + o + c' * (g + 1) ≤ L.sz) :
      VRel ρ f (.slice (some (i, o)) n c (g + 1)) (.slice (some ⟨L.blk, L.base + o, none⟩) n c')
  | sliceE {i o o' c' g : Nat} {L : Loc} (h : f i = some L) (hg : g = 0 → c' = 0) (hs : o' + c' * g ≤ L.sz) :
      VRel ρ f (.slice (some (i, o)) 0 0 g) (.slice (some ⟨L.blk, o', none⟩) 0 c')
  | nilMap : VRel ρ f (.map none) (.map none)
  | map {i : Nat} {L : Loc} (h : f i = some L) : VRel ρ f (.map (some i)) (.map (some L.blk))
  | func {fn : Fn} {a b : List AVal} {a' b' : Array Value} (ha : a'.size = a.length) (hb : b'.size = b.length)
      (ha' : ∀ (i : Nat) (v : AVal) (v' : Value), a[i]? = some v → a'[i]? = some v' → VRel ρ f v v') (hb' : ∀ (i : Nat) (v : AVal) (v' : Value), b[i]? = some v → b'[i]? = some v' → VRel ρ f v v') :
      VRel ρ f (.func fn a b) (.func fn a' b')
  | nilFunc : VRel ρ f .nilFunc .nilFunc
  | iface {t : TypeId} {v : AVal} {v' : Value} (h : VRel ρ f v v') : VRel ρ f (.iface t v) (.iface t v')
  | nilIface : VRel ρ f .nilIface .nilIface
  | agg {a : List AVal} {a' : Array Value} (ha : a'.size = a.length) (ha' : ∀ (i : Nat) (v : AVal) (v' : Value), a[i]? = some v → a'[i]? = some v' → VRel ρ f v v') :
      VRel ρ f (.agg a) (.agg a')
  | tuple {a : List AVal} {a' : Array Value} (ha : a'.size = a.length) (ha' : ∀ (i : Nat) (v : AVal) (v' : Value), a[i]? = some v → a'[i]? = some v' → VRel ρ f v v') :
      VRel ρ f (.tuple a) (.tuple a')

  | ptrE {i s c : Nat} {idx : IE} {L : Loc} (h : f i = some L) (h0 : 0 ≤ idx.ev ρ) : VRel ρ f (.ptrE i idx s c) (.pointer (some ⟨L.blk, L.base + ((idx.ev ρ).toNat * s + c), none⟩))
  | sliceS {i s : Nat} {st len : IE} {nn : Bool} {L : Loc} {c : Nat} (h : f i = some L) (h0 : 0 ≤ st.ev ρ) (hl : 0 ≤ len.ev ρ) (hc : (len.ev ρ).toNat ≤ c) :
      VRel ρ f (.sliceS i st len s nn) (.slice (some ⟨L.blk, L.base + (st.ev ρ).toNat * s, none⟩) (len.ev ρ).toNat c)
  | sliceZ {i s : Nat} {st len : IE} {nn : Bool} {a : Option Addr} {c : Nat} (hl : len.ev ρ = 0) (ha : a = none → c = 0 ∧ nn = false) : VRel ρ f (.sliceS i st len s nn) (.slice a 0 c)
  | strS {code len : IE} {s : ByteArray} (hl : len.ev ρ = s.size) (hs : ∀ (j : Nat) (b : UInt8), s.data[j]? = some b → rowGet (code.ev ρ) j = b.toNat) : VRel ρ f (.strS code len) (.string s)

  | sliceA {i s c : Nat} {len : IE} {L : Loc} (h : f i = some L) (hl : 0 ≤ len.ev ρ) (hc : (len.ev ρ).toNat ≤ c) (hs : L.base + c * s ≤ L.sz) : VRel ρ f (.sliceA i len s) (.slice (some ⟨L.blk, L.base, none⟩) (len.ev ρ).toNat c)
  | sliceN {i s : Nat} {len : IE} {a : Option Addr} (hl : len.ev ρ = 0) : VRel ρ f (.sliceA i len s) (.slice a 0 0)
theorem VRel.mono {ρ : Env} {f g : Ren} (h : f.le g) {v : AVal} {v' : Value} (hv : VRel ρ f v v') : VRel ρ g v v' := by
  induction hv with
  | bool b => exact .bool b
  | int k e => exact .int k e
  | str h => exact .str h
  | nilPtr => exact .nilPtr
  | ptr hh => exact .ptr (h _ _ hh)
  | nilSlice => exact .nilSlice
  | slice hh => exact .slice (h _ _ hh)
  | sliceG hh hn hc hs => exact .sliceG (h _ _ hh) hn hc hs
  | sliceE hh hg hs => exact .sliceE (h _ _ hh) hg hs
  | nilMap => exact .nilMap
  | map hh => exact .map (h _ _ hh)
  | func ha hb _ _ iha ihb => exact .func ha hb iha ihb
  | nilFunc => exact .nilFunc
  | iface _ ih => exact .iface ih
  | nilIface => exact .nilIface
  | agg ha _ ih => exact .agg ha ih
  | tuple ha _ ih => exact .tuple ha ih
  | ptrE hh h0 => exact .ptrE (h _ _ hh) h0
  | sliceS hh h0 hl hc => exact .sliceS (h _ _ hh) h0 hl hc
  | sliceZ hl ha => exact .sliceZ hl ha
  | strS hl hs => exact .strS hl hs
  | sliceA hh hl hc hs => exact .sliceA (h _ _ hh) hl hc hs
  | sliceN hl => exact .sliceN hl
/-- A growing slice as a slice. -/
def AVal.soft : AVal → AVal
  | .sliceA i l s => .sliceS i (.lit 0) l s false
  | v => v
theorem VRel.soft {ρ : Env} {f : Ren} {v : AVal} {v' : Value} (h : VRel ρ f v v') : VRel ρ f v.soft v' := by
  cases h with
  | sliceA hh hl hc hs =>
    rename_i i s c len L
    have := VRel.sliceS (ρ := ρ) (f := f) (i := i) (s := s) (st := .lit 0) (len := len) (nn := false) hh (Int.le_refl 0) hl hc
    have e : L.base + ((IE.lit 0).ev ρ).toNat * s = L.base := by show L.base + 0 * s = _; rw [Nat.zero_mul, Nat.add_zero]
    rw [e] at this
    exact this
  | sliceN hl => exact .sliceZ hl (fun _ => ⟨rfl, rfl⟩)
  | bool b => exact .bool b
  | int k e => exact .int k e
  | str h => exact .str h
  | nilPtr => exact .nilPtr
  | ptr hh => exact .ptr hh
  | nilSlice => exact .nilSlice
  | slice hh => exact .slice hh
  | sliceG hh hn hc hs => exact .sliceG hh hn hc hs
  | sliceE hh hg hs => exact .sliceE hh hg hs
  | nilMap => exact .nilMap
  | map hh => exact .map hh
  | func ha hb iha ihb => exact .func ha hb iha ihb
  | nilFunc => exact .nilFunc
  | iface ih => exact .iface ih
  | nilIface => exact .nilIface
  | agg ha ih => exact .agg ha ih
  | tuple ha ih => exact .tuple ha ih
  | ptrE hh h0 => exact .ptrE hh h0
  | sliceS hh h0 hl hc => exact .sliceS hh h0 hl hc
  | sliceZ hl ha => exact .sliceZ hl ha
  | strS hl hs => exact .strS hl hs

/-- A list of values against an array. -/
def LRel (ρ : Env) (f : Ren) (l : List AVal) (a : Array Value) : Prop :=
  a.size = l.length ∧ ∀ (i : Nat) (v : AVal) (v' : Value), l[i]? = some v → a[i]? = some v' → VRel ρ f v v'
theorem LRel.mono {ρ : Env} {f g : Ren} (h : f.le g) {l : List AVal} {a : Array Value} (hl : LRel ρ f l a) : LRel ρ g l a :=
  ⟨hl.1, fun i v v' h1 h2 => (hl.2 i v v' h1 h2).mono h⟩
theorem LRel.get {ρ : Env} {f : Ren} {l : List AVal} {a : Array Value} (hl : LRel ρ f l a) {i : Nat} {v : AVal} (h : l[i]? = some v) :
    ∃ v', a[i]? = some v' ∧ VRel ρ f v v' := by
  have hi : i < l.length := (List.getElem?_eq_some_iff.1 h).1
  have hi' : i < a.size := by rw [hl.1]; exact hi
  exact ⟨a[i], by simp [hi'], hl.2 i v _ h (by simp [hi'])⟩
theorem LRel.nil {ρ : Env} {f : Ren} : LRel ρ f [] #[] := ⟨rfl, by simp⟩
theorem LRel.cons {ρ : Env} {f : Ren} {l : List AVal} {v : AVal} {a : List Value} {v' : Value} (hv : VRel ρ f v v') (h : LRel ρ f l a.toArray) : LRel ρ f (v :: l) (v' :: a).toArray := by
  refine ⟨by have := h.1; simp at this ⊢; exact this, fun i u u' h1 h2 => ?_⟩
  cases i with
  | zero => simp at h1 h2; subst h1; subst h2; exact hv
  | succ i => exact h.2 i u u' (by simpa using h1) (by simpa using h2)
theorem LRel.cells {ρ : Env} {f : Ren} {v : AVal} {v' : Value} (h : VRel ρ f v v') : LRel ρ f v.cells v'.cells := by
  have one : ∀ {u : AVal} {u' : Value}, VRel ρ f u u' → LRel ρ f [u] #[u'] := fun hu => by simpa using LRel.cons hu (a := []) LRel.nil
  cases h with
  | agg ha ha' => exact ⟨ha, ha'⟩
  | bool b => exact one (.bool b)
  | int k e => exact one (.int k e)
  | str h => exact one (.str h)
  | nilPtr => exact one .nilPtr
  | ptr hh => exact one (.ptr hh)
  | nilSlice => exact one .nilSlice
  | slice hh => exact one (.slice hh)
  | sliceG hh hn hc hs => exact one (.sliceG hh hn hc hs)
  | sliceE hh hg hs => exact one (.sliceE hh hg hs)
  | nilMap => exact one .nilMap
  | map hh => exact one (.map hh)
  | func ha hb iha ihb => exact one (.func ha hb iha ihb)
  | nilFunc => exact one .nilFunc
  | iface ih => exact one (.iface ih)
  | nilIface => exact one .nilIface
  | tuple ha ih => exact one (.tuple ha ih)
  | ptrE hh h0 => exact one (.ptrE hh h0)
  | sliceS hh h0 hl hc => exact one (.sliceS hh h0 hl hc)
  | sliceZ hl ha => exact one (.sliceZ hl ha)
  | strS hl hs => exact one (.strS hl hs)
  | sliceA hh hl hc hs => exact one (.sliceA hh hl hc hs)
  | sliceN hl => exact one (.sliceN hl)
theorem VRel.one {ρ : Env} {f : Ren} {v : AVal} {v' : Value} (h : VRel ρ f v v') (h1 : v.one = true) : v'.oneCell' = true := by
  cases h <;> first | rfl | cases h1

/-! the heap -/
inductive AObj where
  | cells (c : T AVal) (elem : TypeId) (own : Bool) (top : Nat)
  | map (es : List (AVal × AVal))
  | arr (ks : List IntKind) (code n : IE) (own : Bool)
  | ghost (k : Nat) (vs : List IE) (c : T AVal)
  | win (idx : IE) (s : Nat) (c : T AVal) (elem : TypeId) (own : Bool)
  | col (s c : Nat) (k : IntKind) (code : IE) (m d : Nat) (n : IE)
  | it0
  deriving Inhabited
def AObj.own : AObj → Bool
  | .cells _ _ o _ => o
  | .map _ => true
  | .arr _ _ _ o => o
  | .ghost _ _ _ => true
  | .win _ _ _ _ o => o
  | .col _ _ _ _ _ _ _ => false
  | .it0 => false
/-- The blocks that it takes. -/
def AObj.foot (ρ : Env) (w : World) (L : Loc) : AObj → Nat → Prop
  | .ghost k _ _, b => (ρ.gh k).foot w L.blk b
  | _, b => b = L.blk

def ORel (ρ : Env) (f : Ren) (B : Nat → Prop) (w : World) (L : Loc) : AObj → Prop
  | .cells c elem own top => ∃ cs fr, w.heap[L.blk]? = some (.cells cs elem fr) ∧ cs.size = L.sz ∧
      (own = true → ¬ B L.blk ∧ ∀ j, j < L.sz → ¬ (fr.1 ≤ j ∧ j < fr.2)) ∧
      ∀ (j : Nat) (v : AVal), c.get j = some v → j < top ∧ ∃ v', cs[L.base + j]? = some v' ∧ VRel ρ f v v'
  | .map es => ¬ B L.blk ∧ ∃ es' clock, w.heap[L.blk]? = some (.map es' clock) ∧ es'.size = es.length ∧
      ∀ (i : Nat) (e : AVal × AVal) (e' : MapEntry), es[i]? = some e → es'[i]? = some e' → VRel ρ f e.1 e'.key ∧ VRel ρ f e.2 e'.val
  | .arr ks code n own => ∃ cs elem fr, w.heap[L.blk]? = some (.cells cs elem fr) ∧ cs.size = L.sz ∧
      (own = true → ¬ B L.blk ∧ ∀ j, j < L.sz → ¬ (fr.1 ≤ j ∧ j < fr.2)) ∧
      ∀ (j c : Nat) (k : IntKind), (j : Int) < n.ev ρ → ks[c]? = some k → cs[L.base + (j * ks.length + c)]? = some (.int k (rowGet (code.ev ρ) (j * ks.length + c : Nat))) ∧ kLo k ≤ rowGet (code.ev ρ) (j * ks.length + c : Nat) ∧ rowGet (code.ev ρ) (j * ks.length + c : Nat) ≤ kHi k
  | .ghost k vs c => ((ρ.gh k).rel (vs.map (·.ev ρ)) w L.blk ∧ ∀ b, (ρ.gh k).foot w L.blk b → ¬ B b) ∧ L.base = 0 ∧
      ∃ cs elem fr, w.heap[L.blk]? = some (.cells cs elem fr) ∧ cs.size = L.sz ∧ (∀ j, j < L.sz → ¬ (fr.1 ≤ j ∧ j < fr.2)) ∧
        ∀ (j : Nat) (v : AVal), c.get j = some v → (ρ.gh k).hd ≤ j ∧ ∃ v', cs[j]? = some v' ∧ VRel ρ f v v'
  | .win idx s c elem own => ∃ cs fr, w.heap[L.blk]? = some (.cells cs elem fr) ∧ cs.size = L.sz ∧
      (own = true → ¬ B L.blk ∧ ∀ j, j < L.sz → ¬ (fr.1 ≤ j ∧ j < fr.2)) ∧
      (∀ j : Nat, (j < L.base + (idx.ev ρ).toNat * s ∨ L.base + (idx.ev ρ).toNat * s + s ≤ j) → cs[j]? = ρ.sn[j]?) ∧
      ∀ (j : Nat) (v : AVal), c.get j = some v → ∃ v', cs[L.base + ((idx.ev ρ).toNat * s + j)]? = some v' ∧ VRel ρ f v v'
  | .col s c k code m d n => ∃ cs elem fr, w.heap[L.blk]? = some (.cells cs elem fr) ∧
      ∀ j : Nat, (j : Int) < n.ev ρ → cs[L.base + (j * s + c)]? = some (.int k (rowGet (code.ev ρ) (j * m + d : Nat))) ∧ kLo k ≤ rowGet (code.ev ρ) (j * m + d : Nat) ∧ rowGet (code.ev ρ) (j * m + d : Nat) ≤ kHi k
  | .it0 => L.base = 0 ∧ ∃ a s t, w.heap[L.blk]? = some (.mapIter none a s t)

/-- What is kept stays as it was; the streams too; no block has gone. -/
structure Kept (B : Nat → Prop) (w w' : World) : Prop where
  os : w'.os = w.os
  tape : w'.tape = w.tape
  output : w'.output = w.output
  size : w.heap.size ≤ w'.heap.size
  block : ∀ k, B k → w'.heap[k]? = w.heap[k]?
theorem Kept.refl (B : Nat → Prop) (w : World) : Kept B w w := ⟨rfl, rfl, rfl, Nat.le_refl _, fun _ _ => rfl⟩
theorem Kept.trans {B : Nat → Prop} {a b c : World} (h : Kept B a b) (k : Kept B b c) : Kept B a c :=
  ⟨k.os.trans h.os, k.tape.trans h.tape, k.output.trans h.output, Nat.le_trans h.size k.size, fun i hi => (k.block i hi).trans (h.block i hi)⟩
theorem Kept.mono {B B' : Nat → Prop} {w w' : World} (h : Kept B w w') (hB : ∀ b, B' b → B b) : Kept B' w w' := ⟨h.os, h.tape, h.output, h.size, fun k hk => h.block k (hB k hk)⟩
theorem Kept.setCell {B : Nat → Prop} {a w : World} (h : Kept B a w) {p : Addr} (hp : ¬ B p.block) (u : Value) : Kept B a (w.setCell p u) :=
  h.trans ⟨rfl, rfl, rfl, by simp [World.setCell], fun k hk => Below.heap_setCell _ _ _ _ (fun e => hp (e ▸ hk))⟩
theorem Kept.below {W w : World} (h : Kept (· < W.heap.size) W w) : Below W.heap.size W w := ⟨h.os, h.tape, h.output, h.size, h.block⟩
theorem Below.kept {n : Nat} {W w : World} (h : Below n W w) {B : Nat → Prop} (hB : ∀ b, B b → b < n) : Kept B W w := ⟨h.os, h.tape, h.output, h.size, fun b hb => h.block b (hB b hb)⟩

structure HRel (ρ : Env) (B : Nat → Prop) (W : World) (f : Ren) (h : T AObj) (w : World) : Prop where
  below : Kept B W w
  bsize : ∀ b, B b → b < W.heap.size
  lt : ∀ i L, f i = some L → L.blk < w.heap.size
  apart : ∀ i j Li Lj oi oj, f i = some Li → f j = some Lj → h.get i = some oi → h.get j = some oj → i ≠ j → oi.own = true → ∀ b, oi.foot ρ w Li b → ¬ oj.foot ρ w Lj b
  obj : ∀ i L o, f i = some L → h.get i = some o → ORel ρ f B w L o
theorem HRel.fresh {ρ : Env} {B : Nat → Prop} {W w : World} {f : Ren} {h : T AObj} (hr : HRel ρ B W f h w) {b : Nat} (hb : w.heap.size ≤ b) : ¬ B b := fun hB => by
  have h1 := hr.bsize b hB
  have h2 := hr.below.size
  omega

theorem ORel.mono {ρ : Env} {f g : Ren} (h : f.le g) {B : Nat → Prop} {w : World} {L : Loc} {o : AObj} (ho : ORel ρ f B w L o) : ORel ρ g B w L o := by
  cases o with
  | cells c elem own top =>
    obtain ⟨cs, fr, h1, h2, h3, h4⟩ := ho
    exact ⟨cs, fr, h1, h2, h3, fun j v hj => let ⟨lt, v', a, b⟩ := h4 j v hj; ⟨lt, v', a, b.mono h⟩⟩
  | map es =>
    obtain ⟨h0, es', cl, h1, h2, h3⟩ := ho
    exact ⟨h0, es', cl, h1, h2, fun i e e' a b => ⟨(h3 i e e' a b).1.mono h, (h3 i e e' a b).2.mono h⟩⟩
  | arr ks code n own => exact ho
  | ghost k vs c =>
    obtain ⟨h0, hb, cs, el, fr, h1, h2, h3, h4⟩ := ho
    exact ⟨h0, hb, cs, el, fr, h1, h2, h3, fun j v hj => let ⟨lt, v', a, b⟩ := h4 j v hj; ⟨lt, v', a, b.mono h⟩⟩
  | win idx s c elem own =>
    obtain ⟨cs, fr, h1, h2, h3, h0, h4⟩ := ho
    exact ⟨cs, fr, h1, h2, h3, h0, fun j v hj => let ⟨v', a, b⟩ := h4 j v hj; ⟨v', a, b.mono h⟩⟩
  | col s c k code m d n => exact ho
  | it0 => exact ho
theorem ORel.foot_lt {ρ : Env} {f : Ren} {B : Nat → Prop} {w : World} {L : Loc} {o : AObj} (ho : ORel ρ f B w L o) {b : Nat} (hb : o.foot ρ w L b) : b < w.heap.size := by
  have lt : ∀ {O : Obj}, w.heap[L.blk]? = some O → L.blk < w.heap.size := fun h => (Array.getElem?_eq_some_iff.1 h).1
  cases o with
  | cells c elem own top => obtain ⟨cs, fr, h1, _⟩ := ho; cases hb; exact lt h1
  | map es => obtain ⟨_, es', cl, h1, _⟩ := ho; cases hb; exact lt h1
  | arr ks code n own => obtain ⟨cs, el, fr, h1, _⟩ := ho; cases hb; exact lt h1
  | ghost k vs c => exact (ρ.gh k).inb ho.1.1 hb
  | win idx s c elem own => obtain ⟨cs, fr, h1, _⟩ := ho; cases hb; exact lt h1
  | col s c k code m d n => obtain ⟨cs, el, fr, h1, _⟩ := ho; cases hb; exact lt h1
  | it0 => obtain ⟨_, a, s, t, h1⟩ := ho; cases hb; exact lt h1
theorem ORel.foot_self {ρ : Env} {f : Ren} {B : Nat → Prop} {w : World} {L : Loc} {o : AObj} (ho : ORel ρ f B w L o) : o.foot ρ w L L.blk := by
  cases o with
  | ghost k vs c => exact (ρ.gh k).self ho.1.1
  | _ => rfl
theorem ORel.of_foot {ρ : Env} {f : Ren} {B : Nat → Prop} {w w' : World} {L : Loc} {o : AObj} (hs : w.heap.size ≤ w'.heap.size) (ho : ORel ρ f B w L o) (he : ∀ b, o.foot ρ w L b → w'.heap[b]? = w.heap[b]?) : ORel ρ f B w' L o ∧ ∀ b, o.foot ρ w' L b → o.foot ρ w L b := by
  cases o with
  | cells c elem own top => obtain ⟨cs, fr, h1, h⟩ := ho; exact ⟨⟨cs, fr, (he L.blk rfl).trans h1, h⟩, fun _ h => h⟩
  | map es => obtain ⟨h0, es', cl, h1, h⟩ := ho; exact ⟨⟨h0, es', cl, (he L.blk rfl).trans h1, h⟩, fun _ h => h⟩
  | arr ks code n own => obtain ⟨cs, el, fr, h1, h⟩ := ho; exact ⟨⟨cs, el, fr, (he L.blk rfl).trans h1, h⟩, fun _ h => h⟩
  | ghost k vs c =>
    obtain ⟨⟨h1, h2⟩, h3, cs, el, fr, h4, h5⟩ := ho
    obtain ⟨q1, q2⟩ := (ρ.gh k).frame h1 hs he
    exact ⟨⟨⟨q1, fun b hb => h2 b (q2 b hb)⟩, h3, cs, el, fr, (he L.blk ((ρ.gh k).self h1)).trans h4, h5⟩, q2⟩
  | win idx s c elem own => obtain ⟨cs, fr, h1, h⟩ := ho; exact ⟨⟨cs, fr, (he L.blk rfl).trans h1, h⟩, fun _ h => h⟩
  | col s c k code m d n => obtain ⟨cs, el, fr, h1, h⟩ := ho; exact ⟨⟨cs, el, fr, (he L.blk rfl).trans h1, h⟩, fun _ h => h⟩
  | it0 => obtain ⟨h0, a, s, t, h1⟩ := ho; exact ⟨⟨h0, a, s, t, (he L.blk rfl).trans h1⟩, fun _ h => h⟩
/-- A world in which all the blocks taken are as they were. -/
theorem HRel.of_same {ρ : Env} {B : Nat → Prop} {W w w' : World} {f : Ren} {h : T AObj} (hr : HRel ρ B W f h w) (hb : Kept B W w') (hs : w.heap.size ≤ w'.heap.size) (he : ∀ i L o, f i = some L → h.get i = some o → ∀ b, o.foot ρ w L b → w'.heap[b]? = w.heap[b]?) : HRel ρ B W f h w' := by
  have key := fun i L o hi hg => (hr.obj i L o hi hg).of_foot hs (he i L o hi hg)
  exact ⟨hb, hr.bsize, fun i L e => Nat.lt_of_lt_of_le (hr.lt i L e) hs,
    fun i j Li Lj oi oj hi hj gi gj hij ho b hb' hb'' => hr.apart i j Li Lj oi oj hi hj gi gj hij ho b ((key i Li oi hi gi).2 b hb') ((key j Lj oj hj gj).2 b hb''), fun i L o hi hg => (key i L o hi hg).1⟩
theorem HRel.of_heap {ρ : Env} {B : Nat → Prop} {W w w' : World} {f : Ren} {h : T AObj} (hr : HRel ρ B W f h w) (he : w'.heap = w.heap) (hb : Kept B W w') : HRel ρ B W f h w' :=
  hr.of_same hb (by rw [he]; exact Nat.le_refl _) (fun _ _ _ _ _ b _ => by rw [he])
theorem HRel.drew {ρ : Env} {B : Nat → Prop} {W w : World} {f : Ren} {h : T AObj} (hr : HRel ρ B W f h w) (n : Nat) : HRel ρ B W f h { w with drawn := n } :=
  hr.of_heap rfl ⟨hr.below.os, hr.below.tape, hr.below.output, hr.below.size, hr.below.block⟩
/-- What is no longer looked at may be anything. -/
theorem HRel.less {ρ : Env} {B : Nat → Prop} {W w : World} {f : Ren} {h h' : T AObj} (hr : HRel ρ B W f h w) (hl : ∀ i o, h'.get i = some o → h.get i = some o) : HRel ρ B W f h' w :=
  ⟨hr.below, hr.bsize, hr.lt, fun i j Li Lj oi oj a b c d => hr.apart i j Li Lj oi oj a b (hl _ _ c) (hl _ _ d), fun i L o a b => hr.obj i L o a (hl _ _ b)⟩
/-- One block is turned: the object that it is takes this block alone, before and after; a new object stands for it. -/
theorem HRel.turn0 {ρ : Env} {B : Nat → Prop} {W w w' : World} {f : Ren} {h : T AObj} (hr : HRel ρ B W f h w) {i : Nat} {L : Loc} {o o' : AObj} (hf : f i = some L) (hg : h.get i = some o) (hown : o.own = true) (hB : ¬ B L.blk)
    (hfoot : o.foot ρ w L L.blk) (hfoot' : ∀ b, o'.foot ρ w' L b → o.foot ρ w L b) (hk : w'.os = w.os ∧ w'.tape = w.tape ∧ w'.output = w.output) (hs : w'.heap.size = w.heap.size)
    (he : ∀ b, b ≠ L.blk → w'.heap[b]? = w.heap[b]?) (ho : ORel ρ f B w' L o') : HRel ρ B W f (h.set i o') w' := by
  have other : ∀ j M ok, f j = some M → h.get j = some ok → j ≠ i → (∀ b, ok.foot ρ w M b → w'.heap[b]? = w.heap[b]?) ∧ ∀ b, o.foot ρ w L b → ¬ ok.foot ρ w M b := by
    intro j M ok hj hgj hji
    have := hr.apart i j L M o ok hf hj hg hgj (Ne.symm hji) hown
    exact ⟨fun b hb => he b (fun e => this L.blk hfoot (e ▸ hb)), this⟩
  have keep := fun j M ok hj hgj hji => (hr.obj j M ok hj hgj).of_foot (Nat.le_of_eq hs.symm) (other j M ok hj hgj hji).1
  refine ⟨hr.below.trans ⟨hk.1, hk.2.1, hk.2.2, Nat.le_of_eq hs.symm, fun b hb => he b (fun e => hB (e ▸ hb))⟩, hr.bsize, fun j M e => by rw [hs]; exact hr.lt j M e, ?_, ?_⟩
  · intro a b La Lb oa ob ha hb hga hgb hab hao x hx hx'
    rcases T.get_set hga with ⟨ea, eo⟩ | ⟨hai, hga1⟩
    · subst eo
      rw [ea] at ha hab
      have hLa : L = La := Option.some.inj (hf.symm.trans ha)
      subst hLa
      rcases T.get_set hgb with ⟨eb, _⟩ | ⟨hbi, hgb1⟩
      · exact hab eb.symm
      · exact (other b Lb ob hb hgb1 hbi).2 x (hfoot' x hx) ((keep b Lb ob hb hgb1 hbi).2 _ hx')
    · rcases T.get_set hgb with ⟨eb, eo⟩ | ⟨hbi, hgb1⟩
      · subst eo
        rw [eb] at hb
        have hLb : L = Lb := Option.some.inj (hf.symm.trans hb)
        subst hLb
        exact (other a La oa ha hga1 hai).2 x (hfoot' x hx') ((keep a La oa ha hga1 hai).2 _ hx)
      · exact hr.apart a b La Lb oa ob ha hb hga1 hgb1 hab hao x ((keep a La oa ha hga1 hai).2 x hx) ((keep b Lb ob hb hgb1 hbi).2 x hx')
  · intro j M ok hj hgj
    rcases T.get_set hgj with ⟨rfl, rfl⟩ | ⟨hji, hgj⟩
    · have : L = M := Option.some.inj (hf.symm.trans hj)
      subst this
      exact ho
    · exact (keep j M ok hj hgj hji).1

theorem HRel.turn {ρ : Env} {B : Nat → Prop} {W w w' : World} {f : Ren} {h : T AObj} (hr : HRel ρ B W f h w) {i : Nat} {L : Loc} {o o' : AObj} (hf : f i = some L) (hg : h.get i = some o) (hown : o.own = true) (hB : ¬ B L.blk)
    (hfoot : ∀ w b, o.foot ρ w L b ↔ b = L.blk) (hfoot' : ∀ w b, o'.foot ρ w L b ↔ b = L.blk) (hk : w'.os = w.os ∧ w'.tape = w.tape ∧ w'.output = w.output) (hs : w'.heap.size = w.heap.size)
    (he : ∀ b, b ≠ L.blk → w'.heap[b]? = w.heap[b]?) (ho : ORel ρ f B w' L o') : HRel ρ B W f (h.set i o') w' :=
  hr.turn0 hf hg hown hB ((hfoot w _).2 rfl) (fun b hb => (hfoot w b).2 ((hfoot' w' b).1 hb)) hk hs he ho

theorem heap_setCell_at (w : World) (g i : Nat) (cs : Array Value) (t : TypeId) (fr : Nat × Nat) (v : Value) (hg : w.heap[g]? = some (.cells cs t fr)) :
    (w.setCell ⟨g, i, none⟩ v).heap[g]? = some (.cells (cs.setIfInBounds i v) t fr) := by
  simp only [World.setCell, Array.getElem?_modify, if_true, hg]
  rfl

/-! reading -/
/-- A digit of a row, as one of a kind. -/
def digW (k : IntKind) (code : IE) (o : Nat) : IE :=
  match mkFn 0 code (.lit (.ofNat o)) (.lit 0) with
  | .lit v => .lit (wrapF k v)
  | e => .wrap k e
theorem digW_ev (ρ : Env) (k : IntKind) (code : IE) (o : Nat) : (digW k code o).ev ρ = k.wrap (rowGet (code.ev ρ) o) := by
  have h : (mkFn 0 code (.lit (.ofNat o)) (.lit 0)).ev ρ = rowGet (code.ev ρ) o := mkFn_ev ρ 0 code _ _
  unfold digW
  split
  · rename_i v hv
    rw [hv] at h
    have h : v = rowGet (code.ev ρ) o := h
    rw [← h]
    exact wrapF_eq k v
  · show k.wrap ((mkFn 0 code (.lit (.ofNat o)) (.lit 0)).ev ρ) = _
    rw [h]
/-- Is it surely of the kind? -/
def inKind (k : IntKind) : IE → Bool
  | .wrap j _ => kindEq k j
  | .bits _ j _ _ => kindEq k j
  | .lit n => intLe (kLo k) n && intLe n (kHi k)
  | _ => false
theorem inKind_ok {ρ : Env} {k : IntKind} {e : IE} (h : inKind k e = true) : kLo k ≤ e.ev ρ ∧ e.ev ρ ≤ kHi k := by
  unfold inKind at h
  split at h
  · rw [kindEq_eq h]; exact wrap_mem _ _
  · rw [kindEq_eq h]; exact bitsI_mem _ _ _ _
  · simp only [Bool.and_eq_true, intLe_iff, decide_eq_true_eq] at h
    exact h
  · cases h
def aGet (h : T AObj) (i o : Nat) : Option AVal :=
  match h.get i with
  | some (.cells c _ _ _) => c.get o
  | some (.ghost _ _ c) => c.get o
  | some (.arr ks code (.lit (.ofNat n)) _) =>
    match Nat.blt o (Nat.mul n ks.length), ks[Nat.mod o ks.length]? with
    | true, some k => some (.int k (digW k code o))
    | _, _ => none
  | _ => none
theorem aGet_ok {ρ : Env} {B : Nat → Prop} {W w : World} {f : Ren} {h : T AObj} (hr : HRel ρ B W f h w) {i o : Nat} {L : Loc} (hf : f i = some L) {v : AVal} (hg : aGet h i o = some v) :
    ∃ v', w.cell? ⟨L.blk, L.base + o, none⟩ = some v' ∧ VRel ρ f v v' := by
  unfold aGet at hg
  split at hg
  · rename_i c elem own top he
    obtain ⟨cs, fr, h1, _, _, h4⟩ := hr.obj i L _ hf he
    obtain ⟨_, v', a, b⟩ := h4 _ _ hg
    exact ⟨v', by simp [World.cell?, h1, a], b⟩
  · rename_i k vs c he
    obtain ⟨_, hb, cs, el, fr, h1, _, _, h4⟩ := hr.obj i L _ hf he
    obtain ⟨_, v', a, b⟩ := h4 _ _ hg
    exact ⟨v', by simp [World.cell?, hb, h1, a], b⟩
  · rename_i ks code n own he
    obtain ⟨cs, el, fr, h1, _, _, h4⟩ := hr.obj i L _ hf he
    split at hg
    · rename_i k hlt hk
      cases hg
      have hlt : o < n * ks.length := by simpa [Nat.blt_eq] using hlt
      have hdiv : o / ks.length < n := Nat.div_lt_of_lt_mul (by rw [Nat.mul_comm]; exact hlt)
      have e : o / ks.length * ks.length + o % ks.length = o := Nat.div_add_mod' o ks.length
      obtain ⟨q1, q2, q3⟩ := h4 (o / ks.length) (o % ks.length) k (by show ((o / ks.length : Nat) : Int) < (n : Int); omega) hk
      rw [e] at q1 q2 q3
      refine ⟨.int k (rowGet (code.ev ρ) o), by simp [World.cell?, h1, q1], ?_⟩
      have : rowGet (code.ev ρ) o = (digW k code o).ev ρ := by rw [digW_ev, wrap_id k _ q2 q3]
      rw [this]
      exact .int k _
    · cases hg
  · cases hg
def aGetN (h : T AObj) (i : Nat) : Nat → Nat → Option (List AVal)
  | _, 0 => some []
  | o, n + 1 =>
    match aGet h i o with
    | none => none
    | some v =>
      match aGetN h i (o + 1) n with
      | none => none
      | some l => some (v :: l)
theorem aGetN_ok {ρ : Env} {B : Nat → Prop} {W w : World} {f : Ren} {h : T AObj} (hr : HRel ρ B W f h w) {i : Nat} {L : Loc} (hf : f i = some L) :
    ∀ (n o : Nat) (l : List AVal), aGetN h i o n = some l → ∃ cs : List Value, LRel ρ f l cs.toArray ∧ cs.length = n ∧ ∀ j v', cs[j]? = some v' → w.cell? ⟨L.blk, L.base + o + j, none⟩ = some v' := by
  intro n
  induction n with
  | zero => intro o l hl; simp [aGetN] at hl; subst hl; exact ⟨[], LRel.nil, rfl, by simp⟩
  | succ n ih =>
    intro o l hl
    simp only [aGetN] at hl
    split at hl
    · cases hl
    · rename_i v hv
      split at hl
      · cases hl
      · rename_i l' hl'
        cases hl
        obtain ⟨v', h1, h2⟩ := aGet_ok hr hf hv
        obtain ⟨cs, h3, h4, h5⟩ := ih _ _ hl'
        refine ⟨v' :: cs, LRel.cons h2 h3, by simp [h4], fun j u hj => ?_⟩
        cases j with
        | zero => simp at hj; subst hj; simpa using h1
        | succ j =>
          have := h5 j u (by simpa using hj)
          rw [show L.base + o + (j + 1) = L.base + (o + 1) + j by omega]
          exact this
theorem run_loadCells_at {P : Program} {w : World} {b o n : Nat} {cs : List Value} (hn : cs.length = n) (h : ∀ j v', cs[j]? = some v' → w.cell? ⟨b, o + j, none⟩ = some v') :
    (loadCells ⟨b, o, none⟩ n).run P w = .ok cs.toArray w := by
  rw [← hn]
  refine run_loadCells_list w _ cs fun j v hv => ?_
  rw [← h j v hv]
  unfold Addr.add
  split
  · rename_i e; subst e; rfl
  · rfl

/-! writing -/
def aSet (h : T AObj) (i o : Nat) (v : AVal) : Option (T AObj) :=
  match h.get i with
  | some (.cells c elem true top) =>
    match c.get o, v.one with
    | some _, true => some (h.set i (.cells (c.set o v) elem true top))
    | _, _ => none
  | some (.ghost k vs c) =>
    match c.get o, v.one with
    | some _, true => some (h.set i (.ghost k vs (c.set o v)))
    | _, _ => none
  | some (.arr ks code (.lit (.ofNat n)) true) =>
    match v with
    | .int k e =>
      match Nat.blt o (Nat.mul n ks.length), ks[Nat.mod o ks.length]? with
      | true, some k' =>
        match kindEq k k' && inKind k e with
        | true => some (h.set i (.arr ks (mkFn 1 code (.lit (.ofNat o)) e) (.lit (.ofNat n)) true))
        | false => none
      | _, _ => none
    | _ => none
  | _ => none
theorem aSet_ok {ρ : Env} {B : Nat → Prop} {W w : World} {f : Ren} {h h' : T AObj} (hr : HRel ρ B W f h w) {i o : Nat} {L : Loc} (hf : f i = some L) {v : AVal} {v' : Value} (hv : VRel ρ f v v') (hg : aSet h i o v = some h') :
    HRel ρ B W f h' (w.setCell ⟨L.blk, L.base + o, none⟩ v') ∧ ∀ P, (store ⟨L.blk, L.base + o, none⟩ v').run P w = .ok () (w.setCell ⟨L.blk, L.base + o, none⟩ v') := by
  unfold aSet at hg
  split at hg
  · rename_i c elem top he
    split at hg
    · rename_i u hu hone
      cases hg
      obtain ⟨cs, fr, h1, h2, h3, h4⟩ := hr.obj i L _ hf he
      obtain ⟨hB, hfr⟩ := h3 rfl
      obtain ⟨hlt0, u', hu1, _⟩ := h4 _ _ hu
      have hlt : L.base + o < cs.size := (Array.getElem?_eq_some_iff.1 hu1).1
      have hcell : w.cell? ⟨L.blk, L.base + o, none⟩ = some u' := by simp [World.cell?, h1, hu1]
      have hfro : w.frozen? ⟨L.blk, L.base + o, none⟩ = false := by
        have := hfr (L.base + o) (by omega)
        simp only [World.frozen?, h1]
        simpa using this
      refine ⟨?_, fun P => ?_⟩
      · refine hr.turn hf he rfl hB (fun _ _ => Iff.rfl) (fun _ _ => Iff.rfl) ⟨rfl, rfl, rfl⟩ (by simp [World.setCell]) (fun b hb => Below.heap_setCell _ _ _ _ hb) ?_
        refine ⟨cs.setIfInBounds (L.base + o) v', fr, heap_setCell_at w _ _ cs elem fr v' h1, by simpa using h2, h3, fun j x hx => ?_⟩
        rcases T.get_set hx with ⟨rfl, rfl⟩ | ⟨hjo, hx⟩
        · exact ⟨hlt0, v', by simp [hlt], hv⟩
        · obtain ⟨hx0, x', hx1, hx2⟩ := h4 _ _ hx
          refine ⟨hx0, x', ?_, hx2⟩
          rw [Array.getElem?_setIfInBounds_ne (by omega)]
          exact hx1
      · rw [run_store P w _ v' _ (hv.one hone), hcell]
        simp [hfro]
    · cases hg
  · rename_i k vs c he
    split at hg
    · rename_i u hu hone
      cases hg
      obtain ⟨⟨h0, hB⟩, hb, cs, elem, fr, h1, h2, h3, h4⟩ := hr.obj i L _ hf he
      obtain ⟨hhd, u', hu1, _⟩ := h4 _ _ hu
      have hlt : o < cs.size := (Array.getElem?_eq_some_iff.1 hu1).1
      have hself := (ρ.gh k).self h0
      have hb0 : L.base + o = o := by omega
      rw [hb0]
      have hcell : w.cell? ⟨L.blk, o, none⟩ = some u' := by simp [World.cell?, h1, hu1]
      have hfro : w.frozen? ⟨L.blk, o, none⟩ = false := by
        have := h3 o (by omega)
        simp only [World.frozen?, h1]
        simpa using this
      obtain ⟨q1, q2⟩ := (ρ.gh k).stay (v := v') h0 h1 hhd
      refine ⟨?_, fun P => ?_⟩
      · refine hr.turn0 hf he rfl (hB _ hself) hself q2 ⟨rfl, rfl, rfl⟩ (by simp [World.setCell]) (fun b hb => Below.heap_setCell _ _ _ _ hb) ?_
        refine ⟨⟨q1, fun b hb => hB b (q2 b hb)⟩, hb, cs.setIfInBounds o v', elem, fr, heap_setCell_at w _ _ cs elem fr v' h1, by simpa using h2, h3, fun j x hx => ?_⟩
        rcases T.get_set hx with ⟨rfl, rfl⟩ | ⟨hjo, hx⟩
        · exact ⟨hhd, v', by simp [hlt], hv⟩
        · obtain ⟨hx0, x', hx1, hx2⟩ := h4 _ _ hx
          refine ⟨hx0, x', ?_, hx2⟩
          rw [Array.getElem?_setIfInBounds_ne (by omega)]
          exact hx1
      · rw [run_store P w _ v' _ (hv.one hone), hcell]
        simp [hfro]
    · cases hg
  · rename_i ks code n he
    split at hg
    · rename_i k e
      split at hg
      · rename_i k' hlt hk
        split at hg
        · rename_i hkk
          cases hg
          obtain ⟨hkk, hin⟩ : kindEq k k' = true ∧ inKind k e = true := by simpa using hkk
          have := kindEq_eq hkk
          subst this
          cases hv
          have hx := inKind_ok (ρ := ρ) hin
          have hlt : o < n * ks.length := by simpa [Nat.blt_eq] using hlt
          have hdiv : o / ks.length < n := Nat.div_lt_of_lt_mul (by rw [Nat.mul_comm]; exact hlt)
          have eo : o / ks.length * ks.length + o % ks.length = o := Nat.div_add_mod' o ks.length
          obtain ⟨cs, el, fr, h1, h2, h3, h4⟩ := hr.obj i L _ hf he
          obtain ⟨hB, hfr⟩ := h3 rfl
          obtain ⟨q1, _, _⟩ := h4 (o / ks.length) (o % ks.length) k (by show ((o / ks.length : Nat) : Int) < (n : Int); omega) hk
          rw [eo] at q1
          have hc : o % ks.length < ks.length := (List.getElem?_eq_some_iff.1 hk).1
          have hlt2 : L.base + o < cs.size := (Array.getElem?_eq_some_iff.1 q1).1
          have hcell : w.cell? ⟨L.blk, L.base + o, none⟩ = some (.int k (rowGet (code.ev ρ) o)) := by simp [World.cell?, h1, q1]
          have hfro : w.frozen? ⟨L.blk, L.base + o, none⟩ = false := by
            have := hfr (L.base + o) (by omega)
            simp only [World.frozen?, h1]
            simpa using this
          refine ⟨?_, fun P => ?_⟩
          · refine hr.turn hf he rfl hB (fun _ _ => Iff.rfl) (fun _ _ => Iff.rfl) ⟨rfl, rfl, rfl⟩ (by simp [World.setCell]) (fun b hb => Below.heap_setCell _ _ _ _ hb) ?_
            refine ⟨_, el, fr, heap_setCell_at w _ _ cs el fr _ h1, by simpa using h2, h3, fun j d kd hj hd => ?_⟩
            have hd' : d < ks.length := (List.getElem?_eq_some_iff.1 hd).1
            have ecode : (mkFn 1 code (.lit (.ofNat o)) e).ev ρ = rowSet (code.ev ρ) (o : Nat) (e.ev ρ) := mkFn_ev ρ 1 code _ _
            rw [ecode, rowGet_set_of _ _ _ _ hx.1 hx.2]
            by_cases hp : j * ks.length + d = o
            · have hdc : d = o % ks.length := by
                rw [← hp]
                simp [Nat.mul_add_mod_self_right, Nat.mod_eq_of_lt hd']
              have hk : ks[o % ks.length]? = some k := hk
              rw [hdc, hk] at hd
              cases hd
              rw [hp, if_pos rfl]
              exact ⟨by simp [hlt2], hx⟩
            · rw [if_neg hp, Array.getElem?_setIfInBounds_ne (by omega)]
              exact h4 j d kd hj hd
          · rw [run_store P w _ _ _ rfl, hcell]
            simp [hfro]
        · cases hg
      · cases hg
    · cases hg
  · cases hg
def aSetN (i : Nat) : T AObj → Nat → List AVal → Option (T AObj)
  | h, _, [] => some h
  | h, o, v :: l =>
    match aSet h i o v with
    | none => none
    | some h' => aSetN i h' (o + 1) l
theorem aSetN_ok {ρ : Env} {B : Nat → Prop} {W : World} {f : Ren} {i : Nat} {L : Loc} (hf : f i = some L) (P : Program) (o : Nat) :
    ∀ (l : List AVal) (k : Nat) (h h' : T AObj) (w : World) (cs : List Value), HRel ρ B W f h w → LRel ρ f l cs.toArray → aSetN i h (o + k) l = some h' →
      ∃ w', (storeCells ⟨L.blk, L.base + o, none⟩ cs k).run P w = .ok () w' ∧ HRel ρ B W f h' w' ∧ w'.heap.size = w.heap.size := by
  intro l
  induction l with
  | nil =>
    intro k h h' w cs hr hl hs
    have : cs = [] := by have := hl.1; simpa using this
    subst this
    simp only [aSetN] at hs
    cases hs
    exact ⟨w, rfl, hr, rfl⟩
  | cons v l ih =>
    intro k h h' w cs hr hl hs
    simp only [aSetN] at hs
    split at hs
    · cases hs
    · rename_i h1 he
      cases cs with
      | nil => have := hl.1; simp at this
      | cons v' cs =>
        have hv : VRel ρ f v v' := hl.2 0 v v' (by simp) (by simp)
        obtain ⟨a, b⟩ := aSet_ok hr hf hv he
        have hl' : LRel ρ f l cs.toArray := ⟨by have := hl.1; simp at this ⊢; exact this, fun j x x' hx hx' => hl.2 (j + 1) x x' (by simpa using hx) (by simpa using hx')⟩
        obtain ⟨w', c1, c2, c3⟩ := ih (k + 1) h1 h' _ cs a hl' (by rw [← Nat.add_assoc]; exact hs)
        refine ⟨w', ?_, c2, by rw [c3]; simp [World.setCell]⟩
        have hadd : (⟨L.blk, L.base + o, none⟩ : Addr).add k = ⟨L.blk, L.base + (o + k), none⟩ := by
          unfold Addr.add; split
          · rename_i e; subst e; rfl
          · simp [Nat.add_assoc]
        simp only [storeCells, Sem.run_bind, hadd, b P, Result.andThen_ok]
        exact c1
end
end Go.Sx
