/- A paged memory (mem.Mem of the program) as one thing: its content as a row of integers; opened at a page, and shut. No condition. -/
import Derived.Test.YtpoianhfjgjajaaGreatSxL
set_option linter.unusedSimpArgs false
set_option linter.unusedVariables false
namespace Go.Sx
open Go.RowKit (Below)
noncomputable section

/-! the row of a memory: 4a the content's byte a, 4a+1 the image's, 4p+2 the rights of page p, 3 the number of pages, 7 whether it is coherent -/
def mN (M : Int) : Int := rowGet M (3 : Nat)
def mCoh (M : Int) : Bool := decide (rowGet M (7 : Nat) = 1)
def mD (M : Int) (a : Nat) : Int := rowGet M (4 * a : Nat)
def mC (M : Int) (a : Nat) : Int := rowGet M (4 * a + 1 : Nat)
def mR (M : Int) (p : Nat) : Int := rowGet M (4 * p + 2 : Nat)
def pgD (M : Int) (p : Nat) : Int := (rowOf ((List.range 256).map fun j => mD M (256 * p + j)) : Nat)
def pgC (M : Int) (p : Nat) : Int := (rowOf ((List.range 256).map fun j => mC M (256 * p + j)) : Nat)
def isByte (v : Int) : Prop := 0 ≤ v ∧ v ≤ 255
theorem pgD_get {M : Int} {p j : Nat} (hj : j < 256) (h : isByte (mD M (256 * p + j))) : rowGet (pgD M p) j = mD M (256 * p + j) :=
  rowGet_of _ j _ (by simp [hj]) (by unfold inRow; obtain ⟨h1, h2⟩ := h; omega)
theorem pgC_get {M : Int} {p j : Nat} (hj : j < 256) (h : isByte (mC M (256 * p + j))) : rowGet (pgC M p) j = mC M (256 * p + j) :=
  rowGet_of _ j _ (by simp [hj]) (by unfold inRow; obtain ⟨h1, h2⟩ := h; omega)

def pageIs (w : World) (b o : Nat) (D : Nat → Int) : Prop := ∃ cs el fr, w.heap[b]? = some (.cells cs el fr) ∧ (∀ j, j < cs.size → ¬ (fr.1 ≤ j ∧ j < fr.2)) ∧ ∀ j, j < 256 → cs[o + j]? = some (.int .u8 (D j)) ∧ isByte (D j)
/-- Where the pages lie. -/
structure Pages where
  sb : Nat
  dp : Nat → Nat
  db : Nat → Nat
  cp : Nat → Nat
  cb : Nat → Nat
  od : Nat → Bool
  oc : Nat → Bool
structure MemIs (el sl : TypeId) (M : Int) (w : World) (g : Nat) (P : Pages) : Prop where
  nle : 0 ≤ mN M ∧ mN M ≤ 4096
  head : ∃ cs fr cap, w.heap[g]? = some (.cells cs el fr) ∧ cs[0]? = some (.slice (some ⟨P.sb, 0, none⟩) (mN M).toNat cap) ∧ (mN M).toNat ≤ cap ∧ cs[1]? = some (.bool (mCoh M))
  slots : ∃ cs fr, w.heap[P.sb]? = some (.cells cs sl fr) ∧ (∀ j, j < cs.size → ¬ (fr.1 ≤ j ∧ j < fr.2)) ∧ ∀ p, p < (mN M).toNat →
    cs[p * 7]? = some (.pointer (some ⟨P.dp p, P.db p, none⟩)) ∧ cs[p * 7 + 1]? = some (.pointer (match mCoh M with | true => none | false => some ⟨P.cp p, P.cb p, none⟩)) ∧
    cs[p * 7 + 2]? = some (.bool (P.od p)) ∧ cs[p * 7 + 3]? = some (.bool (P.oc p)) ∧ cs[p * 7 + 6]? = some (.int .i64 (mR M p)) ∧ 0 ≤ mR M p ∧ mR M p ≤ 7
  data : ∀ p, p < (mN M).toNat → pageIs w (P.dp p) (P.db p) fun j => mD M (256 * p + j)
  code : mCoh M = false → ∀ p, p < (mN M).toNat → pageIs w (P.cp p) (P.cb p) fun j => mC M (256 * p + j)
  gs : g ≠ P.sb
  gd : ∀ p, p < (mN M).toNat → P.dp p ≠ g ∧ P.dp p ≠ P.sb
  gc : mCoh M = false → ∀ p, p < (mN M).toNat → P.cp p ≠ g ∧ P.cp p ≠ P.sb
  exD : ∀ p, p < (mN M).toNat → P.od p = true → (∀ q, q < (mN M).toNat → q ≠ p → P.dp q ≠ P.dp p) ∧ (mCoh M = false → ∀ q, q < (mN M).toNat → P.cp q ≠ P.dp p)
  exC : mCoh M = false → ∀ p, p < (mN M).toNat → P.oc p = true → (∀ q, q < (mN M).toNat → q ≠ p → P.cp q ≠ P.cp p) ∧ ∀ q, q < (mN M).toNat → P.dp q ≠ P.cp p
def inMem (M : Int) (g : Nat) (P : Pages) (b : Nat) : Prop := b = g ∨ b = P.sb ∨ (∃ p, p < (mN M).toNat ∧ b = P.dp p) ∨ (mCoh M = false ∧ ∃ p, p < (mN M).toNat ∧ b = P.cp p)
section
variable {el sl : TypeId} {M M' : Int} {w w' : World} {g : Nat} {P P' : Pages}
theorem MemIs.inb (h : MemIs el sl M w g P) {b : Nat} (hb : inMem M g P b) : b < w.heap.size := by
  have lt : ∀ {b : Nat} {O : Obj}, w.heap[b]? = some O → b < w.heap.size := fun h => (Array.getElem?_eq_some_iff.1 h).1
  rcases hb with rfl | rfl | ⟨p, hp, rfl⟩ | ⟨hc, p, hp, rfl⟩
  · obtain ⟨_, _, _, h1, _⟩ := h.head; exact lt h1
  · obtain ⟨_, _, h1, _⟩ := h.slots; exact lt h1
  · obtain ⟨_, _, _, h1, _⟩ := h.data p hp; exact lt h1
  · obtain ⟨_, _, _, h1, _⟩ := h.code hc p hp; exact lt h1
theorem pageIs.keep {b o : Nat} {D : Nat → Int} (h : pageIs w b o D) (he : w'.heap[b]? = w.heap[b]?) : pageIs w' b o D := by
  obtain ⟨cs, el, fr, h1, h2⟩ := h
  exact ⟨cs, el, fr, he.trans h1, h2⟩
theorem MemIs.keep (h : MemIs el sl M w g P) (he : ∀ b, inMem M g P b → w'.heap[b]? = w.heap[b]?) : MemIs el sl M w' g P := by
  refine ⟨h.nle, ?_, ?_, fun p hp => (h.data p hp).keep (he _ (.inr (.inr (.inl ⟨p, hp, rfl⟩)))), fun hc p hp => (h.code hc p hp).keep (he _ (.inr (.inr (.inr ⟨hc, p, hp, rfl⟩)))), h.gs, h.gd, h.gc, h.exD, h.exC⟩
  · obtain ⟨cs, fr, cap, h1, h2⟩ := h.head
    exact ⟨cs, fr, cap, (he g (.inl rfl)).trans h1, h2⟩
  · obtain ⟨cs, fr, h1, h2⟩ := h.slots
    exact ⟨cs, fr, (he P.sb (.inr (.inl rfl))).trans h1, h2⟩
/-- Where it lies does not depend on how one looks. -/
theorem MemIs.same (h : MemIs el sl M w g P) (k : MemIs el sl M' w g P') {b : Nat} (hb : inMem M' g P' b) : inMem M g P b := by
  obtain ⟨cs, fr, cap, h1, h2, _, h3⟩ := h.head
  obtain ⟨cs', fr', cap', k1, k2, _, k3⟩ := k.head
  rw [h1] at k1
  cases k1
  rw [h2] at k2
  simp only [Option.some.injEq, Value.slice.injEq, Addr.mk.injEq] at k2
  obtain ⟨⟨esb, _⟩, en, _⟩ := k2
  rw [h3] at k3
  simp only [Option.some.injEq, Value.bool.injEq] at k3
  obtain ⟨ss, sf, s1, _, s2⟩ := h.slots
  obtain ⟨ss', sf', t1, _, t2⟩ := k.slots
  rw [← esb, s1] at t1
  cases t1
  rcases hb with rfl | rfl | ⟨p, hp, rfl⟩ | ⟨hc, p, hp, rfl⟩
  · exact .inl rfl
  · exact .inr (.inl esb.symm)
  · rw [← en] at hp
    have a := (s2 p hp).1
    have b := (t2 p (by rw [← en]; exact hp)).1
    rw [a] at b
    simp only [Option.some.injEq, Value.pointer.injEq, Addr.mk.injEq] at b
    exact .inr (.inr (.inl ⟨p, hp, b.1.symm⟩))
  · rw [← en] at hp
    have hc0 : mCoh M = false := by rw [k3]; exact hc
    have a := (s2 p hp).2.1
    have b := (t2 p (by rw [← en]; exact hp)).2.1
    rw [a, hc0, hc] at b
    simp only [Option.some.injEq, Value.pointer.injEq, Addr.mk.injEq] at b
    exact .inr (.inr (.inr ⟨hc0, p, hp, b.1.symm⟩))
end
def memGhost (el sl : TypeId) : Ghost where
  rel vs w g := ∃ M P, vs = [M] ∧ MemIs el sl M w g P
  foot w g b := ∃ M P, MemIs el sl M w g P ∧ inMem M g P b
  hd := 2
  self := fun ⟨M, P, _, h⟩ => ⟨M, P, h, .inl rfl⟩
  inb := fun _ ⟨M, P, h, hb⟩ => h.inb hb
  frame := fun ⟨M, P, e, h⟩ hs he => by
    have h' := h.keep fun b hb => he b ⟨M, P, h, hb⟩
    exact ⟨⟨M, P, e, h'⟩, fun b ⟨M', P', k, hb⟩ => ⟨M, P, h, h'.same k hb⟩⟩
  stay := by
    intro vs w g cs e fr j v ⟨M, P, ev, h⟩ hg hj
    have other : ∀ b, b ≠ g → (w.setCell ⟨g, j, none⟩ v).heap[b]? = w.heap[b]? := fun b hb => Below.heap_setCell _ _ _ _ hb
    have h' : MemIs el sl M (w.setCell ⟨g, j, none⟩ v) g P := by
      refine ⟨h.nle, ?_, ?_, fun p hp => (h.data p hp).keep (other _ (h.gd p hp).1), fun hc p hp => (h.code hc p hp).keep (other _ (h.gc hc p hp).1), h.gs, h.gd, h.gc, h.exD, h.exC⟩
      · obtain ⟨cs', fr', cap, h1, h2, h3, h4⟩ := h.head
        rw [h1] at hg
        cases hg
        refine ⟨_, fr, cap, heap_setCell_at w g j cs _ fr v h1, ?_, h3, ?_⟩
        · rw [Array.getElem?_setIfInBounds_ne (by omega)]; exact h2
        · rw [Array.getElem?_setIfInBounds_ne (by omega)]; exact h4
      · obtain ⟨cs', fr', h1, h2⟩ := h.slots
        exact ⟨cs', fr', (other _ (Ne.symm h.gs)).trans h1, h2⟩
    exact ⟨⟨M, P, ev, h'⟩, fun b ⟨M', P', k, hb⟩ => ⟨M, P, h, h'.same k hb⟩⟩

/-! environments that differ in nothing that is reckoned -/
theorem IE.ev_sn (ρ : Env) (a : Array Value) (e : IE) : e.ev { ρ with sn := a } = e.ev ρ := by
  induction e with
  | lit n => rfl
  | var i => rfl
  | add a b iha ihb => simp only [IE.ev, iha, ihb]
  | sub a b iha ihb => simp only [IE.ev, iha, ihb]
  | mul a b iha ihb => simp only [IE.ev, iha, ihb]
  | wrap k a iha => simp only [IE.ev, iha]
  | bits op k a b iha ihb => simp only [IE.ev, iha, ihb]
  | quo a b iha ihb => simp only [IE.ev, iha, ihb]
  | rem a b iha ihb => simp only [IE.ev, iha, ihb]
  | shl k a b iha ihb => simp only [IE.ev, iha, ihb]
  | shr k a b iha ihb => simp only [IE.ev, iha, ihb]
  | fn c x y z ihx ihy ihz => simp only [IE.ev, ihx, ihy, ihz]; rfl
  | sel s a b x y iha ihb ihx ihy => simp only [IE.ev, iha, ihb, ihx, ihy]
theorem BE.ev_sn (ρ : Env) (a : Array Value) (e : BE) : e.ev { ρ with sn := a } = e.ev ρ := by
  induction e with
  | lit n => rfl
  | var i => rfl
  | eq a b => simp only [BE.ev, IE.ev_sn]
  | lt a b => simp only [BE.ev, IE.ev_sn]
  | not a ih => simp only [BE.ev, ih]
theorem VRel.env {ρ ρ' : Env} (he : ∀ e : IE, e.ev ρ = e.ev ρ') (hb : ∀ e : BE, e.ev ρ = e.ev ρ') {f : Ren} {v : AVal} {x : Value} (h : VRel ρ f v x) : VRel ρ' f v x := by
  induction h with
  | bool b => rw [hb]; exact .bool b
  | int k e => rw [he]; exact .int k e
  | str hs =>
    refine .str ?_
    unfold SRel at hs ⊢
    rw [hs]
    exact List.map_congr_left fun e _ => he e
  | nilPtr => exact .nilPtr
  | ptr hh => exact .ptr hh
  | nilSlice => exact .nilSlice
  | slice hh => exact .slice hh
  | sliceG hh hn hc hs => exact .sliceG hh hn hc hs
  | sliceE hh hg hs => exact .sliceE hh hg hs
  | nilMap => exact .nilMap
  | map hh => exact .map hh
  | func ha hb _ _ iha ihb => exact .func ha hb iha ihb
  | nilFunc => exact .nilFunc
  | iface _ ih => exact .iface ih
  | nilIface => exact .nilIface
  | agg ha _ ih => exact .agg ha ih
  | tuple ha _ ih => exact .tuple ha ih
  | ptrE hh h0 => rw [he] at h0 ⊢; exact .ptrE hh h0
  | sliceS hh h0 hl hc => rw [he] at h0 hl hc ⊢; rw [he]; exact .sliceS hh h0 hl hc
  | sliceZ hl ha => rw [he] at hl; exact .sliceZ hl ha
  | sliceA hh hl hc hs => rw [he] at hl hc ⊢; exact .sliceA hh hl hc hs
  | sliceN hl => rw [he] at hl; exact .sliceN hl
  | strS hl hs => exact .strS (by rw [← he]; exact hl) (fun j b hj => by rw [← he]; exact hs j b hj)
theorem LRel.env {ρ ρ' : Env} (he : ∀ e : IE, e.ev ρ = e.ev ρ') (hb : ∀ e : BE, e.ev ρ = e.ev ρ') {f : Ren} {l : List AVal} {x : Array Value} (h : LRel ρ f l x) : LRel ρ' f l x :=
  ⟨h.1, fun i v v' h1 h2 => (h.2 i v v' h1 h2).env he hb⟩

/-! the memory opened at a page -/
def head0 (coh : Bool) : T AVal := (T.nil.set 0 (.sliceS 1 (.lit 0) (.fn 0 (.var 0) (.lit 3) (.lit 0)) 7 true)).set 1 (.bool (.lit coh))
def codePtr (coh : Bool) (j : Nat) : AVal :=
  match coh with
  | true => .ptr none
  | false => .ptr (some (j, 0))
def slotCells (i j : Nat) (coh od oc : Bool) (R : IE) : T AVal :=
  ((((T.nil.set 0 (.ptr (some (i, 0)))).set 1 (codePtr coh j)).set 2 (.bool (.lit od))).set 3 (.bool (.lit oc))).set 6 (.int .i64 R)
def rE (pe : IE) : IE := .wrap .i64 (.fn 0 (.var 0) (.add (.mul pe (.lit 4)) (.lit 2)) (.lit 0))
def codeArr (coh oc : Bool) (x : IE) : List AObj :=
  match coh with
  | true => []
  | false => [.arr [.u8] x (.lit 256) oc]
def openOs (el sl : TypeId) (coh od oc : Bool) (pe : IE) : List AObj :=
  .cells (head0 coh) el false 2 :: .win pe 7 (slotCells 2 3 coh od oc (rE pe)) sl true :: .arr [.u8] (.fn 10 (.var 0) pe (.lit 0)) (.lit 256) od :: codeArr coh oc (.fn 11 (.var 0) pe (.lit 0))
structure memOk (M : Int) : Prop where
  n : 0 ≤ mN M ∧ mN M ≤ 4096
  d : ∀ p j, p < (mN M).toNat → j < 256 → isByte (mD M (256 * p + j))
  c : mCoh M = false → ∀ p j, p < (mN M).toNat → j < 256 → isByte (mC M (256 * p + j))
  r : ∀ p, p < (mN M).toNat → 0 ≤ mR M p ∧ mR M p ≤ 7
theorem MemIs.ok {el sl : TypeId} {M : Int} {w : World} {g : Nat} {P : Pages} (h : MemIs el sl M w g P) : memOk M := by
  refine ⟨h.nle, fun p j hp hj => ?_, fun hc p j hp hj => ?_, fun p hp => ?_⟩
  · obtain ⟨_, _, _, _, _, h2⟩ := h.data p hp
    exact (h2 j hj).2
  · obtain ⟨_, _, _, _, _, h2⟩ := h.code hc p hp
    exact (h2 j hj).2
  · obtain ⟨_, _, _, _, h2⟩ := h.slots
    exact (h2 p hp).2.2.2.2.2
theorem rE_ev {ρ : Env} {pe : IE} {p : Nat} (hp : pe.ev ρ = p) (h : 0 ≤ mR (ρ.i 0) p ∧ mR (ρ.i 0) p ≤ 7) : (rE pe).ev ρ = mR (ρ.i 0) p := by
  have : ((rE pe).ev ρ) = IntKind.i64.wrap (rowGet (ρ.i 0) (pe.ev ρ * 4 + 2)) := rfl
  rw [this, hp]
  have e : ((p : Int) * 4 + 2) = ((4 * p + 2 : Nat) : Int) := by omega
  rw [e]
  obtain ⟨h1, h2⟩ := h
  exact wrap_id .i64 _ (by simp only [kLo]; unfold mR at h1; omega) (by simp only [kHi]; unfold mR at h2; omega)
/-- The content behind: alike but for the page p, which is as De, Ce and R say. -/
structure memNext (M M' : Int) (p : Nat) (De Ce R : Int) : Prop where
  n : mN M' = mN M
  coh : mCoh M' = mCoh M
  other : ∀ q j, q < (mN M).toNat → q ≠ p → j < 256 → mD M' (256 * q + j) = mD M (256 * q + j) ∧ (mCoh M = false → mC M' (256 * q + j) = mC M (256 * q + j))
  rights : ∀ q, q < (mN M).toNat → q ≠ p → mR M' q = mR M q
  d : ∀ j, j < 256 → mD M' (256 * p + j) = rowGet De j
  c : mCoh M = false → ∀ j, j < 256 → mC M' (256 * p + j) = rowGet Ce j
  r : mR M' p = R ∧ 0 ≤ R ∧ R ≤ 7
section
variable {P : Program} {G : Nat → Int → Int → Int → Int} {GH : Nat → Ghost}
theorem VRel.ptr_inv {ρ : Env} {f : Ren} {i o : Nat} {v : Value} (h : VRel ρ f (.ptr (some (i, o))) v) : ∃ L, f i = some L ∧ v = .pointer (some ⟨L.blk, L.base + o, none⟩) := by
  cases h; exact ⟨_, by assumption, rfl⟩
theorem VRel.nil_inv {ρ : Env} {f : Ren} {v : Value} (h : VRel ρ f (.ptr none) v) : v = .pointer none := by
  cases h; rfl
theorem VRel.int_inv {ρ : Env} {f : Ren} {k : IntKind} {e : IE} {v : Value} (h : VRel ρ f (.int k e) v) : v = .int k (e.ev ρ) := by
  cases h; rfl
theorem slotCells_get {i j : Nat} {coh od oc : Bool} {R : IE} : (slotCells i j coh od oc R).get 0 = some (.ptr (some (i, 0))) ∧ (slotCells i j coh od oc R).get 1 = some (codePtr coh j) ∧ (slotCells i j coh od oc R).get 2 = some (.bool (.lit od)) ∧ (slotCells i j coh od oc R).get 3 = some (.bool (.lit oc)) ∧ (slotCells i j coh od oc R).get 6 = some (.int .i64 R) := by
  unfold slotCells
  refine ⟨?_, ?_, ?_, ?_, ?_⟩
  · rw [T.get_set_ne (by decide) (by decide), T.get_set_ne (by decide) (by decide), T.get_set_ne (by decide) (by decide), T.get_set_ne (by decide) (by decide), T.get_set_same (by decide)]
  · rw [T.get_set_ne (by decide) (by decide), T.get_set_ne (by decide) (by decide), T.get_set_ne (by decide) (by decide), T.get_set_same (by decide)]
  · rw [T.get_set_ne (by decide) (by decide), T.get_set_ne (by decide) (by decide), T.get_set_same (by decide)]
  · rw [T.get_set_ne (by decide) (by decide), T.get_set_same (by decide)]
  · rw [T.get_set_same (by decide)]
theorem slotCells_inv {i j : Nat} {coh od oc : Bool} {R : IE} {k : Nat} {v : AVal} (h : (slotCells i j coh od oc R).get k = some v) : (k = 0 ∧ v = .ptr (some (i, 0))) ∨ (k = 1 ∧ v = codePtr coh j) ∨ (k = 2 ∧ v = .bool (.lit od)) ∨ (k = 3 ∧ v = .bool (.lit oc)) ∨ (k = 6 ∧ v = .int .i64 R) := by
  unfold slotCells at h
  rcases T.get_set h with ⟨e, h⟩ | ⟨_, h⟩
  · exact .inr (.inr (.inr (.inr ⟨e, h.symm⟩)))
  rcases T.get_set h with ⟨e, h⟩ | ⟨_, h⟩
  · exact .inr (.inr (.inr (.inl ⟨e, h.symm⟩)))
  rcases T.get_set h with ⟨e, h⟩ | ⟨_, h⟩
  · exact .inr (.inr (.inl ⟨e, h.symm⟩))
  rcases T.get_set h with ⟨e, h⟩ | ⟨_, h⟩
  · exact .inr (.inl ⟨e, h.symm⟩)
  rcases T.get_set h with ⟨e, h⟩ | ⟨_, h⟩
  · exact .inl ⟨e, h.symm⟩
  · rw [T.get_nil] at h; cases h
end
end
end Go.Sx
