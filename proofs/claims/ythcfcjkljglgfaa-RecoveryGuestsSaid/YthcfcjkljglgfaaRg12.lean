/- RecoveryGuests: the arguments opened. No condition. -/
import Derived.Test.YthcfcjkljglgfaaRg11
import Derived.Test.YthcfcjkljglgfaaSh
set_option linter.unusedVariables false
set_option linter.unusedSimpArgs false
namespace Go.Proofs.Ythcfcjkljglgfaa
open Go Go.Sx Go.ChangeShapes Go.WideShapes Go.ChangeAt Go.RowKit
set_option maxRecDepth 1000000
noncomputable section
/-- Cells that are the same, in other words. -/
def PtEq (ρ : Env) (l' l : List AVal) : Prop := l'.length = l.length ∧ ∀ (i : Nat) (v : AVal), l'[i]? = some v → ∃ k e e', v = .int k e' ∧ l[i]? = some (.int k e) ∧ e'.ev ρ = e.ev ρ
theorem PtEq.app {ρ : Env} {a b c d : List AVal} (h : PtEq ρ a c) (k : PtEq ρ b d) : PtEq ρ (a ++ b) (c ++ d) := by
  refine ⟨by rw [List.length_append, List.length_append, h.1, k.1], fun i v hi => ?_⟩
  by_cases hl : i < a.length
  · rw [List.getElem?_append_left hl] at hi
    rw [List.getElem?_append_left (by rw [← h.1]; exact hl)]
    exact h.2 i v hi
  · rw [List.getElem?_append_right (by omega)] at hi
    rw [List.getElem?_append_right (by rw [← h.1]; omega), ← h.1]
    exact k.2 _ v hi
theorem PtEq.rel {ρ : Env} {f f' : Ren} {l l' : List AVal} {u : Value} (h : PtEq ρ l' l) (hv : VRel ρ f (.agg l) u) : VRel ρ f' (.agg l') u := by
  cases hv with
  | agg h1 h2 =>
    refine .agg (h1.trans h.1.symm) fun i v v' hi hi' => ?_
    obtain ⟨k, e, e', rfl, p2, p3⟩ := h.2 i v hi
    have q := h2 i _ v' p2 hi'
    cases q
    rw [← p3]
    exact .int k e'
theorem symCells_app : ∀ (a b : List IntKind) (off : Nat), symCells (a ++ b) off = symCells a off ++ symCells b (off + a.length)
  | [], _, _ => rfl
  | k :: a, b, off => by
    show _ :: symCells (a ++ b) (off + 1) = _ :: (symCells a (off + 1) ++ symCells b (off + (a.length + 1)))
    rw [symCells_app a b (off + 1), show off + 1 + a.length = off + (a.length + 1) by omega]
theorem symCells_at : ∀ (ks : List IntKind) (off j : Nat) (k : IntKind), ks[j]? = some k → (symCells ks off)[j]? = some (.int k (.var (off + j))) := by
  intro ks off j k hk
  have hl : j < (symCells ks off).length := by rw [symCells_length]; exact (List.getElem?_eq_some_iff.1 hk).1
  have e := List.getElem?_eq_getElem hl
  obtain ⟨k2, h3, h4⟩ := symCells_get ks off j _ e
  rw [hk] at h3
  cases h3
  rw [e, h4]
theorem rowCells_length (x : IE) : ∀ (ks : List IntKind) (j : Nat), (rowCells x ks j).length = ks.length
  | [], _ => rfl
  | _ :: ks, j => by
    show (rowCells x ks (j + 1)).length + 1 = ks.length + 1
    rw [rowCells_length x ks (j + 1)]
theorem rowCells_get (x : IE) : ∀ (ks : List IntKind) (j i : Nat) (v : AVal), (rowCells x ks j)[i]? = some v → ∃ k, ks[i]? = some k ∧ v = .int k (.wrap k (.fn 0 x (.lit (.ofNat (j + i))) (.lit 0)))
  | [], _, _, _, h => by simp [rowCells] at h
  | k :: ks, j, 0, v, h => by
    have h : some (AVal.int k (.wrap k (.fn 0 x (.lit (.ofNat j)) (.lit 0)))) = some v := h
    cases h
    exact ⟨k, rfl, rfl⟩
  | k :: ks, j, i + 1, v, h => by
    have h : (rowCells x ks (j + 1))[i]? = some v := h
    obtain ⟨k', h1, h2⟩ := rowCells_get x ks (j + 1) i v h
    exact ⟨k', h1, by rw [h2, show j + 1 + i = j + (i + 1) by omega]⟩
def rowI (I : Nat → Int) (off n : Nat) : Int := (rowOf ((List.range n).map fun j => I (off + j)) : Nat)
theorem ptRows {ρ : Env} {I : Nat → Int} {v off : Nat} {ks : List IntKind} (hx : ρ.i v = rowI I off ks.length) (hb : ∀ (t : Nat) (k : IntKind), ks[t]? = some k → kLo k ≤ I (off + t) ∧ I (off + t) ≤ kHi k) (hI : ∀ t, t < ks.length → ρ.i (off + t) = I (off + t)) : PtEq ρ (rowCells (.var v) ks 0) (symCells ks off) := by
  refine ⟨by rw [rowCells_length, symCells_length], fun i w hw => ?_⟩
  obtain ⟨k, h1, rfl⟩ := rowCells_get _ ks 0 i w hw
  have hlt := (List.getElem?_eq_some_iff.1 h1).1
  obtain ⟨b1, b2⟩ := hb i k h1
  refine ⟨k, _, _, rfl, symCells_at ks off i k h1, ?_⟩
  show k.wrap (rowGet (ρ.i v) ((0 + i : Nat) : Int)) = ρ.i (off + i)
  rw [hI i hlt, hx, Nat.zero_add, rowI, rowGet_of _ i (I (off + i)) (by rw [List.getElem?_map, List.getElem?_range hlt]; rfl)]
  · exact wrap_id k _ b1 b2
  · unfold inRow
    cases k <;> simp only [kLo, kHi] at b1 b2 <;> omega
def bigK : List IntKind := .i64 :: (stKinds ++ ([.i64, .i64, .i64, .u32, .u32, .i64] ++ (List.replicate 28 .u32 ++ List.replicate 64 .u32)))
def pqsG : List PQ := [.sl [.i64] false 70368744177664, .agg [.i64, .i64, .i64], .agg bigK]
def iG (I : Nat → Int) (j : Nat) : Int := if j < 128 then I j else if j = 200 then rowI I 6 24 else if j = 201 then rowI I 36 28 else rowI I 64 64
def EG (G : Nat → Int → Int → Int → Int) (I : Nat → Int) : Env := { i := iG I, b := fun _ => false, g := G, gh := gh0 }
theorem EG_low {G : Nat → Int → Int → Int → Int} {I : Nat → Int} (i : Nat) (hi : i < 128) : (EG G I).i i = I i := if_pos hi
def kinded (off : Nat) (ks : List IntKind) : Bool := (List.range ks.length).all fun t => match ks[t]?, pqBd pqsG (off + t) with
  | some k, some (lo, hi) => intEq lo (kLo k) && intEq hi (kHi k)
  | _, _ => false
theorem kinded_ok {I : Nat → Int} {off : Nat} {ks : List IntKind} (h : kinded off ks = true) (hb : ∀ i lo hi, pqBd pqsG i = some (lo, hi) → lo ≤ I i ∧ I i ≤ hi) : ∀ (t : Nat) (k : IntKind), ks[t]? = some k → kLo k ≤ I (off + t) ∧ I (off + t) ≤ kHi k := by
  intro t k hk
  have := List.all_eq_true.1 h t (List.mem_range.2 (List.getElem?_eq_some_iff.1 hk).1)
  rw [hk] at this
  split at this
  · rename_i k' lo hi e1 e2
    cases e1
    obtain ⟨q1, q2⟩ := and_split this
    rw [← intEq_eq q1, ← intEq_eq q2]
    exact hb _ _ _ e2
  · cases this
theorem int_reG {ρ : Env} {f f' : Ren} {k : IntKind} {a b : IE} {v : Value} (h : VRel ρ f (.int k a) v) (he : b.ev ρ = a.ev ρ) : VRel ρ f' (.int k b) v := by
  cases h
  rw [← he]
  exact .int k b
theorem sl_reG {ρ : Env} {f f' : Ren} {i i' s : Nat} {a b : IE} {v : Value} (h : VRel ρ f (.sliceS i (.lit 0) a s false) v) (hf : ∀ L, f i = some L → f' i' = some L) (he : b.ev ρ = a.ev ρ) : VRel ρ f' (.sliceS i' (.lit 0) b s false) v := by
  cases h with
  | sliceS hh h0 hl hc =>
    have := VRel.sliceS (ρ := ρ) (f := f') (i := i') (s := s) (st := .lit 0) (len := b) (nn := false) (hf _ hh) h0 (by rw [he]; exact hl) (by rw [he]; exact hc)
    rw [he] at this
    exact this
  | sliceZ hl ha => exact .sliceZ (by rw [he]; exact hl) ha
def bigP1 : List AVal := [uV .i64 5]
theorem ptVars {ρ : Env} {l : List AVal} (h : l.all (fun v => match v with | .int _ _ => true | _ => false) = true) : PtEq ρ l l := by
  refine ⟨rfl, fun i v hv => ?_⟩
  have := List.all_eq_true.1 h v (List.mem_of_getElem? hv)
  cases v with
  | int k e => exact ⟨k, e, e, rfl, hv, rfl⟩
  | _ => cases this
theorem big_pt {G : Nat → Int → Int → Int → Int} {I : Nat → Int} (hb : ∀ i lo hi, pqBd pqsG i = some (lo, hi) → lo ≤ I i ∧ I i ≤ hi) : PtEq (EG G I) ([uV .i64 5] ++ (rowCells (.var 200) stKinds 0 ++ ([uV .i64 30, uV .i64 31, uV .i64 32, uV .u32 33, uV .u32 34, uV .i64 35] ++ (rowCells (.var 201) (List.replicate 28 .u32) 0 ++ rowCells (.var 202) (List.replicate 64 .u32) 0)))) (symCells bigK 5) := by
  have e : symCells bigK 5 = [uV .i64 5] ++ (symCells stKinds 6 ++ ([uV .i64 30, uV .i64 31, uV .i64 32, uV .u32 33, uV .u32 34, uV .i64 35] ++ (symCells (List.replicate 28 .u32) 36 ++ symCells (List.replicate 64 .u32) 64))) := by
    rfl
  rw [e]
  refine (ptVars rfl).app ((ptRows (I := I) rfl (kinded_ok (by kernel_rfl) hb) fun t ht => EG_low _ (by have : stKinds.length = 24 := rfl; omega)).app ((ptVars rfl).app ((ptRows (I := I) rfl (kinded_ok (by kernel_rfl) hb) fun t ht => EG_low _ (by rw [List.length_replicate] at ht; omega)).app (ptRows (I := I) rfl (kinded_ok (by kernel_rfl) hb) fun t ht => EG_low _ (by rw [List.length_replicate] at ht; omega)))))
def fG (f : Ren) : Ren := fun j => match j with
  | 0 => f 0
  | _ => none
theorem guests_walk {G : Nat → Int → Int → Int → Int} (h : cLawG.Ok PR G gh0) {H : Type} {enc : TypeId × Value → H} {W : World} {base : Nat} {args : Array Value} {ds : List (DataW H)} {mp : List MemPlace} {ts : List TypeId} (hts : pqsOk PR ts pqsG = true) (hl : args.size = 3)
    (hv : ∀ (j : Nat) t v, ts[j]? = some t → args[j]? = some v → Value.okWide PR W .any base t v) (ht : DataW.TrodAll enc PR W 0 (fun _ => true) true ts args.toList ds mp) (hlen : ∀ a (n c : Nat), args[0]? = some (.slice a n c) → (n : Int) ≤ 70368744177664) :
    Calls PR 4 args W fun e w' => e = .returned (.bool true) ∧ Below W.heap.size W w' := by
  obtain ⟨I, hI⟩ := open_law (W := W) (base := base) hts (fun j p v hp hj => by
    match j, hp with
    | 0, hp =>
      have hp : some (PQ.sl [.i64] false 70368744177664) = some p := hp
      cases hp
      exact ⟨fun h => (by cases h), by decide, fun a n c e => hlen a n c (by rw [← e]; exact hj)⟩
    | 1, hp =>
      have hp : some (PQ.agg [.i64, .i64, .i64]) = some p := hp
      cases hp
      exact True.intro
    | 2, hp =>
      have hp : some (PQ.agg bigK) = some p := hp
      cases hp
      exact True.intro) hv ht
  have hw : pqWide pqsG = 128 := by rfl
  obtain ⟨hb', f, hr, ha, hn⟩ := hI (EG G I) (fun i hi => EG_low i (by rw [← hw]; exact hi))
  have hin : ∀ i, i < 128 → (EG G I).i i = I i := EG_low
  have hb : ∀ i lo hi, pqBd pqsG i = some (lo, hi) → lo ≤ I i ∧ I i ≤ hi := fun i lo hi hx => by
    have hlt : i < 128 := by
      unfold pqBd at hx
      split at hx
      · rename_i b e
        rcases treeOf_ok _ _ _ _ _ e with ⟨_, q⟩ | q
        · have := (List.getElem?_eq_some_iff.1 q).1
          have hl : (pqBds pqsG).length = 128 := by kernel_rfl
          omega
        · rw [T.get_nil] at q
          cases q
      · cases hx
    have := hb' i lo hi hx
    rw [hin i hlt] at this
    exact this
  have bd : ∀ i lo hi, (i, lo, hi) ∈ lgB → pqBd pqsG i = some (lo, hi) ∧ i < 128 := fun i lo hi hx => by
    simp only [lgB, i64B, u32B, List.mem_cons, Prod.mk.injEq, List.not_mem_nil, or_false] at hx
    rcases hx with ⟨rfl, rfl, rfl⟩ | ⟨rfl, rfl, rfl⟩ | ⟨rfl, rfl, rfl⟩ | ⟨rfl, rfl, rfl⟩ | ⟨rfl, rfl, rfl⟩ | ⟨rfl, rfl, rfl⟩ | ⟨rfl, rfl, rfl⟩ | ⟨rfl, rfl, rfl⟩ | ⟨rfl, rfl, rfl⟩ | ⟨rfl, rfl, rfl⟩ | ⟨rfl, rfl, rfl⟩ <;> exact ⟨by kernel_rfl, by decide⟩
  have hbd : (EG G I).ok (bdL lgB) := bdL_ok fun i lo hi hx => by
    obtain ⟨q1, q2⟩ := bd i lo hi hx
    rw [hin i q2]
    exact hb i lo hi q1
  have hr' : HRel (EG G I) (· < W.heap.size) W (fG f) (treeOf [numO'] 0 .nil) W := by
    refine ⟨hr.below, hr.bsize, fun i L hi => ?_, fun i j Li Lj oi oj hi hj gi gj hij hown => ?_, fun i L o hi ho => ?_⟩
    · match i, hi with
      | 0, hi => exact hr.lt 0 L hi
    · match i, hi, gi with
      | 0, _, gi =>
        have gi : some numO' = some oi := gi
        cases gi
        cases hown
    · match i, hi, ho with
      | 0, hi, ho =>
        have ho : some numO' = some o := ho
        cases ho
        exact hr.obj 0 L (.arr [.i64] (.var 0) (.var 1) false) hi (by rfl)
  have ha' : LRel (EG G I) (fG f) cLawG.args args := by
    refine ⟨hl, fun i x v hx hv' => ?_⟩
    match i, hx with
    | 0, hx =>
      have hx : some (AVal.sliceS 0 (.lit 0) (.var 1) 1 false) = some x := hx
      cases hx
      exact sl_reG (ha.2 0 _ v rfl hv') (fun L e => e) rfl
    | 1, hx =>
      have hx : some (AVal.agg [uV .i64 2, uV .i64 3, uV .i64 4]) = some x := hx
      cases hx
      exact PtEq.rel (ptVars rfl) (show VRel (EG G I) f (.agg [uV .i64 2, uV .i64 3, uV .i64 4]) v from ha.2 1 _ v rfl hv')
    | 2, hx =>
      have hx : some bigV = some x := hx
      cases hx
      exact PtEq.rel (big_pt hb) (show VRel (EG G I) f (.agg (symCells bigK 5)) v from ha.2 2 _ v rfl hv')
  refine Calls.mono (h (EG G I) ⟨rfl, rfl⟩ hbd (fun p hp => by cases hp) (· < W.heap.size) W (fG f) W args hr' ha' (fun j hj => ?_)) fun e w' ⟨v, he, f', _, _, hh, hv'⟩ => ?_
  · match j, hj with
    | j + 1, _ => rfl
  · refine ⟨?_, ⟨hh.below.os, hh.below.tape, hh.below.output, hh.below.size, hh.below.block⟩⟩
    have := VRel.bool_eq hv'
    rw [he, this]
end
end Go.Proofs.Ythcfcjkljglgfaa
