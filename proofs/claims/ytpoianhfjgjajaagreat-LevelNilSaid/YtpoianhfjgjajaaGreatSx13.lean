/- append. No condition. -/
import Derived.Test.YtpoianhfjgjajaaGreatSx12
set_option linter.unusedSimpArgs false
set_option linter.unusedVariables false
namespace Go.Sx
open Go.RowKit (Below)
noncomputable section

def takesCells : TypeDesc → Bool
  | .slice _ | .string => true
  | _ => false
def aAppend (C : Ctx) (h : T AObj) (nx : Nat) (t xt : TypeId) (s x : AVal) : Option (AVal × T AObj × Nat) :=
  match C.und t, C.und xt with
  | some (.slice e), some xd =>
    match takesCells xd with
    | false => none
    | true =>
      match s with
      | .slice a n c g =>
        match C.size e, C.bytes e, aLenOf x, aZero C e with
        | some sz, some by_, some m, some z =>
          match aFirst h sz m x with
          | none => none
          | some l =>
            match allOne l, Nat.ble n c, Nat.ble (n + m) 1073741824, Nat.ble by_ 4096, Nat.ble 1 sz with
            | true, true, true, true, true =>
              match Nat.ble (n + m) c with
              | true =>
                match a with
                | none => some (s, h, nx)
                | some (i, o) =>
                  match aSetN i h (o + n * sz) l with
                  | some h' => some (.slice (some (i, o)) (n + m) c g, h', nx)
                  | none => none
              | false =>
                match Nat.beq l.length (m * sz), Nat.beq z.cells.length sz with
                | true, true =>
                  match g with
                  | 0 =>
                    match aFirst h sz n s with
                    | none => none
                    | some old =>
                      match Nat.beq old.length (n * sz) with
                      | false => none
                      | true => some (.slice (some (nx, 0)) (n + m) (n + m) sz, h.set nx (.cells (cellsOf (old ++ l)) e true (old ++ l).length), nx + 1)
                  | g + 1 =>
                    match a with
                    | some (i, 0) =>
                      match h.get i, Nat.beq sz (g + 1) with
                      | some (.cells c0 e' true top), true =>
                        match Nat.beq e e', Nat.beq top (n * sz) with
                        | true, true => some (.slice (some (nx, 0)) (n + m) (n + m) sz, (h.del i).set nx (.cells (treeOf l (n * sz) c0) e true (n * sz + l.length)), nx + 1)
                        | _, _ => none
                      | _, _ => none
                    | _ => none
                | _, _ => none
            | _, _, _, _, _ => none
        | _, _, _, _ => none
      | _ => none
  | _, _ => none

theorem run_storeRaw (P : Program) (b : Nat) (t : TypeId) (fr : Nat × Nat) (o : Nat) : ∀ (vs : List Value) (k : Nat) (cur : Array Value) (w : World), w.heap[b]? = some (.cells cur t fr) → o + k + vs.length ≤ cur.size →
    (∀ j, j < cur.size → ¬ (fr.1 ≤ j ∧ j < fr.2)) → (∀ v ∈ vs, v.oneCell' = true) →
    ∃ w' cur', (storeCells ⟨b, o, none⟩ vs k).run P w = .ok () w' ∧ w'.heap[b]? = some (.cells cur' t fr) ∧ cur'.size = cur.size ∧ (∀ j, cur'[j]? = if o + k ≤ j ∧ j < o + k + vs.length then vs[j - (o + k)]? else cur[j]?) ∧
      (∀ c, c ≠ b → w'.heap[c]? = w.heap[c]?) ∧ w'.heap.size = w.heap.size ∧ (w'.os = w.os ∧ w'.tape = w.tape ∧ w'.output = w.output) := by
  intro vs
  induction vs with
  | nil =>
    intro k cur w hw _ _ _
    exact ⟨w, cur, rfl, hw, rfl, fun j => by rw [if_neg (by simp only [List.length_nil]; omega)], fun _ _ => rfl, rfl, rfl, rfl, rfl⟩
  | cons v vs ih =>
    intro k cur w hw hl hfr h1
    simp only [List.length_cons] at hl
    have hlt : o + k < cur.size := by omega
    have hcell : w.cell? ⟨b, o + k, none⟩ = some cur[o + k] := by simp [World.cell?, hw, hlt]
    have hfro : w.frozen? ⟨b, o + k, none⟩ = false := by
      have := hfr (o + k) hlt
      simp only [World.frozen?, hw]
      simpa using this
    have hst : (store ⟨b, o + k, none⟩ v).run P w = .ok () (w.setCell ⟨b, o + k, none⟩ v) := by
      rw [run_store P w _ v _ (h1 v (by simp)), hcell]; simp [hfro]
    obtain ⟨w', cur', e1, e2, e3, e4, e5, e6, e7⟩ := ih (k + 1) (cur.setIfInBounds (o + k) v) (w.setCell ⟨b, o + k, none⟩ v) (heap_setCell_at w b (o + k) cur t fr v hw) (by simp; omega) (fun j hj => hfr j (by simpa using hj)) (fun u hu => h1 u (by simp [hu]))
    refine ⟨w', cur', by simp only [storeCells, Sem.run_bind, addr_add, hst, Result.andThen_ok]; exact e1, e2, by simpa using e3, fun j => ?_, fun c hc => (e5 c hc).trans (Below.heap_setCell _ _ _ _ hc), by rw [e6]; simp [World.setCell], by simpa [World.setCell] using e7⟩
    rw [e4 j]
    simp only [List.length_cons]
    by_cases hj : j = o + k
    · subst hj
      rw [if_neg (by omega), if_pos (by omega)]
      simp [hlt]
    · by_cases hj2 : o + (k + 1) ≤ j ∧ j < o + (k + 1) + vs.length
      · rw [if_pos hj2, if_pos (by omega), show j - (o + k) = (j - (o + (k + 1))) + 1 by omega]
        simp
      · rw [if_neg hj2, if_neg (by omega), Array.getElem?_setIfInBounds_ne (by omega)]

theorem LRel.append {ρ : Env} {f : Ren} {l m : List AVal} {a b : List Value} (h : LRel ρ f l a.toArray) (h' : LRel ρ f m b.toArray) : LRel ρ f (l ++ m) (a ++ b).toArray := by
  have h1 := h.1
  have h2 := h'.1
  simp at h1 h2
  refine ⟨by simp [h1, h2], fun i v v' hv hv' => ?_⟩
  have hv'' : (a ++ b)[i]? = some v' := by simpa using hv'
  by_cases hi : i < l.length
  · rw [List.getElem?_append_left hi] at hv
    rw [List.getElem?_append_left (by omega)] at hv''
    exact h.2 i v v' hv (by simpa using hv'')
  · rw [List.getElem?_append_right (by omega)] at hv
    rw [List.getElem?_append_right (by omega), h1] at hv''
    exact h'.2 _ v v' hv (by simpa using hv'')

theorem nextcap_le (need c : Nat) (h : c < need) : Builtin.nextslicecap need c ≤ 3 * need + 4000 := by
  unfold Builtin.nextslicecap
  split
  · omega
  · split
    · omega
    · simp only [Builtin.growBy]
      repeat' split
      all_goals omega

/-- In its place: the old block under a new number. -/
theorem HRel.inPlace {ρ : Env} {B : Nat → Prop} {W w w' : World} {f : Ren} {h : T AObj} (hr : HRel ρ B W f h w) {i nx : Nat} {L : Loc} {o : AObj} (hf : f i = some L) (hg : h.get i = some o) (hown : o.own = true) (hB : ¬ B L.blk) (hnx : f nx = none) {L' : Loc} (hL' : L'.blk = L.blk) {ob : AObj}
    (hfoot : ∀ b, o.foot ρ w L b ↔ b = L.blk) (hfoot' : ∀ b, ob.foot ρ w' L' b ↔ b = L'.blk)
    (ho : ORel ρ (f.put nx L') B w' L' ob) (hc : ∀ c, c ≠ L.blk → w'.heap[c]? = w.heap[c]?) (hs : w'.heap.size = w.heap.size) (hb : w'.os = w.os ∧ w'.tape = w.tape ∧ w'.output = w.output) :
    HRel ρ B W (f.put nx L') ((h.del i).set nx ob) w' := by
  have hne : nx ≠ i := fun e => by rw [e, hf] at hnx; cases hnx
  have other : ∀ j M ok, f j = some M → h.get j = some ok → j ≠ i → (∀ b, ok.foot ρ w M b → w'.heap[b]? = w.heap[b]?) ∧ ¬ ok.foot ρ w M L.blk := by
    intro j M ok hj hgj hji
    have := hr.apart i j L M o ok hf hj hg hgj (Ne.symm hji) hown L.blk ((hfoot _).2 rfl)
    exact ⟨fun b hb => hc b (fun e => this (e ▸ hb)), this⟩
  have keep := fun j M ok hj hgj hji => (hr.obj j M ok hj hgj).of_foot (Nat.le_of_eq hs.symm) (other j M ok hj hgj hji).1
  refine ⟨hr.below.trans ⟨hb.1, hb.2.1, hb.2.2, by omega, fun k hk => hc k (fun e => hB (e ▸ hk))⟩, hr.bsize, ?_, ?_, ?_⟩
  · intro j M ej
    by_cases hj : j = nx
    · subst hj; rw [Ren.put_same] at ej; cases ej; rw [hL', hs]; exact hr.lt i L hf
    · rw [Ren.put_other f L' hj] at ej; rw [hs]; exact hr.lt j M ej
  · intro a b La Lb oa ob' ha hb' hga hgb hab hao x hx hx'
    rcases T.get_set hga with ⟨ea, eo⟩ | ⟨han, hga⟩
    · subst eo
      rw [ea, Ren.put_same] at ha; cases ha
      rcases T.get_set hgb with ⟨eb, _⟩ | ⟨hbn, hgb⟩
      · exact hab (ea.trans eb.symm)
      · rw [Ren.put_other f L' hbn] at hb'
        obtain ⟨hbi, hgb⟩ := T.get_del hgb
        have e := (hfoot' x).1 hx
        rw [hL'] at e
        subst e
        exact (other b Lb ob' hb' hgb hbi).2 ((keep b Lb ob' hb' hgb hbi).2 _ hx')
    · rw [Ren.put_other f L' han] at ha
      obtain ⟨hai, hga2⟩ := T.get_del hga
      rcases T.get_set hgb with ⟨eb, eo⟩ | ⟨hbn, hgb⟩
      · subst eo
        rw [eb, Ren.put_same] at hb'; cases hb'
        have e := (hfoot' x).1 hx'
        rw [hL'] at e
        subst e
        exact (other a La oa ha hga2 hai).2 ((keep a La oa ha hga2 hai).2 _ hx)
      · rw [Ren.put_other f L' hbn] at hb'
        obtain ⟨hbi, hgb⟩ := T.get_del hgb
        exact hr.apart a b La Lb oa ob' ha hb' hga2 hgb hab hao x ((keep a La oa ha hga2 hai).2 x hx) ((keep b Lb ob' hb' hgb hbi).2 x hx')
  · intro j M ok hj hgj
    rcases T.get_set hgj with ⟨rfl, rfl⟩ | ⟨hjn, hgj⟩
    · rw [Ren.put_same] at hj; cases hj; exact ho
    · rw [Ren.put_other f L' hjn] at hj
      obtain ⟨hji, hgj⟩ := T.get_del hgj
      exact (keep j M ok hj hgj hji).1.mono (Ren.le_put L' hnx)

theorem Ctx.bytes_ok {C : Ctx} {P : Program} {ρ : Env} (hC : C.Ok P ρ) {e : TypeId} {n : Nat} (h : C.bytes e = some n) {it : TypeInfo} (hit : P.info? e = some it) : it.bytes = n := by
  unfold Ctx.bytes at h
  split at h
  · cases h
  · rename_i i2 hi2
    have := hC.ty _ _ hi2
    rw [hit] at this
    cases this
    cases h; rfl
/-- append where it must grow. -/
theorem append_growsG {C : Ctx} {P : Program} {ρ : Env} (hC : C.Ok P ρ) {w : World} {t xt ty e : TypeId} {xd : TypeDesc} (ht : P.underlying t = some (.slice e)) (hxt : P.underlying xt = some xd) (hxd : takesCells xd = true)
    {sz by_ n m c' : Nat} (hsz : C.size e = some sz) (hby : C.bytes e = some by_) {z : Value} {it : TypeInfo} (hit : P.info? e = some it) (hz : it.zero = some z) {base : Option Addr} {x' : Value} (hm : (Builtin.lenOf x').run P w = .ok m w)
    {old new : List Value} (h1 : ∀ d, (Builtin.firstCells sz n (.slice base n c')).run P { w with drawn := d } = .ok old.toArray { w with drawn := d }) (h2 : ∀ d, (Builtin.firstCells sz m x').run P { w with drawn := d } = .ok new.toArray { w with drawn := d })
    (hnm : ¬ ((n + m : Nat) : Int) > IntKind.i64.max) (hbig0 : ¬ Builtin.nextslicecap (n + m) c' * by_ > 2 ^ 48) (hgt : ¬ n + m ≤ c') (ts : Array TypeId) (xs : Array Value) (hts0 : ts[0]? = some t) (hts1 : ts[1]? = some xt) (hx0 : xs[0]? = some (.slice base n c')) (hx1 : xs[1]? = some x') :
    ∃ newCap, n + m ≤ newCap ∧ (Builtin.append_ ts ty xs).run P w = .ok (.slice (some ⟨w.heap.size, 0, none⟩) (n + m) newCap)
      { w with drawn := w.drawn + 1, heap := w.heap.push (.cells (old.toArray ++ new.toArray ++ Builtin.zeroCells z.cells (newCap - (n + m))) e) } := by
  have hbytes := Ctx.bytes_ok hC hby hit
  obtain ⟨newCap, hcap, hle⟩ : ∃ cap, (choose (.appendCap (n + m) c' e)).run P w = .ok cap { w with drawn := w.drawn + 1 } ∧ n + m ≤ cap := by
    refine ⟨_, by rw [run_choose]; simp only [Question.forced, Bool.false_eq_true, if_false]; rfl, ?_⟩
    simp only [Question.cut]
    omega
  refine ⟨newCap, hle, ?_⟩
  have hbig : ¬ Builtin.nextslicecap (n + m) c' * it.bytes > 2 ^ 48 := by rw [hbytes]; exact hbig0
  have hti : ∀ w', (typeInfo e).run P w' = .ok it w' := fun w' => by simp [typeInfo, hit]
  have hzr : ∀ w', (zeroValue e).run P w' = .ok z w' := fun w' => by simp [zeroValue, typeInfo, hit, hz]
  have hcond : ¬ (((n + m : Nat) : Int) > IntKind.i64.max ∧ (false = true ∨ it.bytes = 0)) := fun h => hnm h.1
  have h1' := h1 (w.drawn + 1)
  have h2' := h2 (w.drawn + 1)
  unfold Builtin.append_
  simp only [hts0, hts1, hx0, hx1, Sem.run_bind, run_underlying ht, run_underlying hxt, Result.andThen_ok, Sem.run_pure, Ctx.size_ok hC hsz]
  cases xd <;> first
    | (exfalso; cases hxd; done)
    | (simp only [Sem.run_bind, hm, Result.andThen_ok, Sem.run_pure, Sem.run_ite, Bool.false_eq_true, if_false, if_neg hgt, hti, if_neg hcond, if_neg hbig, hcap, run_askRoom, h1', h2', Bool.not_false, if_true, hzr, run_newRow]
       exact if_neg (fun h => hnm h.1))

/-- append where it must grow. -/
theorem append_grows {C : Ctx} {P : Program} {ρ : Env} (hC : C.Ok P ρ) {w : World} {t xt ty e : TypeId} {xd : TypeDesc} (ht : P.underlying t = some (.slice e)) (hxt : P.underlying xt = some xd) (hxd : takesCells xd = true)
    {sz by_ n m c' : Nat} (hsz : C.size e = some sz) (hby : C.bytes e = some by_) {z : Value} {it : TypeInfo} (hit : P.info? e = some it) (hz : it.zero = some z) {base : Option Addr} {x' : Value} (hm : (Builtin.lenOf x').run P w = .ok m w)
    {old new : List Value} (h1 : ∀ d, (Builtin.firstCells sz n (.slice base n c')).run P { w with drawn := d } = .ok old.toArray { w with drawn := d }) (h2 : ∀ d, (Builtin.firstCells sz m x').run P { w with drawn := d } = .ok new.toArray { w with drawn := d })
    (hneed : n + m ≤ 1073741824) (hby4 : by_ ≤ 4096) (hgt : ¬ n + m ≤ c') (ts : Array TypeId) (xs : Array Value) (hts0 : ts[0]? = some t) (hts1 : ts[1]? = some xt) (hx0 : xs[0]? = some (.slice base n c')) (hx1 : xs[1]? = some x') :
    ∃ newCap, n + m ≤ newCap ∧ (Builtin.append_ ts ty xs).run P w = .ok (.slice (some ⟨w.heap.size, 0, none⟩) (n + m) newCap)
      { w with drawn := w.drawn + 1, heap := w.heap.push (.cells (old.toArray ++ new.toArray ++ Builtin.zeroCells z.cells (newCap - (n + m))) e) } := by
  have hnc := nextcap_le (n + m) c' (by omega)
  refine append_growsG hC ht hxt hxd hsz hby hit hz hm h1 h2 ?_ ?_ hgt ts xs hts0 hts1 hx0 hx1
  · have hmax : IntKind.i64.max = 9223372036854775807 := by decide
    rw [hmax]; omega
  · have : Builtin.nextslicecap (n + m) c' * by_ ≤ (3 * 1073741824 + 4000) * 4096 := Nat.mul_le_mul (by omega) hby4
    omega

/-- append where there is room. -/
theorem append_fits {C : Ctx} {P : Program} {ρ : Env} (hC : C.Ok P ρ) {w w' : World} {t xt ty e : TypeId} {xd : TypeDesc} (ht : P.underlying t = some (.slice e)) (hxt : P.underlying xt = some xd) (hxd : takesCells xd = true)
    {sz n m c' : Nat} (hsz : C.size e = some sz) {base : Option Addr} {x' : Value} (hm : (Builtin.lenOf x').run P w = .ok m w)
    {new : List Value} (h2 : (Builtin.firstCells sz m x').run P w = .ok new.toArray w) (hle : n + m ≤ c')
    (hst : ∀ a, base = some a → (storeCells (a.add (n * sz)) new).run P w = .ok () w') (hno : base = none → w' = w)
    (ts : Array TypeId) (xs : Array Value) (hts0 : ts[0]? = some t) (hts1 : ts[1]? = some xt) (hx0 : xs[0]? = some (.slice base n c')) (hx1 : xs[1]? = some x') :
    (Builtin.append_ ts ty xs).run P w = .ok (.slice base (n + m) c') w' := by
  unfold Builtin.append_
  simp only [hts0, hts1, hx0, hx1, Sem.run_bind, run_underlying ht, run_underlying hxt, Result.andThen_ok, Sem.run_pure, Ctx.size_ok hC hsz]
  cases base with
  | none =>
    obtain rfl := hno rfl
    cases xd <;> first
      | (exfalso; cases hxd; done)
      | (simp only [Sem.run_bind, hm, Result.andThen_ok, Sem.run_pure, Sem.run_ite, Bool.false_eq_true, if_false, if_pos hle, h2, Bool.not_false, if_true])
  | some a =>
    have hst' := hst a rfl
    cases xd <;> first
      | (exfalso; cases hxd; done)
      | (simp only [Sem.run_bind, hm, Result.andThen_ok, Sem.run_pure, Sem.run_ite, Bool.false_eq_true, if_false, if_pos hle, h2, Bool.not_false, if_true, hst'])

/-- The new block of an append that grows. -/
theorem HRel.grown {ρ : Env} {B : Nat → Prop} {W w w' : World} {f : Ren} {h h' : T AObj} (hr : HRel ρ B W f h w) {nx : Nat} (hnx : f nx = none) {xs : List Value} {rest : Array Value} {e : TypeId} {tr : T AVal} {top : Nat}
    (hw : w'.heap = w.heap.push (.cells (xs.toArray ++ rest) e)) (hb : w'.os = w.os ∧ w'.tape = w.tape ∧ w'.output = w.output)
    (htr : ∀ (j : Nat) (v : AVal), tr.get j = some v → j < top ∧ ∃ v', xs[j]? = some v' ∧ VRel ρ f v v')
    (hh : ∀ j x, h'.get j = some x → (j = nx ∧ x = .cells tr e true top) ∨ (j ≠ nx ∧ h.get j = some x)) :
    HRel ρ B W (f.put nx ⟨w.heap.size, 0, (xs.toArray ++ rest).size⟩) h' w' := by
  have hbs := hr.bsize
  have hws := hr.below.size
  refine hr.newG (L := ⟨w.heap.size, 0, (xs.toArray ++ rest).size⟩) (o := .cells tr e true top) hnx hw hb rfl ?_ (fun _ h => h) hh
  refine ⟨xs.toArray ++ rest, (0, 0), by rw [hw]; simp, rfl, fun _ => ⟨hr.fresh (Nat.le_refl _), fun j _ => by simp⟩, fun j v hj => ?_⟩
  obtain ⟨hlt, v', h1, h2⟩ := htr j v hj
  have hl := (List.getElem?_eq_some_iff.1 h1).1
  exact ⟨hlt, v', by rw [Nat.zero_add, Array.getElem?_append_left (by simpa using hl)]; simpa using h1, h2.mono (Ren.le_put _ hnx)⟩
theorem size_zeroCells (z : Array Value) (n : Nat) : (Builtin.zeroCells z n).size = n * z.size := by simp [Builtin.zeroCells]

theorem aAppend_ok {C : Ctx} {P : Program} {ρ : Env} (hC : C.Ok P ρ) {B : Nat → Prop} {W w : World} {f : Ren} {h h' : T AObj} (hr : HRel ρ B W f h w) {nx nx' : Nat} (hfr : ∀ j, nx ≤ j → j < nx' → f j = none) {t xt ty : TypeId} {s x v : AVal} {s' x' : Value} (hs : VRel ρ f s s') (hx : VRel ρ f x x') (ha : aAppend C h nx t xt s x = some (v, h', nx'))
    (ts : Array TypeId) (xs : Array Value) (hts0 : ts[0]? = some t) (hts1 : ts[1]? = some xt) (hx0 : xs[0]? = some s') (hx1 : xs[1]? = some x') :
    ∃ f' w' v', (Builtin.append_ ts ty xs).run P w = .ok v' w' ∧ f.le f' ∧ (∀ j, (j < nx ∨ nx' ≤ j) → f' j = f j) ∧ HRel ρ B W f' h' w' ∧ VRel ρ f' v v' := by
  have hbs := hr.bsize
  have hws := hr.below.size
  unfold aAppend at ha
  split at ha
  · rename_i e xd hut hux
    have ht := Ctx.und_ok hC hut
    have hxt := Ctx.und_ok hC hux
    split at ha
    · cases ha
    · rename_i hxd
      split at ha
      · rename_i a n c g
        split at ha
        · rename_i sz by_ m z hsz hby hm hz
          obtain ⟨z', -, hz2, it, hit, hzz⟩ := aZero_ok hC (f := f) hz w
          have hlen := aLenOf_ok (P := P) hx hm w
          split at ha
          · cases ha
          · rename_i l hl
            obtain ⟨new, q0, q2⟩ := aFirst_ok (P := P) hr hx ⟨m, hm, Nat.le_refl _⟩ hl
            split at ha
            · rename_i g1 g2 g3 g4 g5
              replace g2 := Nat.le_of_ble_eq_true g2
              replace g3 := Nat.le_of_ble_eq_true g3
              replace g4 := Nat.le_of_ble_eq_true g4
              replace g5 := Nat.le_of_ble_eq_true g5
              have hone := allOne_ok l new g1 q2
              split at ha
              · -- room
                rename_i hfit
                replace hfit := Nat.le_of_ble_eq_true hfit
                split at ha
                · cases ha
                  cases hs
                  have hm0 : m = 0 := by omega
                  subst hm0
                  exact ⟨f, w, _, append_fits hC ht hxt hxd hsz hlen (q0 w.drawn) (Nat.le_refl _) (fun a e => by cases e) (fun _ => rfl) ts xs hts0 hts1 hx0 hx1, Ren.le_refl f, fun _ _ => rfl, hr, .nilSlice⟩
                · rename_i i o
                  split at ha
                  · rename_i h1 hset
                    cases ha
                    have main : ∀ (L : Loc), f i = some L → ∀ c', c ≤ c' → xs[0]? = some (.slice (some ⟨L.blk, L.base + o, none⟩) n c') → VRel ρ f (.slice (some (i, o)) (n + m) c g) (.slice (some ⟨L.blk, L.base + o, none⟩) (n + m) c') →
                        ∃ f' w' v', (Builtin.append_ ts ty xs).run P w = .ok v' w' ∧ f.le f' ∧ (∀ j, (j < nx ∨ nx ≤ j) → f' j = f j) ∧ HRel ρ B W f' h' w' ∧ VRel ρ f' (.slice (some (i, o)) (n + m) c g) v' := by
                      intro L hf c' hcc hx0 hv
                      obtain ⟨w', p1, p2, _⟩ := aSetN_ok hf P (o + n * sz) l 0 h h' w new hr q2 hset
                      refine ⟨f, w', _, append_fits hC ht hxt hxd hsz hlen (q0 w.drawn) (by omega) (fun a e => ?_) (fun e => by cases e) ts xs hts0 hts1 hx0 hx1, Ren.le_refl f, fun _ _ => rfl, p2, hv⟩
                      cases e
                      rw [addr_add, Nat.add_assoc]
                      exact p1
                    cases hs with
                    | slice hf => exact main _ hf _ (Nat.le_refl _) hx0 (.slice hf)
                    | sliceG hf hn hc hss => exact main _ hf _ hc hx0 (.sliceG hf hfit hc hss)
                    | sliceE hf hg hss =>
                      rename_i o' c' L
                      have hm0 : m = 0 := by omega
                      subst hm0
                      have hl0 : l = [] := by
                        unfold aFirst at hl
                        split at hl
                        · cases hl; rfl
                        · simp [aGetN] at hl; exact hl
                        · simp [strCells] at hl; exact hl
                        · cases hl
                      subst hl0
                      have hcs : new = [] := by have := q2.1; simpa using this
                      subst hcs
                      simp [aSetN] at hset
                      subst hset
                      exact ⟨f, w, _, append_fits hC ht hxt hxd hsz hlen (q0 w.drawn) (Nat.zero_le _) (fun a e => rfl) (fun e => by cases e) ts xs hts0 hts1 hx0 hx1, Ren.le_refl f, fun _ _ => rfl, hr, .sliceE hf hg hss⟩
                  · cases ha
              · -- it must grow
                rename_i hfit
                have hfit' : ¬ n + m ≤ c := fun e => by rw [Nat.ble_eq.mpr e] at hfit; cases hfit
                split at ha
                · rename_i hll hzl
                  replace hll := Nat.eq_of_beq_eq_true hll
                  replace hzl := Nat.eq_of_beq_eq_true hzl
                  have hzs : z'.cells.size = sz := by rw [(LRel.cells hz2).1]; exact hzl
                  have hnl : new.length = m * sz := by have := q2.1; simp at this; omega
                  -- a new block
                  have grow : ∀ (base : Option Addr) (c' : Nat) (oldc : List Value) (tr : T AVal) (top : Nat), s' = .slice base n c' → ¬ n + m ≤ c' → nx' = nx + 1 →
                      (∀ d, (Builtin.firstCells sz n (.slice base n c')).run P { w with drawn := d } = .ok oldc.toArray { w with drawn := d }) → oldc.length = n * sz →
                      (∀ (j : Nat) (v : AVal), tr.get j = some v → j < top ∧ ∃ v', (oldc ++ new)[j]? = some v' ∧ VRel ρ f v v') →
                      (∀ j x, h'.get j = some x → (j = nx ∧ x = .cells tr e true top) ∨ (j ≠ nx ∧ h.get j = some x)) → v = .slice (some (nx, 0)) (n + m) (n + m) sz →
                      ∃ f' w' v', (Builtin.append_ ts ty xs).run P w = .ok v' w' ∧ f.le f' ∧ (∀ j, (j < nx ∨ nx' ≤ j) → f' j = f j) ∧ HRel ρ B W f' h' w' ∧ VRel ρ f' v v' := by
                    intro base c' oldc tr top hs' hgt hnx p0 hol htr hh' hvv
                    have hnone : f nx = none := hfr nx (Nat.le_refl _) (by omega)
                    rw [hs'] at hx0
                    obtain ⟨newCap, hcap, hrun⟩ := append_grows hC (ty := ty) ht hxt hxd hsz hby hit hzz hlen p0 q0 g3 g4 hgt ts xs hts0 hts1 hx0 hx1
                    have hap : oldc.toArray ++ new.toArray = (oldc ++ new).toArray := by simp
                    rw [hap] at hrun
                    have hsize : newCap * sz = ((oldc ++ new).toArray ++ Builtin.zeroCells z'.cells (newCap - (n + m))).size := by
                      simp only [Array.size_append, List.size_toArray, List.length_append, size_zeroCells, hzs, hol, hnl]
                      rw [← Nat.add_mul, ← Nat.add_mul]
                      congr 1; omega
                    refine ⟨f.put nx _, _, _, hrun, Ren.le_put _ hnone, fun j hj => Ren.put_other f _ (by omega), hr.grown hnone (xs := oldc ++ new) (rest := Builtin.zeroCells z'.cells (newCap - (n + m))) rfl ⟨rfl, rfl, rfl⟩ htr hh', ?_⟩
                    rw [hvv]
                    obtain ⟨sz', rfl⟩ : ∃ k, sz = k + 1 := ⟨sz - 1, by omega⟩
                    exact VRel.sliceG (ρ := ρ) (o := 0) (n := n + m) (c := n + m) (c' := newCap) (g := sz') (Ren.put_same f nx _) (Nat.le_refl _) hcap (by simp only [Nat.zero_add]; omega)
                  split at ha
                  · -- the old capacity is known
                    split at ha
                    · cases ha
                    · rename_i old hold
                      split at ha
                      · cases ha
                      · rename_i hol
                        replace hol := Nat.eq_of_beq_eq_true hol
                        simp only [Option.some.injEq, Prod.mk.injEq] at ha
                        obtain ⟨hv1, hh1, hn1⟩ := ha
                        obtain ⟨oldc, p0, p2⟩ := aFirst_ok (P := P) hr hs ⟨n, rfl, Nat.le_refl _⟩ hold
                        have hol' : oldc.length = n * sz := by have := p2.1; simp at this; omega
                        have hlr : LRel ρ f (old ++ l) (oldc ++ new).toArray := LRel.append p2 q2
                        have htr : ∀ (j : Nat) (v : AVal), (cellsOf (old ++ l)).get j = some v → j < (old ++ l).length ∧ ∃ v', (oldc ++ new)[j]? = some v' ∧ VRel ρ f v v' := fun j v hj => by
                          obtain ⟨v', h1, h2⟩ := hlr.get (cellsOf_ok hj)
                          exact ⟨(List.getElem?_eq_some_iff.1 (cellsOf_ok hj)).1, v', by simpa using h1, h2⟩
                        have hset : ∀ j x, h'.get j = some x → (j = nx ∧ x = .cells (cellsOf (old ++ l)) e true (old ++ l).length) ∨ (j ≠ nx ∧ h.get j = some x) := fun j x hj => by
                          rw [← hh1] at hj
                          rcases T.get_set hj with ⟨a1, a2⟩ | a1
                          · exact .inl ⟨a1, a2.symm⟩
                          · exact .inr a1
                        cases hs with
                        | nilSlice => exact grow _ _ oldc _ _ rfl hfit' hn1.symm p0 hol' htr hset hv1.symm
                        | slice hf => exact grow _ _ oldc _ _ rfl hfit' hn1.symm p0 hol' htr hset hv1.symm
                        | sliceE hf hg hss =>
                          obtain rfl := hg rfl
                          exact grow _ _ oldc _ _ rfl hfit' hn1.symm p0 hol' htr hset hv1.symm
                  · -- it isn't
                    rename_i g
                    split at ha
                    · rename_i i
                      split at ha
                      · rename_i c0 e' top hgi hsg
                        replace hsg := Nat.eq_of_beq_eq_true hsg
                        split at ha
                        · rename_i hee htop
                          replace hee := Nat.eq_of_beq_eq_true hee
                          replace htop := Nat.eq_of_beq_eq_true htop
                          subst hee; subst htop
                          simp only [Option.some.injEq, Prod.mk.injEq] at ha
                          obtain ⟨hv1, hh1, hn1⟩ := ha
                          have hset : ∀ j x, h'.get j = some x → (j = nx ∧ x = .cells (treeOf l (n * sz) c0) e true (n * sz + l.length)) ∨ (j ≠ nx ∧ h.get j = some x) := fun j x hj => by
                            rw [← hh1] at hj
                            rcases T.get_set hj with ⟨a1, a2⟩ | ⟨a1, a2⟩
                            · exact .inl ⟨a1, a2.symm⟩
                            · exact .inr ⟨a1, (T.get_del a2).2⟩
                          have main : ∀ (L : Loc) (b0 c' : Nat), f i = some L → s' = .slice (some ⟨L.blk, b0, none⟩) n c' → n ≤ c' → b0 + c' * sz ≤ L.sz → (b0 = L.base ∨ n = 0) →
                              ∃ f' w' v', (Builtin.append_ ts ty xs).run P w = .ok v' w' ∧ f.le f' ∧ (∀ j, (j < nx ∨ nx' ≤ j) → f' j = f j) ∧ HRel ρ B W f' h' w' ∧ VRel ρ f' v v' := by
                            intro L b0 c' hf hs' hnc' hbig hbase
                            obtain ⟨cs, fr, k1, k2, k3, k4⟩ := hr.obj i L _ hf hgi
                            obtain ⟨k3a, k3b⟩ := k3 rfl
                            have hmono : n * sz ≤ c' * sz := Nat.mul_le_mul_right _ hnc'
                            have hcell : ∀ (j : Nat) (v : AVal), c0.get j = some v → j < n * sz ∧ ∃ v', cs[b0 + j]? = some v' ∧ VRel ρ f v v' := fun j v hj => by
                              obtain ⟨a1, v', a2, a3⟩ := k4 j v hj
                              rcases hbase with rfl | h0
                              · exact ⟨a1, v', a2, a3⟩
                              · exfalso; rw [h0] at a1; simp at a1
                            have hnone : f nx = none := hfr nx (Nat.le_refl _) (by omega)
                            by_cases hroom : n + m ≤ c'
                            · have hroom2 : (n + m) * sz ≤ c' * sz := Nat.mul_le_mul_right _ hroom
                              rw [Nat.add_mul] at hroom2
                              obtain ⟨w', cur', e1, e2, e3, e4, e5, e6, e7⟩ := run_storeRaw P L.blk e fr (b0 + n * sz) new 0 cs w k1 (by omega) (fun j hj => k3b j (by omega)) hone
                              rw [hs'] at hx0
                              refine ⟨f.put nx ⟨L.blk, b0, L.sz⟩, w', _, append_fits hC ht hxt hxd hsz hlen (q0 w.drawn) hroom (fun a ea => ?_) (fun ea => by cases ea) ts xs hts0 hts1 hx0 hx1, Ren.le_put _ hnone, fun j hj => Ren.put_other f _ (by omega), ?_, ?_⟩
                              · cases ea
                                rw [addr_add]
                                exact e1
                              · rw [← hh1]
                                refine hr.inPlace hf hgi rfl k3a hnone (L' := ⟨L.blk, b0, L.sz⟩) rfl (fun _ => Iff.rfl) (fun _ => Iff.rfl) ?_ e5 e6 e7
                                refine ⟨cur', fr, e2, by rw [e3]; exact k2, fun _ => ⟨k3a, k3b⟩, fun j v hj => ?_⟩
                                show j < n * sz + l.length ∧ ∃ v', cur'[b0 + j]? = some v' ∧ VRel ρ _ v v'
                                rcases treeOf_ok _ _ _ _ _ hj with ⟨a1, a2⟩ | a1
                                · obtain ⟨v', b1, b2⟩ := q2.get a2
                                  have hlt := (List.getElem?_eq_some_iff.1 a2).1
                                  refine ⟨by omega, v', ?_, b2.mono (Ren.le_put _ hnone)⟩
                                  rw [e4, if_pos (by omega), ← List.getElem?_toArray]
                                  rw [show b0 + j - (b0 + n * sz + 0) = j - n * sz by omega]
                                  exact b1
                                · obtain ⟨b1, v', b2, b3⟩ := hcell j v a1
                                  refine ⟨by omega, v', ?_, b3.mono (Ren.le_put _ hnone)⟩
                                  rw [e4, if_neg (by omega)]
                                  exact b2
                              · rw [← hv1]
                                obtain ⟨sz', rfl⟩ : ∃ k, sz = k + 1 := ⟨sz - 1, by omega⟩
                                exact VRel.sliceG (ρ := ρ) (f := f.put nx ⟨L.blk, b0, L.sz⟩) (i := nx) (o := 0) (n := n + m) (c := n + m) (c' := c') (g := sz') (Ren.put_same f nx ⟨L.blk, b0, L.sz⟩) (Nat.le_refl _) hroom (by simpa using hbig)
                            · have hol : (cs.extract b0 (b0 + n * sz)).toList.length = n * sz := by simp; omega
                              have hoc : ∀ j v', (cs.extract b0 (b0 + n * sz)).toList[j]? = some v' → cs[b0 + j]? = some v' := fun j v' hj => by
                                rw [Array.getElem?_toList, Array.getElem?_extract] at hj
                                split at hj
                                · exact hj
                                · cases hj
                              refine grow _ _ (cs.extract b0 (b0 + n * sz)).toList (treeOf l (n * sz) c0) (n * sz + l.length) hs' hroom hn1.symm (fun d => ?_) hol (fun j v hj => ?_) hset hv1.symm
                              · refine run_loadCells_at hol fun j v' hj => ?_
                                have := hoc j v' hj
                                simp only [World.cell?, k1]
                                simpa using this
                              · rcases treeOf_ok _ _ _ _ _ hj with ⟨a1, a2⟩ | a1
                                · obtain ⟨v', b1, b2⟩ := q2.get a2
                                  have hlt := (List.getElem?_eq_some_iff.1 a2).1
                                  refine ⟨by omega, v', ?_, b2⟩
                                  rw [List.getElem?_append_right (by omega), hol, ← List.getElem?_toArray]
                                  exact b1
                                · obtain ⟨b1, v', b2, b3⟩ := hcell j v a1
                                  refine ⟨by omega, v', ?_, b3⟩
                                  rw [List.getElem?_append_left (by omega), Array.getElem?_toList, Array.getElem?_extract, if_pos (by omega)]
                                  exact b2
                          cases hs with
                          | sliceG hf hn hc hss =>
                            rename_i c' L
                            exact main L (L.base + 0) c' hf rfl (by omega) (by rw [hsg]; exact hss) (.inl rfl)
                          | sliceE hf hg hss =>
                            rename_i o' c' L
                            exact main L o' c' hf rfl (by omega) (by rw [hsg]; exact hss) (.inr rfl)
                        · cases ha
                      · cases ha
                    · cases ha
                · cases ha
            · cases ha
        · cases ha
      · cases ha
  · cases ha
end
end Go.Sx
