/- The operations that change a block: stores, maps, copy, clear. No condition. -/
import Derived.Test.YtpoianhfjgjajaaGreatSxF
set_option linter.unusedSimpArgs false
set_option linter.unusedVariables false
namespace Go.Sx
open Go.RowKit (Below)
noncomputable section

/-- What an operation that changes memory comes to. -/
def EffOk (P : Program) (ρ : Env) (B : Nat → Prop) (W : World) (f : Ren) (nx nx' : Nat) (h' : T AObj) (res : Option AVal) (s : Sem Next) (w : World) : Prop :=
  ∃ f' w' r', s.run P w = .ok r' w' ∧ f.le f' ∧ (∀ j, (j < nx ∨ nx' ≤ j) → f' j = f j) ∧ HRel ρ B W f' h' w' ∧
    match res with
    | none => r' = .skip
    | some v => ∃ v', r' = .value v' ∧ VRel ρ f' v v'
theorem EffOk.same {P : Program} {ρ : Env} {B : Nat → Prop} {W : World} {f : Ren} {nx : Nat} {h' : T AObj} {res : Option AVal} {s : Sem Next} {w w' : World} {r' : Next} (hs : s.run P w = .ok r' w') (hr : HRel ρ B W f h' w')
    (hres : match res with
    | none => r' = .skip
    | some v => ∃ v', r' = .value v' ∧ VRel ρ f v v') : EffOk P ρ B W f nx nx h' res s w :=
  ⟨f, w', r', hs, Ren.le_refl f, fun _ _ => rfl, hr, hres⟩

theorem HRel.setMap {ρ : Env} {B : Nat → Prop} {W w : World} {f : Ren} {h : T AObj} (hr : HRel ρ B W f h w) {i : Nat} {L : Loc} (hf : f i = some L) {es0 es1 : List (AVal × AVal)} (he : h.get i = some (.map es0)) {es1' : Array MapEntry} {cl : Nat} (h1 : EsRel ρ f es1 es1'.toList) :
    HRel ρ B W f (h.set i (.map es1)) { w with heap := w.heap.setIfInBounds L.blk (.map es1' cl) } := by
  obtain ⟨hB, es0', cl0, q1, q2, q3⟩ := hr.obj i L _ hf he
  have hlt := hr.lt i L hf
  have other : ∀ k, k ≠ L.blk → (w.heap.setIfInBounds L.blk (.map es1' cl))[k]? = w.heap[k]? := fun k hk => Array.getElem?_setIfInBounds_ne (Ne.symm hk)
  refine hr.turn hf he rfl hB (fun _ _ => Iff.rfl) (fun _ _ => Iff.rfl) ⟨rfl, rfl, rfl⟩ (by simp) other ?_
  exact ⟨hB, es1', cl, by simp [hlt], by simpa using h1.1, fun a e e' x y => h1.2 a e e' x (by simpa using y)⟩

theorem EsRel.mono {ρ : Env} {f g : Ren} (h : f.le g) {es : List (AVal × AVal)} {es' : List MapEntry} (he : EsRel ρ f es es') : EsRel ρ g es es' :=
  ⟨he.1, fun i e e' a b => ⟨(he.2 i e e' a b).1.mono h, (he.2 i e e' a b).2.mono h⟩⟩

def aStoreL (C : Ctx) (h : T AObj) (t : TypeId) (x v : AVal) : Option (T AObj) :=
  match x, C.size t with
  | .ptr (some (i, o)), some n =>
    match Nat.beq v.cells.length n with
    | true => aSetN i h o v.cells
    | false => none
  | _, _ => none
theorem aStoreL_ok {C : Ctx} {P : Program} {ρ : Env} (hC : C.Ok P ρ) {B : Nat → Prop} {W w : World} {f : Ren} {h h' : T AObj} (hr : HRel ρ B W f h w) {t : TypeId} {x v : AVal} {x' v' : Value} (hx : VRel ρ f x x') (hv : VRel ρ f v v') (hs : aStoreL C h t x v = some h') :
    ∃ w', (Instr.storeAt t x' v').run P w = .ok () w' ∧ HRel ρ B W f h' w' := by
  unfold aStoreL at hs
  split at hs
  · rename_i i o n hn
    cases hx; rename_i L hf
    split at hs
    · rename_i hl
      have hl := Nat.eq_of_beq_eq_true hl
      have hc := LRel.cells hv
      have hsz : v'.cells.size = n := by rw [hc.1, hl]
      obtain ⟨w', h1, h2, _⟩ := aSetN_ok hf P o v.cells 0 h h' w v'.cells.toList hr (by simpa using hc) hs
      exact ⟨w', by simp only [Instr.storeAt, Instr.sureAddr, Sem.run_bind, Sem.run_pure, Result.andThen_ok, storeVar, Ctx.size_ok hC hn, hsz, ne_eq, not_true_eq_false, if_false]; exact h1, h2⟩
    · cases hs
  · cases hs

def aStore (C : Ctx) (h : T AObj) (t : TypeId) (x v : AVal) : Option (T AObj) :=
  match aStoreL C h t x v with
  | some h' => some h'
  | none => aStoreE C h t x v
theorem aStore_ok {C : Ctx} {P : Program} {ρ : Env} (hC : C.Ok P ρ) {B : Nat → Prop} {W w : World} {f : Ren} {h h' : T AObj} (hr : HRel ρ B W f h w) {t : TypeId} {x v : AVal} {x' v' : Value} (hx : VRel ρ f x x') (hv : VRel ρ f v v') (hs : aStore C h t x v = some h') :
    ∃ w', (Instr.storeAt t x' v').run P w = .ok () w' ∧ HRel ρ B W f h' w' := by
  unfold aStore at hs
  split at hs
  · cases hs
    rename_i hs
    exact aStoreL_ok hC hr hx hv hs
  · exact aStoreE_ok hC hr hx hv hs

def aMapSet (C : Ctx) (h : T AObj) (t : TypeId) (m k v : AVal) : Option (T AObj) :=
  match C.und t, m with
  | some (.map key _), .map (some r) =>
    match h.get r, keyFits C key k with
    | some (.map es), true =>
      match aFind C k es 0 with
      | some (some (i, _)) => some (h.set r (.map (es.set i (k, v))))
      | some none => some (h.set r (.map (es ++ [(k, v)])))
      | none => none
    | _, _ => none
  | _, _ => none
theorem run_setObj_map {P : Program} {w : World} {b : Nat} {es : Array MapEntry} {cl : Nat} (h : w.heap[b]? = some (.map es cl)) (o : Obj) : (setObj b o).run P w = .ok () { w with heap := w.heap.setIfInBounds b o } := by
  simp only [setObj, Sem.run, h]
theorem run_getObj_map {P : Program} {w : World} {b : Nat} {es : Array MapEntry} {cl : Nat} (h : w.heap[b]? = some (.map es cl)) : (getObj b).run P w = .ok (.map es cl) w := by
  simp only [getObj, Sem.run, h]
theorem EsRel.set {ρ : Env} {f : Ren} {es : List (AVal × AVal)} {es' : Array MapEntry} (he : EsRel ρ f es es'.toList) (i : Nat) {k v : AVal} {k' v' : Value} (hk : VRel ρ f k k') (hv : VRel ρ f v v') :
    EsRel ρ f (es.set i (k, v)) (es'.modify i fun e => { e with key := k', val := v' }).toList := by
  refine ⟨by have := he.1; simpa using this, fun j e e' a b => ?_⟩
  rw [Array.getElem?_toList, Array.getElem?_modify] at b
  rw [List.getElem?_set] at a
  by_cases hij : i = j
  · subst hij
    simp only [if_true] at a b
    split at a
    · cases a
      rw [Option.map_eq_some_iff] at b
      obtain ⟨e0, _, rfl⟩ := b
      exact ⟨hk, hv⟩
    · cases a
  · rw [if_neg hij] at a b
    exact he.2 j e e' a (by simpa using b)
theorem EsRel.push {ρ : Env} {f : Ren} {es : List (AVal × AVal)} {es' : Array MapEntry} (he : EsRel ρ f es es'.toList) {k v : AVal} {k' v' : Value} (b : Nat) (hk : VRel ρ f k k') (hv : VRel ρ f v v') :
    EsRel ρ f (es ++ [(k, v)]) (es'.push { key := k', val := v', born := b }).toList := by
  have h1 := he.1
  simp at h1
  refine ⟨by simp [h1], fun j e e' a c => ?_⟩
  rw [Array.toList_push] at c
  by_cases hj : j < es.length
  · rw [List.getElem?_append_left hj] at a
    rw [List.getElem?_append_left (by simp; omega)] at c
    exact he.2 j e e' a c
  · rw [List.getElem?_append_right (by omega)] at a
    rw [List.getElem?_append_right (by simp; omega)] at c
    have h0 : j - es.length = 0 := by
      have := (List.getElem?_eq_some_iff.1 a).1
      simp at this; omega
    simp only [Array.length_toList, h1, h0] at a c
    simp at a c
    subst a; subst c
    exact ⟨hk, hv⟩
theorem aMapSet_ok {C : Ctx} {P : Program} {ρ : Env} (hC : C.Ok P ρ) {B : Nat → Prop} {W w : World} {f : Ren} {h h' : T AObj} (hr : HRel ρ B W f h w) {t : TypeId} {m k v : AVal} {m' k' v' : Value} (hm : VRel ρ f m m') (hk : VRel ρ f k k') (hv : VRel ρ f v v') (hs : aMapSet C h t m k v = some h') :
    ∃ w', (Instr.mapUpdate t m' k' v').run P w = .ok () w' ∧ HRel ρ B W f h' w' := by
  unfold aMapSet at hs
  split at hs
  · rename_i key elem r hu
    have hd := Ctx.und_ok hC hu
    cases hm; rename_i L hf
    split at hs
    · rename_i es hes hkf
      obtain ⟨hB, es', cl, q1, q2, q3⟩ := hr.obj _ L _ hf hes
      have he : EsRel ρ f es es'.toList := ⟨by simpa using q2, by simpa using q3⟩
      split at hs
      · rename_i i u hfd
        cases hs
        obtain ⟨h1, h2⟩ := aFind_ok hC hk hkf w he hfd
        rcases h2 with ⟨h2, _⟩ | ⟨i', u', v'', e', h2, h3, h4, h5, h6, h7⟩
        · cases h2
        · cases h2
          refine ⟨_, ?_, hr.setMap hf hes (he.set i hk hv) (cl := cl)⟩
          have h5' : es'[i]? = some e' := by simpa using h5
          have hsb : Instr.sameBits 10000 (((es'[i]?).map (·.key)).getD k') k' = true := by rw [h5']; exact h7
          simp only [Instr.mapUpdate, Sem.run_bind, run_underlying hd, Result.andThen_ok, run_getObj_map q1, h1, h3, Instr.keyThatStays, hsb, if_true, Sem.run_pure, run_setObj_map q1]
      · rename_i hfd
        cases hs
        obtain ⟨h1, h2⟩ := aFind_ok hC hk hkf w he hfd
        rcases h2 with ⟨_, h3⟩ | ⟨i', u', v'', e', h2, _⟩
        · refine ⟨_, ?_, hr.setMap hf hes (he.push cl hk hv) (cl := cl + 1)⟩
          simp only [Instr.mapUpdate, Sem.run_bind, run_underlying hd, Result.andThen_ok, run_getObj_map q1, h1, h3, Sem.run_pure, run_setObj_map q1]
        · cases h2
      · cases hs
    · cases hs
  · cases hs

def aDelete (C : Ctx) (h : T AObj) (t : TypeId) (m k : AVal) : Option (T AObj) :=
  match C.und t, m with
  | some (.map key _), .map (some r) =>
    match h.get r, keyFits C key k with
    | some (.map es), true =>
      match aFind C k es 0 with
      | some (some (i, _)) => some (h.set r (.map (es.eraseIdx i)))
      | some none => some (h.set r (.map es))
      | none => none
    | _, _ => none
  | _, _ => none
theorem EsRel.erase {ρ : Env} {f : Ren} {es : List (AVal × AVal)} {es' : Array MapEntry} (he : EsRel ρ f es es'.toList) (i : Nat) : EsRel ρ f (es.eraseIdx i) (es'.eraseIdxIfInBounds i).toList := by
  have h1 := he.1
  simp at h1
  have e : (es'.eraseIdxIfInBounds i).toList = es'.toList.eraseIdx i := by simp
  rw [e]
  refine ⟨by simp [List.length_eraseIdx, h1], fun j x x' a b => ?_⟩
  rw [List.getElem?_eraseIdx] at a b
  split at a
  · rename_i hj; rw [if_pos hj] at b; exact he.2 j x x' a b
  · rename_i hj; rw [if_neg hj] at b; exact he.2 _ x x' a b
theorem aDelete_ok {C : Ctx} {P : Program} {ρ : Env} (hC : C.Ok P ρ) {B : Nat → Prop} {W w : World} {f : Ren} {h h' : T AObj} (hr : HRel ρ B W f h w) {t ty : TypeId} {m k : AVal} {m' k' : Value} (hm : VRel ρ f m m') (hk : VRel ρ f k k') (hs : aDelete C h t m k = some h') (ts : Array TypeId) (xs : Array Value) (h0 : ts[0]? = some t) (hx0 : xs[0]? = some m') (hx1 : xs[1]? = some k') :
    ∃ w', (Builtin.delete_ ts ty xs).run P w = .ok (.tuple #[]) w' ∧ HRel ρ B W f h' w' := by
  unfold aDelete at hs
  split at hs
  · rename_i key elem r hu
    have hd := Ctx.und_ok hC hu
    cases hm; rename_i L hf
    split at hs
    · rename_i es hes hkf
      obtain ⟨hB, es', cl, q1, q2, q3⟩ := hr.obj _ L _ hf hes
      have he : EsRel ρ f es es'.toList := ⟨by simpa using q2, by simpa using q3⟩
      split at hs
      · rename_i i u hfd
        cases hs
        obtain ⟨h1, h2⟩ := aFind_ok hC hk hkf w he hfd
        rcases h2 with ⟨h2, _⟩ | ⟨i', u', v'', e', h2, h3, h4, h5, h6, h7⟩
        · cases h2
        · cases h2
          refine ⟨_, ?_, hr.setMap hf hes (he.erase i) (cl := cl)⟩
          simp only [Builtin.delete_, h0, hx0, hx1, Sem.run_bind, run_underlying hd, Result.andThen_ok, run_getObj_map q1, h1, h3, Sem.run_pure, run_setObj_map q1]
      · rename_i hfd
        cases hs
        obtain ⟨h1, h2⟩ := aFind_ok hC hk hkf w he hfd
        rcases h2 with ⟨_, h3⟩ | ⟨i', u', v'', e', h2, _⟩
        · refine ⟨_, ?_, hr.setMap hf hes he (cl := cl)⟩
          simp only [Builtin.delete_, h0, hx0, hx1, Sem.run_bind, run_underlying hd, Result.andThen_ok, run_getObj_map q1, h1, h3, Sem.run_pure, run_setObj_map q1]
        · cases h2
      · cases hs
    · cases hs
  · cases hs

/-! the cells that 'copy' and 'append' take -/
def aLenOf : AVal → Option Nat
  | .slice _ n _ _ => some n
  | .str l => some l.length
  | _ => none
def aFirst (h : T AObj) (size n : Nat) : AVal → Option (List AVal)
  | .slice none _ _ _ => some []
  | .slice (some (i, o)) _ _ _ => aGetN h i o (n * size)
  | .str l => some (strCells (l.take n))
  | _ => none
theorem aLenOf_ok {P : Program} {ρ : Env} {f : Ren} {x : AVal} {x' : Value} {n : Nat} (hx : VRel ρ f x x') (h : aLenOf x = some n) (w : World) : (Builtin.lenOf x').run P w = .ok n w := by
  unfold aLenOf at h
  split at h
  · cases h; cases hx <;> rfl
  · cases h; cases hx; rename_i s hs; simp only [Builtin.lenOf, Sem.run_pure, hs.size]
  · cases h
theorem aFirst_ok {P : Program} {ρ : Env} {B : Nat → Prop} {W w : World} {f : Ren} {h : T AObj} (hr : HRel ρ B W f h w) {size n : Nat} {x : AVal} {x' : Value} {l : List AVal} (hx : VRel ρ f x x') (hn : ∃ m, aLenOf x = some m ∧ n ≤ m) (hl : aFirst h size n x = some l) :
    ∃ cs : List Value, (∀ d, (Builtin.firstCells size n x').run P { w with drawn := d } = .ok cs.toArray { w with drawn := d }) ∧ LRel ρ f l cs.toArray := by
  unfold aFirst at hl
  split at hl
  · cases hl; cases hx
    exact ⟨[], fun _ => rfl, LRel.nil⟩
  · rename_i i o m c g
    have main : ∀ (L : Loc), f i = some L → ∀ (a b : Nat), ∃ cs : List Value, (∀ d, (Builtin.firstCells size n (.slice (some ⟨L.blk, L.base + o, none⟩) a b)).run P { w with drawn := d } = .ok cs.toArray { w with drawn := d }) ∧ LRel ρ f l cs.toArray := by
      intro L hf a b
      obtain ⟨cs, h1, h2, h3⟩ := aGetN_ok hr hf _ o l hl
      exact ⟨cs, fun d => run_loadCells_at (w := { w with drawn := d }) h2 h3, h1⟩
    cases hx with
    | slice hf => exact main _ hf _ _
    | sliceG hf _ _ _ => exact main _ hf _ _
    | sliceE hf _ _ =>
      obtain ⟨m, hm, hle⟩ := hn
      simp [aLenOf] at hm
      have h0 : n * size = 0 := by rw [show n = 0 by omega]; simp
      rw [h0] at hl
      simp [aGetN] at hl
      subst hl
      exact ⟨[], fun d => by simp only [Builtin.firstCells, h0]; rfl, LRel.nil⟩
  · rename_i s
    cases hl; cases hx; rename_i st hst
    have h1 := hst.extract 0 n
    simp only [List.drop_zero, Nat.sub_zero] at h1
    have h2 := strCells_rel (f := f) h1
    refine ⟨((st.extract 0 n).data.map fun b => .int .u8 b.toNat).toList, ?_, by rw [Array.toArray_toList]; exact h2⟩
    intro d
    simp only [Builtin.firstCells, Sem.run_pure, Array.toArray_toList]
  · cases hl
def allOne : List AVal → Bool
  | [] => true
  | v :: l =>
    match v.one with
    | true => allOne l
    | false => false
theorem allOne_ok {ρ : Env} {f : Ren} : ∀ (l : List AVal) (cs : List Value), allOne l = true → LRel ρ f l cs.toArray → ∀ u ∈ cs, u.oneCell' = true := by
  intro l
  induction l with
  | nil =>
    intro cs _ h u hu
    have : cs = [] := by have := h.1; simpa using this
    subst this; cases hu
  | cons v l ih =>
    intro cs ho h u hu
    cases cs with
    | nil => cases hu
    | cons c cs =>
      simp only [allOne] at ho
      split at ho
      · rename_i h1
        rcases List.mem_cons.1 hu with rfl | hu
        · exact (h.2 0 v u (by simp) (by simp)).one h1
        · exact ih cs ho ⟨by have := h.1; simp at this ⊢; exact this, fun j a a' ha ha' => h.2 (j + 1) a a' (by simpa using ha) (by simpa using ha')⟩ u hu
      · cases ho

def aCopy (C : Ctx) (h : T AObj) (t : TypeId) (d s : AVal) : Option (AVal × T AObj) :=
  match C.und t, d with
  | some (.slice e), .slice a dn _ _ =>
    match C.size e, aLenOf s with
    | some sz, some sn =>
      let n := Nat.min sn dn
      match aFirst h sz n s with
      | none => none
      | some l =>
        match a with
        | none => some (.int .i64 (.lit (.ofNat n)), h)
        | some (i, o) =>
          match aSetN i h o l with
          | some h' => some (.int .i64 (.lit (.ofNat n)), h')
          | none => none
    | _, _ => none
  | _, _ => none
theorem aCopy_ok {C : Ctx} {P : Program} {ρ : Env} (hC : C.Ok P ρ) {B : Nat → Prop} {W w : World} {f : Ren} {h h' : T AObj} (hr : HRel ρ B W f h w) {t ty : TypeId} {d s v : AVal} {d' s' : Value} (hd : VRel ρ f d d') (hs : VRel ρ f s s') (hc : aCopy C h t d s = some (v, h')) (ts : Array TypeId) (xs : Array Value) (h0 : ts[0]? = some t) (hx0 : xs[0]? = some d') (hx1 : xs[1]? = some s') :
    ∃ w' v', (Builtin.copy_ ts ty xs).run P w = .ok v' w' ∧ HRel ρ B W f h' w' ∧ VRel ρ f v v' := by
  unfold aCopy at hc
  split at hc
  · rename_i e a dn dc g hu
    have hut := Ctx.und_ok hC hu
    split at hc
    · rename_i sz sn hsz hsn
      simp only at hc
      split at hc
      · cases hc
      · rename_i l hl
        obtain ⟨cs, q0, q2⟩ := aFirst_ok (P := P) hr hs ⟨sn, hsn, Nat.min_le_left _ _⟩ hl
        have q1 := q0 w.drawn
        have hln := aLenOf_ok (P := P) hs hsn w
        have ival : VRel ρ f (.int .i64 (.lit (.ofNat (Nat.min sn dn)))) (goInt (Nat.min sn dn : Nat)) := .int _ (.lit _)
        split at hc
        · cases hc
          cases hd
          refine ⟨w, _, ?_, hr, ival⟩
          simp only [Builtin.copy_, h0, hx0, hx1, Sem.run_bind, run_underlying hut, Result.andThen_ok, hln, Ctx.size_ok hC hsz, q1, Sem.run_pure]
        · rename_i i o
          split at hc
          · rename_i h1 hset
            cases hc
            have main : ∀ (L : Loc), f i = some L → ∀ c', xs[0]? = some (.slice (some ⟨L.blk, L.base + o, none⟩) dn c') → ∃ w' v', (Builtin.copy_ ts ty xs).run P w = .ok v' w' ∧ HRel ρ B W f h' w' ∧ VRel ρ f (.int .i64 (.lit (.ofNat (Nat.min sn dn)))) v' := by
              intro L hf c' hx0
              obtain ⟨w', p1, p2, _⟩ := aSetN_ok hf P o l 0 h h' w cs hr q2 hset
              refine ⟨w', _, ?_, p2, ival⟩
              simp only [Builtin.copy_, h0, hx0, hx1, Sem.run_bind, run_underlying hut, Result.andThen_ok, hln, Ctx.size_ok hC hsz, q1, Sem.run_pure, p1]
            cases hd with
            | slice hf => exact main _ hf _ hx0
            | sliceG hf _ _ _ => exact main _ hf _ hx0
            | sliceE hf _ _ =>
              have hl0 : l = [] := by
                have h00 : Nat.min sn 0 = 0 := Nat.min_zero _
                rw [h00] at hl
                unfold aFirst at hl
                split at hl
                · cases hl; rfl
                · simp [aGetN] at hl; exact hl
                · simp [strCells] at hl; exact hl
                · cases hl
              subst hl0
              simp [aSetN] at hset
              subst hset
              have hcs : cs = [] := by have := q2.1; simpa using this
              subst hcs
              refine ⟨w, _, ?_, hr, ival⟩
              simp only [Builtin.copy_, h0, hx0, hx1, Sem.run_bind, run_underlying hut, Result.andThen_ok, hln, Ctx.size_ok hC hsz, q1, Sem.run_pure, storeCells]
          · cases hc
    · cases hc
  · cases hc
end
end Go.Sx
