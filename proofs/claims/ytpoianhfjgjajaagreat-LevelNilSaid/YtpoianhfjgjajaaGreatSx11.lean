/- The operations that make a block, as one function. No condition. -/
import Derived.Test.YtpoianhfjgjajaaGreatSx10
set_option linter.unusedSimpArgs false
set_option linter.unusedVariables false
namespace Go.Sx
open Go.RowKit (Below)
noncomputable section

def Ctx.bytes (C : Ctx) (t : TypeId) : Option Nat :=
  match C.ty.get t with
  | none => none
  | some i => some i.bytes
def strCells (l : List IE) : List AVal := l.map (AVal.int .u8)
def nwAlloc (C : Ctx) (aev : Operand → Option AVal) (i : Nat) (e : TypeId) : Option (AObj × AVal) :=
  match aZero C e with
  | some z => some (.cells (cellsOf z.cells) e true z.cells.length, .ptr (some (i, 0)))
  | none => none
def nwBox (C : Ctx) (aev : Operand → Option AVal) (i : Nat) (e : TypeId) (x : Operand) : Option (AObj × AVal) :=
  match aev x with
  | some v => some (.cells (cellsOf v.cells) e true v.cells.length, .ptr (some (i, 0)))
  | none => none
def nwBuildslice (C : Ctx) (aev : Operand → Option AVal) (i : Nat) (t : TypeId) (len : Nat) (parts : Array (Nat × Operand)) : Option (AObj × AVal) :=
  match C.und t, evp aev parts.toList with
  | some (.slice e), some ps =>
    match C.size e, aZero C e with
    | some s, some z =>
      match Nat.beq z.cells.length s, Nat.ble (len * s) 16777216 with
      | true, true =>
        match aFill (fun i => some (i * s, s)) (aReps z.cells len []) ps with
        | some l => some (.cells (cellsOf l) e true l.length, .slice (some (i, 0)) len len 0)
        | none => none
      | _, _ => none
    | _, _ => none
  | _, _ => none
def nwMakemap (C : Ctx) (aev : Operand → Option AVal) (i : Nat) (t : TypeId) (r : Option Operand) : Option (AObj × AVal) :=
  match r with
  | none => some (.map [], .map (some i))
  | some x =>
    match C.und t, aev x with
    | some (.map _ _), some (.int _ _) => some (.map [], .map (some i))
    | _, _ => none
def nwMakeslice (C : Ctx) (aev : Operand → Option AVal) (i : Nat) (t : TypeId) (l : Operand) (c : Operand) : Option (AObj × AVal) :=
  match aev l, aev c with
  | some lv, some cv =>
    match asNat C lv, asNat C cv with
    | some l, some c =>
      match C.und t with
      | some (.slice e) =>
        match C.size e, C.bytes e, aZero C e with
        | some s, some b, some z =>
          match Nat.ble l c, Nat.ble (b * c) 281474976710656, Nat.ble c 9223372036854775807, Nat.beq z.cells.length s with
          | true, true, true, true => some (.cells (cellsOf (aReps z.cells c [])) e true (aReps z.cells c []).length, .slice (some (i, 0)) l c 0)
          | _, _, _, _ => none
        | _, _, _ => none
      | _ => none
    | _, _ => none
  | _, _ => none
def nwConvert (C : Ctx) (aev : Operand → Option AVal) (i : Nat) (s : TypeId) (d : TypeId) (x : Operand) : Option (AObj × AVal) :=
  match C.und s, C.und d, aev x with
  | some .string, some (.slice e), some (.str l) =>
    match C.und e with
    | some (.int .u8) => some (.cells (cellsOf (strCells l)) e true (strCells l).length, .slice (some (i, 0)) l.length l.length 1)
    | _ => none
  | _, _, _ => none
def nwRange (C : Ctx) (aev : Operand → Option AVal) (i : Nat) (t : TypeId) (x : Operand) : Option (AObj × AVal) :=
  match C.und t, aev x with
  | some (.map _ _), some (.map none) => some (.it0, .ptr (some (i, 0)))
  | _, _ => none
def aNew (C : Ctx) (aev : Operand → Option AVal) (i : Nat) : Op → Option (AObj × AVal)
  | .alloc e => nwAlloc C aev i e
  | .box e x => nwBox C aev i e x
  | .buildSlice t len parts => nwBuildslice C aev i t len parts
  | .makeMap t r => nwMakemap C aev i t r
  | .makeSlice t l c => nwMakeslice C aev i t l c
  | .convert s d x => nwConvert C aev i s d x
  | .range t x => nwRange C aev i t x
  | _ => none

theorem LRel.congr_size {ρ : Env} {f : Ren} {l : List AVal} {a : Array Value} (h : LRel ρ f l a) : a.size = l.length := h.1
theorem strCells_rel {ρ : Env} {f : Ren} {l : List IE} {s : ByteArray} (h : SRel ρ l s) : LRel ρ f (strCells l) (s.data.map fun b => .int .u8 b.toNat) := by
  have hs := h.size
  refine ⟨by simpa [strCells] using hs, fun i v v' hv hv' => ?_⟩
  simp only [strCells, List.getElem?_map, Option.map_eq_some_iff] at hv
  obtain ⟨e, he, rfl⟩ := hv
  rw [Array.getElem?_map, Option.map_eq_some_iff] at hv'
  obtain ⟨b, hb, rfl⟩ := hv'
  have h1 : (l.map (·.ev ρ))[i]? = some (e.ev ρ) := by simp [he]
  rw [← h] at h1
  simp only [List.getElem?_map, Option.map_eq_some_iff, Array.getElem?_toList, hb] at h1
  obtain ⟨b', hb', e1⟩ := h1
  cases hb'
  rw [e1]
  exact .int _ e

theorem aNew_ok {C : Ctx} {P : Program} {ρ : Env} (hC : C.Ok P ρ) {B : Nat → Prop} {w : World} {f : Ren} (hB : ¬ B w.heap.size) {aev : Operand → Option AVal} {ev : Operand → Value} (he : EvRel ρ f aev ev) {i : Nat} (hf : f i = none) {o : Oper} {ob : AObj} {v : AVal} (hv : aNew C aev i o.op = some (ob, v)) :
    NewStep P ρ B f i w ob v (execOp ev o) := by
  obtain ⟨dst, op, type, pos, after, guard⟩ := o
  have ptrv : ∀ L : Loc, L.blk = w.heap.size → L.base = 0 → VRel ρ (f.put i L) (.ptr (some (i, 0))) (.pointer (some ⟨w.heap.size, 0, none⟩)) := fun L h1 h2 => by
    have := VRel.ptr (ρ := ρ) (o := 0) (Ren.put_same f i L)
    rw [h1, h2] at this
    exact this
  have slicev : ∀ (n c : Nat) (L : Loc), L.blk = w.heap.size → L.base = 0 → VRel ρ (f.put i L) (.slice (some (i, 0)) n c 0) (.slice (some ⟨w.heap.size, 0, none⟩) n c) := fun n c L h1 h2 => by
    have := VRel.slice (ρ := ρ) (o := 0) (n := n) (c := c) (Ren.put_same f i L)
    rw [h1, h2] at this
    exact this
  unfold aNew at hv
  simp only at hv
  split at hv
  all_goals try unfold nwAlloc at hv
  all_goals try unfold nwBox at hv
  all_goals try unfold nwBuildslice at hv
  all_goals try unfold nwMakemap at hv
  all_goals try unfold nwMakeslice at hv
  all_goals try unfold nwConvert at hv
  all_goals try unfold nwRange at hv
  case h_1 e =>
    split at hv
    · rename_i z hz
      cases hv
      obtain ⟨z', h1, h2, _⟩ := aZero_ok hC (f := f) hz w
      refine NewStep.row hB hf (LRel.cells h2) ?_ ptrv
      simp only [execOp, Instr.alloc, Sem.run_bind, h1, Result.andThen_ok, newVar, run_newRow, Sem.run_pure]
    · cases hv
  case h_2 e x =>
    split at hv
    · rename_i a ha
      cases hv
      refine NewStep.row hB hf (LRel.cells (he _ _ ha)) ?_ ptrv
      simp only [execOp, Instr.box, Sem.run_bind, Result.andThen_ok, newVar, run_newRow, Sem.run_pure]
    · cases hv
  case h_3 t len parts =>
    split at hv
    · rename_i e ps hu hps
      have hd := Ctx.und_ok hC hu
      split at hv
      · rename_i s z hs hz
        obtain ⟨z', h1, h2, it, hit, hzz⟩ := aZero_ok hC (f := f) hz w
        split at hv
        · rename_i hl hsm
          have hl := Nat.eq_of_beq_eq_true hl
          have hsm := Nat.le_of_ble_eq_true hsm
          split at hv
          · rename_i l hfl
            cases hv
            have hzc := LRel.cells h2
            have hzs : z'.cells.size = s := by rw [hzc.1]; exact hl
            have hr := aReps_rel hzc len
            rw [hzs] at hr
            obtain ⟨cs', q1, q2⟩ := aFill_ok _ _ _ _ _ (evp_ok he _ _ hps) hr hfl
            refine NewStep.row hB hf q2 ?_ (slicev len len)
            have hpl : (parts.map fun (i, x) => (i, ev x)).toList = parts.toList.map fun (i, x) => (i, ev x) := by simp
            by_cases h0 : len * s = 0
            · have e0 : madeCells z'.cells (len * s) = #[] := by rw [h0]; simp [madeCells]
              rw [e0] at q1
              have q1' : Instr.fill (fun i => some (i * s, s)) ((Array.range (len * s)).map ((#[] : Array Value)[· % (#[] : Array Value).size]!)) (parts.toList.map fun (i, x) => (i, ev x)) = some cs' := by
                rw [h0, show Array.range 0 = #[] from by apply Array.ext'; simp, show (Array.map (fun x => (#[] : Array Value)[x % (#[] : Array Value).size]!) #[]) = #[] from by apply Array.ext'; simp]
                exact q1
              simp only [execOp, Instr.buildSlice, Sem.run_bind, run_underlying hd, Result.andThen_ok, Ctx.size_ok hC hs, if_neg (show ¬ len * s > 2 ^ 24 by omega), if_pos h0, Sem.run_pure, hpl, q1', run_newRow]
            · have q1' : Instr.fill (fun i => some (i * s, s)) ((Array.range (len * s)).map (z'.cells[· % z'.cells.size]!)) (parts.toList.map fun (i, x) => (i, ev x)) = some cs' := q1
              simp only [execOp, Instr.buildSlice, Sem.run_bind, run_underlying hd, Result.andThen_ok, Ctx.size_ok hC hs, if_neg (show ¬ len * s > 2 ^ 24 by omega), if_neg h0, h1, Sem.run_pure, hpl, q1', run_newRow]
          · cases hv
        · cases hv
      · cases hv
    · cases hv
  case h_4 t r =>
    have step : ∀ (s : Sem Next), s.run P w = .ok (.value (.map (some w.heap.size))) { w with heap := w.heap.push (.map #[] 0) } → NewStep P ρ B f i w (.map []) (.map (some i)) s := by
      intro s hs
      refine ⟨_, ⟨w.heap.size, 0, 0⟩, _, _, hs, rfl, ⟨rfl, rfl, rfl⟩, rfl, ⟨hB, #[], 0, by simp, rfl, by simp⟩, ?_⟩
      exact ⟨VRel.map (ρ := ρ) (Ren.put_same f i ⟨w.heap.size, 0, 0⟩), fun _ h => h⟩
    split at hv
    · cases hv
      refine step _ ?_
      simp only [execOp, Instr.makeMap, Option.map_none, Sem.run_bind, Sem.run_pure, Result.andThen_ok, run_newObj]
    · rename_i x
      split at hv
      · rename_i k e kk ee hu hx
        have hd := Ctx.und_ok hC hu
        cases hv
        have hxv := he _ _ hx
        refine step _ ?_
        generalize hx' : ev x = x' at hxv
        cases hxv
        simp only [execOp, Instr.makeMap, Option.map_some, hx', Sem.run_bind, run_underlying hd, asInt, asIntOf, Sem.run_pure, Result.andThen_ok, run_newObj]
      · cases hv
  case h_5 t l c =>
    split at hv
    · rename_i lv cv hl hc
      split at hv
      · rename_i l' c' hl' hc'
        obtain ⟨kl, el⟩ := asNat_ok hC (he _ _ hl) hl'
        obtain ⟨kc, ec⟩ := asNat_ok hC (he _ _ hc) hc'
        split at hv
        · rename_i e hu
          have hd := Ctx.und_ok hC hu
          split at hv
          · rename_i s b z hs hb hz
            obtain ⟨z', h1, h2, it, hit, hzz⟩ := aZero_ok hC (f := f) hz w
            split at hv
            · rename_i g1 g2 g3 g4
              have g1 := Nat.le_of_ble_eq_true g1
              have g2 := Nat.le_of_ble_eq_true g2
              have g3 := Nat.le_of_ble_eq_true g3
              have g4 := Nat.eq_of_beq_eq_true g4
              cases hv
              have hzc := LRel.cells h2
              obtain ⟨it2, hit2, hsz⟩ := Ctx.info hC hs
              rw [hit] at hit2
              cases hit2
              have hby : it.bytes = b := by
                unfold Ctx.bytes at hb
                split at hb
                · cases hb
                · rename_i i2 hi2
                  have := hC.ty _ _ hi2
                  rw [hit] at this
                  cases this
                  cases hb; rfl
              have hzs : z'.cells.size = it.size := by rw [hzc.1, hsz]; exact g4
              have hr := aReps_rel hzc c'
              rw [hzs] at hr
              refine NewStep.row hB hf hr ?_ (slicev l' c')
              have hb2 : (it.bytes : Int) * (c' : Int) ≤ 281474976710656 := by
                rw [hby, ← Int.natCast_mul]
                exact Int.ofNat_le.2 g2
              have hrun := run_make (P := P) w t e it z' hd hit hzz kl kc l' c' (by omega) (by omega) hb2 (by omega)
              simp only [Int.toNat_natCast] at hrun
              simp only [execOp, el, ec, Sem.run_bind, hrun, Result.andThen_ok, Sem.run_pure]
              rfl
            · cases hv
          · cases hv
        · cases hv
      · cases hv
    · cases hv
  case h_6 s d x =>
    split at hv
    · rename_i e l hs hd hx
      have hs := Ctx.und_ok hC hs
      have hd := Ctx.und_ok hC hd
      split at hv
      · rename_i hu8
        have hu8 := Ctx.und_ok hC hu8
        cases hv
        have hxv := he _ _ hx
        generalize hx' : ev x = x' at hxv
        cases hxv
        rename_i st hst
        have hsz := hst.size
        -- the capacity is drawn
        obtain ⟨cap, hcap, hle⟩ : ∃ cap, (choose (.appendCap st.size 0 e)).run P w = .ok cap { w with drawn := w.drawn + 1 } ∧ st.size ≤ cap := by
          refine ⟨_, by rw [run_choose]; simp only [Question.forced, Bool.false_eq_true, if_false]; rfl, ?_⟩
          simp only [Question.cut]
          omega
        have hrow := strCells_rel (f := f) hst
        refine ⟨{ w with heap := w.heap.push (.cells (st.data.map (fun b => .int .u8 b.toNat) ++ Array.replicate (cap - st.size) (.int .u8 0)) e (cap, cap + 1)), drawn := w.drawn + 1 }, ⟨w.heap.size, 0, cap⟩, .cells (st.data.map (fun b => .int .u8 b.toNat) ++ Array.replicate (cap - st.size) (.int .u8 0)) e (cap, cap + 1), .slice (some ⟨w.heap.size, 0, none⟩) st.size cap, ?_, rfl, ⟨rfl, rfl, rfl⟩, rfl, ?_, ?_⟩
        · have hsize : (st.data.map (fun b : UInt8 => Value.int .u8 b.toNat) ++ Array.replicate (cap - st.size) (Value.int .u8 0)).size = cap := by
            simp only [Array.size_append, Array.size_map, Array.size_replicate]
            have : st.data.size = st.size := rfl
            omega
          simp only [execOp, hx', convert, Sem.run_bind, run_underlying hs, run_underlying hd, run_underlying hu8, Result.andThen_ok, Conv.stringToBytes, hcap, run_newRow, markStringish, run_shape]
          have hshape : (World.shape? { heap := w.heap.push (.cells (st.data.map (fun b : UInt8 => Value.int .u8 b.toNat) ++ Array.replicate (cap - st.size) (Value.int .u8 0)) e), tape := w.tape, drawn := w.drawn + 1, os := w.os, output := w.output } w.heap.size) = some (e, cap) := by
            simp only [World.shape?, Array.getElem?_push_size, hsize]
          rw [hshape]
          simp only [Sem.run_bind, run_freeze, Sem.run_pure, Result.andThen_ok, Result.ok.injEq, true_and]
          simp only [World.freeze, if_neg (by decide : ¬ (1 : Nat) = 0)]
          congr 1
          apply Array.ext_getElem?
          intro k
          rw [Array.getElem?_modify, Array.getElem?_push]
          by_cases hk : k = w.heap.size
          · subst hk; simp
          · rw [if_neg (fun e => hk e.symm), if_neg hk, Array.getElem?_push, if_neg hk]
        · have hsize : (st.data.map (fun b : UInt8 => Value.int .u8 b.toNat) ++ Array.replicate (cap - st.size) (Value.int .u8 0)).size = cap := by
            simp only [Array.size_append, Array.size_map, Array.size_replicate]
            have : st.data.size = st.size := rfl
            omega
          refine ⟨_, (cap, cap + 1), by simp, hsize, fun _ => ⟨hB, fun j hj => by have hj' : j < cap := hj; show ¬ (cap ≤ j ∧ j < cap + 1); omega⟩, fun j u hj => ?_⟩
          obtain ⟨u', h1, h2⟩ := hrow.get (cellsOf_ok hj)
          refine ⟨(List.getElem?_eq_some_iff.1 (cellsOf_ok hj)).1, u', ?_, h2.mono (Ren.le_put _ hf)⟩
          have hlt := (Array.getElem?_eq_some_iff.1 h1).1
          rw [Nat.zero_add, Array.getElem?_append_left hlt]
          exact h1
        · rw [← hsz]
          have := VRel.sliceG (ρ := ρ) (f := f.put i ⟨w.heap.size, 0, cap⟩) (i := i) (o := 0) (n := st.size) (c := st.size) (c' := cap) (g := 0) (Ren.put_same f i _) (Nat.le_refl _) hle (by simp)
          exact ⟨this, fun _ h => h⟩
      · cases hv
    · cases hv
  case h_7 t x =>
    split at hv
    · rename_i k e hu hx
      cases hv
      have hd := Ctx.und_ok hC hu
      have hxv := he _ _ hx
      generalize hx' : ev x = x' at hxv
      cases hxv
      refine ⟨{ w with heap := w.heap.push (.mapIter none 0 #[] 0) }, ⟨w.heap.size, 0, 0⟩, _, .pointer (some ⟨w.heap.size, 0, none⟩), ?_, rfl, ⟨rfl, rfl, rfl⟩, rfl, ⟨rfl, 0, #[], 0, by simp⟩, ptrv ⟨w.heap.size, 0, 0⟩ rfl rfl, fun _ h => h⟩
      simp only [execOp, Instr.range, hx', Sem.run_bind, run_underlying hd, Result.andThen_ok, Sem.run_pure, run_newObj]
    · cases hv
  case h_8 => cases hv
end
end Go.Sx
