/- Operations that make a block. No condition. -/
import Derived.Test.YtpoianhfjgjajaaGreatSx9
import Derived.Laws.Tables
import Derived.Laws.MakeOwn
set_option linter.unusedSimpArgs false
set_option linter.unusedVariables false
namespace Go.Sx
open Go.RowKit (Below)
noncomputable section

/-- A list as the cells of a block. -/
def cellsOf (l : List AVal) : T AVal := treeOf l 0 .nil
theorem cellsOf_ok {l : List AVal} {j : Nat} {v : AVal} (h : (cellsOf l).get j = some v) : l[j]? = some v := by
  rcases treeOf_ok _ _ _ _ _ h with ⟨_, h⟩ | h
  · simpa using h
  · (rw [T.get_nil] at h; cases h)

/-- A new block: what it does to the relation. -/
theorem HRel.newG {ρ : Env} {B : Nat → Prop} {W w w' : World} {f : Ren} {h h' : T AObj} (hr : HRel ρ B W f h w) {i : Nat} {L : Loc} {o : AObj} (hf : f i = none) {O : Obj} (hw : w'.heap = w.heap.push O) (hb : w'.os = w.os ∧ w'.tape = w.tape ∧ w'.output = w.output)
    (hL : L.blk = w.heap.size) (ho : ORel ρ (f.put i L) B w' L o) (hone : ∀ b, o.foot ρ w' L b → b = L.blk) (hh : ∀ j x, h'.get j = some x → (j = i ∧ x = o) ∨ (j ≠ i ∧ h.get j = some x)) : HRel ρ B W (f.put i L) h' w' := by
  have old : ∀ k, k < w.heap.size → w'.heap[k]? = w.heap[k]? := fun k hk => by rw [hw, Array.getElem?_push, if_neg (by omega)]
  have hB := hr.bsize
  have hs := hr.below.size
  have hsz : w.heap.size ≤ w'.heap.size := by rw [hw]; simp
  have keep := fun j M ok hj hg => (hr.obj j M ok hj hg).of_foot hsz (fun b hb => old b ((hr.obj j M ok hj hg).foot_lt hb))
  refine ⟨hr.below.trans ⟨hb.1, hb.2.1, hb.2.2, hsz, fun k hk => old k (by have := hB k hk; omega)⟩, hr.bsize, ?_, ?_, ?_⟩
  · intro j M e
    by_cases hj : j = i
    · subst hj; rw [Ren.put_same] at e; cases e; rw [hw, hL]; simp
    · rw [Ren.put_other f L hj] at e
      have := hr.lt j M e
      omega
  · intro a b La Lb oa ob ha hb hga hgb hab hown x hx hx'
    have lt : ∀ j M ok, f j = some M → h.get j = some ok → ok.foot ρ w' M x → x < w.heap.size := fun j M ok hj hg hf => (hr.obj j M ok hj hg).foot_lt ((keep j M ok hj hg).2 x hf)
    rcases hh _ _ hga with ⟨ea, eo⟩ | ⟨hai, hga⟩
    · subst eo
      rw [ea, Ren.put_same] at ha; cases ha
      have := hone x hx
      rcases hh _ _ hgb with ⟨eb, _⟩ | ⟨hbi, hgb⟩
      · exact hab (ea.trans eb.symm)
      · rw [Ren.put_other f L hbi] at hb
        have := lt b Lb ob hb hgb hx'
        omega
    · rw [Ren.put_other f L hai] at ha
      rcases hh _ _ hgb with ⟨eb, eo⟩ | ⟨hbi, hgb⟩
      · subst eo
        rw [eb, Ren.put_same] at hb; cases hb
        have := hone x hx'
        have := lt a La oa ha hga hx
        omega
      · rw [Ren.put_other f L hbi] at hb
        exact hr.apart a b La Lb oa ob ha hb hga hgb hab hown x ((keep a La oa ha hga).2 x hx) ((keep b Lb ob hb hgb).2 x hx')
  · intro j M ok hj hg
    rcases hh _ _ hg with ⟨rfl, rfl⟩ | ⟨hji, hg⟩
    · rw [Ren.put_same] at hj; cases hj; exact ho
    · rw [Ren.put_other f L hji] at hj
      exact (keep j M ok hj hg).1.mono (Ren.le_put L hf)

/-- The step of an operation that makes a block. -/
structure NewStep (P : Program) (ρ : Env) (B : Nat → Prop) (f : Ren) (i : Nat) (w : World) (o : AObj) (v : AVal) (s : Sem Next) : Prop where
  step : ∃ w' L O v', s.run P w = .ok (.value v') w' ∧ w'.heap = w.heap.push O ∧ (w'.os = w.os ∧ w'.tape = w.tape ∧ w'.output = w.output) ∧ L.blk = w.heap.size ∧ ORel ρ (f.put i L) B w' L o ∧ VRel ρ (f.put i L) v v' ∧ ∀ b, o.foot ρ w' L b → b = L.blk

theorem ORel.row {ρ : Env} {f : Ren} {B : Nat → Prop} {w : World} {L : Loc} {l : List AVal} {cs : Array Value} {e : TypeId} (hB : ¬ B L.blk) (hw : w.heap[L.blk]? = some (.cells cs e)) (hL : L.base = 0 ∧ L.sz = cs.size) (hl : LRel ρ f l cs) :
    ORel ρ f B w L (.cells (cellsOf l) e true l.length) := by
  refine ⟨cs, (0, 0), hw, hL.2.symm, fun _ => ⟨hB, fun j _ => by simp⟩, fun j v hj => ?_⟩
  obtain ⟨v', h1, h2⟩ := hl.get (cellsOf_ok hj)
  exact ⟨(List.getElem?_eq_some_iff.1 (cellsOf_ok hj)).1, v', by rw [hL.1, Nat.zero_add]; exact h1, h2⟩

theorem run_newRow {P : Program} (w : World) (e : TypeId) (cs : Array Value) : (newRow e cs).run P w = .ok ⟨w.heap.size, 0, none⟩ { w with heap := w.heap.push (.cells cs e) } := by
  simp only [newRow, Sem.run_bind, run_newObj, Result.andThen_ok, Sem.run_pure]

/-- A row of cells: a new block. -/
theorem NewStep.row {P : Program} {ρ : Env} {B : Nat → Prop} {f : Ren} {i : Nat} {w : World} {l : List AVal} {cs : Array Value} {e : TypeId} {v : AVal} {s : Sem Next} {v' : Value} (hB : ¬ B w.heap.size) (hf : f i = none) (hl : LRel ρ f l cs)
    (hs : s.run P w = .ok (.value v') { w with heap := w.heap.push (.cells cs e) }) (hv : ∀ L : Loc, L.blk = w.heap.size → L.base = 0 → VRel ρ (f.put i L) v v') :
    NewStep P ρ B f i w (.cells (cellsOf l) e true l.length) v s :=
  ⟨_, ⟨w.heap.size, 0, cs.size⟩, _, v', hs, rfl, ⟨rfl, rfl, rfl⟩, rfl, ORel.row hB (by simp) ⟨rfl, rfl⟩ (hl.mono (Ren.le_put _ hf)), hv _ rfl rfl, fun _ h => h⟩

/-! literals of aggregates -/
def splice (cells : List AVal) (off : Nat) (vs : List AVal) : List AVal := cells.take off ++ (vs ++ cells.drop (off + vs.length))
def aFill (place : Nat → Option (Nat × Nat)) : List AVal → List (Nat × AVal) → Option (List AVal)
  | cells, [] => some cells
  | cells, (i, v) :: rest =>
    match place i with
    | none => none
    | some (off, size) =>
      match Nat.beq v.cells.length size, Nat.ble (off + v.cells.length) cells.length with
      | true, true => aFill place (splice cells off v.cells) rest
      | _, _ => none
theorem foldl_set (off : Nat) : ∀ (l : List Value) (k : Nat) (cs : Array Value) (j : Nat), off + k + l.length ≤ cs.size →
    ((l.zipIdx k).foldl (fun cs (p : Value × Nat) => cs.setIfInBounds (off + p.2) p.1) cs)[j]? = if off + k ≤ j ∧ j < off + k + l.length then l[j - (off + k)]? else cs[j]? := by
  intro l
  induction l with
  | nil =>
    intro k cs j h
    rw [if_neg (by simp only [List.length_nil]; omega)]
    simp
  | cons v l ih =>
    intro k cs j h
    simp only [List.length_cons] at h
    rw [List.zipIdx_cons, List.foldl_cons, ih (k + 1) _ j (by simp; omega)]
    simp only [List.length_cons]
    by_cases hj : j = off + k
    · subst hj
      rw [if_neg (by omega), if_pos (by omega)]
      simp [show off + k < cs.size by omega]
    · by_cases hj2 : off + (k + 1) ≤ j ∧ j < off + (k + 1) + l.length
      · rw [if_pos hj2, if_pos (by omega), show j - (off + k) = (j - (off + (k + 1))) + 1 by omega]
        simp
      · rw [if_neg hj2, if_neg (by omega), Array.getElem?_setIfInBounds_ne (by omega)]
theorem foldl_set_size (off : Nat) : ∀ (l : List Value) (k : Nat) (cs : Array Value), ((l.zipIdx k).foldl (fun cs (p : Value × Nat) => cs.setIfInBounds (off + p.2) p.1) cs).size = cs.size := by
  intro l
  induction l with
  | nil => intro k cs; simp
  | cons v l ih => intro k cs; rw [List.zipIdx_cons, List.foldl_cons, ih]; simp
theorem splice_get (cells vs : List AVal) (off j : Nat) (h : off + vs.length ≤ cells.length) : (splice cells off vs)[j]? = if off ≤ j ∧ j < off + vs.length then vs[j - off]? else cells[j]? := by
  unfold splice
  have h1 : (cells.take off).length = off := by simp; omega
  by_cases hj : j < off
  · rw [if_neg (by omega), List.getElem?_append_left (by omega), List.getElem?_take, if_pos hj]
  · rw [List.getElem?_append_right (by omega), h1]
    by_cases hj2 : j < off + vs.length
    · rw [if_pos (by omega), List.getElem?_append_left (by omega)]
    · rw [if_neg (by omega), List.getElem?_append_right (by omega), List.getElem?_drop]
      congr 1; omega
theorem splice_length (cells vs : List AVal) (off : Nat) (h : off + vs.length ≤ cells.length) : (splice cells off vs).length = cells.length := by
  unfold splice; simp; omega
theorem aFill_ok {ρ : Env} {f : Ren} {pl : Nat → Option (Nat × Nat)} : ∀ (ps : List (Nat × AVal)) (ps' : List (Nat × Value)) (cells r : List AVal) (cs : Array Value),
    (ps'.length = ps.length ∧ ∀ (k : Nat) (p : Nat × AVal) (p' : Nat × Value), ps[k]? = some p → ps'[k]? = some p' → p.1 = p'.1 ∧ VRel ρ f p.2 p'.2) → LRel ρ f cells cs → aFill pl cells ps = some r →
    ∃ cs', Instr.fill pl cs ps' = some cs' ∧ LRel ρ f r cs' := by
  intro ps
  induction ps with
  | nil =>
    intro ps' cells r cs hp hc h
    have : ps' = [] := List.eq_nil_of_length_eq_zero hp.1
    subst this
    simp [aFill] at h; subst h
    exact ⟨cs, rfl, hc⟩
  | cons p ps ih =>
    intro ps' cells r cs hp hc h
    cases ps' with
    | nil => have := hp.1; simp at this
    | cons p' ps' =>
      obtain ⟨i, v⟩ := p
      obtain ⟨i', v'⟩ := p'
      obtain ⟨rfl, hv⟩ := hp.2 0 _ _ rfl rfl
      have hp' : ps'.length = ps.length ∧ ∀ (k : Nat) (p : Nat × AVal) (p' : Nat × Value), ps[k]? = some p → ps'[k]? = some p' → p.1 = p'.1 ∧ VRel ρ f p.2 p'.2 :=
        ⟨by have := hp.1; simpa using this, fun k a a' x y => hp.2 (k + 1) a a' (by simpa using x) (by simpa using y)⟩
      simp only [aFill] at h
      split at h
      · cases h
      · rename_i off size hpl
        split at h
        · rename_i h1 h2
          have h1 := Nat.eq_of_beq_eq_true h1
          have h2 := Nat.le_of_ble_eq_true h2
          have hcell := LRel.cells hv
          have hsz : v'.cells.size = v.cells.length := hcell.1
          have hcs := hc.1
          simp only [Instr.fill, hpl]
          rw [if_neg (by simp; omega)]
          refine ih ps' (splice cells off v.cells) r _ hp' ?_ h
          have e : (v'.cells.zipIdx.foldl (fun cs (x : Value × Nat) => match x with | (c, j) => cs.setIfInBounds (off + j) c) cs) = ((v'.cells.toList.zipIdx 0).foldl (fun cs (p : Value × Nat) => cs.setIfInBounds (off + p.2) p.1) cs) := by
            rw [← Array.foldl_toList, Array.toList_zipIdx]
          refine ⟨?_, fun j a a' ha ha' => ?_⟩
          · show (v'.cells.zipIdx.foldl (fun cs (x : Value × Nat) => match x with | (c, j) => cs.setIfInBounds (off + j) c) cs).size = _
            rw [e, foldl_set_size, splice_length _ _ _ h2]
            exact hc.1
          · have ha'' : ((v'.cells.toList.zipIdx 0).foldl (fun cs (p : Value × Nat) => cs.setIfInBounds (off + p.2) p.1) cs)[j]? = some a' := by rw [← e]; exact ha'
            rw [foldl_set off _ 0 cs j (by simp; omega)] at ha''
            rw [splice_get _ _ _ _ h2] at ha
            simp only [Nat.add_zero, Array.length_toList, hsz] at ha''
            split at ha
            · rename_i hjj
              rw [if_pos hjj] at ha''
              exact hcell.2 _ a a' ha (by simpa using ha'')
            · rename_i hjj
              rw [if_neg hjj] at ha''
              exact hc.2 _ a a' ha ha''
        · cases h

def evp (aev : Operand → Option AVal) : List (Nat × Operand) → Option (List (Nat × AVal))
  | [] => some []
  | (i, x) :: l =>
    match aev x, evp aev l with
    | some v, some m => some ((i, v) :: m)
    | _, _ => none
theorem evp_ok {ρ : Env} {f : Ren} {aev : Operand → Option AVal} {ev : Operand → Value} (he : EvRel ρ f aev ev) : ∀ (l : List (Nat × Operand)) (m : List (Nat × AVal)), evp aev l = some m →
    (l.map fun (i, x) => (i, ev x)).length = m.length ∧ ∀ (k : Nat) (p : Nat × AVal) (p' : Nat × Value), m[k]? = some p → (l.map fun (i, x) => (i, ev x))[k]? = some p' → p.1 = p'.1 ∧ VRel ρ f p.2 p'.2 := by
  intro l
  induction l with
  | nil => intro m h; simp [evp] at h; subst h; exact ⟨rfl, by simp⟩
  | cons x l ih =>
    intro m h
    obtain ⟨i, x⟩ := x
    simp only [evp] at h
    split at h
    · rename_i v m' hv hm
      cases h
      obtain ⟨h1, h2⟩ := ih _ hm
      refine ⟨by simpa using h1, fun k p p' hp hp' => ?_⟩
      cases k with
      | zero => simp at hp hp'; subst hp; subst hp'; exact ⟨rfl, he _ _ hv⟩
      | succ k => exact h2 k p p' (by simpa using hp) (by simpa using hp')
    · cases h
def aPlaces (C : Ctx) : List Field → Option (List (Nat × Nat))
  | [] => some []
  | f :: fs =>
    match C.size f.type, aPlaces C fs with
    | some n, some l => some ((f.offset, n) :: l)
    | _, _ => none
theorem aPlaces_ok {C : Ctx} {P : Program} {ρ : Env} (hC : C.Ok P ρ) : ∀ (fs : List Field) (l : List (Nat × Nat)), aPlaces C fs = some l → fs.mapM (fun f => (P.info? f.type).map fun i => (f.offset, i.size)) = some l := by
  intro fs
  induction fs with
  | nil => intro l h; simp [aPlaces] at h; subst h; rfl
  | cons f fs ih =>
    intro l h
    simp only [aPlaces] at h
    split at h
    · rename_i n m hn hm
      cases h
      obtain ⟨i, hi, rfl⟩ := Ctx.info hC hn
      simp [List.mapM_cons, hi, ih _ hm]
    · cases h
def aBuild (C : Ctx) (aev : Operand → Option AVal) (t : TypeId) (parts : List (Nat × Operand)) : Option AVal :=
  match aZero C t, evp aev parts with
  | some z, some ps =>
    match C.und t with
    | some (.array _ e) =>
      match C.size e with
      | none => none
      | some s =>
        match aFill (fun i => some (i * s, s)) z.cells ps with
        | some l => some (.agg l)
        | none => none
    | some (.struct fs) =>
      match aPlaces C fs.toList with
      | none => none
      | some pl =>
        match aFill (fun i => pl[i]?) z.cells ps with
        | some l => some (.agg l)
        | none => none
    | _ => none
  | _, _ => none
theorem aBuild_ok {C : Ctx} {P : Program} {ρ : Env} (hC : C.Ok P ρ) {f : Ren} {aev : Operand → Option AVal} {ev : Operand → Value} (he : EvRel ρ f aev ev) {t : TypeId} {parts : Array (Nat × Operand)} {v : AVal} (h : aBuild C aev t parts.toList = some v) (w : World) :
    ∃ v', (Instr.build t (parts.map fun (i, x) => (i, ev x))).run P w = .ok v' w ∧ VRel ρ f v v' := by
  unfold aBuild at h
  split at h
  · rename_i z ps hz hps
    obtain ⟨z', -, hz2, it, hit, hzz⟩ := aZero_ok hC (f := f) hz w
    have hp := evp_ok he _ _ hps
    have hpl : (parts.map fun (i, x) => (i, ev x)).toList = parts.toList.map fun (i, x) => (i, ev x) := by simp
    have hzc := LRel.cells hz2
    split at h
    · rename_i n e hu
      have hd := Ctx.und_ok hC hu
      split at h
      · cases h
      · rename_i s hs
        obtain ⟨ie, hie, rfl⟩ := Ctx.info hC hs
        split at h
        · rename_i l hf
          cases h
          obtain ⟨cs', h1, h2⟩ := aFill_ok _ _ _ _ _ hp hzc hf
          refine ⟨.agg cs', run_build w t _ cs' ?_, .agg h2.1 h2.2⟩
          unfold Program.built
          rw [hit, hd]
          simp only [hzz, hie, hpl]
          exact h1
        · cases h
    · rename_i fs hu
      have hd := Ctx.und_ok hC hu
      split at h
      · cases h
      · rename_i pl hplc
        have hpm := aPlaces_ok hC _ _ hplc
        split at h
        · rename_i l hf
          cases h
          obtain ⟨cs', h1, h2⟩ := aFill_ok _ _ _ _ _ hp hzc hf
          refine ⟨.agg cs', run_build w t _ cs' ?_, .agg h2.1 h2.2⟩
          unfold Program.built
          rw [hit, hd]
          simp only [hzz, hpm, hpl]
          simpa using h1
        · cases h
    · cases h
  · cases h

/-! zero cells -/
def aReps (z : List AVal) : Nat → List AVal → List AVal
  | 0, acc => acc
  | n + 1, acc => aReps z n (z ++ acc)
theorem aReps_length (z : List AVal) : ∀ (n : Nat) (acc : List AVal), (aReps z n acc).length = n * z.length + acc.length := by
  intro n
  induction n with
  | zero => intro acc; simp [aReps]
  | succ n ih => intro acc; simp only [aReps, ih, List.length_append, Nat.succ_mul]; omega
theorem aReps_get (z : List AVal) : ∀ (n : Nat) (acc : List AVal) (j : Nat), (aReps z n acc)[j]? = if j < n * z.length then z[j % z.length]? else acc[j - n * z.length]? := by
  intro n
  induction n with
  | zero => intro acc j; simp [aReps]
  | succ n ih =>
    intro acc j
    simp only [aReps, ih]
    by_cases h1 : j < n * z.length
    · rw [if_pos h1, if_pos (by rw [Nat.succ_mul]; omega)]
    · rw [if_neg h1]
      by_cases h2 : j < (n + 1) * z.length
      · rw [if_pos h2]
        rw [Nat.succ_mul] at h2
        have hlt : j - n * z.length < z.length := by omega
        rw [List.getElem?_append_left hlt]
        congr 1
        have e := Nat.mul_comm z.length n
        have : j = (j - n * z.length) + z.length * n := by omega
        conv => rhs; rw [this, Nat.add_mul_mod_self_left]
        exact (Nat.mod_eq_of_lt hlt).symm
      · rw [if_neg h2]
        rw [Nat.succ_mul] at h2 ⊢
        rw [List.getElem?_append_right (by omega)]
        congr 1; omega
theorem aReps_rel {ρ : Env} {f : Ren} {z : List AVal} {zs : Array Value} (h : LRel ρ f z zs) (n : Nat) : LRel ρ f (aReps z n []) (madeCells zs (n * zs.size)) := by
  refine ⟨by rw [size_madeCells, aReps_length, h.1]; simp, fun j v v' hv hv' => ?_⟩
  rw [aReps_get] at hv
  split at hv
  · rename_i hj
    have hpos : 0 < zs.size := by
      rw [h.1]
      cases hz : z.length with
      | zero => rw [hz] at hj; simp at hj
      | succ k => omega
    have hm : j % z.length < zs.size := by rw [← h.1]; exact Nat.mod_lt _ hpos
    refine h.2 _ v v' hv ?_
    unfold madeCells at hv'
    rw [Array.getElem?_map, Option.map_eq_some_iff] at hv'
    obtain ⟨a, ha, rfl⟩ := hv'
    have : a = j := by
      have := (Array.getElem?_eq_some_iff.1 ha).2
      simpa using this.symm
    subst this
    rw [← h.1] at hm ⊢
    simp [hm]
  · simp at hv
end
end Go.Sx
