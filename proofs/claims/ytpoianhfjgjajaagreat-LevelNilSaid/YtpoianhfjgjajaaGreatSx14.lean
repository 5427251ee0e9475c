/- One operation: on symbolic values, against the model's. No condition. -/
import Derived.Test.YtpoianhfjgjajaaGreatSxH
set_option linter.unusedSimpArgs false
set_option linter.unusedVariables false
namespace Go.Sx
open Go.RowKit (Below)
noncomputable section

def aClear (C : Ctx) (h : T AObj) (t : TypeId) : AVal → Option (T AObj)
  | .map none => some h
  | .slice none _ _ _ => some h
  | .slice (some (i, o)) n _ _ =>
    match n with
    | 0 => some h
    | n + 1 =>
      match C.und t with
      | some (.slice e) =>
        match aZero C e with
        | some z => aSetN i h o (aReps z.cells (n + 1) [])
        | none => none
      | _ => none
  | .map (some r) =>
    match h.get r with
    | some (.map _) => some (h.set r (.map []))
    | _ => none
  | _ => none
theorem aClear_ok {C : Ctx} {P : Program} {ρ : Env} (hC : C.Ok P ρ) {B : Nat → Prop} {W w : World} {f : Ren} {h h' : T AObj} (hr : HRel ρ B W f h w) {t ty : TypeId} {x : AVal} {x' : Value} (hx : VRel ρ f x x') (hu : (C.und t).isSome = true) (hc : aClear C h t x = some h') (ts : Array TypeId) (xs : Array Value) (h0 : ts[0]? = some t) (hx0 : xs[0]? = some x') :
    ∃ w', (Builtin.clear_ ts ty xs).run P w = .ok (.tuple #[]) w' ∧ HRel ρ B W f h' w' := by
  obtain ⟨d, hd⟩ := Option.isSome_iff_exists.1 hu
  have hd := Ctx.und_ok hC hd
  unfold Builtin.clear_
  unfold aClear at hc
  simp only [h0, hx0, Sem.run_bind, run_underlying hd, Result.andThen_ok]
  split at hc
  · cases hc; cases hx
    exact ⟨w, by simp only [Sem.run_pure, Result.andThen_ok], hr⟩
  · cases hc; cases hx
    exact ⟨w, by simp only [Sem.run_pure, Result.andThen_ok], hr⟩
  · rename_i i o n c g
    split at hc
    · cases hc
      cases hx <;> exact ⟨w, by simp only [Sem.run_pure, Result.andThen_ok], hr⟩
    · rename_i n
      split at hc
      · rename_i e he
        have he := Ctx.und_ok hC he
        rw [hd] at he
        cases he
        split at hc
        · rename_i z hz
          obtain ⟨z', h1, h2, _⟩ := aZero_ok hC (f := f) hz w
          have main : ∀ (L : Loc), f i = some L → ∃ w', (storeCells ⟨L.blk, L.base + o, none⟩ (Builtin.zeroCells z'.cells (n + 1)).toList).run P w = .ok () w' ∧ HRel ρ B W f h' w' := by
            intro L hf
            have hrl := aReps_rel (LRel.cells h2) (n + 1)
            have e1 : Builtin.zeroCells z'.cells (n + 1) = madeCells z'.cells ((n + 1) * z'.cells.size) := rfl
            obtain ⟨w', p1, p2, _⟩ := aSetN_ok hf P o _ 0 h h' w (madeCells z'.cells ((n + 1) * z'.cells.size)).toList hr (by simpa using hrl) hc
            exact ⟨w', by rw [e1]; exact p1, p2⟩
          cases hx with
          | slice hf =>
            obtain ⟨w', p1, p2⟩ := main _ hf
            exact ⟨w', by simp only [Sem.run_bind, h1, Result.andThen_ok, p1, Sem.run_pure], p2⟩
          | sliceG hf _ _ _ =>
            obtain ⟨w', p1, p2⟩ := main _ hf
            exact ⟨w', by simp only [Sem.run_bind, h1, Result.andThen_ok, p1, Sem.run_pure], p2⟩
        · cases hc
      · cases hc
  · rename_i r
    cases hx; rename_i L hf
    split at hc
    · rename_i es hes
      cases hc
      obtain ⟨hB, es', cl, q1, q2, q3⟩ := hr.obj _ L _ hf hes
      refine ⟨_, ?_, hr.setMap hf hes (es1 := []) (es1' := #[]) (cl := cl) ⟨rfl, by simp⟩⟩
      cases d <;> simp only [Sem.run_bind, run_getObj_map q1, Result.andThen_ok, run_setObj_map q1, Sem.run_pure]
    · cases hc
  · cases hc

def efStore (C : Ctx) (h : T AObj) (nx : Nat) (aev : Operand → Option AVal) (t : TypeId) (x : Operand) (v : Operand) : Option (Option AVal × T AObj × Nat) :=
  match aev x, aev v with
  | some a, some b =>
    match aStore2 C h t a b with
    | some h' => some (none, h', nx)
    | none => none
  | _, _ => none
def efMapupdate (C : Ctx) (h : T AObj) (nx : Nat) (aev : Operand → Option AVal) (t : TypeId) (m : Operand) (k : Operand) (v : Operand) : Option (Option AVal × T AObj × Nat) :=
  match aev m, aev k, aev v with
  | some a, some b, some c =>
    match aMapSet C h t a b c with
    | some h' => some (none, h', nx)
    | none => none
  | _, _, _ => none
def efInsert (C : Ctx) (h : T AObj) (nx : Nat) (aev : Operand → Option AVal) (t : TypeId) (m : Operand) (k : Operand) (v : Operand) : Option (Option AVal × T AObj × Nat) :=
  match aev m, aev k, aev v with
  | some a, some b, some c =>
    match aMapSet C h t a b c with
    | some h' => some (none, h', nx)
    | none => none
  | _, _, _ => none
def efC3 (C : Ctx) (h : T AObj) (nx : Nat) (aev : Operand → Option AVal) (args : Array Operand) (ts : Array TypeId) : Option (Option AVal × T AObj × Nat) :=
  match args.toList, ts[0]?, ts[1]? with
  | [x, y], some t, some u =>
    match aev x, aev y with
    | some a, some b =>
      match aAppend3 C h nx t u a b with
      | some (v, h', nx') => some (some v, h', nx')
      | none => none
    | _, _ => none
  | _, _, _ => none
def efC4 (C : Ctx) (h : T AObj) (nx : Nat) (aev : Operand → Option AVal) (args : Array Operand) (ts : Array TypeId) : Option (Option AVal × T AObj × Nat) :=
  match args.toList, ts[0]? with
  | [x, y], some t =>
    match aev x, aev y with
    | some a, some b =>
      match aCopy C h t a b with
      | some (v, h') => some (some v, h', nx)
      | none => none
    | _, _ => none
  | _, _ => none
def efC5 (C : Ctx) (h : T AObj) (nx : Nat) (aev : Operand → Option AVal) (args : Array Operand) (ts : Array TypeId) : Option (Option AVal × T AObj × Nat) :=
  match args.toList, ts[0]? with
  | [x, y], some t =>
    match aev x, aev y with
    | some a, some b =>
      match aDelete C h t a b with
      | some h' => some (some (.tuple []), h', nx)
      | none => none
    | _, _ => none
  | _, _ => none
def efC6 (C : Ctx) (h : T AObj) (nx : Nat) (aev : Operand → Option AVal) (args : Array Operand) (ts : Array TypeId) : Option (Option AVal × T AObj × Nat) :=
  match args.toList, ts[0]? with
  | [x], some t =>
    match aev x, C.und t with
    | some a, some _ =>
      match aClear C h t a with
      | some h' => some (some (.tuple []), h', nx)
      | none => none
    | _, _ => none
  | _, _ => none
def aEff (C : Ctx) (h : T AObj) (nx : Nat) (aev : Operand → Option AVal) : Op → Option (Option AVal × T AObj × Nat)
  | .store t x v => efStore C h nx aev t x v
  | .mapUpdate t m k v => efMapupdate C h nx aev t m k v
  | .insert t m k v => efInsert C h nx aev t m k v
  | .call { callee := .builtin .append, args := args, argTypes := ts } => efC3 C h nx aev args ts
  | .call { callee := .builtin .copy, args := args, argTypes := ts } => efC4 C h nx aev args ts
  | .call { callee := .builtin .delete, args := args, argTypes := ts } => efC5 C h nx aev args ts
  | .call { callee := .builtin .clear, args := args, argTypes := ts } => efC6 C h nx aev args ts
  | _ => none

theorem args2 {ev : Operand → Value} {args : Array Operand} {x y : Operand} (h : args.toList = [x, y]) : (args.map ev)[0]? = some (ev x) ∧ (args.map ev)[1]? = some (ev y) := by
  have : args = #[x, y] := by apply Array.ext'; simpa using h
  subst this; simp
theorem args1 {ev : Operand → Value} {args : Array Operand} {x : Operand} (h : args.toList = [x]) : (args.map ev)[0]? = some (ev x) := by
  have : args = #[x] := by apply Array.ext'; simpa using h
  subst this; simp
theorem run_builtin {P : Program} {w w' : World} {ev : Operand → Value} {o : Oper} {b : Builtin} {args : Array Operand} {ts : Array TypeId} (ho : o.op = .call { callee := .builtin b, args := args, argTypes := ts }) {r : Next} (h : ∀ cs, (builtin b ts o.type cs (args.map ev)).run P w = .ok r w') : (execOp ev o).run P w = .ok r w' := by
  unfold execOp
  simp only [ho, resolve, Sem.run_bind, Sem.run_pure, Result.andThen_ok, invoke]
  exact h _

theorem aEff_ok {C : Ctx} {P : Program} {ρ : Env} (hC : C.Ok P ρ) {B : Nat → Prop} {W w : World} {f : Ren} {h h' : T AObj} (hr : HRel ρ B W f h w) {aev : Operand → Option AVal} {ev : Operand → Value} (he : EvRel ρ f aev ev) {nx nx' : Nat} (hfr : ∀ j, nx ≤ j → j < nx' → f j = none) {o : Oper} {r : Option AVal} (hv : aEff C h nx aev o.op = some (r, h', nx')) :
    EffOk P ρ B W f nx nx' h' r (execOp ev o) w := by
  obtain ⟨dst, op, type, pos, after, guard⟩ := o
  unfold aEff at hv
  simp only at hv
  split at hv
  all_goals try unfold efStore at hv
  all_goals try unfold efMapupdate at hv
  all_goals try unfold efInsert at hv
  all_goals try unfold efC3 at hv
  all_goals try unfold efC4 at hv
  all_goals try unfold efC5 at hv
  all_goals try unfold efC6 at hv
  case h_1 t x v =>
    split at hv
    · rename_i a b ha hb
      split at hv
      · rename_i h1 hs
        cases hv
        obtain ⟨w', p1, p2⟩ := aStore2_ok hC hr (he _ _ ha) (he _ _ hb) hs
        exact EffOk.same (r' := .skip) (by simp only [execOp, Sem.run_bind, p1, Result.andThen_ok, Sem.run_pure]) p2 rfl
      · cases hv
    · cases hv
  case h_2 t m k v =>
    split at hv
    · rename_i a b c ha hb hc
      split at hv
      · rename_i h1 hs
        cases hv
        obtain ⟨w', p1, p2⟩ := aMapSet_ok hC hr (he _ _ ha) (he _ _ hb) (he _ _ hc) hs
        exact EffOk.same (r' := .skip) (by simp only [execOp, Sem.run_bind, p1, Result.andThen_ok, Sem.run_pure]) p2 rfl
      · cases hv
    · cases hv
  case h_3 t m k v =>
    split at hv
    · rename_i a b c ha hb hc
      split at hv
      · rename_i h1 hs
        cases hv
        obtain ⟨w', p1, p2⟩ := aMapSet_ok hC hr (he _ _ ha) (he _ _ hb) (he _ _ hc) hs
        exact EffOk.same (r' := .skip) (by simp only [execOp, Sem.run_bind, p1, Result.andThen_ok, Sem.run_pure]) p2 rfl
      · cases hv
    · cases hv
  case h_4 args ts =>
    split at hv
    · rename_i x y t u hargs h0 h1
      split at hv
      · rename_i a b ha hb
        split at hv
        · rename_i v h1' nx1 hs
          cases hv
          obtain ⟨e0, e1⟩ := args2 (ev := ev) hargs
          obtain ⟨f', w', v', p1, p2, p3, p4, p5⟩ := aAppend3_ok hC hr hfr (ty := type) (he _ _ ha) (he _ _ hb) hs ts (args.map ev) h0 h1 e0 e1
          exact ⟨f', w', .value v', run_builtin rfl (fun cs => by simp only [builtin, Sem.run_bind, p1, Result.andThen_ok, Sem.run_pure]), p2, p3, p4, v', rfl, p5⟩
        · cases hv
      · cases hv
    · cases hv
  case h_5 args ts =>
    split at hv
    · rename_i x y t hargs h0
      split at hv
      · rename_i a b ha hb
        split at hv
        · rename_i v h1' hs
          cases hv
          obtain ⟨e0, e1⟩ := args2 (ev := ev) hargs
          obtain ⟨w', v', p1, p2, p3⟩ := aCopy_ok hC hr (ty := type) (he _ _ ha) (he _ _ hb) hs ts (args.map ev) h0 e0 e1
          exact EffOk.same (r' := .value v') (run_builtin rfl (fun cs => by simp only [builtin, Sem.run_bind, p1, Result.andThen_ok, Sem.run_pure])) p2 ⟨v', rfl, p3⟩
        · cases hv
      · cases hv
    · cases hv
  case h_6 args ts =>
    split at hv
    · rename_i x y t hargs h0
      split at hv
      · rename_i a b ha hb
        split at hv
        · rename_i h1' hs
          cases hv
          obtain ⟨e0, e1⟩ := args2 (ev := ev) hargs
          obtain ⟨w', p1, p2⟩ := aDelete_ok hC hr (ty := type) (he _ _ ha) (he _ _ hb) hs ts (args.map ev) h0 e0 e1
          exact EffOk.same (r' := .value (.tuple #[])) (run_builtin rfl (fun cs => by simp only [builtin, Sem.run_bind, p1, Result.andThen_ok, Sem.run_pure])) p2 ⟨_, rfl, .tuple rfl (by simp)⟩
        · cases hv
      · cases hv
    · cases hv
  case h_7 args ts =>
    split at hv
    · rename_i x t hargs h0
      split at hv
      · rename_i a d ha hd
        split at hv
        · rename_i h1' hs
          cases hv
          have e0 := args1 (ev := ev) hargs
          obtain ⟨w', p1, p2⟩ := aClear_ok hC hr (ty := type) (he _ _ ha) (by rw [hd]; rfl) hs ts (args.map ev) h0 e0
          exact EffOk.same (r' := .value (.tuple #[])) (run_builtin rfl (fun cs => by simp only [builtin, Sem.run_bind, p1, Result.andThen_ok, Sem.run_pure])) p2 ⟨_, rfl, .tuple rfl (by simp)⟩
        · cases hv
      · cases hv
    · cases hv
  case h_8 => cases hv

theorem aEff_nx {C : Ctx} {h h' : T AObj} {aev : Operand → Option AVal} {nx nx' : Nat} {op : Op} {r : Option AVal} (hv : aEff C h nx aev op = some (r, h', nx')) : nx ≤ nx' := by
  unfold aEff at hv
  split at hv
  all_goals try unfold efStore at hv
  all_goals try unfold efMapupdate at hv
  all_goals try unfold efInsert at hv
  all_goals try unfold efC3 at hv
  all_goals try unfold efC4 at hv
  all_goals try unfold efC5 at hv
  all_goals try unfold efC6 at hv
  all_goals try (repeat' split at hv)
  all_goals first
    | (cases hv; done)
    | (simp only [Option.some.injEq, Prod.mk.injEq] at hv; omega)
    | skip
  all_goals
    rename_i hs
    simp only [Option.some.injEq, Prod.mk.injEq] at hv
    obtain ⟨-, -, rfl⟩ := hv
    exact aAppend3_nx hs
end
end Go.Sx
