/- Which function a call enters, with which values. No condition. -/
import Derived.Test.YtpoianhfjgjajaaGreatSx14
set_option linter.unusedSimpArgs false
set_option linter.unusedVariables false
namespace Go.Sx
open Go.RowKit (Below)
noncomputable section

inductive APlace where
  | val (v : AVal)
  | var (i o : Nat)
def PRel (ρ : Env) (f : Ren) : APlace → Place → Prop
  | .val v, .val v' => VRel ρ f v v'
  | .var i o, .var a => ∃ L, f i = some L ∧ a = ⟨L.blk, L.base + o, none⟩
  | _, _ => False
def aPGet (C : Ctx) (h : T AObj) (t : TypeId) : APlace → Option AVal
  | .val v => some v
  | .var i o => aLoad C h t (.ptr (some (i, o)))
theorem aPGet_ok {C : Ctx} {P : Program} {ρ : Env} (hC : C.Ok P ρ) {B : Nat → Prop} {W w : World} {f : Ren} {h : T AObj} (hr : HRel ρ B W f h w) {t : TypeId} {x : APlace} {x' : Place} {v : AVal} (hx : PRel ρ f x x') (hv : aPGet C h t x = some v) :
    ∃ v', (x'.get t).run P w = .ok v' w ∧ VRel ρ f v v' := by
  cases x with
  | val a => cases x' with
    | val b => cases hv; exact ⟨b, rfl, hx⟩
    | var b => exact hx.elim
  | var i o => cases x' with
    | val b => exact hx.elim
    | var b =>
      obtain ⟨L, hf, rfl⟩ := hx
      obtain ⟨v', h1, h2⟩ := aLoad_ok hC hr (.ptr hf) hv
      exact ⟨v', h1, h2⟩
def aFollow (C : Ctx) (h : T AObj) : List FieldStep → TypeId → APlace → Option (TypeId × APlace)
  | [], t, x => some (t, x)
  | s :: rest, t, x =>
    match C.und s.struct with
    | some (.struct fs) =>
      match fs[s.index]? with
      | none => none
      | some fd =>
        match C.size fd.type with
        | some (_ + 1) =>
          match s.deref with
          | true =>
            match aPGet C h t x with
            | some (.ptr (some (i, o))) => aFollow C h rest fd.type (.var i (o + fd.offset))
            | _ => none
          | false =>
            match x with
            | .var i o => aFollow C h rest fd.type (.var i (o + fd.offset))
            | .val (.agg cs) =>
              match aPart C fd.type cs fd.offset with
              | some v => aFollow C h rest fd.type (.val v)
              | none => none
            | _ => none
        | _ => none
    | _ => none
theorem run_fieldPlace {C : Ctx} {P : Program} {ρ : Env} (hC : C.Ok P ρ) {fd : Field} {n : Nat} (hn : C.size fd.type = some (n + 1)) (b o : Nat) (w : World) : (fieldPlace ⟨b, o, none⟩ fd).run P w = .ok ⟨b, o + fd.offset, none⟩ w := by
  simp only [fieldPlace, Sem.run_bind, Ctx.size_ok hC hn, Result.andThen_ok, Nat.succ_ne_zero, if_false, Sem.run_pure, addr_add]
theorem aFollow_ok {C : Ctx} {P : Program} {ρ : Env} (hC : C.Ok P ρ) {B : Nat → Prop} {W w : World} {f : Ren} {h : T AObj} (hr : HRel ρ B W f h w) : ∀ (l : List FieldStep) (t : TypeId) (x : APlace) (x' : Place) (r : TypeId × APlace), PRel ρ f x x' → aFollow C h l t x = some r →
    ∃ y', (follow l t x').run P w = .ok (r.1, y') w ∧ PRel ρ f r.2 y' := by
  intro l
  induction l with
  | nil => intro t x x' r hx hv; cases hv; exact ⟨x', rfl, hx⟩
  | cons s rest ih =>
    intro t x x' r hx hv
    simp only [aFollow] at hv
    split at hv
    · rename_i fs hu
      have hd := Ctx.und_ok hC hu
      split at hv
      · cases hv
      · rename_i fd hfd
        split at hv
        · rename_i n hn
          split at hv
          · rename_i hdr
            split at hv
            · rename_i i o hg
              obtain ⟨v', h1, h2⟩ := aPGet_ok (P := P) hC hr hx hg
              cases h2; rename_i L hf
              obtain ⟨y', h3, h4⟩ := ih fd.type (.var i (o + fd.offset)) (.var ⟨L.blk, L.base + (o + fd.offset), none⟩) r ⟨L, hf, rfl⟩ hv
              refine ⟨y', ?_, h4⟩
              simp only [follow, Sem.run_bind, run_underlying hd, Result.andThen_ok, hfd, hdr, if_true, h1, asAddr, Sem.run_pure, run_fieldPlace hC hn, Nat.add_assoc]
              exact h3
            · cases hv
          · rename_i hdr
            split at hv
            · rename_i i o
              cases x' with
              | val b => exact hx.elim
              | var b =>
                obtain ⟨L, hf, rfl⟩ := hx
                obtain ⟨y', h3, h4⟩ := ih fd.type (.var i (o + fd.offset)) (.var ⟨L.blk, L.base + (o + fd.offset), none⟩) r ⟨L, hf, rfl⟩ hv
                refine ⟨y', ?_, h4⟩
                simp only [follow, Sem.run_bind, run_underlying hd, Result.andThen_ok, hfd, hdr, Bool.false_eq_true, if_false, run_fieldPlace hC hn, Nat.add_assoc]
                exact h3
            · rename_i cs
              split at hv
              · rename_i v hp
                cases x' with
                | var b => exact hx.elim
                | val b =>
                  have hx' : VRel ρ f (.agg cs) b := hx
                  cases hx'; rename_i a' k1 k2
                  obtain ⟨v', q1, q2⟩ := aPart_ok hC (⟨k1, k2⟩ : LRel ρ f cs a') hp w
                  obtain ⟨y', h3, h4⟩ := ih fd.type (.val v) (.val v') r q2 hv
                  refine ⟨y', ?_, h4⟩
                  simp only [follow, Sem.run_bind, run_underlying hd, Result.andThen_ok, hfd, hdr, Bool.false_eq_true, if_false, q1]
                  exact h3
              · cases hv
            · cases hv
        · cases hv
    · cases hv
def isPtrT : TypeDesc → Option TypeId
  | .pointer e => some e
  | _ => none
def aReceiver (C : Ctx) (h : T AObj) (xt : TypeId) (x : APlace) (ptr : Bool) : Option AVal :=
  match C.und xt with
  | none => none
  | some d =>
    match isPtrT d, ptr with
    | some _, true => aPGet C h xt x
    | some e, false =>
      match aPGet C h xt x with
      | some (.ptr (some a)) => aLoad C h e (.ptr (some a))
      | _ => none
    | none, true =>
      match x with
      | .var i o => some (.ptr (some (i, o)))
      | .val _ => none
    | none, false => aPGet C h xt x
theorem aReceiver_ok {C : Ctx} {P : Program} {ρ : Env} (hC : C.Ok P ρ) {B : Nat → Prop} {W w : World} {f : Ren} {h : T AObj} (hr : HRel ρ B W f h w) {xt : TypeId} {x : APlace} {x' : Place} {ptr : Bool} {v : AVal} (hx : PRel ρ f x x') (hv : aReceiver C h xt x ptr = some v) (wr : Option String) :
    ∃ v', (receiverAt xt x' ptr wr).run P w = .ok v' w ∧ VRel ρ f v v' := by
  unfold aReceiver at hv
  split at hv
  · cases hv
  · rename_i d hu
    have hd := Ctx.und_ok hC hu
    split at hv
    · rename_i e he
      have : d = .pointer e := by cases d <;> simp [isPtrT] at he; rw [he]
      subst this
      obtain ⟨v', h1, h2⟩ := aPGet_ok (P := P) hC hr hx hv
      exact ⟨v', by simp only [receiverAt, Sem.run_bind, run_underlying hd, Result.andThen_ok, h1], h2⟩
    · rename_i e he
      have : d = .pointer e := by cases d <;> simp [isPtrT] at he; rw [he]
      subst this
      split at hv
      · rename_i a hg
        obtain ⟨i, o⟩ := a
        obtain ⟨v', h1, h2⟩ := aPGet_ok (P := P) hC hr hx hg
        cases h2; rename_i L hf
        obtain ⟨v'', h3, h4⟩ := aLoad_ok hC hr (.ptr hf) hv
        have h3' : (loadVar e ⟨L.blk, L.base + o, none⟩).run P w = .ok v'' w := h3
        refine ⟨v'', ?_, h4⟩
        cases wr with
        | none => simp only [receiverAt, Sem.run_bind, run_underlying hd, Result.andThen_ok, h1, Sem.run_pure, asAddr, h3']
        | some nm =>
          have hw : (Builtin.ssaWrapNilChk_ #[xt] xt #[.pointer (some ⟨L.blk, L.base + o, none⟩), strVal "", strVal nm]).run P w = .ok (.pointer (some ⟨L.blk, L.base + o, none⟩)) w := rfl
          simp only [receiverAt, Sem.run_bind, run_underlying hd, Result.andThen_ok, h1, hw, Sem.run_pure, asAddr, h3']
      · cases hv
    · rename_i hn
      split at hv
      · rename_i i o
        cases hv
        cases x' with
        | val b => exact hx.elim
        | var b =>
          obtain ⟨L, hf, rfl⟩ := hx
          refine ⟨.pointer (some ⟨L.blk, L.base + o, none⟩), ?_, .ptr hf⟩
          simp only [receiverAt, Sem.run_bind, run_underlying hd, Result.andThen_ok]
          cases d <;> first | rfl | (exfalso; cases hn; done)
      · cases hv
    · rename_i hn
      obtain ⟨v', h1, h2⟩ := aPGet_ok (P := P) hC hr hx hv
      refine ⟨v', ?_, h2⟩
      simp only [receiverAt, Sem.run_bind, run_underlying hd, Result.andThen_ok]
      cases d <;> first | exact h1 | (exfalso; cases hn; done)
def aMethod (C : Ctx) (h : T AObj) (t : TypeId) (v : AVal) (name : String) : Option (FuncId × AVal) :=
  match C.ty.get t with
  | none => none
  | some i =>
    match i.methods.find? (·.name == name) with
    | none => none
    | some m =>
      match aFollow C h m.path.toList t (.val v) with
      | none => none
      | some (xt, x) =>
        match m.func with
        | none => none
        | some (f, ptr) =>
          match aReceiver C h xt x ptr with
          | some r => some (f, r)
          | none => none
theorem aMethod_ok {C : Ctx} {P : Program} {ρ : Env} (hC : C.Ok P ρ) {B : Nat → Prop} {W w : World} {f : Ren} {h : T AObj} (hr : HRel ρ B W f h w) {t : TypeId} {v : AVal} {v' : Value} {name : String} {r : FuncId × AVal} (hx : VRel ρ f v v') (hv : aMethod C h t v name = some r) (n : Nat) :
    ∃ r', (method (n + 1) t v' name).run P w = .ok (r.1, r') w ∧ VRel ρ f r.2 r' := by
  unfold aMethod at hv
  split at hv
  · cases hv
  · rename_i i hi
    have hti := hC.ty _ _ hi
    split at hv
    · cases hv
    · rename_i m hm
      split at hv
      · cases hv
      · rename_i xt x hf
        obtain ⟨y', h1, h2⟩ := aFollow_ok (P := P) hC hr m.path.toList t (.val v) (.val v') _ hx hf
        split at hv
        · cases hv
        · rename_i fn ptr hfn
          split at hv
          · rename_i rr hrr
            cases hv
            obtain ⟨r', h3, h4⟩ := aReceiver_ok (P := P) hC hr h2 hrr (if m.path.isEmpty then some ((name.splitOn ".").getLastD name) else none)
            refine ⟨r', ?_, h4⟩
            simp only [method, typeInfo, Sem.run_bind, run_program, Result.andThen_ok, hti, Sem.run_pure, hm, h1, hfn, h3]
          · cases hv

/-! functions -/
/-- May a call enter this function? -/
def goodFn (fn : Func) : Bool := fn.body.isSome && !(fn.name == "runtime.NumGoroutine")
theorem run_callFunc {P : Program} {w : World} {g : FuncId} {fn : Func} (hf : P.funcs[g]? = some fn) (hg : goodFn fn = true) (args : Array Value) : (callFunc g args).run P w = .ok (.enter g args) w := by
  simp only [goodFn, Bool.and_eq_true, Bool.not_eq_true'] at hg
  have hb : fn.body.isNone = false := by
    have := hg.1
    cases hh : fn.body <;> simp [hh] at this ⊢
  simp only [callFunc, Sem.run_bind, run_program, Result.andThen_ok, hf, hg.2, Bool.false_eq_true, if_false, hb, Sem.run_pure]
def aCallee (C : Ctx) (h : T AObj) (aev : Operand → Option AVal) (c : Call) : Option (FuncId × List AVal) :=
  match evs aev c.args.toList with
  | none => none
  | some args =>
    match c.callee with
    | .value x =>
      match aev x with
      | some (.func (.func g) first capt) => some (g, first ++ args ++ capt)
      | some (.func (.method name) [.iface t v] []) =>
        match aMethod C h t v name with
        | some (g, r) => some (g, r :: args)
        | none => none
      | _ => none
    | .invoke x name =>
      match aev x with
      | some (.iface t v) =>
        match aMethod C h t v name with
        | some (g, r) => some (g, r :: args)
        | none => none
      | _ => none
    | .builtin _ => none
theorem LRel.app {ρ : Env} {f : Ren} {l m : List AVal} {a b : Array Value} (h : LRel ρ f l a) (h' : LRel ρ f m b) : LRel ρ f (l ++ m) (a ++ b) := by
  have := LRel.append (a := a.toList) (b := b.toList) (by simpa using h) (by simpa using h')
  have e : (a.toList ++ b.toList).toArray = a ++ b := by apply Array.ext'; simp
  rwa [e] at this
theorem LRel.app1 {ρ : Env} {f : Ren} {x : AVal} {x' : Value} {m : List AVal} {b : Array Value} (h : VRel ρ f x x') (h' : LRel ρ f m b) : LRel ρ f (x :: m) (#[x'] ++ b) := by
  have := LRel.cons h (l := m) (a := b.toList) (by simpa using h')
  have e : (x' :: b.toList).toArray = #[x'] ++ b := by apply Array.ext'; simp
  rwa [e] at this
theorem first_app (x : Value) (a : Array Value) : (#[x] ++ a)[0]? = some x := by
  rw [Array.getElem?_append_left (by simp)]
  rfl
theorem extract_one (x : Value) (a : Array Value) : (#[x] ++ a).extract 1 (#[x] ++ a).size = a := by
  apply Array.ext'
  simp
theorem aCallee_ok {C : Ctx} {P : Program} {ρ : Env} (hC : C.Ok P ρ) {B : Nat → Prop} {W w : World} {f : Ren} {h : T AObj} (hr : HRel ρ B W f h w) {aev : Operand → Option AVal} {ev : Operand → Value} (he : EvRel ρ f aev ev) {o : Oper} {c : Call} (ho : o.op = .call c) {g : FuncId} {args : List AVal} (hv : aCallee C h aev c = some (g, args))
    {fn : Func} (hf : P.funcs[g]? = some fn) (hg : goodFn fn = true) : ∃ args', (execOp ev o).run P w = .ok (.enter g args') w ∧ LRel ρ f args args' := by
  unfold aCallee at hv
  have ex : ∀ n, execOp ev o = n → execOp ev o = n := fun _ h => h
  split at hv
  · cases hv
  · rename_i as has
    have hargs := evs_arr he has
    split at hv
    · rename_i x hc
      split at hv
      · rename_i g' first capt hx
        simp only [Option.some.injEq, Prod.mk.injEq] at hv
        obtain ⟨rfl, rfl⟩ := hv
        have hxv := he _ _ hx
        generalize hx' : ev x = x' at hxv
        cases hxv; rename_i a' b' k1 k2 k3 k4
        refine ⟨a' ++ c.args.map ev ++ b', ?_, LRel.app (LRel.app ⟨k1, k2⟩ hargs) ⟨k3, k4⟩⟩
        unfold execOp
        simp only [ho, resolve, hc, hx', Deferred.ofValue, Sem.run_bind, Sem.run_pure, Result.andThen_ok, invoke, run_callFunc hf hg]
      · rename_i name t v hx
        split at hv
        · rename_i g' r hm
          simp only [Option.some.injEq, Prod.mk.injEq] at hv
          obtain ⟨rfl, rfl⟩ := hv
          have hxv := he _ _ hx
          generalize hx' : ev x = x' at hxv
          cases hxv; rename_i a' b' k1 k2 k3 k4
          obtain ⟨iv, hiv⟩ : ∃ iv, a' = #[iv] := by
            have : a'.size = 1 := by simpa using k1
            obtain ⟨l⟩ := a'
            match l, this with
            | [y], _ => exact ⟨y, rfl⟩
          subst hiv
          have hb' : b' = #[] := Array.eq_empty_of_size_eq_zero (by simpa using k3)
          subst hb'
          have hif := k2 0 (.iface t v) _ (by simp) (by simp : (#[iv] : Array Value)[0]? = some iv)
          cases hif; rename_i v' hv'
          obtain ⟨r', h1, h2⟩ := aMethod_ok (P := P) hC hr hv' hm (P.types.size + 99)
          refine ⟨#[r'] ++ c.args.map ev, ?_, ?_⟩
          · unfold execOp
            simp only [ho, resolve, hc, hx', Deferred.ofValue, Sem.run_bind, Sem.run_pure, Result.andThen_ok, invoke]
            have e0 : (#[Value.iface t v'] ++ c.args.map ev)[0]? = some (.iface t v') := first_app _ _
            simp only [e0, extract_one, callMethod, Sem.run_bind, run_program, Result.andThen_ok]
            have h1' : (method (P.types.size + Made.depth) t v' name).run P w = .ok (g', r') w := h1
            simp only [h1', Result.andThen_ok, run_callFunc hf hg]
          · exact LRel.app1 h2 hargs
        · cases hv
      · cases hv
    · rename_i x name hc
      split at hv
      · rename_i t v hx
        split at hv
        · rename_i g' r hm
          simp only [Option.some.injEq, Prod.mk.injEq] at hv
          obtain ⟨hgg, rfl⟩ := hv
          subst hgg
          have hxv := he _ _ hx
          generalize hx' : ev x = x' at hxv
          cases hxv; rename_i v' hv'
          obtain ⟨r', h1, h2⟩ := aMethod_ok (P := P) hC hr hv' hm (P.types.size + 99)
          refine ⟨#[r'] ++ c.args.map ev, ?_, ?_⟩
          · unfold execOp
            simp only [ho, resolve, hc, hx', Sem.run_bind, Sem.run_pure, Result.andThen_ok, invoke]
            have e0 : (#[Value.iface t v'] ++ c.args.map ev)[0]? = some (.iface t v') := first_app _ _
            simp only [e0, extract_one, callMethod, Sem.run_bind, run_program, Result.andThen_ok]
            have h1' : (method (P.types.size + Made.depth) t v' name).run P w = .ok (g', r') w := h1
            simp only [h1', Result.andThen_ok, run_callFunc hf hg]
          · exact LRel.app1 h2 hargs
        · cases hv
      · cases hv
    · cases hv
end
end Go.Sx
