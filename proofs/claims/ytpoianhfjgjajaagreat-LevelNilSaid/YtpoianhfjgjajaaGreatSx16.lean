/- A step, and a region whose order is fixed. No condition. -/
import Derived.Test.YtpoianhfjgjajaaGreatSx15
set_option linter.unusedSimpArgs false
set_option linter.unusedVariables false
namespace Go.Sx
open Go.RowKit (Below)
noncomputable section

abbrev ACall := FuncId → List AVal → T AObj → Nat → Option (AVal × T AObj × Nat)
/-- The blocks named in a window are free. -/
def Fresh (f : Ren) (a b : Nat) : Prop := ∀ j, a ≤ j → j < b → f j = none
def Outside (f f' : Ren) (a b : Nat) : Prop := ∀ j, (j < a ∨ b ≤ j) → f' j = f j
def CallOk (P : Program) (ρ : Env) (B : Nat → Prop) (W : World) (call : ACall) : Prop :=
  ∀ g args h nx v h' nx', call g args h nx = some (v, h', nx') → nx ≤ nx' ∧
    ∀ f w args', HRel ρ B W f h w → LRel ρ f args args' → Fresh f nx nx' →
      Calls P g args' w fun e w' => ∃ v' f', e = .returned v' ∧ f.le f' ∧ Outside f f' nx nx' ∧ HRel ρ B W f' h' w' ∧ VRel ρ f' v v'

def aev (tm : T AVal) : Operand → Option AVal
  | .tmp t => tm.get t
  | .const v => absV v
  | .func g => some (.func (.func g) [] [])
  | .global _ => none
def TmRel (ρ : Env) (f : Ren) (tm : T AVal) (a : Act) : Prop := ∀ d v, tm.get d = some v → VRel ρ f v (a.tmps.getD d undef)
theorem TmRel.mono {ρ : Env} {f g : Ren} (h : f.le g) {tm : T AVal} {a : Act} (ht : TmRel ρ f tm a) : TmRel ρ g tm a := fun d v e => (ht d v e).mono h
theorem TmRel.ev {ρ : Env} {f : Ren} {tm : T AVal} {a : Act} (ht : TmRel ρ f tm a) : EvRel ρ f (aev tm) a.eval := by
  intro x v h
  cases x with
  | tmp t => exact ht _ _ h
  | const c => exact absV_ok h
  | func g => cases h; exact .func rfl rfl (by simp) (by simp)
  | global g => cases h

def aPut (tm : T AVal) (dst : Option Tmp) (r : Option AVal) : T AVal :=
  match dst with
  | none => tm
  | some d => tm.set d (r.getD (.tuple []))
/-- Is the slot one of the function's? -/
def okDst (n : Nat) : Option Tmp → Bool
  | none => true
  | some d => Nat.blt d n
theorem Act.put_size (a : Act) (dst : Option Tmp) (v : Value) : (a.put dst v).tmps.size = a.tmps.size := by
  cases dst <;> simp [Act.put]
theorem undef_eq : undef = .tuple #[] := rfl
theorem VRel.undef {ρ : Env} {f : Ren} : VRel ρ f (.tuple []) Go.undef := .tuple (a' := #[]) rfl (by simp)
theorem getD_set_same {a : Array Value} {d : Nat} {v : Value} (h : d < a.size) : (a.setIfInBounds d v).getD d Go.undef = v := by
  simp [Array.getD_eq_getD_getElem?, Array.getElem?_setIfInBounds, h]
theorem getD_set_other {a : Array Value} {d e : Nat} {v : Value} (h : d ≠ e) : (a.setIfInBounds d v).getD e Go.undef = a.getD e Go.undef := by
  simp [Array.getD_eq_getD_getElem?, Array.getElem?_setIfInBounds_ne h]
theorem TmRel.put {ρ : Env} {f : Ren} {tm : T AVal} {a : Act} (ht : TmRel ρ f tm a) {dst : Option Tmp} (hd : okDst a.tmps.size dst = true) {r : Option AVal} {v' : Value} (hv : VRel ρ f (r.getD (.tuple [])) v') : TmRel ρ f (aPut tm dst r) (a.put dst v') := by
  cases dst with
  | none => exact ht
  | some d =>
    have hlt : d < a.tmps.size := by simpa [okDst, Nat.blt_eq] using hd
    intro e v h
    rcases T.get_set h with ⟨rfl, rfl⟩ | ⟨hne, h⟩
    · simp only [Act.put]
      rw [getD_set_same hlt]
      exact hv
    · simp only [Act.put]
      rw [getD_set_other (Ne.symm hne)]
      exact ht _ _ h
theorem Act.put_defers' (a : Act) (dst : Option Tmp) (v : Value) : (a.put dst v).defers = a.defers := by
  cases dst <;> rfl

/-! one operation -/
def aStep (C : Ctx) (call : ACall) (h : T AObj) (nx : Nat) (ev : Operand → Option AVal) (op : Op) : Option (Option AVal × T AObj × Nat) :=
  match aRead C h ev op with
  | some v => some (some v, h, nx)
  | none =>
    match aNew C ev nx op with
    | some (ob, v) => some (some v, h.set nx ob, nx + 1)
    | none =>
      match aEff C h nx ev op with
      | some r => some r
      | none =>
        match op with
        | .build t parts =>
          match aBuild C ev t parts.toList with
          | some v => some (some v, h, nx)
          | none => none
        | .call c =>
          match aCallee C h ev c with
          | some (g, args) =>
            match C.fn.get g with
            | some fn =>
              match goodFn fn with
              | true =>
                match call g args h nx with
                | some (v, h', nx') => some (some v, h', nx')
                | none => none
              | false => none
            | none => none
          | none => none
        | _ => none
theorem aStep_nx {C : Ctx} {P : Program} {ρ : Env} {B : Nat → Prop} {W : World} {call : ACall} (hcall : CallOk P ρ B W call) {h h' : T AObj} {nx nx' : Nat} {ev : Operand → Option AVal} {op : Op} {r : Option AVal} (hv : aStep C call h nx ev op = some (r, h', nx')) : nx ≤ nx' := by
  unfold aStep at hv
  split at hv
  · cases hv; exact Nat.le_refl _
  · split at hv
    · cases hv; omega
    · split at hv
      · rename_i r' hr
        cases hv
        exact aEff_nx hr
      · split at hv
        · split at hv <;> cases hv; exact Nat.le_refl _
        · split at hv
          · split at hv
            · split at hv
              · split at hv
                · rename_i hc
                  cases hv
                  exact (hcall _ _ _ _ _ _ _ hc).1
                · cases hv
              · cases hv
            · cases hv
          · cases hv
        · cases hv
theorem aStep_ok {C : Ctx} {P : Program} {ρ : Env} (hC : C.Ok P ρ) {B : Nat → Prop} {W : World} {call : ACall} (hcall : CallOk P ρ B W call) {w : World} {f : Ren} {h h' : T AObj} (hr : HRel ρ B W f h w) {av : Operand → Option AVal} {nx nx' : Nat} {o : Oper} {r : Option AVal}
    (hv : aStep C call h nx av o.op = some (r, h', nx')) (hfr : Fresh f nx nx') {a : Act} (he : EvRel ρ f av a.eval) {next : Act → World → Prop} {Q : Exit → Act → World → Prop}
    (hn : ∀ f' w' v', f.le f' → Outside f f' nx nx' → HRel ρ B W f' h' w' → VRel ρ f' (r.getD (.tuple [])) v' → next (a.put o.dst v') w') : o.wp P a w next Q := by
  unfold Oper.wp
  unfold aStep at hv
  split at hv
  · rename_i v hrd
    cases hv
    obtain ⟨v', h1, h2⟩ := aRead_ok (P := P) hC hr he hrd
    rw [h1]
    exact hn f w v' (Ren.le_refl f) (fun _ _ => rfl) hr h2
  · split at hv
    · rename_i ob v hnw
      cases hv
      have hfi : f nx = none := hfr nx (Nat.le_refl _) (by omega)
      obtain ⟨w', L, O, v', h1, h2, h3, h4, h5, h6, h7⟩ := (aNew_ok (P := P) (w := w) hC (hr.fresh (Nat.le_refl _)) he hfi hnw).step
      rw [h1]
      refine hn (f.put nx L) w' v' (Ren.le_put L hfi) (fun j hj => Ren.put_other f L (by omega)) ?_ h6
      exact hr.newG hfi h2 h3 h4 h5 h7 fun j x hx => by
        rcases T.get_set hx with ⟨e1, e2⟩ | ⟨e1, e2⟩
        · exact .inl ⟨e1, e2.symm⟩
        · exact .inr ⟨e1, e2⟩
    · split at hv
      · rename_i r' hef
        cases hv
        obtain ⟨f', w', v', h1, h2, h3, h4, h5⟩ := aEff_ok (P := P) hC hr he (o := o) hfr hef
        rw [h1]
        cases r with
        | none =>
          simp only at h5
          subst h5
          exact hn f' w' undef h2 h3 h4 VRel.undef
        | some v =>
          obtain ⟨u, rfl, hu⟩ := h5
          exact hn f' w' u h2 h3 h4 hu
      · split at hv
        · rename_i t parts hop
          split at hv
          · rename_i v hb
            cases hv
            obtain ⟨v', h1, h2⟩ := aBuild_ok (P := P) hC he hb w
            have hs : (execOp a.eval o).run P w = .ok (.value v') w := by
              unfold execOp
              simp only [hop, Sem.run_bind, h1, Result.andThen_ok, Sem.run_pure]
            rw [hs]
            exact hn f w v' (Ren.le_refl f) (fun _ _ => rfl) hr h2
          · cases hv
        · rename_i c hop
          split at hv
          · rename_i g args hcal
            split at hv
            · rename_i fn hfn
              split at hv
              · rename_i hg
                split at hv
                · rename_i v h2 nx2 hc
                  cases hv
                  obtain ⟨args', h1, hargs⟩ := aCallee_ok (P := P) hC hr he hop hcal (hC.fn _ _ hfn) hg
                  rw [h1]
                  refine Calls.mono ((hcall _ _ _ _ _ _ _ hc).2 f w args' hr hargs hfr) fun e w' hR => ?_
                  obtain ⟨v', f', rfl, q1, q2, q3, q4⟩ := hR
                  exact hn f' w' v' q1 q2 q3 q4
                · cases hv
              · cases hv
            · cases hv
          · cases hv
        · cases hv

/-! a region in the text's order -/
def slotAt : List Oper → Nat → Option Tmp
  | [], _ => none
  | o :: _, 0 => o.dst
  | _ :: l, n + 1 => slotAt l n
theorem slotAt_eq (l : List Oper) (j : Nat) : slotAt l j = (l[j]?).bind (·.dst) := by
  induction l generalizing j with
  | nil => simp [slotAt]
  | cons o l ih => cases j <;> simp [slotAt, ih]
def aYield (C : Ctx) (tm : T AVal) (want : Bool) : Option Tmp → Option Bool
  | none => none
  | some d =>
    match tm.get d with
    | some (.bool t) =>
      match settle C.dec t with
      | some b => some (b == want)
      | none => none
    | some (.tuple []) => some false
    | _ => none
def aWanted (C : Ctx) (tm : T AVal) (all : List Oper) (g : Option (Nat × Bool)) : Option Bool :=
  match g with
  | none => some true
  | some (j, want) => aYield C tm want (slotAt all j)
theorem aWanted_ok {C : Ctx} {P : Program} {ρ : Env} (hC : C.Ok P ρ) {f : Ren} {tm : T AVal} {a : Act} (ht : TmRel ρ f tm a) {ops : Array Oper} {o : Oper} {b : Bool} (h : aWanted C tm ops.toList o.guard = some b) : Region.wanted o (yielded ops a.tmps) = b := by
  unfold aWanted at h
  unfold Region.wanted
  split at h
  · rename_i hg
    cases h
    simp [hg]
  · rename_i j want hg
    simp only [hg]
    rw [slotAt_eq] at h
    have e : ops.toList[j]? = ops[j]? := by simp
    rw [e] at h
    unfold yielded
    unfold aYield at h
    split at h
    · cases h
    · rename_i d hd
      rw [hd]
      split at h
      · rename_i t htm
        split at h
        · rename_i b' hs
          cases h
          have hv := ht _ _ htm
          generalize hx : a.tmps.getD d Go.undef = x at hv
          have hb := settle_ok hC.dec t _ hs
          cases hv
          rw [hb] at hx
          have : a.tmps[d]? = some (.bool b') := by
            rw [Array.getD_eq_getD_getElem?] at hx
            cases hq : a.tmps[d]? with
            | none => rw [hq] at hx; simp [undef_eq] at hx
            | some y => rw [hq] at hx; simp at hx; rw [hx]
          simp [this]
        · cases h
      · rename_i htm
        cases h
        have hv := ht _ _ htm
        generalize hx : a.tmps.getD d Go.undef = x at hv
        cases hv
        rename_i a' h1 h2
        rw [Array.getD_eq_getD_getElem?] at hx
        cases hq : a.tmps[d]? with
        | none => simp [hq]
        | some y => rw [hq] at hx; simp at hx; subst hx; simp [hq]
      · cases h

structure ASt where
  tm : T AVal
  hp : T AObj
  nx : Nat
structure StRel (ρ : Env) (B : Nat → Prop) (W : World) (n N : Nat) (f : Ren) (s : ASt) (a : Act) (w : World) : Prop where
  size : a.tmps.size = n
  tm : TmRel ρ f s.tm a
  defers : a.defers = []
  heap : HRel ρ B W f s.hp w
  fresh : Fresh f s.nx N
def aOps (C : Ctx) (call : ACall) (n : Nat) (all : List Oper) : List Oper → T AVal → T AObj → Nat → Option ASt
  | [], tm, hp, nx => some ⟨tm, hp, nx⟩
  | o :: rest, tm, hp, nx =>
    match okDst n o.dst with
    | false => none
    | true =>
      match aWanted C tm all o.guard with
      | none => none
      | some false => aOps C call n all rest (aPut tm o.dst none) hp nx
      | some true =>
        match aStep C call hp nx (aev tm) o.op with
        | some (r, hp', nx') => aOps C call n all rest (aPut tm o.dst r) hp' nx'
        | none => none
theorem aOps_nx {C : Ctx} {P : Program} {ρ : Env} {B : Nat → Prop} {W : World} {call : ACall} (hcall : CallOk P ρ B W call) {n : Nat} {all : List Oper} : ∀ (l : List Oper) (tm : T AVal) (hp : T AObj) (nx : Nat) (s : ASt), aOps C call n all l tm hp nx = some s → nx ≤ s.nx := by
  intro l
  induction l with
  | nil => intro tm hp nx s h; cases h; exact Nat.le_refl _
  | cons o l ih =>
    intro tm hp nx s h
    unfold aOps at h
    split at h
    · cases h
    · split at h
      · cases h
      · exact ih _ _ _ _ h
      · split at h
        · rename_i r hp' nx' hs
          exact Nat.le_trans (aStep_nx hcall hs) (ih _ _ _ _ h)
        · cases h
theorem Fresh.sub {f : Ren} {a b a' b' : Nat} (h : Fresh f a b) (ha : a ≤ a') (hb : b' ≤ b) : Fresh f a' b' := fun j h1 h2 => h j (Nat.le_trans ha h1) (Nat.lt_of_lt_of_le h2 hb)
theorem Fresh.step {f f' : Ren} {a b c : Nat} (h : Fresh f a c) (ho : Outside f f' a b) (hab : a ≤ b) : Fresh f' b c := fun j h1 h2 => by
  rw [ho j (.inr h1)]
  exact h j (Nat.le_trans hab h1) h2
theorem Outside.trans {f f' f'' : Ren} {a b c : Nat} (h : Outside f f' a b) (h' : Outside f' f'' b c) (hab : a ≤ b) (hbc : b ≤ c) : Outside f f'' a c := fun j hj => by
  rw [h' j (by omega), h j (by omega)]
theorem aOps_ok {C : Ctx} {P : Program} {ρ : Env} (hC : C.Ok P ρ) {B : Nat → Prop} {W : World} {call : ACall} (hcall : CallOk P ρ B W call) {n N : Nat} {ops : Array Oper} {Q : Exit → Act → World → Prop} {s' : ASt} (hN : s'.nx ≤ N) {f₀ : Ren} {n₀ : Nat}
    (hQ : ∀ f' a' w', f₀.le f' → Outside f₀ f' n₀ s'.nx → StRel ρ B W n N f' s' a' w' → Q .normal a' w') :
    ∀ (l : List Oper) (k : Nat), ops.toList.drop k = l → ∀ (tm : T AVal) (hp : T AObj) (nx : Nat) (f : Ren) (a : Act) (w : World), aOps C call n ops.toList l tm hp nx = some s' → n₀ ≤ nx → f₀.le f → Outside f₀ f n₀ nx → StRel ρ B W n N f ⟨tm, hp, nx⟩ a w →
      wpOps P ops Q (List.range' k (ops.size - k)) a w := by
  intro l
  induction l with
  | nil =>
    intro k hk tm hp nx f a w h hn hle hout hs
    have : ops.size - k = 0 := by
      have := congrArg List.length hk
      simpa using this
    rw [this]
    cases h
    exact hQ f a w hle hout hs
  | cons o l ih =>
    intro k hk tm hp nx f a w h hn hle hout hs
    have hlen : ops.size - k = l.length + 1 := by
      have := congrArg List.length hk
      simpa using this
    have ho : ops[k]? = some o := by
      have : (ops.toList.drop k)[0]? = some o := by rw [hk]; rfl
      simpa using this
    have hk' : ops.toList.drop (k + 1) = l := by
      rw [← List.drop_drop, hk]
      rfl
    rw [hlen, List.range'_succ]
    have hl : l.length = ops.size - (k + 1) := by omega
    rw [hl]
    unfold wpOps
    simp only [ho]
    unfold aOps at h
    split at h
    · cases h
    · rename_i hd
      have hd' : okDst a.tmps.size o.dst = true := by rw [hs.size]; exact hd
      split at h
      · cases h
      · rename_i hw
        rw [aWanted_ok hC hs.tm hw]
        simp only [Bool.false_eq_true, if_false]
        exact ih (k + 1) hk' _ _ _ f _ _ h hn hle hout ⟨by rw [Act.put_size]; exact hs.size, hs.tm.put hd' (r := none) VRel.undef, by rw [Act.put_defers']; exact hs.defers, hs.heap, hs.fresh⟩
      · rename_i hw
        rw [aWanted_ok hC hs.tm hw]
        simp only [if_true]
        split at h
        · rename_i r hp' nx' hst
          have hnx := aStep_nx hcall hst
          have hnx' := aOps_nx hcall _ _ _ _ _ h
          refine .inl (aStep_ok hC hcall hs.heap hst (hs.fresh.sub (Nat.le_refl _) (by omega)) hs.tm.ev fun f' w' v' h1 h2 h3 h4 => ?_)
          exact ih (k + 1) hk' _ _ _ f' _ _ h (Nat.le_trans hn hnx) (Ren.le_trans hle h1) (hout.trans h2 hn hnx) ⟨by rw [Act.put_size]; exact hs.size, (hs.tm.mono h1).put hd' h4, by rw [Act.put_defers']; exact hs.defers, h3, hs.fresh.step h2 hnx⟩
        · cases h
end
end Go.Sx
