/- Bodies and calls. No condition. -/
import Derived.Test.YtpoianhfjgjajaaGreatSx16
import Derived.LoopN
import Derived.Defers
import Derived.Scope
set_option linter.unusedSimpArgs false
set_option linter.unusedVariables false
namespace Go.Sx
open Go.RowKit (Below)
noncomputable section

abbrev ADraw := ACall → Nat → List Oper → ASt → Option ASt
def DrawOk (P : Program) (ρ : Env) (B : Nat → Prop) (W : World) (dr : ADraw) : Prop :=
  ∀ call, CallOk P ρ B W call → ∀ n (ops : Array Oper) s s', dr call n ops.toList s = some s' → s.nx ≤ s'.nx ∧
    ∀ N f a w id Q, s'.nx ≤ N → StRel ρ B W n N f s a w →
      (∀ f' a' w', f.le f' → Outside f f' s.nx s'.nx → StRel ρ B W n N f' s' a' w' → Q .normal a' w') → (Code.region id ops true).wp P Q a w

inductive AExit where
  | normal | exit (id : Nat) | ret
def AExit.to : AExit → Exit
  | .normal => .normal
  | .exit i => .exit i
  | .ret => .ret
abbrev ACode := ASt → Option (AExit × ASt)
def CodeOk (P : Program) (ρ : Env) (B : Nat → Prop) (W : World) (n : Nat) (c : Code) (g : ACode) : Prop :=
  ∀ s e s', g s = some (e, s') → s.nx ≤ s'.nx ∧
    ∀ N f a w Q, s'.nx ≤ N → StRel ρ B W n N f s a w →
      (∀ f' a' w', f.le f' → Outside f f' s.nx s'.nx → StRel ρ B W n N f' s' a' w' → Q e.to a' w') → c.wp P Q a w

def aSeq (x y : ACode) : ACode := fun s =>
  match x s with
  | some (.normal, s') => y s'
  | some (.exit i, s') => some (.exit i, s')
  | some (.ret, s') => some (.ret, s')
  | none => none
def aCond (C : Ctx) (c : Operand) (x y : ACode) : ACode := fun s =>
  match aev s.tm c with
  | some (.bool t) =>
    match settle C.dec t with
    | some true => x s
    | some false => y s
    | none => none
  | _ => none
def aBlock (id : Nat) (x : ACode) : ACode := fun s =>
  match x s with
  | some (.exit i, s') =>
    match Nat.beq i id with
    | true => some (.normal, s')
    | false => some (.exit i, s')
  | some (.normal, s') => some (.normal, s')
  | some (.ret, s') => some (.ret, s')
  | none => none
def aRounds (x : ACode) : Nat → ACode
  | 0, _ => none
  | L + 1, s =>
    match x s with
    | some (.normal, s') => aRounds x L s'
    | some (.exit i, s') => some (.exit i, s')
    | some (.ret, s') => some (.ret, s')
    | none => none
/-- A loop: before each round by what is known of it. -/
def aLoop (lp x : ACode) : Nat → ACode
  | 0, _ => none
  | L + 1, s =>
    match lp s with
    | some r => some r
    | none =>
      match x s with
      | some (.normal, s') => aLoop lp x L s'
      | some (.exit i, s') => some (.exit i, s')
      | some (.ret, s') => some (.ret, s')
      | none => none
/-- What is known of a loop: some rounds of it. -/
def LoopOk (P : Program) (ρ : Env) (B : Nat → Prop) (W : World) (n : Nat) (c : Code) (g : ACode) : Prop :=
  ∀ s e s', g s = some (e, s') → ∃ m, s.nx ≤ s'.nx ∧
    ∀ N f a w Q, s'.nx ≤ N → StRel ρ B W n N f s a w → (∀ f' a' w', f.le f' → Outside f f' s.nx s'.nx → StRel ρ B W n N f' s' a' w' → Q e.to a' w') → Code.rounds P c Q m a w
theorem LoopOk.none {P : Program} {ρ : Env} {B : Nat → Prop} {W : World} {n : Nat} {c : Code} : LoopOk P ρ B W n c (fun _ => Option.none) := by
  intro s e s' hs
  cases hs
def aRegion (C : Ctx) (call : ACall) (dr : ADraw) (n : Nat) (ops : List Oper) (draw : Bool) : ACode := fun s =>
  match draw with
  | false =>
    match aOps C call n ops ops s.tm s.hp s.nx with
    | some s' => some (.normal, s')
    | none => none
  | true =>
    match dr call n ops s with
    | some s' => some (.normal, s')
    | none => none
/-- The number of the first region: a loop's sign within its function. -/
def Code.key (c : Code) : Nat :=
  Code.rec (motive := fun _ => Nat) 0 (fun id _ _ => id + 1) (fun _ _ x y => match x with | 0 => y | k => k) (fun _ _ _ x y => match x with | 0 => y | k => k) (fun _ _ x => x) (fun _ x => x) (fun _ _ _ _ _ _ => 0) (fun _ => 0) (fun _ x => x) (fun _ => 0) (fun _ => 0) 0 (fun _ => 0) c
/-- The bodies of the loops that it holds. -/
def loopsOf : Code → List Code
  | .seq a b => loopsOf a ++ loopsOf b
  | .cond _ a b => loopsOf a ++ loopsOf b
  | .block _ c => loopsOf c
  | .loop c => c :: loopsOf c
  | .scope c => loopsOf c
  | _ => []
def aCode (C : Ctx) (call : ACall) (lp : Nat → ACode) (dr : ADraw) (n L : Nat) (c : Code) : ACode :=
  Code.rec (motive := fun _ => ACode)
    (fun s => some (.normal, s))
    (fun _ ops draw => aRegion C call dr n ops.toList draw)
    (fun _ _ x y => aSeq x y)
    (fun c _ _ x y => aCond C c x y)
    (fun id _ x => aBlock id x)
    (fun c x s => aLoop (lp (Code.key c)) x L s)
    (fun _ _ _ _ _ _ _ => none)
    (fun id s => some (.exit id, s))
    (fun _ x => x)
    (fun _ s => some (.normal, s))
    (fun _ _ => none)
    (fun s => some (.ret, s))
    (fun _ _ => none) c

section
variable {P : Program} {ρ : Env} {B : Nat → Prop} {W : World} {n : Nat}
theorem CodeOk.here {c : Code} {e : AExit} (h : ∀ Q a w, Q e.to a w → c.wp P Q a w) : CodeOk P ρ B W n c (fun s => some (e, s)) := by
  intro s e' s' hs
  cases hs
  exact ⟨Nat.le_refl _, fun N f a w Q hN hr hq => h Q a w (hq f a w (Ren.le_refl f) (fun _ _ => rfl) hr)⟩
theorem CodeOk.none {c : Code} : CodeOk P ρ B W n c (fun _ => Option.none) := by
  intro s e s' hs
  cases hs
theorem CodeOk.seq {a b : Code} {x y : ACode} (hx : CodeOk P ρ B W n a x) (hy : CodeOk P ρ B W n b y) : CodeOk P ρ B W n (.seq a b) (aSeq x y) := by
  intro s e s' hs
  unfold aSeq at hs
  split at hs
  · rename_i s1 h1
    have q1 := hx _ _ _ h1
    have q2 := hy _ _ _ hs
    refine ⟨Nat.le_trans q1.1 q2.1, fun N f a w Q hN hr hq => wp_seq (q1.2 N f a w _ (Nat.le_trans q2.1 hN) hr fun f1 a1 w1 l1 o1 r1 => ?_)⟩
    exact q2.2 N f1 a1 w1 Q hN r1 fun f2 a2 w2 l2 o2 r2 => hq f2 a2 w2 (Ren.le_trans l1 l2) (o1.trans o2 q1.1 q2.1) r2
  · rename_i i s1 h1
    cases hs
    have q1 := hx _ _ _ h1
    exact ⟨q1.1, fun N f a w Q hN hr hq => wp_seq (q1.2 N f a w _ hN hr fun f1 a1 w1 l1 o1 r1 => hq f1 a1 w1 l1 o1 r1)⟩
  · rename_i s1 h1
    cases hs
    have q1 := hx _ _ _ h1
    exact ⟨q1.1, fun N f a w Q hN hr hq => wp_seq (q1.2 N f a w _ hN hr fun f1 a1 w1 l1 o1 r1 => hq f1 a1 w1 l1 o1 r1)⟩
  · cases hs
theorem CodeOk.cond {C : Ctx} (hC : C.Ok P ρ) {c : Operand} {a b : Code} {x y : ACode} (hx : CodeOk P ρ B W n a x) (hy : CodeOk P ρ B W n b y) : CodeOk P ρ B W n (.cond c a b) (aCond C c x y) := by
  intro s e s' hs
  unfold aCond at hs
  split at hs
  · rename_i t ht
    have key : ∀ v, settle C.dec t = some v → ∀ N f (a : Act) w, StRel ρ B W n N f s a w → a.eval c = .bool v := by
      intro v hv N f a w hr
      have hev := hr.tm.ev _ _ ht
      generalize a.eval c = z at hev
      cases hev
      rw [settle_ok hC.dec t _ hv]
    split at hs
    · rename_i hv
      have q := hx _ _ _ hs
      exact ⟨q.1, fun N f a w Q hN hr hq => wp_cond_true (key _ hv N f a w hr) (q.2 N f a w Q hN hr hq)⟩
    · rename_i hv
      have q := hy _ _ _ hs
      exact ⟨q.1, fun N f a w Q hN hr hq => wp_cond_false (key _ hv N f a w hr) (q.2 N f a w Q hN hr hq)⟩
    · cases hs
  · cases hs
theorem CodeOk.block {id : Nat} {c : Code} {x : ACode} (hx : CodeOk P ρ B W n c x) : CodeOk P ρ B W n (.block id c) (aBlock id x) := by
  intro s e s' hs
  unfold aBlock at hs
  split at hs
  · rename_i i s1 h1
    have q := hx _ _ _ h1
    split at hs
    · rename_i hi
      cases hs
      have hi' : i = id := Nat.eq_of_beq_eq_true hi
      exact ⟨q.1, fun N f a w Q hN hr hq => wp_block (q.2 N f a w _ hN hr fun f1 a1 w1 l1 o1 r1 => by
        show Exit.inBlock id Q (.exit i) a1 w1
        simp only [Exit.inBlock, hi', if_true]
        exact hq f1 a1 w1 l1 o1 r1)⟩
    · rename_i hi
      cases hs
      have hi' : i ≠ id := Nat.ne_of_beq_eq_false hi
      exact ⟨q.1, fun N f a w Q hN hr hq => wp_block (q.2 N f a w _ hN hr fun f1 a1 w1 l1 o1 r1 => by
        show Exit.inBlock id Q (.exit i) a1 w1
        simp only [Exit.inBlock, hi', if_false]
        exact hq f1 a1 w1 l1 o1 r1)⟩
  · rename_i s1 h1
    cases hs
    have q := hx _ _ _ h1
    exact ⟨q.1, fun N f a w Q hN hr hq => wp_block (q.2 N f a w _ hN hr fun f1 a1 w1 l1 o1 r1 => hq f1 a1 w1 l1 o1 r1)⟩
  · rename_i s1 h1
    cases hs
    have q := hx _ _ _ h1
    exact ⟨q.1, fun N f a w Q hN hr hq => wp_block (q.2 N f a w _ hN hr fun f1 a1 w1 l1 o1 r1 => hq f1 a1 w1 l1 o1 r1)⟩
  · cases hs
theorem rounds_ok {c : Code} {x : ACode} (hx : CodeOk P ρ B W n c x) : ∀ (L : Nat) s e s', aRounds x L s = some (e, s') → s.nx ≤ s'.nx ∧
    ∀ N f a w Q, s'.nx ≤ N → StRel ρ B W n N f s a w → (∀ f' a' w', f.le f' → Outside f f' s.nx s'.nx → StRel ρ B W n N f' s' a' w' → Q e.to a' w') → Code.rounds P c Q L a w := by
  intro L
  induction L with
  | zero => intro s e s' hs; cases hs
  | succ L ih =>
    intro s e s' hs
    unfold aRounds at hs
    split at hs
    · rename_i s1 h1
      have q1 := hx _ _ _ h1
      have q2 := ih _ _ _ hs
      refine ⟨Nat.le_trans q1.1 q2.1, fun N f a w Q hN hr hq => q1.2 N f a w _ (Nat.le_trans q2.1 hN) hr fun f1 a1 w1 l1 o1 r1 => ?_⟩
      exact q2.2 N f1 a1 w1 Q hN r1 fun f2 a2 w2 l2 o2 r2 => hq f2 a2 w2 (Ren.le_trans l1 l2) (o1.trans o2 q1.1 q2.1) r2
    · rename_i i s1 h1
      cases hs
      have q1 := hx _ _ _ h1
      exact ⟨q1.1, fun N f a w Q hN hr hq => q1.2 N f a w _ hN hr fun f1 a1 w1 l1 o1 r1 => hq f1 a1 w1 l1 o1 r1⟩
    · rename_i s1 h1
      cases hs
      have q1 := hx _ _ _ h1
      exact ⟨q1.1, fun N f a w Q hN hr hq => q1.2 N f a w _ hN hr fun f1 a1 w1 l1 o1 r1 => hq f1 a1 w1 l1 o1 r1⟩
    · cases hs
theorem aLoop_ok {c : Code} {lp x : ACode} (hl : LoopOk P ρ B W n c lp) (hx : CodeOk P ρ B W n c x) : ∀ L, LoopOk P ρ B W n c (aLoop lp x L) := by
  intro L
  induction L with
  | zero => intro s e s' hs; cases hs
  | succ L ih =>
    intro s e s' hs
    unfold aLoop at hs
    split at hs
    · rename_i r hr
      cases hs
      exact hl _ _ _ hr
    · split at hs
      · rename_i s1 h1
        have q1 := hx _ _ _ h1
        obtain ⟨m, q2⟩ := ih _ _ _ hs
        refine ⟨m + 1, Nat.le_trans q1.1 q2.1, fun N f a w Q hN hr hq => q1.2 N f a w _ (Nat.le_trans q2.1 hN) hr fun f1 a1 w1 l1 o1 r1 => ?_⟩
        exact q2.2 N f1 a1 w1 Q hN r1 fun f2 a2 w2 l2 o2 r2 => hq f2 a2 w2 (Ren.le_trans l1 l2) (o1.trans o2 q1.1 q2.1) r2
      · rename_i i s1 h1
        cases hs
        have q1 := hx _ _ _ h1
        exact ⟨1, q1.1, fun N f a w Q hN hr hq => q1.2 N f a w _ hN hr fun f1 a1 w1 l1 o1 r1 => hq f1 a1 w1 l1 o1 r1⟩
      · rename_i s1 h1
        cases hs
        have q1 := hx _ _ _ h1
        exact ⟨1, q1.1, fun N f a w Q hN hr hq => q1.2 N f a w _ hN hr fun f1 a1 w1 l1 o1 r1 => hq f1 a1 w1 l1 o1 r1⟩
      · cases hs
theorem CodeOk.region {C : Ctx} (hC : C.Ok P ρ) {call : ACall} (hcall : CallOk P ρ B W call) {dr : ADraw} (hdr : DrawOk P ρ B W dr) (id : Nat) (ops : Array Oper) (draw : Bool) : CodeOk P ρ B W n (.region id ops draw) (aRegion C call dr n ops.toList draw) := by
  intro s e s' hs
  unfold aRegion at hs
  split at hs
  · split at hs
    · rename_i s1 h1
      cases hs
      have hnx := aOps_nx hcall _ _ _ _ _ h1
      refine ⟨hnx, fun N f a w Q hN hr hq => wp_region ?_⟩
      have := aOps_ok hC hcall (n := n) (ops := ops) hN (f₀ := f) (n₀ := s.nx) hq ops.toList 0 rfl s.tm s.hp s.nx f a w h1 (Nat.le_refl _) (Ren.le_refl f) (fun _ _ => rfl) hr
      rw [List.range_eq_range']
      exact this
    · cases hs
  · split at hs
    · rename_i s1 h1
      cases hs
      have q := hdr call hcall n ops s _ h1
      exact ⟨q.1, fun N f a w Q hN hr hq => q.2 N f a w id Q hN hr hq⟩
    · cases hs
theorem aCode_ok {C : Ctx} (hC : C.Ok P ρ) {call : ACall} (hcall : CallOk P ρ B W call) {lp : Nat → ACode} {dr : ADraw} (hdr : DrawOk P ρ B W dr) (L : Nat) (c : Code) (hlp : ∀ b ∈ loopsOf c, LoopOk P ρ B W n b (lp (Code.key b))) : CodeOk P ρ B W n c (aCode C call lp dr n L c) := by
  induction c with
  | skip => exact CodeOk.here (e := .normal) fun Q a w h => wp_skip h
  | region id ops draw => exact CodeOk.region hC hcall hdr id ops draw
  | seq a b ha hb => exact CodeOk.seq (ha fun x hx => hlp x (List.mem_append.2 (.inl hx))) (hb fun x hx => hlp x (List.mem_append.2 (.inr hx)))
  | cond c a b ha hb => exact CodeOk.cond hC (ha fun x hx => hlp x (List.mem_append.2 (.inl hx))) (hb fun x hx => hlp x (List.mem_append.2 (.inr hx)))
  | block id c hc => exact CodeOk.block (hc hlp)
  | loop c hc =>
    intro s e s' hs
    have hs : aLoop (lp (Code.key c)) (aCode C call lp dr n L c) L s = some (e, s') := hs
    obtain ⟨m, q⟩ := aLoop_ok (hlp c (List.mem_cons_self ..)) (hc fun x hx => hlp x (List.mem_cons_of_mem _ hx)) L s e s' hs
    exact ⟨q.1, fun N f a w Q hN hr hq => wp_loop_rounds m (q.2 N f a w Q hN hr hq)⟩
  | rangeFunc => exact CodeOk.none
  | exit id => exact CodeOk.here (e := .exit id) fun Q a w h => wp_exit h
  | scope c hc =>
    intro s e s' hs
    have q := hc hlp s e s' hs
    exact ⟨q.1, fun N f a w Q hN hr hq => wp_scope_straight (q.2 N f a w _ hN hr fun f1 a1 w1 l1 o1 r1 => by
      have := hq f1 a1 w1 l1 o1 r1
      cases e <;> exact this)⟩
  | label => exact CodeOk.here (e := .normal) fun Q a w h => wp_label h
  | goto => exact CodeOk.none
  | ret => exact CodeOk.here (e := .ret) fun Q a w h => wp_ret h
  | refuse => exact CodeOk.none
end

/-! results -/
def aRes (C : Ctx) (tm : T AVal) (h : T AObj) : ResultVar → Option AVal
  | .tmp t => tm.get t
  | .cell a t =>
    match tm.get a with
    | some x => aLoad C h t x
    | none => none
def aRess (C : Ctx) (tm : T AVal) (h : T AObj) : List ResultVar → Option (List AVal)
  | [] => some []
  | x :: l =>
    match aRes C tm h x, aRess C tm h l with
    | some v, some vs => some (v :: vs)
    | _, _ => none
def aResult : List AVal → AVal
  | [v] => v
  | l => .tuple l
def resOf (tmps : Array Value) : ResultVar → Sem Value
  | .tmp t => pure (tmps.getD t Go.undef)
  | .cell b t => do loadVar t (← asAddr (tmps.getD b Go.undef))
theorem results_eq (fn : Func) (tmps : Array Value) : results fn tmps = (do
    let vs ← fn.results.mapM (resOf tmps)
    pure (if h : vs.size = 1 then vs[0] else .tuple vs)) := rfl
theorem aRes_ok {C : Ctx} {P : Program} {ρ : Env} (hC : C.Ok P ρ) {B : Nat → Prop} {W w : World} {f : Ren} {h : T AObj} (hr : HRel ρ B W f h w) {tm : T AVal} {a : Act} (ht : TmRel ρ f tm a) {x : ResultVar} {v : AVal} (hv : aRes C tm h x = some v) :
    ∃ v', (resOf a.tmps x).run P w = .ok v' w ∧ VRel ρ f v v' := by
  cases x with
  | tmp t => exact ⟨_, rfl, ht _ _ hv⟩
  | cell b t =>
    simp only [aRes] at hv
    split at hv
    · rename_i x hx
      have hx' := ht _ _ hx
      obtain ⟨v', h1, h2⟩ := aLoad_ok hC hr hx' hv
      refine ⟨v', ?_, h2⟩
      have e : resOf a.tmps (.cell b t) = (do loadVar t (← asAddr (a.tmps.getD b Go.undef))) := rfl
      rw [e]
      generalize a.tmps.getD b Go.undef = y at hx' h1 ⊢
      unfold aLoad at hv
      split at hv
      · cases hx'
        simp only [asAddr, Sem.run_bind, Sem.run_pure, Result.andThen_ok]
        exact h1
      · cases hv
    · cases hv
theorem aRess_ok {C : Ctx} {P : Program} {ρ : Env} (hC : C.Ok P ρ) {B : Nat → Prop} {W w : World} {f : Ren} {h : T AObj} (hr : HRel ρ B W f h w) {tm : T AVal} {a : Act} (ht : TmRel ρ f tm a) : ∀ (l : List ResultVar) (vs : List AVal), aRess C tm h l = some vs →
    ∃ vs', (l.mapM (resOf a.tmps)).run P w = .ok vs' w ∧ LRel ρ f vs vs'.toArray := by
  intro l
  induction l with
  | nil => intro vs hv; cases hv; exact ⟨[], rfl, LRel.nil⟩
  | cons x l ih =>
    intro vs hv
    simp only [aRess] at hv
    split at hv
    · rename_i v vs' h1 h2
      cases hv
      obtain ⟨v', q1, q2⟩ := aRes_ok (P := P) hC hr ht h1
      obtain ⟨us, q3, q4⟩ := ih _ h2
      refine ⟨v' :: us, ?_, LRel.cons q2 q4⟩
      simp only [List.mapM_cons, Sem.run_bind, q1, Result.andThen_ok, q3, Sem.run_pure]
    · cases hv
theorem aResult_ok {ρ : Env} {f : Ren} {vs : List AVal} {us : List Value} (h : LRel ρ f vs us.toArray) : VRel ρ f (aResult vs) (if h : us.toArray.size = 1 then us.toArray[0] else .tuple us.toArray) := by
  have hs : us.length = vs.length := by simpa using h.1
  match vs, us, hs with
  | [], [], _ => exact .tuple h.1 h.2
  | [v], [u], _ => exact h.2 0 v u rfl rfl
  | v :: v2 :: vs, u :: u2 :: us, _ =>
    rw [dif_neg (by simp)]
    exact .tuple h.1 h.2
theorem run_results {P : Program} {w : World} {fn : Func} {tmps : Array Value} {us : List Value}
    (h : (fn.results.toList.mapM (resOf tmps)).run P w = .ok us w) :
    (results fn tmps).run P w = .ok (if h : us.toArray.size = 1 then us.toArray[0] else .tuple us.toArray) w := by
  rw [results_eq, Array.mapM_eq_mapM_toList]
  simp only [Sem.run_bind]
  have e : ((List.toArray <$> (fn.results.toList.mapM (resOf tmps))).run P w) = .ok us.toArray w := by
    rw [map_eq_pure_bind, Sem.run_bind, h]
    simp only [Result.andThen_ok, Sem.run_pure]
  rw [e]
  simp only [Result.andThen_ok, Sem.run_pure]

/-! calls -/
/-- What is known of functions and loops beforehand. -/
structure Sums where
  call : ACall
  loop : FuncId → Nat → Nat → ACode
structure SumsOk (P : Program) (ρ : Env) (B : Nat → Prop) (W : World) (sm : Sums) : Prop where
  call : CallOk P ρ B W sm.call
  loop : ∀ g fn c, P.funcs[g]? = some fn → fn.body = some c → ∀ b ∈ loopsOf c, ∀ n, LoopOk P ρ B W n b (sm.loop g n (Code.key b))
/-- A call: by what is known of the function, or by its body. -/
def aCallN (C : Ctx) (dr : ADraw) (sm : Sums) (L : Nat) : Nat → ACall
  | 0, _, _, _, _ => none
  | d + 1, g, args, h, nx =>
    match sm.call g args h nx with
    | some r => some r
    | none =>
    match C.fn.get g with
    | none => none
    | some fn =>
      match fn.body with
      | none => none
      | some c =>
        match aCode C (aCallN C dr sm L d) (sm.loop g (args.length + (fn.ntmps - args.length))) dr (args.length + (fn.ntmps - args.length)) L c ⟨treeOf args 0 .nil, h, nx⟩ with
        | some (.normal, s) =>
          match aRess C s.tm s.hp fn.results.toList with
          | some vs => some (aResult vs, s.hp, s.nx)
          | none => none
        | some (.ret, s) =>
          match aRess C s.tm s.hp fn.results.toList with
          | some vs => some (aResult vs, s.hp, s.nx)
          | none => none
        | _ => none
theorem aCallN_ok {C : Ctx} {P : Program} {ρ : Env} (hC : C.Ok P ρ) {B : Nat → Prop} {W : World} {dr : ADraw} (hdr : DrawOk P ρ B W dr) {sm : Sums} (hsm : SumsOk P ρ B W sm) (L : Nat) : ∀ d, CallOk P ρ B W (aCallN C dr sm L d) := by
  intro d
  induction d with
  | zero => intro g args h nx v h' nx' hc; cases hc
  | succ d ih =>
    intro g args h nx v h' nx' hc
    unfold aCallN at hc
    split at hc
    · rename_i r hr
      cases hc
      exact hsm.call _ _ _ _ _ _ _ hr
    split at hc
    · cases hc
    · rename_i fn hfn
      split at hc
      · cases hc
      · rename_i c hb
        have key : ∀ e s, aCode C (aCallN C dr sm L d) (sm.loop g (args.length + (fn.ntmps - args.length))) dr (args.length + (fn.ntmps - args.length)) L c ⟨treeOf args 0 .nil, h, nx⟩ = some (e, s) → (e = .normal ∨ e = .ret) → ∀ vs, aRess C s.tm s.hp fn.results.toList = some vs → nx ≤ s.nx ∧
            ∀ f w args', HRel ρ B W f h w → LRel ρ f args args' → Fresh f nx s.nx →
            Calls P g args' w fun e w' => ∃ v' f', e = .returned v' ∧ f.le f' ∧ Outside f f' nx s.nx ∧ HRel ρ B W f' s.hp w' ∧ VRel ρ f' (aResult vs) v' := by
          intro e s hs he vs hvs
          have q := aCode_ok hC ih hdr L c (fun b hbl => hsm.loop g fn c (hC.fn _ _ hfn) hb b hbl _) _ _ _ hs
          refine ⟨q.1, fun f w args' hr ha hf => calls_of_wp (hC.fn _ _ hfn) hb (q.2 s.nx f _ w _ (Nat.le_refl _) ⟨?_, ?_, rfl, hr, hf⟩ fun f' a' w' l1 o1 r1 => ?_)⟩
          · simp [ha.1]
          · intro j v hj
            rcases treeOf_ok _ _ _ _ _ hj with ⟨_, hj⟩ | hj
            · obtain ⟨v', h1, h2⟩ := ha.get (by simpa using hj)
              have : (args' ++ Array.replicate (fn.ntmps - args'.size) Go.undef).getD j Go.undef = v' := by
                rw [Array.getD_eq_getD_getElem?, Array.getElem?_append_left (Array.getElem?_eq_some_iff.1 h1).1, h1]
                rfl
              rw [this]
              exact h2
            · (rw [T.get_nil] at hj; cases hj)
          · obtain ⟨us, h1, h2⟩ := aRess_ok (P := P) hC r1.heap r1.tm _ _ hvs
            have hpost : a'.defers = [] ∧ ∃ v, (results fn a'.tmps).run P w' = .ok v w' ∧ ∃ v' f'', (Ending.returned v) = .returned v' ∧ f.le f'' ∧ Outside f f'' nx s.nx ∧ HRel ρ B W f'' s.hp w' ∧ VRel ρ f'' (aResult vs) v' :=
              ⟨r1.defers, _, run_results h1, _, f', rfl, l1, o1, r1.heap, aResult_ok h2⟩
            rcases he with rfl | rfl
            · exact hpost
            · exact hpost
        split at hc
        · rename_i s hs
          split at hc
          · rename_i vs hvs
            cases hc
            exact key _ _ hs (.inl rfl) _ hvs
          · cases hc
        · rename_i s hs
          split at hc
          · rename_i vs hvs
            cases hc
            exact key _ _ hs (.inr rfl) _ hvs
          · cases hc
        · cases hc
end
end Go.Sx
