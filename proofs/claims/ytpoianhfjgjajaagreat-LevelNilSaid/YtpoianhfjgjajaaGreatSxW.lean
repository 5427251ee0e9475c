/- Loops known beforehand: contracts from a pattern of slots and blocks, shown by one round and themselves. No condition. -/
import Derived.Test.YtpoianhfjgjajaaGreatSxK
set_option linter.unusedSimpArgs false
set_option linter.unusedVariables false
namespace Go.Sx
open Go.RowKit (Below)
noncomputable section
/-- What a loop does: the contract's arguments are the slots sl, its result the tuple of the slots sl'. -/
structure LCon where
  con : Con
  key : Nat
  n : Nat
  sl : List Nat
  e : AExit
  sl' : List Nat
  pick : ASt → Bool := fun _ => true
def slotsOf (tm : T AVal) : List Nat → Option (List AVal)
  | [] => some []
  | k :: l =>
    match tm.get k with
    | some v =>
      match slotsOf tm l with
      | some m => some (v :: m)
      | none => none
    | none => none
def tmOf : List Nat → List AVal → T AVal → T AVal
  | [], _, t => t
  | k :: l, m, t =>
    match m with
    | [] => t
    | v :: m => tmOf l m (t.set k v)
theorem slotsOf_get {tm : T AVal} : ∀ {l : List Nat} {m : List AVal}, slotsOf tm l = some m → m.length = l.length ∧ ∀ (i k : Nat), l[i]? = some k → ∃ v, m[i]? = some v ∧ tm.get k = some v := by
  intro l
  induction l with
  | nil => intro m h; cases h; exact ⟨rfl, fun i k h => by simp at h⟩
  | cons x l ih =>
    intro m h
    unfold slotsOf at h
    split at h
    · rename_i v hv
      split at h
      · rename_i m' hm
        cases h
        obtain ⟨h1, h2⟩ := ih hm
        refine ⟨by simp [h1], fun i k hk => ?_⟩
        cases i with
        | zero => simp at hk; subst hk; exact ⟨v, rfl, hv⟩
        | succ i => exact h2 i k (by simpa using hk)
      · cases h
    · cases h
theorem tmOf_get : ∀ {l : List Nat} {m : List AVal} {t : T AVal} {k : Nat} {v : AVal}, (tmOf l m t).get k = some v → (∃ i : Nat, l[i]? = some k ∧ m[i]? = some v) ∨ t.get k = some v := by
  intro l
  induction l with
  | nil => intro m t k v h; exact .inr h
  | cons x l ih =>
    intro m t k v h
    cases m with
    | nil => exact .inr h
    | cons y m =>
      rcases ih h with ⟨i, h1, h2⟩ | h1
      · exact .inl ⟨i + 1, by simpa using h1, by simpa using h2⟩
      · rcases T.get_set h1 with ⟨rfl, rfl⟩ | ⟨_, h2⟩
        · exact .inl ⟨0, rfl, rfl⟩
        · exact .inr h2
/-- At most m rounds of a loop, as a run. -/
def roundsR (P : Program) (b : Code) (c : LCon) (m : Nat) : RunR := fun args w Q =>
  ∀ a : Act, a.tmps.size = c.n → a.defers = [] → (∀ (i s : Nat) (x : Value), c.sl[i]? = some s → args[i]? = some x → a.tmps.getD s Go.undef = x) → ∀ Q0 : Exit → Act → World → Prop,
    (∀ (v : Value) (a' : Act) (w' : World), Q v w' → a'.tmps.size = c.n → a'.defers = [] → (∃ l : Array Value, v = .tuple l ∧ l.size = c.sl'.length ∧ ∀ (i s : Nat), c.sl'[i]? = some s → l[i]? = some (a'.tmps.getD s Go.undef)) → Q0 c.e.to a' w') → Code.rounds P b Q0 m a w
theorem roundsR_mono (P : Program) (b : Code) (c : LCon) (m : Nat) : RMono (roundsR P b c m) :=
  fun args w Q Q' h hq a h1 h2 h3 Q0 h4 => h a h1 h2 h3 Q0 fun v a' w' k1 k2 k3 k4 => h4 v a' w' (hq v w' k1) k2 k3 k4
def LCon.Ok (P : Program) (G : Nat → Int → Int → Int → Int) (GH : Nat → Ghost) (c : LCon) : Prop :=
  ∀ (fn : Func) (cd b : Code), P.funcs[c.con.g]? = some fn → fn.body = some cd → b ∈ loopsOf cd → Code.key b = c.key →
    ∀ ρ : Env, ρ.std G GH → ρ.ok (bdL c.con.bds) → c.con.pre.holds ρ → ∃ m, c.con.OkAt (roundsR P b c m) ρ
/-! put to use -/
/-! nil slices that a pattern takes for growing ones -/
def prep1 (os : List AObj) (k : Nat) (p : AVal) (s : ASt) : ASt :=
  match p with
  | .sliceA i _ sz =>
    match s.tm.get k with
    | some (.slice none 0 0 0) =>
      match os[i]? with
      | some (.arr ks _ _ _) => ⟨s.tm.set k (.sliceA s.nx (.lit 0) sz), s.hp.set s.nx (.arr ks (.lit 0) (.lit 0) true), s.nx + 1⟩
      | _ => s
    | _ => s
  | _ => s
def prepS (os : List AObj) : List Nat → List AVal → ASt → ASt
  | k :: sl, p :: ps, s => prepS os sl ps (prep1 os k p s)
  | _, _, s => s
theorem prep1_nx (os : List AObj) (k : Nat) (p : AVal) (s : ASt) : s.nx ≤ (prep1 os k p s).nx := by
  unfold prep1
  repeat' split
  all_goals first
    | exact Nat.le_refl _
    | exact Nat.le_succ _
theorem prepS_nx (os : List AObj) : ∀ (sl : List Nat) (ps : List AVal) (s : ASt), s.nx ≤ (prepS os sl ps s).nx := by
  intro sl
  induction sl with
  | nil => intro ps s; exact Nat.le_refl _
  | cons k sl ih =>
    intro ps s
    cases ps with
    | nil => exact Nat.le_refl _
    | cons p ps => exact Nat.le_trans (prep1_nx os k p s) (ih ps _)
theorem prep1_ok {ρ : Env} {B : Nat → Prop} {W w : World} {n N : Nat} {f : Ren} {a : Act} (os : List AObj) (k : Nat) (p : AVal) (s : ASt) (hN : (prep1 os k p s).nx ≤ N) (hs : StRel ρ B W n N f s a w) : StRel ρ B W n N f (prep1 os k p s) a w := by
  unfold prep1 at *
  split at hN
  · rename_i i l sz
    split at hN
    · rename_i hk
      split at hN
      · have hnone : f s.nx = none := hs.fresh s.nx (Nat.le_refl _) (by have : s.nx + 1 ≤ N := hN; omega)
        refine ⟨hs.size, fun d v hd => ?_, hs.defers, hs.heap.extra hnone _, hs.fresh.sub (Nat.le_succ _) (Nat.le_refl _)⟩
        rcases T.get_set hd with ⟨rfl, rfl⟩ | ⟨_, hd⟩
        · have := hs.tm _ _ hk
          generalize a.tmps.getD d Go.undef = u at this ⊢
          cases this
          exact .sliceN rfl
        · exact hs.tm d v hd
      · exact hs
    · exact hs
  · exact hs
theorem prepS_ok {ρ : Env} {B : Nat → Prop} {W w : World} {n N : Nat} {f : Ren} {a : Act} (os : List AObj) : ∀ (sl : List Nat) (ps : List AVal) (s : ASt), (prepS os sl ps s).nx ≤ N → StRel ρ B W n N f s a w → StRel ρ B W n N f (prepS os sl ps s) a w := by
  intro sl
  induction sl with
  | nil => intro ps s _ hs; exact hs
  | cons k sl ih =>
    intro ps s hN hs
    cases ps with
    | nil => exact hs
    | cons p ps => exact ih ps _ hN (prep1_ok os k p s (Nat.le_trans (prepS_nx os sl ps _) hN) hs)
def LCon.run0 (C : Ctx) (c : LCon) (s : ASt) : Option (AExit × ASt) :=
  match slotsOf s.tm c.sl with
  | some args =>
    match c.con.fit C args s.hp s.nx with
    | some (sg, pb) =>
      match c.con.then C s.hp s.nx sg pb with
      | (v, hp', nx') =>
        match v with
        | .tuple vs =>
          match Nat.beq vs.length c.sl'.length with
          | true => some (c.e, ⟨tmOf c.sl' vs .nil, hp', nx'⟩)
          | false => none
        | _ => none
    | none => none
  | none => none
theorem act_args {a : Act} {l : List Nat} {i s : Nat} {x : Value} (hs : l[i]? = some s) (hx : (l.map fun k => a.tmps.getD k Go.undef).toArray[i]? = some x) : a.tmps.getD s Go.undef = x := by
  have : (l.map fun k => a.tmps.getD k Go.undef)[i]? = some x := by simpa using hx
  rw [List.getElem?_map, hs] at this
  exact Option.some.inj this
theorem TmRel.args {ρ : Env} {f : Ren} {tm : T AVal} {a : Act} (ht : TmRel ρ f tm a) {l : List Nat} {m : List AVal} (h : slotsOf tm l = some m) : LRel ρ f m (l.map fun k => a.tmps.getD k Go.undef).toArray := by
  obtain ⟨h1, h2⟩ := slotsOf_get h
  refine ⟨by simp [h1], fun i v v' hv hv' => ?_⟩
  have hi : i < l.length := by rw [← h1]; exact (List.getElem?_eq_some_iff.1 hv).1
  have hk : l[i]? = some (l[i]'hi) := List.getElem?_eq_getElem hi
  obtain ⟨u, k1, k2⟩ := h2 i _ hk
  rw [hv] at k1
  cases k1
  rw [← act_args hk hv']
  exact ht _ _ k2
/-- The state behind, by the slots' values. -/
theorem TmRel.back {ρ : Env} {f : Ren} {a : Act} {l : Array Value} {sl : List Nat} {vs : List AVal} (hv : VRel ρ f (.tuple vs) (.tuple l)) (hl : ∀ (i s : Nat), sl[i]? = some s → l[i]? = some (a.tmps.getD s Go.undef)) : TmRel ρ f (tmOf sl vs .nil) a := by
  intro d v h
  rcases tmOf_get h with ⟨i, h1, h2⟩ | h1
  · cases hv with
    | tuple ha hb => exact hb i v _ h2 (hl i d h1)
  · rw [T.get_nil] at h1; cases h1
theorem LCon.run0_ok {C : Ctx} {P : Program} {ρ : Env} (hC : C.Ok P ρ) {G : Nat → Int → Int → Int → Int} {GH : Nat → Ghost} (hρ : ρ.std G GH) {c : LCon} (hwf : c.con.wf = true) (hc : c.Ok P G GH) {fn : Func} {cd b : Code} (hf : P.funcs[c.con.g]? = some fn) (hb : fn.body = some cd) (hm : b ∈ loopsOf cd) (hk : Code.key b = c.key)
    {s s' : ASt} {e : AExit} (h : c.run0 C s = some (e, s')) {B : Nat → Prop} {W : World} : ∃ m, GoesR P ρ B W c.n b m s e s' := by
  unfold LCon.run0 at h
  split at h
  · rename_i args hargs
    split at h
    · rename_i sg pb hfit
      split at h
      rename_i v hp' nx' hthen
      split at h
      · rename_i vs
        split at h
        · cases h
          obtain ⟨h1, h2, h3⟩ := Con.fit_ok hC hwf hfit
          have hnx : nx' = s.nx + (c.con.os'.length - c.con.os.length) := by
            have := congrArg (·.2.2) hthen
            exact this.symm
          subst hnx
          obtain ⟨m, hat⟩ := hc fn cd b hf hb hm hk (ρ.rep (sigOf sg)) ⟨hρ.1, hρ.2⟩ h1 h2
          refine ⟨m, Nat.le_add_right _ _, fun N f a w Q hN hr hQ => ?_⟩
          have := h3 _ (roundsR_mono P b c m) hat B W f w (c.sl.map fun k => a.tmps.getD k Go.undef).toArray hr.heap (hr.tm.args hargs) (hr.fresh.sub (Nat.le_refl _) hN)
          refine this a hr.size hr.defers (fun i s x hs hx => act_args hs hx) Q fun v' a' w' ⟨f', k1, k2, k3, k4⟩ k5 k6 ⟨l, k7, k8, k9⟩ => ?_
          rw [hthen] at k3 k4
          subst k7
          exact hQ f' a' w' k1 k2 ⟨k5, TmRel.back k4 k9, k6, k3, hr.fresh.step k2 (Nat.le_add_right _ _)⟩
        · cases h
      · cases h
    · cases h
  · cases h
def LCon.run (C : Ctx) (c : LCon) (s : ASt) : Option (AExit × ASt) := c.run0 C (prepS c.con.os c.sl c.con.args s)
theorem LCon.run_ok {C : Ctx} {P : Program} {ρ : Env} (hC : C.Ok P ρ) {G : Nat → Int → Int → Int → Int} {GH : Nat → Ghost} (hρ : ρ.std G GH) {c : LCon} (hwf : c.con.wf = true) (hc : c.Ok P G GH) {fn : Func} {cd b : Code} (hf : P.funcs[c.con.g]? = some fn) (hb : fn.body = some cd) (hm : b ∈ loopsOf cd) (hk : Code.key b = c.key)
    {s s' : ASt} {e : AExit} (h : c.run C s = some (e, s')) {B : Nat → Prop} {W : World} : ∃ m, GoesR P ρ B W c.n b m s e s' := by
  obtain ⟨m, h1, h2⟩ := LCon.run0_ok hC hρ hwf hc hf hb hm hk h (B := B) (W := W)
  have hle := prepS_nx c.con.os c.sl c.con.args s
  refine ⟨m, Nat.le_trans hle h1, fun N f a w Q hN hs hQ => h2 N f a w Q hN (prepS_ok _ _ _ _ (Nat.le_trans h1 hN) hs) fun f' a' w' q1 q2 q3 => hQ f' a' w' q1 (fun j hj => q2 j (by omega)) q3⟩
/-! lists of contracts -/
structure Know where
  cons : List Con := []
  loops : List LCon := []
structure Know.Ok (P : Program) (G : Nat → Int → Int → Int → Int) (GH : Nat → Ghost) (K : Know) : Prop where
  cons : ConsOk P G GH K.cons
  loops : ∀ c ∈ K.loops, c.con.wf = true ∧ c.Ok P G GH
def hasLoop : List LCon → FuncId → Nat → Bool
  | [], _, _ => false
  | c :: l, g, k =>
    match Nat.beq g c.con.g && Nat.beq k c.key with
    | true => true
    | false => hasLoop l g k
def loopRun (C : Ctx) : List LCon → FuncId → Nat → Nat → ASt → Option (AExit × ASt)
  | [], _, _, _, _ => none
  | c :: l, g, n, k, s =>
    match Nat.beq g c.con.g && (Nat.beq k c.key && (Nat.beq n c.n && c.pick s)) with
    | true =>
      match c.run C s with
      | some r => some r
      | none => loopRun C l g n k s
    | false => loopRun C l g n k s
def loopAsk (C : Ctx) : List LCon → FuncId → Nat → ASt → List BE
  | [], _, _, _ => []
  | c :: l, g, k, s =>
    match Nat.beq g c.con.g && (Nat.beq k c.key && c.pick s) with
    | true =>
      match slotsOf s.tm c.sl with
      | some args =>
        match c.con.ask C args s.hp with
        | [] => loopAsk C l g k s
        | bs => bs
      | none => loopAsk C l g k s
    | false => loopAsk C l g k s
def smKnow (C : Ctx) (K : Know) : Sm :=
  { call := fun dec => conCall (C.with dec) K.cons, ask := fun dec g args h => conAsk (C.with dec) K.cons g args h,
    lps := fun g => { has := hasLoop K.loops g, run := fun n k dec s => loopRun (C.with dec) K.loops g n k s, ask := fun k dec s => loopAsk (C.with dec) K.loops g k s } }
theorem smKnow_ok {C : Ctx} {P : Program} {ρ : Env} (hC : C.Ok P ρ) {G : Nat → Int → Int → Int → Int} {GH : Nat → Ghost} (hρ : ρ.std G GH) {K : Know} (hl : K.Ok P G GH) : SmOk P ρ (smKnow C K) := by
  refine ⟨fun dec hd B W => conCall_ok (hC.with hd) hρ hl.cons, fun g fn cd hf hb B W n b hm dec hd s e s' h => ?_⟩
  have h : loopRun (C.with dec) K.loops g n (Code.key b) s = some (e, s') := h
  have key : ∀ l : List LCon, (∀ c ∈ l, c.con.wf = true ∧ c.Ok P G GH) → loopRun (C.with dec) l g n (Code.key b) s = some (e, s') → ∃ m, GoesR P ρ B W n b m s e s' := by
    intro l
    induction l with
    | nil => intro _ h; cases h
    | cons c l ih =>
      intro hl h
      have hl' : ∀ c ∈ l, c.con.wf = true ∧ c.Ok P G GH := fun c hc => hl c (List.mem_cons_of_mem _ hc)
      unfold loopRun at h
      split at h
      · rename_i hck
        obtain ⟨k1, hck⟩ := and_split hck
        obtain ⟨k2, hck⟩ := and_split hck
        obtain ⟨k3, _⟩ := and_split hck
        have k1 := Nat.eq_of_beq_eq_true k1
        have k2 := Nat.eq_of_beq_eq_true k2
        have k3 := Nat.eq_of_beq_eq_true k3
        split at h
        · rename_i r hr
          cases h
          obtain ⟨w1, w2⟩ := hl c (List.mem_cons_self ..)
          subst k3
          exact LCon.run_ok (hC.with hd) hρ w1 w2 (by rw [← k1]; exact hf) hb hm k2 hr
        · exact ih hl' h
      · exact ih hl' h
  exact key K.loops hl.loops h
/-! the proof of a loop's contract: a round, then itself -/
def loopBody (C : Ctx) (g : FuncId) (k : Nat) : Option Code :=
  match C.fn.get g with
  | some fn =>
    match fn.body with
    | some cd =>
      match (loopsOf cd).filter fun b => Nat.beq (Code.key b) k with
      | [b] => some b
      | _ => none
    | none => none
  | none => none
/-- Behind a round: the contract once more, where the measure is less; or the loop's end. -/
def LCon.back (C : Ctx) (c : LCon) (μ : IE) : Nat → Dec → AExit → ASt → Out
  | 0, _, _, _ => .bad (.num 201)
  | k + 1, dec, e, s =>
    match e with
    | .normal =>
      match slotsOf s.tm c.sl with
      | some args =>
        match c.con.fit (C.with dec) args s.hp s.nx with
        | some (sg, pb) =>
          match proveR C.bd 6 dec (.lt (μ.rep (sigOf sg)) μ), proveR C.bd 6 dec (.lt (μ.rep (sigOf sg)) (.lit 0)) with
          | some true, some false =>
            match c.con.then (C.with dec) s.hp s.nx sg pb with
            | (v, hp', nx') => .leaf .normal ⟨T.nil.set 0 v, hp', nx'⟩
          | _, _ => .bad (.num 202)
        | none =>
          match learn C.bd dec (c.con.ask (C.with dec) args s.hp) with
          | ⟨true, d, _⟩ => LCon.back C c μ k d .normal s
          | ⟨false, _, some t⟩ => Out.part t (facts C.bd t dec) (fun d => LCon.back C c μ k d .normal s) (fun d => LCon.back C c μ k d .normal s)
          | ⟨false, _, none⟩ => .bad (.num 203)
      | none => .bad (.num 204)
    | e =>
      match exitSame e c.e with
      | true =>
        match slotsOf s.tm c.sl' with
        | some vs => .leaf .ret ⟨T.nil.set 0 (.tuple vs), s.hp, s.nx⟩
        | none => .bad (.num 205)
      | false => .bad (.num 206)
/-- A state, its expressions in few words. -/
def ASt.nrmS (bd : Bd) (dec : Dec) (s : ASt) : ASt := ⟨s.tm.mapV (AVal.nrmA bd dec), s.hp.mapV (putO bd dec IE.var id), s.nx⟩
theorem ASt.nrmS_cov {ρ : Env} {bd : Bd} {dec : Dec} (hρ : ρ.ok bd) (hd : dec.holds ρ) (s : ASt) : SCov ρ s (s.nrmS bd dec) := by
  refine ⟨fun k v hv => ?_, fun i o ho => ?_, Nat.le_refl _⟩
  · have hv : (s.tm.mapV (AVal.nrmA bd dec)).get k = some v := hv
    rw [T.get_mapV] at hv
    cases hu : s.tm.get k with
    | none => rw [hu] at hv; cases hv
    | some u =>
      rw [hu] at hv
      cases hv
      exact ⟨u, rfl, fun f x h => AVal.nrmA_ok hρ hd h⟩
  · have ho : (s.hp.mapV (putO bd dec IE.var id)).get i = some o := ho
    rw [T.get_mapV] at ho
    cases hu : s.hp.get i with
    | none => rw [hu] at ho; cases ho
    | some u =>
      rw [hu] at ho
      cases ho
      refine ⟨u, rfl, putO_own u, fun w L c => by cases u <;> exact Iff.rfl, fun f B w L h => ?_⟩
      have hr : ORel (ρ.rep IE.var) f B w L u := by rw [rep_var]; exact h
      have hle : f.le (f.via (fun _ => true) id) := fun j M hj => hj
      exact (putO_ok (σ := IE.var) (π := id) (d := fun _ => true) hρ hd hle (B' := B) (fun ho => own_foot hr ho) hr).1
def LCon.tree (c : LCon) (P : Program) (K : Know) (L : Nat) (pol : FuncId → Nat → Bool) (pure : FuncId → Bool) (d : Nat) (facts : Dec) (μ : IE) : Out :=
  match loopBody (ctxOf P (bdL c.con.bds)) c.con.g c.key with
  | some b =>
    (oCode (ctxOf P (bdL c.con.bds)) (callOf (smKnow (ctxOf P (bdL c.con.bds)) K) pure (oTree (ctxOf P (bdL c.con.bds)) (smKnow (ctxOf P (bdL c.con.bds)) K) L pol pure d)) (smKnow (ctxOf P (bdL c.con.bds)) K).call (pureTree pure (oTree (ctxOf P (bdL c.con.bds)) (smKnow (ctxOf P (bdL c.con.bds)) K) L pol pure d))
      (askOf (ctxOf P (bdL c.con.bds)) (smKnow (ctxOf P (bdL c.con.bds)) K) pure (oTree (ctxOf P (bdL c.con.bds)) (smKnow (ctxOf P (bdL c.con.bds)) K) L pol pure d)) (askOne (ctxOf P (bdL c.con.bds)) (smKnow (ctxOf P (bdL c.con.bds)) K)) ((smKnow (ctxOf P (bdL c.con.bds)) K).lps c.con.g) c.n L (pol c.con.g) b (facts ++ c.con.pre)
      (ASt.nrmS (bdL c.con.bds) (facts ++ c.con.pre) ⟨tmOf c.sl c.con.args .nil, treeOf c.con.os 0 .nil, c.con.os.length⟩)).bind (facts ++ c.con.pre) (c.back (ctxOf P (bdL c.con.bds)) μ 8)
  | none => .bad (.num 207)
theorem LCon.back_ok {C : Ctx} {P : Program} {ρ : Env} (hC : C.Ok P ρ) {G : Nat → Int → Int → Int → Int} {GH : Nat → Ghost} (hρ : ρ.std G GH) {c : LCon} (hwf : c.con.wf = true) {μ : IE} {b : Code} {B : Nat → Prop} {W : World} {m : Nat}
    (ih : ∀ ρ' : Env, ρ'.std G GH → ρ'.ok (bdL c.con.bds) → c.con.pre.holds ρ' → (μ.ev ρ').toNat < (μ.ev ρ).toNat → c.con.OkAt (roundsR P b c m) ρ') : ∀ (k : Nat) (dec : Dec), Dec.holds ρ dec → ∀ (e1 : AExit) (s1 : ASt) (e : AExit) (s : ASt), (c.back C μ k dec e1 s1).pick ρ = some (e, s) →
      s1.nx ≤ s.nx ∧ ∀ N f1 a1 w1 (Q0 : Exit → Act → World → Prop), s.nx ≤ N → StRel ρ B W c.n N f1 s1 a1 w1 →
        (∀ (v : Value) (a' : Act) (w' : World), (∃ f', f1.le f' ∧ Outside f1 f' s1.nx s.nx ∧ HRel ρ B W f' s.hp w' ∧ ∀ u, s.tm.get 0 = some u → VRel ρ f' u v) → a'.tmps.size = c.n → a'.defers = [] → (∃ l : Array Value, v = .tuple l ∧ l.size = c.sl'.length ∧ ∀ (i s : Nat), c.sl'[i]? = some s → l[i]? = some (a'.tmps.getD s Go.undef)) → Q0 c.e.to a' w') →
        Exit.then (Code.rounds P b Q0 m) Q0 e1.to a1 w1 := by
  intro k
  induction k with
  | zero => intro dec _ e1 s1 e s h; cases h
  | succ k ihk =>
    intro dec hd e1 s1 e s h
    unfold LCon.back at h
    split at h
    · -- once more
      split at h
      · rename_i args hargs
        split at h
        · rename_i sg pb hfit
          split at h
          · rename_i m1 m2
            split at h
            rename_i v hp' nx' hthen
            cases h
            obtain ⟨h1, h2, h3⟩ := Con.fit_ok (hC.with hd) hwf hfit
            have hnx : nx' = s1.nx + (c.con.os'.length - c.con.os.length) := (congrArg (·.2.2) hthen).symm
            subst hnx
            refine ⟨Nat.le_add_right _ _, fun N f1 a1 w1 Q0 hN hr hQ => ?_⟩
            have q1 := proveR_ok hC.bd 6 dec _ _ hd m1
            have q2 := proveR_ok hC.bd 6 dec _ _ hd m2
            have q1 : (μ.rep (sigOf sg)).ev ρ < μ.ev ρ := of_decide_eq_true q1
            have q2 : ¬ (μ.rep (sigOf sg)).ev ρ < 0 := of_decide_eq_false q2
            rw [IE.rep_ev] at q1 q2
            have hat := ih (ρ.rep (sigOf sg)) ⟨hρ.1, hρ.2⟩ h1 h2 (by omega)
            refine h3 _ (roundsR_mono P b c m) hat B W f1 w1 (c.sl.map fun k => a1.tmps.getD k Go.undef).toArray hr.heap (hr.tm.args hargs) (hr.fresh.sub (Nat.le_refl _) hN) a1 hr.size hr.defers (fun i s x hs hx => act_args hs hx) Q0 fun v' a' w' ⟨f', k1, k2, k3, k4⟩ k5 k6 k7 => ?_
            rw [hthen] at k3 k4
            refine hQ v' a' w' ⟨f', k1, k2, k3, fun u hu => ?_⟩ k5 k6 k7
            have hu : (T.nil.set 0 v).get 0 = some u := hu
            rcases T.get_set hu with ⟨_, rfl⟩ | ⟨h0, _⟩
            · exact k4
            · exact absurd rfl h0
          · cases h
        · have hl := learn_ok hC.bd hd (c.con.ask (C.with dec) args s1.hp)
          split at h
          · rename_i d q hq
            rw [hq] at hl
            exact ihk d hl .normal s1 e s h
          · rename_i t _
            obtain ⟨d, h1, h2⟩ := Out.part_pick (facts_ok hC.bd t hd) t (fun d => LCon.back C c μ k d .normal s1) (fun d => LCon.back C c μ k d .normal s1)
            rw [h2] at h
            cases ht : t.ev ρ
            · rw [ht] at h; exact ihk d h1 .normal s1 e s h
            · rw [ht] at h; exact ihk d h1 .normal s1 e s h
          · cases h
      · cases h
    · -- the end
      rename_i hne
      split at h
      · rename_i hex
        have hex := exitSame_eq hex
        split at h
        · rename_i vs hvs
          cases h
          refine ⟨Nat.le_refl _, fun N f1 a1 w1 Q0 hN hr hQ => ?_⟩
          have hq : Q0 e1.to a1 w1 := by
            rw [hex]
            refine hQ (.tuple (c.sl'.map fun k => a1.tmps.getD k Go.undef).toArray) a1 w1 ⟨f1, Ren.le_refl _, fun _ _ => rfl, hr.heap, fun u hu => ?_⟩ hr.size hr.defers ⟨_, rfl, by simp, fun i s hs => by simp [hs]⟩
            have hu : (T.nil.set 0 (AVal.tuple vs)).get 0 = some u := hu
            rcases T.get_set hu with ⟨_, rfl⟩ | ⟨h0, _⟩
            · have := hr.tm.args hvs
              exact .tuple this.1 this.2
            · exact absurd rfl h0
          cases e1 with
          | normal => exact absurd rfl hne
          | exit i => exact hq
          | ret => exact hq
        · cases h
      · cases h
theorem LCon.tree_goes {P : Program} (mixed : P.follows .mixedOrders = true) {G : Nat → Int → Int → Int → Int} {GH : Nat → Ghost} {K : Know} (hK : K.Ok P G GH) {c : LCon} (hwf : c.con.wf = true) (hsl : c.sl.length = c.con.args.length) {L : Nat} {pol : FuncId → Nat → Bool} {pure : FuncId → Bool} {d : Nat} {facts : Dec} {μ : IE} {ρ : Env} (h1 : ρ.std G GH) (h2 : ρ.ok (bdL c.con.bds)) (h3 : c.con.pre.holds ρ) (hf : facts.holds ρ)
    {fn : Func} {cd b : Code} (hfn : P.funcs[c.con.g]? = some fn) (hb : fn.body = some cd) (hm : b ∈ loopsOf cd) (hk : Code.key b = c.key) {m : Nat} (ih : ∀ ρ' : Env, ρ'.std G GH → ρ'.ok (bdL c.con.bds) → c.con.pre.holds ρ' → (μ.ev ρ').toNat < (μ.ev ρ).toNat → c.con.OkAt (roundsR P b c m) ρ')
    {e : AExit} {s : ASt} (hs : (c.tree P K L pol pure d facts μ).pick ρ = some (e, s)) : ∀ B W, RGoes (roundsR P b c (m + 1)) ρ B W c.con.args (treeOf c.con.os 0 .nil) c.con.os.length s := by
  intro B W
  have hC : (ctxOf P (bdL c.con.bds)).Ok P ρ := ctxOf_ok mixed h2
  have hd : Dec.holds ρ (facts ++ c.con.pre) := fun p hp => by
    rcases List.mem_append.1 hp with hp | hp
    · exact hf p hp
    · exact h3 p hp
  unfold LCon.tree at hs
  split at hs
  · rename_i b' hb'
    have e0 : b' = b := by
      unfold loopBody at hb'
      split at hb'
      · rename_i fn' hfn'
        have := hC.fn _ _ hfn'
        rw [hfn] at this
        cases this
        rw [hb] at hb'
        simp only at hb'
        split at hb'
        · rename_i b1 hl
          cases hb'
          have : b ∈ (loopsOf cd).filter fun b => Nat.beq (Code.key b) c.key := List.mem_filter.2 ⟨hm, by rw [hk]; exact Nat.beq_refl _⟩
          rw [hl] at this
          exact (List.mem_singleton.1 this).symm
        · cases hb'
      · cases hb'
    subst e0
    obtain ⟨e1, s1, d1, hd1, p1, p2⟩ := Out.bind_pick hd hs
    have hsm := smKnow_ok hC h1 hK
    have htr := oTree_ok hC hsm L pol pure d
    have q := (oCode_ok (B := B) (W := W) (n := c.n) (ask := askOf (ctxOf P (bdL c.con.bds)) (smKnow (ctxOf P (bdL c.con.bds)) K) pure (oTree (ctxOf P (bdL c.con.bds)) (smKnow (ctxOf P (bdL c.con.bds)) K) L pol pure d)) (asko := askOne (ctxOf P (bdL c.con.bds)) (smKnow (ctxOf P (bdL c.con.bds)) K)) hC (callOf_ok hsm htr) (fun dec hd => hsm.call dec hd B W) (pureTree_ok htr) L (pol c.con.g) b' (fun x hx => hsm.lps _ fn cd hfn hb B W c.n x (loops_in hm hx)) (facts ++ c.con.pre) hd _ _ _ p1).1
    obtain ⟨r1, r2⟩ := LCon.back_ok (B := B) (W := W) hC h1 hwf ih 8 d1 hd1 e1 s1 e s p2
    refine ⟨Nat.le_trans q.1 r1, fun f w args' hr ha hfr a k1 k2 k3 Q0 hQ => ?_⟩
    refine q.2 s.nx f a w _ r1 ((ASt.nrmS_cov h2 hd ⟨tmOf c.sl c.con.args .nil, treeOf c.con.os 0 .nil, c.con.os.length⟩).st ⟨k1, fun dd v hv => ?_, k2, hr, hfr⟩) fun f1 a1 w1 l1 o1 r => ?_
    · rcases tmOf_get hv with ⟨i, i1, i2⟩ | h
      · obtain ⟨x, x1, x2⟩ := LRel.get ha i2
        rw [k3 i dd x i1 x1]
        exact x2
      · rw [T.get_nil] at h; cases h
    · refine r2 s.nx f1 a1 w1 Q0 (Nat.le_refl _) r fun v a' w' ⟨f', y1, y2, y3, y4⟩ y5 y6 y7 => hQ v a' w' ⟨f', Ren.le_trans l1 y1, o1.trans y2 q.1 r1, y3, y4⟩ y5 y6 y7
  · cases hs
where
  loops_in : ∀ {cd b x : Code}, b ∈ loopsOf cd → x ∈ loopsOf b → x ∈ loopsOf cd := by
    intro cd
    induction cd with
    | seq a b iha ihb =>
      intro b' x h1 h2
      rcases List.mem_append.1 h1 with h | h
      · exact List.mem_append.2 (.inl (iha h h2))
      · exact List.mem_append.2 (.inr (ihb h h2))
    | cond c a b iha ihb =>
      intro b' x h1 h2
      rcases List.mem_append.1 h1 with h | h
      · exact List.mem_append.2 (.inl (iha h h2))
      · exact List.mem_append.2 (.inr (ihb h h2))
    | block id c ih => intro b' x h1 h2; exact ih h1 h2
    | scope c ih => intro b' x h1 h2; exact ih h1 h2
    | loop c ih =>
      intro b' x h1 h2
      rcases List.mem_cons.1 h1 with rfl | h
      · exact List.mem_cons_of_mem _ h2
      · exact List.mem_cons_of_mem _ (ih h h2)
    | _ => intro b' x h1; cases h1
/-- Each outcome of a tree ends as the contract says. -/
def Con.Leaves (c : Con) (G : Nat → Int → Int → Int → Int) (GH : Nat → Ghost) (o : Out) : Prop :=
  ∀ ρ : Env, ρ.std G GH → ρ.ok (bdL c.bds) → c.pre.holds ρ → ∃ e s at' q, o.pick ρ = some (e, s) ∧ c.ends at' s = some q ∧ q.hold ρ
theorem LCon.ok_of {P : Program} (mixed : P.follows .mixedOrders = true) {G : Nat → Int → Int → Int → Int} {GH : Nat → Ghost} {K : Know} (hK : K.Ok P G GH) {c : LCon} (hwf : c.con.wf = true) (hsl : c.sl.length = c.con.args.length) {L : Nat} {pol : FuncId → Nat → Bool} {pure : FuncId → Bool} {d : Nat} {facts : Dec} {μ : IE}
    (hf : ∀ ρ : Env, ρ.std G GH → ρ.ok (bdL c.con.bds) → c.con.pre.holds ρ → facts.holds ρ) (h : c.con.Leaves G GH (c.tree P K L pol pure d facts μ)) : c.Ok P G GH := by
  intro fn cd b hfn hb hm hk
  have key : ∀ m, ∀ ρ : Env, ρ.std G GH → ρ.ok (bdL c.con.bds) → c.con.pre.holds ρ → (μ.ev ρ).toNat < m → c.con.OkAt (roundsR P b c m) ρ := by
    intro m
    induction m with
    | zero => intro ρ _ _ _ h; omega
    | succ m ih =>
      intro ρ h1 h2 h3 hlt
      obtain ⟨e, s, at', q, p1, p2, p3⟩ := h ρ h1 h2 h3
      exact Con.at_ends (roundsR_mono P b c (m + 1)) (LCon.tree_goes mixed hK hwf hsl h1 h2 h3 (hf ρ h1 h2 h3) hfn hb hm hk (fun ρ' k1 k2 k3 k4 => ih ρ' k1 k2 k3 (by omega)) p1) p2 p3
  intro ρ h1 h2 h3
  exact ⟨_, key _ ρ h1 h2 h3 (Nat.lt_succ_self _)⟩
/-- The same, case by case. -/
theorem LCon.ok_sel {P : Program} (mixed : P.follows .mixedOrders = true) {G : Nat → Int → Int → Int → Int} {GH : Nat → Ghost} {K : Know} (hK : K.Ok P G GH) {c : LCon} (hwf : c.con.wf = true) (hsl : c.sl.length = c.con.args.length) {L : Nat} {pol : FuncId → Nat → Bool} {pure : FuncId → Bool} {d : Nat} {sel : Env → Dec} {μ : IE} {o : Out}
    (hf : ∀ ρ : Env, ρ.std G GH → ρ.ok (bdL c.con.bds) → c.con.pre.holds ρ → (sel ρ).holds ρ ∧ o.pick ρ = (c.tree P K L pol pure d (sel ρ) μ).pick ρ) (h : c.con.Leaves G GH o) : c.Ok P G GH := by
  intro fn cd b hfn hb hm hk
  have key : ∀ m, ∀ ρ : Env, ρ.std G GH → ρ.ok (bdL c.con.bds) → c.con.pre.holds ρ → (μ.ev ρ).toNat < m → c.con.OkAt (roundsR P b c m) ρ := by
    intro m
    induction m with
    | zero => intro ρ _ _ _ h; omega
    | succ m ih =>
      intro ρ h1 h2 h3 hlt
      obtain ⟨e, s, at', q, p1, p2, p3⟩ := h ρ h1 h2 h3
      obtain ⟨f1, f2⟩ := hf ρ h1 h2 h3
      rw [f2] at p1
      exact Con.at_ends (roundsR_mono P b c (m + 1)) (LCon.tree_goes mixed hK hwf hsl h1 h2 h3 f1 hfn hb hm hk (fun ρ' k1 k2 k3 k4 => ih ρ' k1 k2 k3 (by omega)) p1) p2 p3
  intro ρ h1 h2 h3
  exact ⟨_, key _ ρ h1 h2 h3 (Nat.lt_succ_self _)⟩
end
end Go.Sx
