/- A region that draws its order: what the pass reckons. No condition. -/
import Derived.Test.YtpoianhfjgjajaaGreatSx18
import Derived.Orders
set_option linter.unusedSimpArgs false
set_option linter.unusedVariables false
namespace Go.Sx
open Go.RowKit (Below)
noncomputable section

/-! guards -/
def aYieldV (C : Ctx) (want : Bool) : Option AVal → Option Bool
  | some (.bool t) =>
    match settle C.dec t with
    | some b => some (b == want)
    | none => none
  | some (.tuple []) => some false
  | _ => none
def aWantE (C : Ctx) (ev : Operand → Option AVal) (all : List Oper) (g : Option (Nat × Bool)) : Option Bool :=
  match g with
  | none => some true
  | some (j, want) =>
    match slotAt all j with
    | none => none
    | some d => aYieldV C want (ev (.tmp d))
theorem aWantE_ok {C : Ctx} {P : Program} {ρ : Env} (hC : C.Ok P ρ) {f : Ren} {ev : Operand → Option AVal} {a : Act} (ht : EvRel ρ f ev a.eval) {ops : Array Oper} {o : Oper} {b : Bool} (h : aWantE C ev ops.toList o.guard = some b) : Region.wanted o (yielded ops a.tmps) = b := by
  unfold aWantE at h
  unfold Region.wanted
  split at h
  · rename_i hg
    cases h
    simp [hg]
  · rename_i j want hg
    simp only [hg]
    rw [slotAt_eq] at h
    have e : ops.toList[j]? = ops[j]? := by simp
    rw [e] at h
    unfold yielded
    split at h
    · cases h
    · rename_i d hd
      rw [hd]
      unfold aYieldV at h
      split at h
      · rename_i t htm
        split at h
        · rename_i b' hs
          cases h
          have hv := ht _ _ htm
          have hx0 : a.eval (.tmp d) = a.tmps.getD d Go.undef := rfl
          rw [hx0] at hv
          generalize hx : a.tmps.getD d Go.undef = x at hv
          have hb := settle_ok hC.dec t _ hs
          cases hv
          rw [hb] at hx
          have : a.tmps[d]? = some (.bool b') := by
            rw [Array.getD_eq_getD_getElem?] at hx
            cases hq : a.tmps[d]? with
            | none => rw [hq] at hx; simp [undef_eq] at hx
            | some y => rw [hq] at hx; simp at hx; rw [hx]
          simp [this]
        · cases h
      · rename_i htm
        cases h
        have hv := ht _ _ htm
        have hx0 : a.eval (.tmp d) = a.tmps.getD d Go.undef := rfl
        rw [hx0] at hv
        generalize hx : a.tmps.getD d Go.undef = x at hv
        cases hv
        rename_i a' h1 h2
        rw [Array.getD_eq_getD_getElem?] at hx
        cases hq : a.tmps[d]? with
        | none => simp [hq]
        | some y => rw [hq] at hx; simp at hx; subst hx; simp [hq]
      · cases h

/-! what acts -/
def isEff : Op → Bool
  | .store .. | .mapUpdate .. | .insert .. | .entryStore .. => true
  | .call c =>
    match c.callee with
    | .builtin .len | .builtin .cap | .builtin .min | .builtin .max => false
    | _ => true
  | _ => false
def effs : List Oper → Nat → List Nat
  | [], _ => []
  | o :: l, i =>
    match isEff o.op with
    | true => i :: effs l (i + 1)
    | false => effs l (i + 1)
theorem effs_mem : ∀ (l : List Oper) (k i : Nat) (o : Oper), l[i]? = some o → isEff o.op = true → k + i ∈ effs l k := by
  intro l
  induction l with
  | nil => intro k i o h; simp at h
  | cons x l ih =>
    intro k i o h he
    cases i with
    | zero =>
      simp at h
      subst h
      simp [effs, he]
    | succ i =>
      have := ih (k + 1) i o (by simpa using h) he
      have e : k + 1 + i = k + (i + 1) := by omega
      rw [e] at this
      unfold effs
      split
      · exact List.mem_cons_of_mem _ this
      · exact this

/-! who must come before -/
inductive Dom (ops : Array Oper) : Nat → Nat → Prop where
  | one {i : Nat} {o : Oper} {e : Edge} (h : ops[i]? = some o) (he : e ∈ o.after) (hb : Region.binds .any e = true) : Dom ops i e.on
  | trans {i : Nat} {o : Oper} {e : Edge} {b : Nat} (h : ops[i]? = some o) (he : e ∈ o.after) (hb : Region.binds .any e = true) (hd : Dom ops e.on b) : Dom ops i b
def mk (ms : T Nat) (i : Nat) : Nat :=
  match ms.get i with
  | some m => m
  | none => 0
def edgeMask (ms : T Nat) : List Edge → Nat
  | [] => 0
  | e :: l =>
    match Region.binds .any e with
    | true => (1 <<< e.on ||| mk ms e.on) ||| edgeMask ms l
    | false => edgeMask ms l
def edgesBelow (i : Nat) : List Edge → Bool
  | [] => true
  | e :: l =>
    match Region.binds .any e with
    | true => Nat.blt e.on i && edgesBelow i l
    | false => edgesBelow i l
def masks : List Oper → Nat → T Nat → Option (T Nat)
  | [], _, ms => some ms
  | o :: l, i, ms =>
    match edgesBelow i o.after.toList with
    | true => masks l (i + 1) (ms.set i (edgeMask ms o.after.toList))
    | false => none
theorem edgesBelow_ok {i : Nat} : ∀ {l : List Edge}, edgesBelow i l = true → ∀ e ∈ l, Region.binds .any e = true → e.on < i := by
  intro l
  induction l with
  | nil => intro _ e he; cases he
  | cons x l ih =>
    intro h e he hb
    unfold edgesBelow at h
    split at h
    · obtain ⟨h1, h2⟩ := and_split h
      rcases List.mem_cons.1 he with rfl | he
      · simpa [Nat.blt_eq] using h1
      · exact ih h2 e he hb
    · rename_i hx
      rcases List.mem_cons.1 he with rfl | he
      · rw [hb] at hx; cases hx
      · exact ih h e he hb
theorem edgeMask_ok {ms : T Nat} : ∀ {l : List Edge} {b : Nat}, Nat.testBit (edgeMask ms l) b = true → ∃ e ∈ l, Region.binds .any e = true ∧ (e.on = b ∨ Nat.testBit (mk ms e.on) b = true) := by
  intro l
  induction l with
  | nil => intro b h; simp [edgeMask] at h
  | cons x l ih =>
    intro b h
    unfold edgeMask at h
    split at h
    · rename_i hb
      rw [Nat.testBit_or, Nat.testBit_or, Bool.or_eq_true, Bool.or_eq_true] at h
      rcases h with (h | h) | h
      · refine ⟨x, List.mem_cons_self .., hb, .inl ?_⟩
        rw [Nat.testBit_shiftLeft] at h
        simp at h
        obtain ⟨h1, h2⟩ := h
        have : b - x.on = 0 := by
          rcases Nat.eq_zero_or_pos (b - x.on) with h0 | h0
          · exact h0
          · exfalso
            rw [Nat.testBit_one_eq_true_iff_self_eq_zero] at h2
            omega
        omega
      · exact ⟨x, List.mem_cons_self .., hb, .inr h⟩
      · obtain ⟨e, he, q⟩ := ih h
        exact ⟨e, List.mem_cons_of_mem _ he, q⟩
    · obtain ⟨e, he, q⟩ := ih h
      exact ⟨e, List.mem_cons_of_mem _ he, q⟩
def MaskOk (ops : Array Oper) (ms : T Nat) : Prop := ∀ i m, ms.get i = some m → ∀ b, Nat.testBit m b = true → Dom ops i b
theorem MaskOk.mk {ops : Array Oper} {ms : T Nat} (h : MaskOk ops ms) {i b : Nat} (hb : Nat.testBit (Sx.mk ms i) b = true) : Dom ops i b := by
  unfold Sx.mk at hb
  split at hb
  · rename_i m hm
    exact h i m hm b hb
  · simp at hb
theorem masks_ok {ops : Array Oper} : ∀ (l : List Oper) (k : Nat) (ms ms' : T Nat), ops.toList.drop k = l → masks l k ms = some ms' → MaskOk ops ms →
    MaskOk ops ms' ∧ ∀ i o, k ≤ i → ops[i]? = some o → ∀ e ∈ o.after, Region.binds .any e = true → e.on < i := by
  intro l
  induction l with
  | nil =>
    intro k ms ms' hk h hm
    cases h
    refine ⟨hm, fun i o hi ho => ?_⟩
    have h1 : ops.size ≤ k := by simpa using hk
    have h2 := (Array.getElem?_eq_some_iff.1 ho).1
    omega
  | cons x l ih =>
    intro k ms ms' hk h hm
    unfold masks at h
    split at h
    · rename_i hb
      have hx : ops[k]? = some x := by
        have : (ops.toList.drop k)[0]? = some x := by rw [hk]; rfl
        simpa using this
      have hk' : ops.toList.drop (k + 1) = l := by
        rw [← List.drop_drop, hk]
        rfl
      have hm' : MaskOk ops (ms.set k (edgeMask ms x.after.toList)) := by
        intro i m hi b hbit
        rcases T.get_set hi with ⟨rfl, rfl⟩ | ⟨_, hi⟩
        · obtain ⟨e, he, hb1, hb2⟩ := edgeMask_ok hbit
          have he' : e ∈ x.after := Array.mem_toList_iff.1 he
          rcases hb2 with rfl | hb2
          · exact .one hx he' hb1
          · exact .trans hx he' hb1 (hm.mk hb2)
        · exact hm i m hi b hbit
      obtain ⟨q1, q2⟩ := ih (k + 1) _ _ hk' h hm'
      refine ⟨q1, fun i o hi ho => ?_⟩
      rcases Nat.lt_or_ge k i with hlt | hge
      · exact q2 i o hlt ho
      · have : i = k := by omega
        subst this
        rw [hx] at ho
        cases ho
        exact fun e he hb' => edgesBelow_ok hb e (Array.mem_toList_iff.2 he) hb'
    · cases h

/-! whose slot -/
def owners : List Oper → Nat → T Nat → T Nat
  | [], _, t => t
  | o :: l, i, t =>
    match o.dst with
    | none => owners l (i + 1) t
    | some d => owners l (i + 1) (t.set d i)
def ownOk (own : T Nat) : List Oper → Nat → Bool
  | [], _ => true
  | o :: l, i =>
    match o.dst with
    | none => ownOk own l (i + 1)
    | some d =>
      match own.get d with
      | some j =>
        match Nat.beq j i with
        | true => ownOk own l (i + 1)
        | false => false
      | none => false
theorem owners_ok {ops : Array Oper} : ∀ (l : List Oper) (k : Nat) (t : T Nat), ops.toList.drop k = l → (∀ d m, t.get d = some m → ∃ o, ops[m]? = some o ∧ o.dst = some d) → ∀ d m, (owners l k t).get d = some m → ∃ o, ops[m]? = some o ∧ o.dst = some d := by
  intro l
  induction l with
  | nil => intro k t hk h; exact h
  | cons x l ih =>
    intro k t hk h
    have hx : ops[k]? = some x := by
      have : (ops.toList.drop k)[0]? = some x := by rw [hk]; rfl
      simpa using this
    have hk' : ops.toList.drop (k + 1) = l := by
      rw [← List.drop_drop, hk]
      rfl
    unfold owners
    split
    · exact ih (k + 1) t hk' h
    · rename_i d hd
      refine ih (k + 1) _ hk' fun d' m hm => ?_
      rcases T.get_set hm with ⟨rfl, rfl⟩ | ⟨_, hm⟩
      · exact ⟨x, hx, hd⟩
      · exact h d' m hm
theorem ownOk_ok {ops : Array Oper} {own : T Nat} : ∀ (l : List Oper) (k : Nat), ops.toList.drop k = l → ownOk own l k = true → ∀ i o d, k ≤ i → ops[i]? = some o → o.dst = some d → own.get d = some i := by
  intro l
  induction l with
  | nil =>
    intro k hk h i o d hi ho
    have h1 : ops.size ≤ k := by simpa using hk
    have h2 := (Array.getElem?_eq_some_iff.1 ho).1
    omega
  | cons x l ih =>
    intro k hk h i o d hi ho hd
    have hx : ops[k]? = some x := by
      have : (ops.toList.drop k)[0]? = some x := by rw [hk]; rfl
      simpa using this
    have hk' : ops.toList.drop (k + 1) = l := by
      rw [← List.drop_drop, hk]
      rfl
    rcases Nat.lt_or_ge k i with hlt | hge
    · unfold ownOk at h
      split at h
      · exact ih (k + 1) hk' h i o d hlt ho hd
      · split at h
        · split at h
          · exact ih (k + 1) hk' h i o d hlt ho hd
          · cases h
        · cases h
    · have : i = k := by omega
      subst this
      rw [hx] at ho
      cases ho
      unfold ownOk at h
      split at h
      · rename_i h0; rw [hd] at h0; cases h0
      · rename_i d' h0
        rw [hd] at h0
        cases h0
        split at h
        · rename_i j hj
          split at h
          · rename_i hji
            rw [hj, Nat.eq_of_beq_eq_true hji]
          · cases h
        · cases h

/-! what an operation of the region sees -/
def envAt (ms own : T Nat) (tm0 vt : T AVal) (i : Nat) : Operand → Option AVal
  | .tmp d =>
    match own.get d with
    | none => tm0.get d
    | some m =>
      match Nat.testBit (mk ms i) m with
      | true => vt.get m
      | false =>
        match Nat.testBit (mk ms m) i with
        | true => tm0.get d
        | false => none
  | .const v => absV v
  | .func g => some (.func (.func g) [] [])
  | .global _ => none
def SubT (a b : T AVal) : Prop := ∀ i v, a.get i = some v → b.get i = some v
theorem envAt_sub {ms own : T Nat} {tm0 vt vt' : T AVal} (h : SubT vt vt') {i : Nat} {x : Operand} {v : AVal} (hv : envAt ms own tm0 vt i x = some v) : envAt ms own tm0 vt' i x = some v := by
  cases x with
  | tmp d =>
    simp only [envAt] at hv ⊢
    cases ho : own.get d with
    | none => simp only [ho] at hv ⊢; exact hv
    | some m =>
      simp only [ho] at hv ⊢
      cases hb : Nat.testBit (mk ms i) m with
      | true => simp only [hb] at hv ⊢; exact h _ _ hv
      | false => simp only [hb] at hv ⊢; exact hv
  | const c => exact hv
  | func g => exact hv
  | global g => exact hv

/-! one operation -/
def aFlo (C : Ctx) (h : T AObj) (id : Nat) (ev : Operand → Option AVal) (all : List Oper) (o : Oper) : Option (AVal × Option AObj) :=
  match aWantE C ev all o.guard with
  | none => none
  | some false => some (.tuple [], none)
  | some true =>
    match aRead C h ev o.op with
    | some v => some (v, none)
    | none =>
      match aNew C ev id o.op with
      | some (ob, v) => some (v, some ob)
      | none =>
        match o.op with
        | .build t parts =>
          match aBuild C ev t parts.toList with
          | some v => some (v, none)
          | none => none
        | _ => none
theorem aFlo_ok {C : Ctx} {P : Program} {ρ : Env} (hC : C.Ok P ρ) {B : Nat → Prop} {W w : World} {f : Ren} {h : T AObj} (hr : HRel ρ B W f h w) {ev : Operand → Option AVal} {a : Act} (he : EvRel ρ f ev a.eval) {ops : Array Oper} {i id : Nat} {o : Oper} (ho : ops[i]? = some o) {v : AVal} {ob : Option AObj}
    (hv : aFlo C h id ev ops.toList o = some (v, ob)) (hid : f id = none) {K : Act → World → Prop} {Q : Exit → Act → World → Prop}
    (h1 : ob = none → ∀ v', VRel ρ f v v' → K (a.put o.dst v') w)
    (h2 : ∀ x, ob = some x → ∀ w' L O v', w'.heap = w.heap.push O → (w'.os = w.os ∧ w'.tape = w.tape ∧ w'.output = w.output) → L.blk = w.heap.size → ORel ρ (f.put id L) B w' L x → VRel ρ (f.put id L) v v' → (∀ b, x.foot ρ w' L b → b = L.blk) → K (a.put o.dst v') w') : wpOp P ops Q i K a w := by
  unfold wpOp
  simp only [ho]
  unfold aFlo at hv
  split at hv
  · cases hv
  · rename_i hw
    cases hv
    rw [aWantE_ok hC he hw]
    simp only [Bool.false_eq_true, if_false]
    exact h1 rfl _ VRel.undef
  · rename_i hw
    rw [aWantE_ok hC he hw]
    simp only [if_true]
    refine .inl ?_
    unfold Oper.wp
    split at hv
    · rename_i u hrd
      cases hv
      obtain ⟨v', q1, q2⟩ := aRead_ok (P := P) hC hr he hrd
      rw [q1]
      exact h1 rfl _ q2
    · split at hv
      · rename_i x u hnw
        cases hv
        obtain ⟨w', L, O, v', q1, q2, q3, q4, q5, q6, q7⟩ := (aNew_ok (P := P) (w := w) hC (hr.fresh (Nat.le_refl _)) he hid hnw).step
        rw [q1]
        exact h2 x rfl w' L O v' q2 q3 q4 q5 q6 q7
      · split at hv
        · rename_i t parts hop
          split at hv
          · rename_i u hb
            cases hv
            obtain ⟨v', q1, q2⟩ := aBuild_ok (P := P) hC he hb w
            have hs : (execOp a.eval o).run P w = .ok (.value v') w := by
              unfold execOp
              simp only [hop, Sem.run_bind, q1, Result.andThen_ok, Sem.run_pure]
            rw [hs]
            exact h1 rfl _ q2
          · cases hv
        · cases hv
def aActE (C : Ctx) (call : ACall) (h : T AObj) (nx : Nat) (ev : Operand → Option AVal) (all : List Oper) (o : Oper) : Option (Option AVal × T AObj × Nat) :=
  match aWantE C ev all o.guard with
  | none => none
  | some false => some (none, h, nx)
  | some true => aStep C call h nx ev o.op
theorem aActE_nx {C : Ctx} {P : Program} {ρ : Env} {B : Nat → Prop} {W : World} {call : ACall} (hcall : CallOk P ρ B W call) {h h' : T AObj} {nx nx' : Nat} {ev : Operand → Option AVal} {all : List Oper} {o : Oper} {r : Option AVal} (hv : aActE C call h nx ev all o = some (r, h', nx')) : nx ≤ nx' := by
  unfold aActE at hv
  split at hv
  · cases hv
  · cases hv; exact Nat.le_refl _
  · exact aStep_nx hcall hv
theorem aActE_ok {C : Ctx} {P : Program} {ρ : Env} (hC : C.Ok P ρ) {B : Nat → Prop} {W : World} {call : ACall} (hcall : CallOk P ρ B W call) {w : World} {f : Ren} {h h' : T AObj} (hr : HRel ρ B W f h w) {av : Operand → Option AVal} {nx nx' : Nat} {ops : Array Oper} {i : Nat} {o : Oper} (ho : ops[i]? = some o) {r : Option AVal}
    (hv : aActE C call h nx av ops.toList o = some (r, h', nx')) (hfr : Fresh f nx nx') {a : Act} (he : EvRel ρ f av a.eval) {K : Act → World → Prop} {Q : Exit → Act → World → Prop}
    (hn : ∀ f' w' v', f.le f' → Outside f f' nx nx' → HRel ρ B W f' h' w' → VRel ρ f' (r.getD (.tuple [])) v' → K (a.put o.dst v') w') : wpOp P ops Q i K a w := by
  unfold wpOp
  simp only [ho]
  unfold aActE at hv
  split at hv
  · cases hv
  · rename_i hw
    cases hv
    rw [aWantE_ok hC he hw]
    simp only [Bool.false_eq_true, if_false]
    exact hn f w _ (Ren.le_refl f) (fun _ _ => rfl) hr VRel.undef
  · rename_i hw
    rw [aWantE_ok hC he hw]
    simp only [if_true]
    exact .inl (aStep_ok hC hcall hr hv hfr he hn)
end
end Go.Sx
