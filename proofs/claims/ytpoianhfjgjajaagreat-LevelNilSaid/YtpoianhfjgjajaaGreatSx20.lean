/- A region that draws its order: the pass. No condition. -/
import Derived.Test.YtpoianhfjgjajaaGreatSx19
set_option linter.unusedSimpArgs false
set_option linter.unusedVariables false
namespace Go.Sx
open Go.RowKit (Below)
noncomputable section

def bound : Nat := 4611686018427387000
def notDone (ms : T Nat) (prev : Option Nat) (i : Nat) : Bool :=
  match prev with
  | some p =>
    match Nat.testBit (mk ms p) i with
    | true => false
    | false => true
  | none => true
def mayNow (ms : T Nat) (prev next : Option Nat) (i : Nat) : Bool :=
  match next with
  | some e =>
    match Nat.testBit (mk ms i) e with
    | true => false
    | false => notDone ms prev i
  | none => notDone ms prev i
def newNow (ms : T Nat) (prev : Option Nat) (i : Nat) : Bool :=
  match prev with
  | some p => Nat.testBit (mk ms i) p
  | none => true
/-- The block that an operation would make is there as it would make it, or not at all. -/
def sameObj (h : T AObj) (id : Nat) : Option AObj → Bool
  | none => true
  | some ob =>
    match h.get id with
    | none => true
    | some x => x.same ob
def putObj (h : T AObj) (id : Nat) : Option AObj → Option (T AObj)
  | none => some h
  | some ob =>
    match h.get id with
    | none => some (h.set id ob)
    | some _ => none
def aStage (C : Ctx) (n : Nat) (all : List Oper) (ms own : T Nat) (tm0 : T AVal) (nx0 : Nat) (prev next : Option Nat) : List Oper → Nat → T AVal → T AObj → Option (T AVal × T AObj)
  | [], _, vt, hp => some (vt, hp)
  | o :: l, i, vt, hp =>
    match isEff o.op with
    | true => aStage C n all ms own tm0 nx0 prev next l (i + 1) vt hp
    | false =>
      match mayNow ms prev next i with
      | false => aStage C n all ms own tm0 nx0 prev next l (i + 1) vt hp
      | true =>
        match okDst n o.dst with
        | false => none
        | true =>
          match aFlo C hp (nx0 + i) (envAt ms own tm0 vt i) all o with
          | none => none
          | some (v, ob) =>
            match vt.get i with
            | none =>
              match newNow ms prev i with
              | false => none
              | true =>
                match putObj hp (nx0 + i) ob with
                | some hp' => aStage C n all ms own tm0 nx0 prev next l (i + 1) (vt.set i v) hp'
                | none => none
            | some u =>
              match u.same v with
              | false => none
              | true =>
                match sameObj hp (nx0 + i) ob with
                | true => aStage C n all ms own tm0 nx0 prev next l (i + 1) vt hp
                | false => none

section
variable (C : Ctx) (n : Nat) (ops : Array Oper) (ms own : T Nat) (tm0 : T AVal) (nx0 : Nat)
def Flo (i : Nat) (o : Oper) (G : T AObj) (vtF : T AVal) : Prop :=
  okDst n o.dst = true ∧ ∃ vt0 h0 v ob, SubT vt0 vtF ∧ (∀ j x, h0.get j = some x → G.get j = some x) ∧ aFlo C h0 (nx0 + i) (envAt ms own tm0 vt0 i) ops.toList o = some (v, ob) ∧ vtF.get i = some v ∧ ∀ b, ob = some b → ∀ x, G.get (nx0 + i) = some x → x = b
end
theorem Flo.mono {C : Ctx} {n : Nat} {ops : Array Oper} {ms own : T Nat} {tm0 : T AVal} {nx0 i : Nat} {o : Oper} {G : T AObj} {vt vt' : T AVal} (h : Flo C n ops ms own tm0 nx0 i o G vt) (hs : SubT vt vt') : Flo C n ops ms own tm0 nx0 i o G vt' := by
  obtain ⟨h1, vt0, h0, v, ob, q1, q2, q3, q4, q5⟩ := h
  exact ⟨h1, vt0, h0, v, ob, fun i v e => hs _ _ (q1 i v e), q2, q3, hs _ _ q4, q5⟩
theorem aStage_ok {C : Ctx} {n : Nat} {ops : Array Oper} {ms own : T Nat} {tm0 : T AVal} {nx0 : Nat} (hbd : nx0 + ops.size ≤ bound) {prev next : Option Nat} :
    ∀ (l : List Oper) (k : Nat) (vt : T AVal) (hp : T AObj) (vt' : T AVal) (G : T AObj), ops.toList.drop k = l → aStage C n ops.toList ms own tm0 nx0 prev next l k vt hp = some (vt', G) →
    (∀ j x, hp.get j = some x → G.get j = some x) ∧
    (∀ j x, G.get j = some x → hp.get j = some x ∨ ∃ i, k ≤ i ∧ i < ops.size ∧ j = nx0 + i ∧ newNow ms prev i = true) ∧
    SubT vt vt' ∧
    (∀ i o, k ≤ i → ops[i]? = some o → isEff o.op = false → mayNow ms prev next i = true → Flo C n ops ms own tm0 nx0 i o G vt') := by
  intro l
  induction l with
  | nil =>
    intro k vt hp vt' G hk h
    cases h
    refine ⟨fun _ _ h => h, fun _ _ h => .inl h, fun _ _ h => h, fun i o hi ho => ?_⟩
    have h1 : ops.size ≤ k := by simpa using hk
    have h2 := (Array.getElem?_eq_some_iff.1 ho).1
    omega
  | cons x l ih =>
    intro k vt hp vt' G hk h
    have hx : ops[k]? = some x := by
      have : (ops.toList.drop k)[0]? = some x := by rw [hk]; rfl
      simpa using this
    have hlt : k < ops.size := (Array.getElem?_eq_some_iff.1 hx).1
    have hk' : ops.toList.drop (k + 1) = l := by
      rw [← List.drop_drop, hk]
      rfl
    have skip : ∀ {vt hp}, (isEff x.op = true ∨ mayNow ms prev next k = false) → aStage C n ops.toList ms own tm0 nx0 prev next l (k + 1) vt hp = some (vt', G) → (∀ j x, hp.get j = some x → G.get j = some x) ∧
        (∀ j x, G.get j = some x → hp.get j = some x ∨ ∃ i, k ≤ i ∧ i < ops.size ∧ j = nx0 + i ∧ newNow ms prev i = true) ∧ SubT vt vt' ∧
        (∀ i o, k ≤ i → ops[i]? = some o → isEff o.op = false → mayNow ms prev next i = true → Flo C n ops ms own tm0 nx0 i o G vt') := by
      intro vt hp hsk h
      obtain ⟨q1, q2, q3, q4⟩ := ih (k + 1) vt hp vt' G hk' h
      refine ⟨q1, fun j y hj => (q2 j y hj).imp id fun ⟨i, a, b, c⟩ => ⟨i, by omega, b, c⟩, q3, fun i o hi ho he hm => ?_⟩
      rcases Nat.lt_or_ge k i with hgt | hge
      · exact q4 i o hgt ho he hm
      · have : i = k := by omega
        subst this
        rw [hx] at ho
        cases ho
        rcases hsk with h1 | h1
        · rw [he] at h1; cases h1
        · rw [hm] at h1; cases h1
    unfold aStage at h
    split at h
    · rename_i hE
      exact skip (.inl hE) h
    · split at h
      · rename_i hM
        exact skip (.inr hM) h
      · split at h
        · cases h
        · rename_i hd
          split at h
          · cases h
          · rename_i v ob hf
            split at h
            · rename_i hvt
              split at h
              · cases h
              · rename_i hnew
                split at h
                · rename_i hp' hput
                  obtain ⟨q1, q2, q3, q4⟩ := ih (k + 1) _ _ vt' G hk' h
                  have hsub : SubT vt (vt.set k v) := fun i u hi => by
                    have hne : i ≠ k := fun e => by rw [e, hvt] at hi; cases hi
                    rw [T.get_set_ne (by unfold bound at hbd; omega) hne]
                    exact hi
                  have hsame : (vt.set k v).get k = some v := T.get_set_same (by unfold bound at hbd; omega)
                  have hpp : (∀ j y, hp.get j = some y → hp'.get j = some y) ∧ (∀ j y, hp'.get j = some y → hp.get j = some y ∨ j = nx0 + k) ∧ ∀ b, ob = some b → hp'.get (nx0 + k) = some b := by
                    unfold putObj at hput
                    split at hput
                    · cases hput
                      exact ⟨fun _ _ h => h, fun _ _ h => .inl h, fun b hb => by cases hb⟩
                    · split at hput
                      · rename_i b hno
                        cases hput
                        refine ⟨fun j y hj => ?_, fun j y hj => ?_, fun b' hb' => ?_⟩
                        · have hne : j ≠ nx0 + k := fun e => by rw [e, hno] at hj; cases hj
                          rw [T.get_set_ne (by unfold bound at hbd; omega) hne]
                          exact hj
                        · rcases T.get_set hj with ⟨e, _⟩ | ⟨_, e⟩
                          · exact .inr e
                          · exact .inl e
                        · cases hb'
                          exact T.get_set_same (by unfold bound at hbd; omega)
                      · cases hput
                  refine ⟨fun j y hj => q1 j y (hpp.1 j y hj), fun j y hj => ?_, fun i u hi => q3 i u (hsub i u hi), fun i o hi ho he hm => ?_⟩
                  · rcases q2 j y hj with hj | ⟨i, a, b, c⟩
                    · rcases hpp.2.1 j y hj with hj | rfl
                      · exact .inl hj
                      · exact .inr ⟨k, Nat.le_refl _, hlt, rfl, hnew⟩
                    · exact .inr ⟨i, by omega, b, c⟩
                  · rcases Nat.lt_or_ge k i with hgt | hge
                    · exact q4 i o hgt ho he hm
                    · have : i = k := by omega
                      subst this
                      rw [hx] at ho
                      cases ho
                      refine ⟨hd, vt, hp, v, ob, fun j u hj => q3 j u (hsub j u hj), fun j y hj => q1 j y (hpp.1 j y hj), hf, q3 i v hsame, fun b hb y hy => ?_⟩
                      have := q1 _ _ (hpp.2.2 b hb)
                      rw [this] at hy
                      exact (Option.some.inj hy).symm
                · cases h
            · rename_i u hvt
              split at h
              · cases h
              · rename_i hsm
                split at h
                · rename_i hso
                  obtain ⟨q1, q2, q3, q4⟩ := ih (k + 1) _ _ vt' G hk' h
                  refine ⟨q1, fun j y hj => (q2 j y hj).imp id fun ⟨i, a, b, c⟩ => ⟨i, by omega, b, c⟩, q3, fun i o hi ho he hm => ?_⟩
                  rcases Nat.lt_or_ge k i with hgt | hge
                  · exact q4 i o hgt ho he hm
                  · have : i = k := by omega
                    subst this
                    rw [hx] at ho
                    cases ho
                    refine ⟨hd, vt, hp, v, ob, q3, q1, hf, q3 i v (by rw [hvt, AVal.same_eq hsm]), fun b hb y hy => ?_⟩
                    subst hb
                    rcases q2 _ _ hy with hy' | ⟨i', a, b', c, _⟩
                    · unfold sameObj at hso
                      rw [hy'] at hso
                      exact AObj.same_eq hso
                    · omega
                · cases h

def allBit (ms : T Nat) (e : Nat) : List Nat → Bool
  | [] => true
  | x :: l =>
    match Nat.testBit (mk ms x) e with
    | true => allBit ms e l
    | false => false
theorem allBit_ok {ms : T Nat} {e : Nat} : ∀ {l : List Nat}, allBit ms e l = true → ∀ x ∈ l, Nat.testBit (mk ms x) e = true := by
  intro l
  induction l with
  | nil => intro _ x hx; cases hx
  | cons y l ih =>
    intro h x hx
    unfold allBit at h
    split at h
    · rename_i hy
      rcases List.mem_cons.1 hx with rfl | hx
      · exact hy
      · exact ih h x hx
    · cases h
def nthOp : List Oper → Nat → Option Oper
  | [], _ => none
  | o :: _, 0 => some o
  | _ :: l, n + 1 => nthOp l n
theorem nthOp_eq (l : List Oper) (j : Nat) : nthOp l j = l[j]? := by
  induction l generalizing j with
  | nil => simp [nthOp]
  | cons o l ih => cases j <;> simp [nthOp, ih]
def aPass (C : Ctx) (call : ACall) (n : Nat) (all : List Oper) (ms own : T Nat) (tm0 : T AVal) (nx0 : Nat) : Option Nat → List Nat → T AVal → T AObj → Nat → Option (T AVal × T AObj × Nat)
  | prev, [], vt, hp, nx =>
    match aStage C n all ms own tm0 nx0 prev none all 0 vt hp with
    | some (vt', G) => some (vt', G, nx)
    | none => none
  | prev, e :: E, vt, hp, nx =>
    match allBit ms e E with
    | false => none
    | true =>
      match aStage C n all ms own tm0 nx0 prev (some e) all 0 vt hp with
      | none => none
      | some (vt1, G) =>
        match nthOp all e with
        | none => none
        | some o =>
          match okDst n o.dst with
          | false => none
          | true =>
            match Nat.blt e 1000000 with
            | false => none
            | true =>
              match vt1.get e with
              | some _ => none
              | none =>
                match aActE C call G nx (envAt ms own tm0 vt1 e) all o with
                | some (r, H, nx') => aPass C call n all ms own tm0 nx0 (some e) E (vt1.set e (r.getD (.tuple []))) H nx'
                | none => none

section
variable (C : Ctx) (call : ACall) (n : Nat) (ops : Array Oper) (ms own : T Nat) (tm0 : T AVal) (nx0 : Nat) (vtF : T AVal) (GF : T AObj) (nxF : Nat)
inductive Run : Option Nat → List Nat → T AObj → Nat → Prop where
  | done {prev : Option Nat} (h : ∀ i o, ops[i]? = some o → isEff o.op = false → mayNow ms prev none i = true → Flo C n ops ms own tm0 nx0 i o GF vtF) : Run prev [] GF nxF
  | step {prev : Option Nat} {e : Nat} {E : List Nat} {G H G' : T AObj} {nx nx' : Nat} {o : Oper} {r : Option AVal} {vt0 : T AVal}
      (h : ∀ i o, ops[i]? = some o → isEff o.op = false → mayNow ms prev (some e) i = true → Flo C n ops ms own tm0 nx0 i o G vtF)
      (hE : ∀ x ∈ E, Nat.testBit (mk ms x) e = true) (ho : ops[e]? = some o) (hd : okDst n o.dst = true) (hs : SubT vt0 vtF)
      (ha : aActE C call G nx (envAt ms own tm0 vt0 e) ops.toList o = some (r, H, nx')) (hv : vtF.get e = some (r.getD (.tuple [])))
      (hg : ∀ j x, G'.get j = some x → H.get j = some x ∨ ∃ i, i < ops.size ∧ j = nx0 + i ∧ Nat.testBit (mk ms i) e = true)
      (hnx : nx ≤ nx') (hrun : Run (some e) E G' nx') : Run prev (e :: E) G nx
end
theorem Run.nx {C : Ctx} {call : ACall} {n : Nat} {ops : Array Oper} {ms own : T Nat} {tm0 : T AVal} {nx0 : Nat} {vtF : T AVal} {GF : T AObj} {nxF : Nat} {prev : Option Nat} {E : List Nat} {G : T AObj} {nx : Nat} (h : Run C call n ops ms own tm0 nx0 vtF GF nxF prev E G nx) : nx ≤ nxF := by
  induction h with
  | done => exact Nat.le_refl _
  | step h hE ho hd hs ha hv hg hnx hrun ih => exact Nat.le_trans hnx ih
theorem aPass_ok {C : Ctx} {P : Program} {ρ : Env} {B : Nat → Prop} {W : World} {call : ACall} (hcall : CallOk P ρ B W call) {n : Nat} {ops : Array Oper} {ms own : T Nat} {tm0 : T AVal} {nx0 : Nat} (hbd : nx0 + ops.size ≤ bound) {vtF : T AVal} {GF : T AObj} {nxF : Nat} :
    ∀ (E : List Nat) (prev : Option Nat) (vt : T AVal) (hp : T AObj) (nx : Nat), aPass C call n ops.toList ms own tm0 nx0 prev E vt hp nx = some (vtF, GF, nxF) →
    ∃ G, Run C call n ops ms own tm0 nx0 vtF GF nxF prev E G nx ∧ (∀ j x, G.get j = some x → hp.get j = some x ∨ ∃ i, i < ops.size ∧ j = nx0 + i ∧ newNow ms prev i = true) ∧ SubT vt vtF := by
  intro E
  induction E with
  | nil =>
    intro prev vt hp nx h
    unfold aPass at h
    split at h
    · rename_i vt' G hst
      cases h
      obtain ⟨q1, q2, q3, q4⟩ := aStage_ok hbd _ 0 _ _ _ _ rfl hst
      exact ⟨GF, .done fun i o ho he hm => q4 i o (Nat.zero_le _) ho he hm, fun j x hj => (q2 j x hj).imp id fun ⟨i, a, b, c⟩ => ⟨i, b, c⟩, q3⟩
    · cases h
  | cons e E ih =>
    intro prev vt hp nx h
    unfold aPass at h
    split at h
    · cases h
    · rename_i hall
      split at h
      · cases h
      · rename_i vt1 G hst
        split at h
        · cases h
        · rename_i o ho
          split at h
          · cases h
          · rename_i hd
            split at h
            · cases h
            · rename_i hlt
              split at h
              · cases h
              · rename_i hno
                split at h
                · rename_i r H nx' ha
                  obtain ⟨q1, q2, q3, q4⟩ := aStage_ok hbd _ 0 _ _ _ _ rfl hst
                  obtain ⟨G', r1, r2, r3⟩ := ih _ _ _ _ h
                  have hlt' : e < 4611686018427387904 := by
                    have : e < 1000000 := by simpa [Nat.blt_eq] using hlt
                    omega
                  have hsub : SubT vt1 (vt1.set e (r.getD (.tuple []))) := fun i u hi => by
                    have hne : i ≠ e := fun e' => by rw [e', hno] at hi; cases hi
                    rw [T.get_set_ne hlt' hne]
                    exact hi
                  have hs1 : SubT vt1 vtF := fun i u hi => r3 i u (hsub i u hi)
                  refine ⟨G, .step (fun i o ho he hm => (q4 i o (Nat.zero_le _) ho he hm).mono hs1) (allBit_ok hall) (by rw [nthOp_eq] at ho; simpa using ho) hd hs1 ha (r3 e _ (T.get_set_same hlt')) r2 (aActE_nx hcall ha) r1, fun j x hj => (q2 j x hj).imp id fun ⟨i, a, b, c⟩ => ⟨i, b, c⟩, fun i u hi => hs1 i u (q3 i u hi)⟩
                · cases h

def finTm (vt : T AVal) : List Oper → Nat → T AVal → Option (T AVal)
  | [], _, tm => some tm
  | o :: l, i, tm =>
    match o.dst with
    | none => finTm vt l (i + 1) tm
    | some d =>
      match vt.get i with
      | some v => finTm vt l (i + 1) (tm.set d v)
      | none => none
theorem finTm_ok {ops : Array Oper} {vt tm0 : T AVal} : ∀ (l : List Oper) (k : Nat) (tm tm' : T AVal), ops.toList.drop k = l → finTm vt l k tm = some tm' →
    (∀ d v, tm.get d = some v → (∃ (i : Nat) (o : Oper), ops[i]? = some o ∧ o.dst = some d ∧ vt.get i = some v) ∨ ((∀ (i : Nat) (o : Oper), i < k → ops[i]? = some o → o.dst ≠ some d) ∧ tm0.get d = some v)) →
    (∀ d v, tm'.get d = some v → (∃ (i : Nat) (o : Oper), ops[i]? = some o ∧ o.dst = some d ∧ vt.get i = some v) ∨ ((∀ (i : Nat) (o : Oper), ops[i]? = some o → o.dst ≠ some d) ∧ tm0.get d = some v)) := by
  intro l
  induction l with
  | nil =>
    intro k tm tm' hk h hI d v hv
    cases h
    refine (hI d v hv).imp id fun ⟨a, b⟩ => ⟨fun i o ho => a i o ?_ ho, b⟩
    have h1 : ops.size ≤ k := by simpa using hk
    have h2 := (Array.getElem?_eq_some_iff.1 ho).1
    omega
  | cons x l ih =>
    intro k tm tm' hk h hI
    have hx : ops[k]? = some x := by
      have : (ops.toList.drop k)[0]? = some x := by rw [hk]; rfl
      simpa using this
    have hk' : ops.toList.drop (k + 1) = l := by
      rw [← List.drop_drop, hk]
      rfl
    unfold finTm at h
    split at h
    · rename_i hno
      refine ih (k + 1) tm tm' hk' h fun d v hv => (hI d v hv).imp id fun ⟨a, b⟩ => ⟨fun i o hi ho hd => ?_, b⟩
      rcases Nat.lt_or_ge i k with h1 | h1
      · exact a i o h1 ho hd
      · have : i = k := by omega
        subst this
        rw [hx] at ho
        cases ho
        rw [hno] at hd
        cases hd
    · rename_i d hd
      split at h
      · rename_i v hv
        refine ih (k + 1) _ tm' hk' h fun d' v' hv' => ?_
        rcases T.get_set hv' with ⟨rfl, rfl⟩ | ⟨hne, hv'⟩
        · exact .inl ⟨k, x, hx, hd, hv⟩
        · refine (hI d' v' hv').imp id fun ⟨a, b⟩ => ⟨fun i o hi ho hd' => ?_, b⟩
          rcases Nat.lt_or_ge i k with h1 | h1
          · exact a i o h1 ho hd'
          · have : i = k := by omega
            subst this
            rw [hx] at ho
            cases ho
            rw [hd] at hd'
            cases hd'
            exact hne rfl
      · cases h
def aDraw (C : Ctx) : ADraw := fun call n ops s =>
  match masks ops 0 .nil with
  | none => none
  | some ms =>
    match ownOk (owners ops 0 .nil) ops 0, Nat.ble (s.nx + ops.length) bound with
    | true, true =>
      match aPass C call n ops ms (owners ops 0 .nil) s.tm s.nx none (effs ops 0) .nil s.hp (s.nx + ops.length) with
      | some (vt, G, nx) =>
        match finTm vt ops 0 s.tm with
        | some tm => some ⟨tm, G, nx⟩
        | none => none
      | none => none
    | _, _ => none
end
end Go.Sx
