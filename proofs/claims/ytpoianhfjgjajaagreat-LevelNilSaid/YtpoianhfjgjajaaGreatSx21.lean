/- A region that draws its order: the pass is sound. No condition. -/
import Derived.Test.YtpoianhfjgjajaaGreatSx20
set_option linter.unusedSimpArgs false
set_option linter.unusedVariables false
namespace Go.Sx
open Go.RowKit (Below)
noncomputable section

theorem HRel.sub {ρ : Env} {B : Nat → Prop} {W w : World} {f : Ren} {h h' : T AObj} (hr : HRel ρ B W f h w) (hs : ∀ j x L, f j = some L → h'.get j = some x → h.get j = some x) : HRel ρ B W f h' w :=
  ⟨hr.below, hr.bsize, hr.lt, fun i j Li Lj oi oj hi hj gi gj => hr.apart i j Li Lj oi oj hi hj (hs i _ _ hi gi) (hs j _ _ hj gj), fun i L o hi hg => hr.obj i L o hi (hs i _ _ hi hg)⟩

theorem countP_lt {p q : Nat → Bool} {i : Nat} (hpq : ∀ j, q j = true → p j = true) (hp : p i = true) (hq : q i = false) : ∀ (l : List Nat), i ∈ l → l.countP q < l.countP p := by
  intro l
  induction l with
  | nil => intro h; cases h
  | cons x l ih =>
    intro h
    rw [List.countP_cons, List.countP_cons]
    have hle : l.countP q ≤ l.countP p := List.countP_mono_left fun a _ ha => hpq a ha
    by_cases hx : x = i
    · subst hx
      simp only [hp, hq, if_true, Bool.false_eq_true, if_false]
      omega
    · have hm : i ∈ l := by
        rcases List.mem_cons.1 h with h | h
        · exact absurd h.symm hx
        · exact h
      have := ih hm
      cases hqx : q x
      · simp only [Bool.false_eq_true, if_false]
        cases p x <;> simp <;> omega
      · simp only [hpq x hqx, if_true]
        omega

section
variable (C : Ctx) (n : Nat) (ops : Array Oper) (own : T Nat) (tm0 : T AVal) (nx0 : Nat) (vtF : T AVal) (ρ : Env) (B : Nat → Prop) (W : World) (N : Nat) (f0 : Ren)
def envS (listed : Array Bool) (d : Nat) : Option AVal :=
  match own.get d with
  | none => tm0.get d
  | some m =>
    match listed.getD m false with
    | true => vtF.get m
    | false => tm0.get d
structure Inv (listed : Array Bool) (f : Ren) (a : Act) (w : World) (prev : Option Nat) (E : List Nat) (G : T AObj) (nx : Nat) : Prop where
  lsize : listed.size = ops.size
  closed : ∀ i o, ops[i]? = some o → listed.getD i false = true → ∀ e ∈ o.after, Region.binds .any e = true → listed.getD e.on false = true
  esuf : ∀ e ∈ E, listed.getD e false = false
  eeff : ∀ e ∈ E, ∃ o, ops[e]? = some o ∧ isEff o.op = true
  eall : ∀ i o, ops[i]? = some o → isEff o.op = true → listed.getD i false = false → i ∈ E
  prev : ∀ p, prev = some p → listed.getD p false = true
  size : a.tmps.size = n
  defers : a.defers = []
  tm : ∀ d v, envS own tm0 vtF listed d = some v → VRel ρ f v (a.tmps.getD d Go.undef)
  heap : HRel ρ B W f G w
  pend : ∀ i, i < ops.size → listed.getD i false = false → f (nx0 + i) = none
  fresh : Fresh f nx N
  le : f0.le f
  out : Outside f0 f nx0 nx
  low : nx0 + ops.size ≤ nx
end

theorem listed_set {listed : Array Bool} {i j : Nat} (hi : i < listed.size) : (listed.setIfInBounds i true).getD j false = if j = i then true else listed.getD j false := by
  by_cases h : j = i
  · subst h
    simp [hi]
  · rw [if_neg h, getD_set_ne false (Ne.symm h)]
theorem getD_true_false {listed : Array Bool} {i : Nat} (h : listed.getD i true = false) : listed.getD i false = false := by
  rcases Nat.lt_or_ge i listed.size with hl | hl
  · simp [hl] at h ⊢
    exact h
  · simp [Array.getElem?_eq_none hl] at h
theorem getD_false_true {listed : Array Bool} {i : Nat} (hl : i < listed.size) (h : listed.getD i false = false) : listed.getD i true = false := by
  simp [hl] at h ⊢
  exact h
theorem Dom.listed {ops : Array Oper} {S : Nat → Prop} (hc : ∀ i o, ops[i]? = some o → S i → ∀ e ∈ o.after, Region.binds .any e = true → S e.on) {i b : Nat} (h : Dom ops i b) : S i → S b := by
  induction h with
  | one h he hb => intro hi; exact hc _ _ h hi _ he hb
  | trans h he hb hd ih => intro hi; exact ih (hc _ _ h hi _ he hb)

/-- After an operation: the slots. -/
theorem tm_put {own : T Nat} {tm0 vtF : T AVal} {ρ : Env} {f f' : Ren} {ops : Array Oper} {listed : Array Bool} {a : Act} (hsz : listed.size = ops.size) (hown1 : ∀ d m, own.get d = some m → ∃ o, ops[m]? = some o ∧ o.dst = some d) (hown2 : ∀ i o d, ops[i]? = some o → o.dst = some d → own.get d = some i)
    (htm : ∀ d v, envS own tm0 vtF listed d = some v → VRel ρ f v (a.tmps.getD d Go.undef)) (hle : f.le f') {i : Nat} {o : Oper} (ho : ops[i]? = some o) (hd : okDst a.tmps.size o.dst = true) {v : AVal} (hv : vtF.get i = some v) {v' : Value} (hvv : VRel ρ f' v v') :
    ∀ d u, envS own tm0 vtF (listed.setIfInBounds i true) d = some u → VRel ρ f' u ((a.put o.dst v').tmps.getD d Go.undef) := by
  have hi : i < listed.size := by rw [hsz]; exact (Array.getElem?_eq_some_iff.1 ho).1
  intro d u hu
  by_cases hdd : o.dst = some d
  · have e := hown2 i o d ho hdd
    unfold envS at hu
    rw [e] at hu
    simp only [listed_set hi, if_true] at hu
    rw [hv] at hu
    cases hu
    have hlt : d < a.tmps.size := by rw [hdd] at hd; simpa [okDst, Nat.blt_eq] using hd
    rw [hdd]
    simp only [Act.put]
    rw [getD_set_same hlt]
    exact hvv
  · have hsame : (a.put o.dst v').tmps.getD d Go.undef = a.tmps.getD d Go.undef := by
      cases hq : o.dst with
      | none => rfl
      | some d' =>
        have : d' ≠ d := fun e => hdd (by rw [hq, e])
        simp only [Act.put]
        exact getD_set_other this
    rw [hsame]
    refine (htm d u ?_).mono hle
    unfold envS at hu ⊢
    cases hq : own.get d with
    | none => rw [hq] at hu; exact hu
    | some m =>
      rw [hq] at hu
      have hm : m ≠ i := by
        intro e
        obtain ⟨o', h1, h2⟩ := hown1 d m hq
        rw [e, ho] at h1
        cases h1
        exact hdd h2
      simp only [listed_set hi, if_neg hm] at hu
      exact hu

theorem drawn_ok {C : Ctx} {P : Program} {ρ : Env} (hC : C.Ok P ρ) {B : Nat → Prop} {W : World} {call : ACall} (hcall : CallOk P ρ B W call) {n N : Nat} {ops : Array Oper} {ms own : T Nat} {tm0 : T AVal} {nx0 : Nat} {vtF : T AVal} {GF : T AObj} {nxF : Nat} (hms : MaskOk ops ms)
    (hback : ∀ i o, ops[i]? = some o → ∀ e ∈ o.after, Region.binds .any e = true → e.on < i)
    (hown1 : ∀ d m, own.get d = some m → ∃ o, ops[m]? = some o ∧ o.dst = some d) (hown2 : ∀ i o d, ops[i]? = some o → o.dst = some d → own.get d = some i) (hN : nxF ≤ N) {f0 : Ren} {Q : Exit → Act → World → Prop}
    (hQ : ∀ f a w, f0.le f → Outside f0 f nx0 nxF → a.tmps.size = n → a.defers = [] → (∀ d v, (match own.get d with
        | none => tm0.get d
        | some m => vtF.get m) = some v → VRel ρ f v (a.tmps.getD d Go.undef)) → HRel ρ B W f GF w → Fresh f nxF N → Q .normal a w) :
    ∀ (fuel : Nat) (listed : Array Bool) (a : Act) (w : World) (f : Ren) (prev : Option Nat) (E : List Nat) (G : T AObj) (nx : Nat), Run C call n ops ms own tm0 nx0 vtF GF nxF prev E G nx → Inv n ops own tm0 nx0 vtF ρ B W N f0 listed f a w prev E G nx →
      (List.range ops.size).countP (fun i => !listed.getD i false) ≤ fuel → wpAny P .any ops Q fuel listed a w := by
  -- all listed: the end
  have fin : ∀ (listed : Array Bool) (a : Act) (w : World) (f : Ren) (prev : Option Nat) (E : List Nat) (G : T AObj) (nx : Nat), Run C call n ops ms own tm0 nx0 vtF GF nxF prev E G nx → Inv n ops own tm0 nx0 vtF ρ B W N f0 listed f a w prev E G nx → (∀ i, i < ops.size → listed.getD i false = true) → Q .normal a w := by
    intro listed a w f prev E G nx hrun hI hall
    cases hrun with
    | done h =>
      refine hQ f a w hI.le hI.out hI.size hI.defers (fun d v hv => hI.tm d v ?_) hI.heap hI.fresh
      unfold envS
      cases hq : own.get d with
      | none => rw [hq] at hv; exact hv
      | some m =>
        rw [hq] at hv
        obtain ⟨o, h1, _⟩ := hown1 d m hq
        simp only [hall m (Array.getElem?_eq_some_iff.1 h1).1]
        exact hv
    | @step _ e _ _ _ _ _ _ _ _ _ h hE ho hd hs ha hv hg hnx hrun =>
      have h1 := hI.esuf e (List.mem_cons_self ..)
      rw [hall e (Array.getElem?_eq_some_iff.1 ho).1] at h1
      cases h1
  have none_ready : ∀ (listed : Array Bool), listed.size = ops.size → Region.ready .any ops listed = [] → ∀ i, i < ops.size → listed.getD i false = true := by
    intro listed hsz hr i
    induction i using Nat.strongRecOn with
    | _ i ih =>
      intro hi
      cases hl : listed.getD i false
      · exfalso
        have : i ∈ Region.ready .any ops listed := mem_ready.2 ⟨getD_false_true (by omega) hl, ops[i], by simp [hi], fun e he hb => by
          have hlt := hback i ops[i] (by simp [hi]) e he hb
          exact ih e.on hlt (by omega)⟩
        rw [hr] at this
        cases this
      · rfl
  intro fuel
  induction fuel with
  | zero =>
    intro listed a w f prev E G nx hrun hI hc
    have hall : ∀ i, i < ops.size → listed.getD i false = true := by
      intro i hi
      cases hl : listed.getD i false
      · exfalso
        have : 0 < (List.range ops.size).countP (fun i => !listed.getD i false) := List.countP_pos_iff.2 ⟨i, List.mem_range.2 hi, by simp only [hl]; rfl⟩
        omega
      · rfl
    refine ⟨?_, fin listed a w f prev E G nx hrun hI hall⟩
    cases hr : Region.ready .any ops listed with
    | nil => rfl
    | cons x xs =>
      exfalso
      have hx : x ∈ Region.ready .any ops listed := by rw [hr]; exact List.mem_cons_self ..
      obtain ⟨h1, o, h2, _⟩ := mem_ready.1 hx
      have h3 := hall x (Array.getElem?_eq_some_iff.1 h2).1
      rw [getD_true_false h1] at h3
      cases h3
  | succ fuel ih =>
    intro listed a w f prev E G nx hrun hI hc
    refine ⟨fun hr => fin listed a w f prev E G nx hrun hI (none_ready listed hI.lsize hr), fun i hi => ?_⟩
    obtain ⟨hun', o, ho, hpre⟩ := mem_ready.1 hi
    have hun := getD_true_false hun'
    have hisz : i < ops.size := (Array.getElem?_eq_some_iff.1 ho).1
    have hil : i < listed.size := by rw [hI.lsize]; exact hisz
    -- what must come before is listed
    have hdom : ∀ b, Dom ops i b → listed.getD b false = true := by
      intro b hb
      cases hb with
      | one h he hb =>
        rw [ho] at h; cases h
        exact hpre _ he hb
      | trans h he hb hd =>
        rw [ho] at h; cases h
        exact hd.listed (S := fun i => listed.getD i false = true) hI.closed (hpre _ he hb)
    have hdomS : ∀ m b, listed.getD m false = true → Dom ops m b → listed.getD b false = true := fun m b hm hb => hb.listed (S := fun i => listed.getD i false = true) hI.closed hm
    -- what it sees
    have hev : EvRel ρ f (envAt ms own tm0 vtF i) a.eval := by
      intro x v hx
      cases x with
      | tmp d =>
        refine hI.tm d v ?_
        simp only [envAt] at hx
        unfold envS
        cases hq : own.get d with
        | none => simp only [hq] at hx ⊢; exact hx
        | some m =>
          simp only [hq] at hx ⊢
          cases hb : Nat.testBit (mk ms i) m with
          | true =>
            simp only [hb] at hx
            rw [hdom m (hms.mk hb)]
            exact hx
          | false =>
            simp only [hb] at hx
            cases hb2 : Nat.testBit (mk ms m) i with
            | true =>
              simp only [hb2] at hx
              cases hl : listed.getD m false
              · exact hx
              · have := hdomS m i hl (hms.mk hb2)
                rw [hun] at this
                cases this
            | false =>
              simp only [hb2] at hx
              cases hx
      | const c => exact absV_ok hx
      | func g => cases hx; exact .func rfl rfl (by simp) (by simp)
      | global g => cases hx
    have hcount : (List.range ops.size).countP (fun j => !(listed.setIfInBounds i true).getD j false) ≤ fuel := by
      have := countP_lt (p := fun j => !listed.getD j false) (q := fun j => !(listed.setIfInBounds i true).getD j false) (i := i) (fun j hj => by
        simp only [listed_set hil] at hj
        split at hj
        · cases hj
        · exact hj) (by simp only [hun]; rfl) (by simp only [listed_set hil, if_true]; rfl) (List.range ops.size) (List.mem_range.2 hisz)
      omega
    have hlset : ∀ j, (listed.setIfInBounds i true).getD j false = if j = i then true else listed.getD j false := fun j => listed_set hil
    have hclosed : ∀ j o', ops[j]? = some o' → (listed.setIfInBounds i true).getD j false = true → ∀ e ∈ o'.after, Region.binds .any e = true → (listed.setIfInBounds i true).getD e.on false = true := by
      intro j o' ho' hj e he hb
      rw [hlset] at hj ⊢
      by_cases hji : j = i
      · subst hji
        rw [ho] at ho'
        cases ho'
        rw [hpre e he hb]
        simp
      · rw [if_neg hji] at hj
        rw [hI.closed j o' ho' hj e he hb]
        simp
    cases hE : isEff o.op with
    | false =>
      -- a floater
      have flo : ∀ next, (∀ j o, ops[j]? = some o → isEff o.op = false → mayNow ms prev next j = true → Flo C n ops ms own tm0 nx0 j o G vtF) → (∀ e, next = some e → listed.getD e false = false) → wpOp P ops Q i (wpAny P .any ops Q fuel (listed.setIfInBounds i true)) a w := by
        intro next hst hnext
        have hnd : notDone ms prev i = true := by
          unfold notDone
          split
          · rename_i p
            split
            · rename_i hb
              have := hdomS p i (hI.prev p rfl) (hms.mk hb)
              rw [hun] at this
              cases this
            · rfl
          · rfl
        have hmay : mayNow ms prev next i = true := by
          unfold mayNow
          split
          · rename_i e
            split
            · rename_i hb
              have := hdom e (hms.mk hb)
              rw [hnext e rfl] at this
              cases this
            · exact hnd
          · exact hnd
        obtain ⟨hd, vt0, h0, v, ob, q1, q2, q3, q4, q5⟩ := hst i o ho hE hmay
        have hd' : okDst a.tmps.size o.dst = true := by rw [hI.size]; exact hd
        have hr0 : HRel ρ B W f h0 w := hI.heap.sub fun j x L _ hj => q2 j x hj
        have he0 : EvRel ρ f (envAt ms own tm0 vt0 i) a.eval := fun x u hx => hev x u (envAt_sub q1 hx)
        have hid := hI.pend i hisz hun
        have stepF : ∀ f' w' v', f.le f' → (∀ j, j ≠ nx0 + i → f' j = f j) → HRel ρ B W f' G w' → VRel ρ f' v v' → wpAny P .any ops Q fuel (listed.setIfInBounds i true) (a.put o.dst v') w' := by
          intro f' w' v' hle hsame hrel hv'
          have hlow := hI.low
          refine ih _ _ _ f' prev E G nx hrun ⟨by simp [hI.lsize], hclosed, fun e he => ?_, hI.eeff, fun j o' ho' hj hl => ?_, fun p hp => ?_, by rw [Act.put_size]; exact hI.size, by rw [Act.put_defers']; exact hI.defers, tm_put hI.lsize hown1 hown2 hI.tm hle ho hd' q4 hv', hrel, fun j hj hl => ?_, fun j h1 h2 => ?_, Ren.le_trans hI.le hle, fun j hj => ?_, hI.low⟩ hcount
          · rw [hlset]
            have hei : e ≠ i := by
              intro hei
              obtain ⟨o', h1, h2⟩ := hI.eeff e he
              rw [hei, ho] at h1
              cases h1
              rw [hE] at h2
              cases h2
            rw [if_neg hei]
            exact hI.esuf e he
          · rw [hlset] at hl
            split at hl
            · cases hl
            · exact hI.eall j o' ho' hj hl
          · rw [hlset, hI.prev p hp]; simp
          · rw [hlset] at hl
            split at hl
            · cases hl
            · rename_i hji
              rw [hsame (nx0 + j) (by omega)]
              exact hI.pend j hj hl
          · rw [hsame j (by omega)]
            exact hI.fresh j h1 h2
          · rw [hsame j (by omega)]
            exact hI.out j hj
        refine aFlo_ok hC hr0 he0 ho q3 hid (fun hob v' hv' => stepF f w v' (Ren.le_refl f) (fun _ _ => rfl) hI.heap hv') (fun x hob w' L O v' k1 k2 k3 k4 k5 k6 => stepF (f.put (nx0 + i) L) w' v' (Ren.le_put L hid) (fun j hj => Ren.put_other f L hj) ?_ k5)
        exact hI.heap.newG hid k1 k2 k3 k4 k6 fun j y hj => by
          by_cases hji : j = nx0 + i
          · subst hji
            exact .inl ⟨rfl, q5 x hob y hj⟩
          · exact .inr ⟨hji, hj⟩
      cases hrun with
      | done h => exact flo none h (fun e he => by cases he)
      | @step _ e _ _ _ _ _ _ _ _ _ h hE' ho' hd hs ha hv hg hnx hrun' => exact flo (some e) h (fun e' he' => by cases he'; exact hI.esuf e (List.mem_cons_self ..))
    | true =>
      have hiE := hI.eall i o ho hE hun
      cases hrun with
      | done h => cases hiE
      | @step _ e E' _ H G' _ nx' o2 r vt0 h hE' ho' hd hs ha hv hg hnx hrun' =>
        have hie : i = e := by
          rcases List.mem_cons.1 hiE with h1 | h1
          · exact h1
          · have := hdom e (hms.mk (hE' i h1))
            rw [hI.esuf e (List.mem_cons_self ..)] at this
            cases this
        subst hie
        rw [ho] at ho'
        cases ho'
        have hd' : okDst a.tmps.size o.dst = true := by rw [hI.size]; exact hd
        have he0 : EvRel ρ f (envAt ms own tm0 vt0 i) a.eval := fun x u hx => hev x u (envAt_sub hs hx)
        have hnxF := hrun'.nx
        refine aActE_ok hC hcall hI.heap ho ha (hI.fresh.sub (Nat.le_refl _) (by omega)) he0 fun f' w' v' hle hout hrel hv' => ?_
        have hlow := hI.low
        refine ih _ _ _ f' (some i) E' G' nx' hrun' ⟨by simp [hI.lsize], hclosed, fun e he => ?_, fun e he => hI.eeff e (List.mem_cons_of_mem _ he), fun j o' ho' hj hl => ?_, fun p hp => ?_, by rw [Act.put_size]; exact hI.size, by rw [Act.put_defers']; exact hI.defers, tm_put hI.lsize hown1 hown2 hI.tm hle ho hd' hv hv', ?_, fun j hj hl => ?_, hI.fresh.step hout hnx, Ren.le_trans hI.le hle, hI.out.trans hout (by omega) hnx, by omega⟩ hcount
        · rw [hlset]
          have hei : e ≠ i := by
            intro hei
            rw [hei] at he
            have := hdom i (hms.mk (hE' i he))
            rw [hun] at this
            cases this
          rw [if_neg hei]
          exact hI.esuf e (List.mem_cons_of_mem _ he)
        · rw [hlset] at hl
          split at hl
          · cases hl
          · rename_i hji
            rcases List.mem_cons.1 (hI.eall j o' ho' hj hl) with h1 | h1
            · exact absurd h1 hji
            · exact h1
        · cases hp
          rw [hlset]
          simp
        · refine hrel.sub fun j x L hfj hgj => ?_
          rcases hg j x hgj with h1 | ⟨i', h1, rfl, h2⟩
          · exact h1
          · exfalso
            have hl : listed.getD i' false = false := by
              cases hl : listed.getD i' false
              · rfl
              · have := hdomS i' i hl (hms.mk h2)
                rw [hun] at this
                cases this
            rw [hout (nx0 + i') (.inl (by omega)), hI.pend i' h1 hl] at hfj
            cases hfj
        · rw [hlset] at hl
          split at hl
          · cases hl
          · rw [hout (nx0 + j) (.inl (by omega))]
            exact hI.pend j hj hl

theorem effs_eff : ∀ (l : List Oper) (k e : Nat), e ∈ effs l k → ∃ i o, e = k + i ∧ l[i]? = some o ∧ isEff o.op = true := by
  intro l
  induction l with
  | nil => intro k e h; cases h
  | cons x l ih =>
    intro k e h
    unfold effs at h
    split at h
    · rename_i hx
      rcases List.mem_cons.1 h with rfl | h
      · exact ⟨0, x, rfl, rfl, hx⟩
      · obtain ⟨i, o, h1, h2, h3⟩ := ih _ _ h
        exact ⟨i + 1, o, by omega, by simpa using h2, h3⟩
    · obtain ⟨i, o, h1, h2, h3⟩ := ih _ _ h
      exact ⟨i + 1, o, by omega, by simpa using h2, h3⟩
theorem HRel.drawn {ρ : Env} {B : Nat → Prop} {W w : World} {f : Ren} {h : T AObj} (hr : HRel ρ B W f h w) : HRel ρ B W f h { w with drawn := w.drawn + 1 } :=
  hr.drew _
theorem aDraw_ok {C : Ctx} {P : Program} {ρ : Env} (hC : C.Ok P ρ) {B : Nat → Prop} {W : World} : DrawOk P ρ B W (aDraw C) := by
  intro call hcall n ops s s' h
  unfold aDraw at h
  split at h
  · cases h
  · rename_i ms hms
    split at h
    · rename_i hown hbd
      split at h
      · rename_i vt G nx hp
        split at h
        · rename_i tm hft
          cases h
          have hbd' : s.nx + ops.size ≤ bound := by simpa [Nat.ble_eq] using hbd
          obtain ⟨m1, m2⟩ := masks_ok ops.toList 0 .nil ms rfl hms (fun i m hi => by (rw [T.get_nil] at hi; cases hi))
          have o1 := owners_ok (ops := ops) ops.toList 0 .nil rfl (fun d m hd => by (rw [T.get_nil] at hd; cases hd))
          have o2 := ownOk_ok (ops := ops) ops.toList 0 rfl hown
          obtain ⟨G0, hrun, hg0, hsub⟩ := aPass_ok hcall hbd' _ _ _ _ _ hp
          have hlen : ops.toList.length = ops.size := by simp
          rw [hlen] at hrun
          have hnx := hrun.nx
          refine ⟨by show s.nx ≤ nx; omega, fun N f a w id Q hN hr hQ => wp_region_any hC.mixed ?_⟩
          have hN' : nx ≤ N := hN
          refine drawn_ok hC hcall (n := n) (N := N) m1 (fun i o ho e he hb => m2 i o (Nat.zero_le _) ho e he hb) o1 (fun i o d ho hd => o2 i o d (Nat.zero_le _) ho hd) hN (f0 := f) (fun f' a' w' l1 ou sz df htm hh hfr => ?_) ops.size _ a _ f none (effs ops.toList 0) G0 _ hrun ?_ ?_
          · refine hQ f' a' w' l1 ou ⟨sz, ?_, df, hh, hfr⟩
            intro d v hd
            refine htm d v ?_
            rcases finTm_ok ops.toList 0 s.tm tm rfl hft (fun d v hd => .inr ⟨fun i o hi => by omega, hd⟩) d v hd with ⟨i, o, h1, h2, h3⟩ | ⟨h1, h2⟩
            · rw [o2 i o d (Nat.zero_le _) h1 h2]
              exact h3
            · cases hq : (owners ops.toList 0 .nil).get d with
              | none => exact h2
              | some m =>
                obtain ⟨o, k1, k2⟩ := o1 d m hq
                exact absurd k2 (h1 m o k1)
          · have hun : ∀ i, (Array.replicate ops.size false).getD i false = false := fun i => by
              rcases Nat.lt_or_ge i ops.size with hi | hi
              · simp [hi]
              · simp [hi]
            refine ⟨by simp, fun i o ho hl => (by rw [hun] at hl; cases hl), fun e _ => hun e, fun e he => ?_, fun i o ho he _ => ?_, fun p hp => (by cases hp), hr.size, hr.defers, fun d v hd => ?_, ?_, fun i hi _ => ?_, fun j h1 h2 => hr.fresh j (by omega) h2, Ren.le_refl f, fun _ _ => rfl, Nat.le_refl _⟩
            · obtain ⟨i, o, h1, h2, h3⟩ := effs_eff _ _ _ he
              exact ⟨o, by rw [h1]; simpa using h2, h3⟩
            · have := effs_mem ops.toList 0 i o (by simpa using ho) he
              simpa using this
            · refine hr.tm d v ?_
              unfold envS at hd
              cases hq : (owners ops.toList 0 .nil).get d with
              | none => rw [hq] at hd; exact hd
              | some m =>
                rw [hq] at hd
                simp only [hun] at hd
                exact hd
            · refine (hr.heap.drawn).sub fun j x L hfj hgj => ?_
              rcases hg0 j x hgj with h1 | ⟨i, h1, rfl, _⟩
              · exact h1
              · rw [hr.fresh (s.nx + i) (by omega) (by omega)] at hfj
                cases hfj
            · exact hr.fresh (s.nx + i) (by omega) (by omega)
          · have := List.countP_le_length (p := fun i => !(Array.replicate ops.size false).getD i false) (l := List.range ops.size)
            simpa using this
        · cases h
      · cases h
    · cases h
end
end Go.Sx
