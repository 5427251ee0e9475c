/- Stores at an index that is not known as a number. No condition. -/
import Derived.Test.YtpoianhfjgjajaaGreatSx11
set_option linter.unusedSimpArgs false
set_option linter.unusedVariables false
namespace Go.Sx
open Go.RowKit (Below)
noncomputable section

def updCh (C : Ctx) (k : IntKind) (e x : IE) (s c : Nat) : Nat → Nat → T AVal → Option (T AVal)
  | 0, _, _ => none
  | n + 1, j, c0 =>
    match c0.get (j * s + c) with
    | some (.int k' y) =>
      match kindEq k k' with
      | true =>
        match n with
        | 0 => some (c0.set (j * s + c) (.int k (mkSel C.bd false e (.lit (.ofNat j)) x y)))
        | m => updCh C k e x s c m (j + 1) (c0.set (j * s + c) (.int k (mkSel C.bd false e (.lit (.ofNat j)) x y)))
      | false => none
    | _ => none
theorem updCh_ok {C : Ctx} {P : Program} {ρ : Env} (hC : C.Ok P ρ) {k : IntKind} {e x : IE} {s c : Nat} (hs : 0 < s) : ∀ (n j : Nat) (c0 c1 : T AVal), updCh C k e x s c n j c0 = some c1 → ∀ p v, c1.get p = some v →
    (∃ m y, j ≤ m ∧ m < j + n ∧ p = m * s + c ∧ c0.get p = some (.int k y) ∧ ∃ z, v = .int k z ∧ z.ev ρ = if e.ev ρ = (m : Int) then x.ev ρ else y.ev ρ) ∨ ((∀ m, j ≤ m → m < j + n → p ≠ m * s + c) ∧ c0.get p = some v) := by
  intro n
  induction n with
  | zero => intro j c0 c1 h; cases h
  | succ n ih =>
    intro j c0 c1 h p v hv
    have inj : ∀ a b : Nat, a * s + c = b * s + c → a = b := fun a b hab => Nat.eq_of_mul_eq_mul_right hs (by omega)
    unfold updCh at h
    split at h
    · rename_i k' y hy
      split at h
      · rename_i hk
        have hkk := kindEq_eq hk
        subst hkk
        have hz : ∀ z, (mkSel C.bd false e (.lit (.ofNat j)) x y) = z → z.ev ρ = if e.ev ρ = (j : Int) then x.ev ρ else y.ev ρ := fun z hz => by
          rw [← hz, mkSel_ev hC.bd]
          simp [selI, IE.ev]
        have one : ∀ c2 : T AVal, c2 = c0.set (j * s + c) (.int k (mkSel C.bd false e (.lit (.ofNat j)) x y)) → ∀ p v, c2.get p = some v →
            (p = j * s + c ∧ c0.get p = some (.int k y) ∧ ∃ z, v = .int k z ∧ z.ev ρ = if e.ev ρ = (j : Int) then x.ev ρ else y.ev ρ) ∨ (p ≠ j * s + c ∧ c0.get p = some v) := by
          intro c2 e2 p v hp
          subst e2
          rcases T.get_set hp with ⟨rfl, e3⟩ | ⟨e3, e4⟩
          · exact .inl ⟨rfl, hy, _, e3.symm, hz _ rfl⟩
          · exact .inr ⟨e3, e4⟩
        split at h
        · cases h
          rcases one _ rfl p v hv with ⟨q1, q2, q3⟩ | ⟨q1, q2⟩
          · exact .inl ⟨j, y, Nat.le_refl _, by omega, q1, q2, q3⟩
          · refine .inr ⟨fun m h1 h2 => ?_, q2⟩
            obtain rfl : m = j := by omega
            exact q1
        · rename_i m hm
          rcases ih _ _ _ h p v hv with ⟨m', y', q1, q2, q3, q4, q5⟩ | ⟨q1, q2⟩
          · rcases one _ rfl p _ q4 with ⟨r1, r2, r3⟩ | ⟨r1, r2⟩
            · exfalso
              have := inj m' j (by omega)
              omega
            · exact .inl ⟨m', y', by omega, by omega, q3, r2, q5⟩
          · rcases one _ rfl p v q2 with ⟨r1, r2, r3⟩ | ⟨r1, r2⟩
            · exact .inl ⟨j, y, Nat.le_refl _, by omega, r1, r2, r3⟩
            · refine .inr ⟨fun m' h1 h2 => ?_, r2⟩
              by_cases hj : m' = j
              · subst hj; exact r1
              · exact q1 m' (by omega) (by omega)
      · cases h
    · cases h

def storeE0 (C : Ctx) (h : T AObj) (i : Nat) (e : IE) (s c : Nat) (v : AVal) : Option (T AObj) :=
  match v with
  | .int k x =>
    match h.get i with
    | some (.arr ks code n true) =>
      match Nat.beq s ks.length, bnd C e n, fits k (rng C.bd x), ks[c]? with
      | true, true, true, some k' =>
        match kindEq k k' with
        | true => some (h.set i (.arr ks (mkFn 1 code (mkAdd (mkMul e (.lit (.ofNat s))) (.lit (.ofNat c))) x) n true))
        | false => none
      | _, _, _, _ => none
    | some (.cells c0 el true top) =>
      match idxR C e, Nat.blt 0 s with
      | some (a, b), true =>
        match updCh C k e x s c (b - a + 1) a c0 with
        | some c1 => some (h.set i (.cells c1 el true top))
        | none => none
      | _, _ => none
    | _ => none
  | .bool t =>
    match h.get i, t.num with
    | some (.cells c0 el true top), some x =>
      match idxR C e, Nat.blt 0 s with
      | some (a, b), true =>
        match updB C e x s c (b - a + 1) a c0 with
        | some c1 => some (h.set i (.cells c1 el true top))
        | none => none
      | _, _ => none
    | _, _ => none
  | _ => none
theorem storeE0_ok {C : Ctx} {P : Program} {ρ : Env} (hC : C.Ok P ρ) {B : Nat → Prop} {W w : World} {f : Ren} {h h' : T AObj} (hr : HRel ρ B W f h w) {i : Nat} {L : Loc} (hf : f i = some L) {e : IE} {s c : Nat} (h0 : 0 ≤ e.ev ρ) {v : AVal} {v' : Value} (hv : VRel ρ f v v')
    (hs : storeE0 C h i e s c v = some h') :
    HRel ρ B W f h' (w.setCell ⟨L.blk, L.base + ((e.ev ρ).toNat * s + c), none⟩ v') ∧ (store ⟨L.blk, L.base + ((e.ev ρ).toNat * s + c), none⟩ v').run P w = .ok () (w.setCell ⟨L.blk, L.base + ((e.ev ρ).toNat * s + c), none⟩ v') := by
  unfold storeE0 at hs
  split at hs
  · rename_i k x
    cases hv
    have runs : ∀ (cs : Array Value) (el : TypeId) (fr : Nat × Nat) (u : Value) (p : Nat), w.heap[L.blk]? = some (.cells cs el fr) → cs[p]? = some u → ¬ (fr.1 ≤ p ∧ p < fr.2) → (store ⟨L.blk, p, none⟩ (.int k (x.ev ρ))).run P w = .ok () (w.setCell ⟨L.blk, p, none⟩ (.int k (x.ev ρ))) := by
      intro cs el fr u p h1 h2 h3
      have hcell : w.cell? ⟨L.blk, p, none⟩ = some u := by simp [World.cell?, h1, h2]
      have hfro : w.frozen? ⟨L.blk, p, none⟩ = false := by
        simp only [World.frozen?, h1]
        simpa using h3
      rw [run_store P w _ _ _ rfl, hcell]
      simp [hfro]
    split at hs
    · rename_i ks code n hg
      obtain ⟨cs, el, fr, h1, h2, h3, h4⟩ := hr.obj i L _ hf hg
      obtain ⟨hB, hfr⟩ := h3 rfl
      split at hs
      · rename_i k' hss hb hft hk
        have hss := Nat.eq_of_beq_eq_true hss
        have hb := bnd_ok hC hb
        have hx := fits_ok hC.bd hft
        split at hs
        · rename_i hkk
          have := kindEq_eq hkk
          subst this
          subst hss
          cases hs
          obtain ⟨q1, _, _⟩ := h4 (e.ev ρ).toNat c k (by omega) hk
          have hc : c < ks.length := (List.getElem?_eq_some_iff.1 hk).1
          have hlt : L.base + ((e.ev ρ).toNat * ks.length + c) < cs.size := (Array.getElem?_eq_some_iff.1 q1).1
          refine ⟨?_, runs cs el fr _ _ h1 q1 (hfr _ (by omega))⟩
          refine hr.turn hf hg rfl hB (fun _ _ => Iff.rfl) (fun _ _ => Iff.rfl) ⟨rfl, rfl, rfl⟩ (by simp [World.setCell]) (fun b hb => Below.heap_setCell _ _ _ _ hb) ?_
          refine ⟨_, el, fr, heap_setCell_at w _ _ cs el fr _ h1, by simpa using h2, h3, fun j d kd hj hd => ?_⟩
          have hd' : d < ks.length := (List.getElem?_eq_some_iff.1 hd).1
          have ecode : (mkFn 1 code (mkAdd (mkMul e (.lit (.ofNat ks.length))) (.lit (.ofNat c))) x).ev ρ = rowSet (code.ev ρ) ((e.ev ρ).toNat * ks.length + c : Nat) (x.ev ρ) := by
            rw [mkFn_ev, pos_ev h0]
            rfl
          rw [ecode, rowGet_set_of _ _ _ _ hx.1 hx.2]
          by_cases hp : j * ks.length + d = (e.ev ρ).toNat * ks.length + c
          · have hdc : d = c := by
              have := congrArg (· % ks.length) hp
              simpa [Nat.mul_add_mod_self_right, Nat.mod_eq_of_lt hd', Nat.mod_eq_of_lt hc] using this
            subst hdc
            rw [hk] at hd
            cases hd
            rw [hp, if_pos rfl]
            exact ⟨by simp [hlt], hx⟩
          · rw [if_neg hp, Array.getElem?_setIfInBounds_ne (by omega)]
            exact h4 j d kd hj hd
        · cases hs
      · cases hs
    · rename_i c0 el top hg
      obtain ⟨cs, fr, h1, h2, h3, h4⟩ := hr.obj i L _ hf hg
      obtain ⟨hB, hfr⟩ := h3 rfl
      split at hs
      · rename_i a b hi hs0
        have hs0 : 0 < s := by simpa [Nat.blt_eq] using hs0
        obtain ⟨r1, r2, r3, _⟩ := idxR_ok hC hi
        split at hs
        · rename_i c1 hu
          cases hs
          have key := updCh_ok hC hs0 _ _ _ _ hu
          -- the cell written was there
          have hthere : ∃ y, c0.get ((e.ev ρ).toNat * s + c) = some (.int k y) := by
            have : ∀ (n j : Nat) (c0 c1 : T AVal), updCh C k e x s c n j c0 = some c1 → ∀ m, j ≤ m → m < j + n → ∃ y, c0.get (m * s + c) = some (.int k y) := by
              intro n
              induction n with
              | zero => intro j c0 c1 h; cases h
              | succ n ih =>
                intro j c0 c1 h m hm1 hm2
                unfold updCh at h
                split at h
                · rename_i k' y hy
                  split at h
                  · rename_i hk
                    have hkk := kindEq_eq hk
                    subst hkk
                    by_cases hj : m = j
                    · subst hj; exact ⟨y, hy⟩
                    · split at h
                      · omega
                      · obtain ⟨y', hy'⟩ := ih _ _ _ h m (by omega) (by omega)
                        rcases T.get_set hy' with ⟨e1, e2⟩ | ⟨_, e2⟩
                        · exact absurd (Nat.eq_of_mul_eq_mul_right hs0 (by omega)) hj
                        · exact ⟨y', e2⟩
                  · cases h
                · cases h
            exact this _ _ _ _ hu _ r1 (by omega)
          obtain ⟨y0, hy0⟩ := hthere
          obtain ⟨hlt0, u', hu1, _⟩ := h4 _ _ hy0
          have hlt : L.base + ((e.ev ρ).toNat * s + c) < cs.size := (Array.getElem?_eq_some_iff.1 hu1).1
          refine ⟨?_, runs cs el fr _ _ h1 hu1 (hfr _ (by omega))⟩
          refine hr.turn hf hg rfl hB (fun _ _ => Iff.rfl) (fun _ _ => Iff.rfl) ⟨rfl, rfl, rfl⟩ (by simp [World.setCell]) (fun b hb => Below.heap_setCell _ _ _ _ hb) ?_
          refine ⟨_, fr, heap_setCell_at w _ _ cs el fr _ h1, by simpa using h2, h3, fun j v hj => ?_⟩
          rcases key j v hj with ⟨m, y, q1, q2, rfl, q4, z, rfl, q6⟩ | ⟨q1, q2⟩
          · obtain ⟨p1, p2, p3, p4⟩ := h4 _ _ q4
            refine ⟨p1, ?_⟩
            by_cases hm : m = (e.ev ρ).toNat
            · subst hm
              refine ⟨.int k (x.ev ρ), by simp [hlt], ?_⟩
              rw [if_pos (by omega)] at q6
              rw [← q6]
              exact .int k z
            · have hne : m * s + c ≠ (e.ev ρ).toNat * s + c := fun e1 => hm (Nat.eq_of_mul_eq_mul_right hs0 (by omega))
              refine ⟨p2, by rw [Array.getElem?_setIfInBounds_ne (by omega)]; exact p3, ?_⟩
              cases p4
              rw [if_neg (by omega)] at q6
              rw [← q6]
              exact .int k z
          · obtain ⟨p1, p2, p3, p4⟩ := h4 _ _ q2
            refine ⟨p1, p2, ?_, p4⟩
            have := q1 (e.ev ρ).toNat r1 (by omega)
            rw [Array.getElem?_setIfInBounds_ne (by omega)]
            exact p3
        · cases hs
      · cases hs
    · cases hs
  · rename_i t
    cases hv
    have runs : ∀ (cs : Array Value) (el : TypeId) (fr : Nat × Nat) (u : Value) (p : Nat), w.heap[L.blk]? = some (.cells cs el fr) → cs[p]? = some u → ¬ (fr.1 ≤ p ∧ p < fr.2) → (store ⟨L.blk, p, none⟩ (.bool (t.ev ρ))).run P w = .ok () (w.setCell ⟨L.blk, p, none⟩ (.bool (t.ev ρ))) := by
      intro cs el fr u p h1 h2 h3
      have hcell : w.cell? ⟨L.blk, p, none⟩ = some u := by simp [World.cell?, h1, h2]
      have hfro : w.frozen? ⟨L.blk, p, none⟩ = false := by
        simp only [World.frozen?, h1]
        simpa using h3
      rw [run_store P w _ _ _ rfl, hcell]
      simp [hfro]
    split at hs
    · rename_i c0 el top x hg hx
      obtain ⟨cs, fr, h1, h2, h3, h4⟩ := hr.obj i L _ hf hg
      obtain ⟨hB, hfr⟩ := h3 rfl
      split at hs
      · rename_i a b hi hs0
        have hs0 : 0 < s := by simpa [Nat.blt_eq] using hs0
        obtain ⟨r1, r2, r3, _⟩ := idxR_ok hC hi
        split at hs
        · rename_i c1 hu
          cases hs
          have key := updB_ok hC hx hs0 _ _ _ _ hu
          obtain ⟨y0, hy0⟩ := updB_there hs0 _ _ _ _ hu (e.ev ρ).toNat r1 (by omega)
          obtain ⟨hlt0, u', hu1, _⟩ := h4 _ _ hy0
          have hlt : L.base + ((e.ev ρ).toNat * s + c) < cs.size := (Array.getElem?_eq_some_iff.1 hu1).1
          refine ⟨?_, runs cs el fr _ _ h1 hu1 (hfr _ (by omega))⟩
          refine hr.turn hf hg rfl hB (fun _ _ => Iff.rfl) (fun _ _ => Iff.rfl) ⟨rfl, rfl, rfl⟩ (by simp [World.setCell]) (fun b hb => Below.heap_setCell _ _ _ _ hb) ?_
          refine ⟨_, fr, heap_setCell_at w _ _ cs el fr _ h1, by simpa using h2, h3, fun j v hj => ?_⟩
          rcases key j v hj with ⟨m, y, q1, q2, rfl, q4, z, rfl, q6⟩ | ⟨q1, q2⟩
          · obtain ⟨p1, p2, p3, p4⟩ := h4 _ _ q4
            refine ⟨p1, ?_⟩
            by_cases hm : m = (e.ev ρ).toNat
            · subst hm
              refine ⟨.bool (t.ev ρ), by simp [hlt], ?_⟩
              rw [if_pos (by omega)] at q6
              rw [← q6]
              exact .bool z
            · have hne : m * s + c ≠ (e.ev ρ).toNat * s + c := fun e1 => hm (Nat.eq_of_mul_eq_mul_right hs0 (by omega))
              refine ⟨p2, by rw [Array.getElem?_setIfInBounds_ne (by omega)]; exact p3, ?_⟩
              cases p4
              rw [if_neg (by omega)] at q6
              rw [← q6]
              exact .bool z
          · obtain ⟨p1, p2, p3, p4⟩ := h4 _ _ q2
            refine ⟨p1, p2, ?_, p4⟩
            have := q1 (e.ev ρ).toNat r1 (by omega)
            rw [Array.getElem?_setIfInBounds_ne (by omega)]
            exact p3
        · cases hs
      · cases hs
    · cases hs
  · cases hs
def storeE1 (C : Ctx) (h : T AObj) (i : Nat) (e : IE) (s c : Nat) (v : AVal) : Option (T AObj) :=
  match h.get i with
  | some (.win idx s' c0 el true) =>
    match Nat.beq s s' && Nat.blt c s, e.eq idx, c0.get c, v.one with
    | true, true, some _, true => some (h.set i (.win idx s' (c0.set c v) el true))
    | _, _, _, _ => none
  | _ => storeE0 C h i e s c v
theorem storeE1_ok {C : Ctx} {P : Program} {ρ : Env} (hC : C.Ok P ρ) {B : Nat → Prop} {W w : World} {f : Ren} {h h' : T AObj} (hr : HRel ρ B W f h w) {i : Nat} {L : Loc} (hf : f i = some L) {e : IE} {s c : Nat} (h0 : 0 ≤ e.ev ρ) {v : AVal} {v' : Value} (hv : VRel ρ f v v')
    (hs : storeE1 C h i e s c v = some h') :
    HRel ρ B W f h' (w.setCell ⟨L.blk, L.base + ((e.ev ρ).toNat * s + c), none⟩ v') ∧ (store ⟨L.blk, L.base + ((e.ev ρ).toNat * s + c), none⟩ v').run P w = .ok () (w.setCell ⟨L.blk, L.base + ((e.ev ρ).toNat * s + c), none⟩ v') := by
  unfold storeE1 at hs
  split at hs
  · rename_i idx s' c0 el hg
    split at hs
    · rename_i u q1 q2 q3 q4
      cases hs
      have q0 : Nat.beq s s' = true ∧ c < s := by
        simp only [Bool.and_eq_true, Nat.blt_eq] at q1
        exact q1
      have q1 := Nat.eq_of_beq_eq_true q0.1
      have q2 := IE.eq_eq q2
      have hcs := q0.2
      clear q0
      subst q1 q2
      obtain ⟨cs, fr, h1, h2, h3, h0', h4⟩ := hr.obj i L _ hf hg
      obtain ⟨hB, hfr⟩ := h3 rfl
      obtain ⟨u', p1, p2⟩ := h4 _ _ q3
      have hlt : L.base + ((e.ev ρ).toNat * s + c) < cs.size := (Array.getElem?_eq_some_iff.1 p1).1
      refine ⟨?_, ?_⟩
      · refine hr.turn hf hg rfl hB (fun _ _ => Iff.rfl) (fun _ _ => Iff.rfl) ⟨rfl, rfl, rfl⟩ (by simp [World.setCell]) (fun b hb => Below.heap_setCell _ _ _ _ hb) ?_
        refine ⟨_, fr, heap_setCell_at w _ _ cs el fr _ h1, by simpa using h2, h3, fun j hj => ?_, fun j x hj => ?_⟩
        · rw [Array.getElem?_setIfInBounds_ne (by omega)]
          exact h0' j hj
        rcases T.get_set hj with ⟨rfl, rfl⟩ | ⟨hjc, hj⟩
        · exact ⟨v', by simp [hlt], hv⟩
        · obtain ⟨x', r1, r2⟩ := h4 _ _ hj
          refine ⟨x', ?_, r2⟩
          rw [Array.getElem?_setIfInBounds_ne (by omega)]
          exact r1
      · have hcell : w.cell? ⟨L.blk, L.base + ((e.ev ρ).toNat * s + c), none⟩ = some u' := by simp [World.cell?, h1, p1]
        have hfro : w.frozen? ⟨L.blk, L.base + ((e.ev ρ).toNat * s + c), none⟩ = false := by
          have := hfr _ (by rw [← h2]; exact hlt)
          simp only [World.frozen?, h1]
          simpa using this
        rw [run_store P w _ v' _ (hv.one q4), hcell]
        simp [hfro]
    · cases hs
  · exact storeE0_ok hC hr hf h0 hv hs
def storeEN (C : Ctx) (i : Nat) (e : IE) (s : Nat) : T AObj → Nat → List AVal → Option (T AObj)
  | h, _, [] => some h
  | h, c, v :: l =>
    match storeE1 C h i e s c v with
    | none => none
    | some h' => storeEN C i e s h' (c + 1) l
theorem storeEN_ok {C : Ctx} {P : Program} {ρ : Env} (hC : C.Ok P ρ) {B : Nat → Prop} {W : World} {f : Ren} {i : Nat} {L : Loc} (hf : f i = some L) {e : IE} {s c : Nat} (h0 : 0 ≤ e.ev ρ) :
    ∀ (l : List AVal) (k : Nat) (h h' : T AObj) (w : World) (cs : List Value), HRel ρ B W f h w → LRel ρ f l cs.toArray → storeEN C i e s h (c + k) l = some h' →
      ∃ w', (storeCells ⟨L.blk, L.base + ((e.ev ρ).toNat * s + c), none⟩ cs k).run P w = .ok () w' ∧ HRel ρ B W f h' w' := by
  intro l
  induction l with
  | nil =>
    intro k h h' w cs hr hl hs
    have : cs = [] := by have := hl.1; simpa using this
    subst this
    simp only [storeEN] at hs
    cases hs
    exact ⟨w, rfl, hr⟩
  | cons v l ih =>
    intro k h h' w cs hr hl hs
    simp only [storeEN] at hs
    split at hs
    · cases hs
    · rename_i h1 he
      cases cs with
      | nil => have := hl.1; simp at this
      | cons v' cs =>
        have hv : VRel ρ f v v' := hl.2 0 v v' (by simp) (by simp)
        obtain ⟨a, b⟩ := storeE1_ok (P := P) hC hr hf h0 hv he
        have hl' : LRel ρ f l cs.toArray := ⟨by have := hl.1; simp at this ⊢; exact this, fun j x x' hx hx' => hl.2 (j + 1) x x' (by simpa using hx) (by simpa using hx')⟩
        obtain ⟨w', c1, c2⟩ := ih (k + 1) h1 h' _ cs a hl' (by rw [← Nat.add_assoc]; exact hs)
        refine ⟨w', ?_, c2⟩
        have hadd : (⟨L.blk, L.base + ((e.ev ρ).toNat * s + c), none⟩ : Addr).add k = ⟨L.blk, L.base + ((e.ev ρ).toNat * s + (c + k)), none⟩ := by
          rw [addr_add, Nat.add_assoc, Nat.add_assoc]
        simp only [storeCells, Sem.run_bind, hadd, b, Result.andThen_ok]
        exact c1
def aStoreE (C : Ctx) (h : T AObj) (t : TypeId) (x v : AVal) : Option (T AObj) :=
  match x, C.size t with
  | .ptrE i e s c, some n =>
    match Nat.beq v.cells.length n with
    | true => storeEN C i e s h c v.cells
    | false => none
  | _, _ => none
theorem aStoreE_ok {C : Ctx} {P : Program} {ρ : Env} (hC : C.Ok P ρ) {B : Nat → Prop} {W w : World} {f : Ren} {h h' : T AObj} (hr : HRel ρ B W f h w) {t : TypeId} {x v : AVal} {x' v' : Value} (hx : VRel ρ f x x') (hv : VRel ρ f v v') (hs : aStoreE C h t x v = some h') :
    ∃ w', (Instr.storeAt t x' v').run P w = .ok () w' ∧ HRel ρ B W f h' w' := by
  unfold aStoreE at hs
  split at hs
  · rename_i i e s c n hn
    cases hx; rename_i L hf h0
    split at hs
    · rename_i hl
      have hl := Nat.eq_of_beq_eq_true hl
      have hc := LRel.cells hv
      have hsz : v'.cells.size = n := by rw [hc.1, hl]
      obtain ⟨w', h1, h2⟩ := storeEN_ok (P := P) hC hf h0 v.cells 0 h h' w v'.cells.toList hr (by simpa using hc) hs
      exact ⟨w', by simp only [Instr.storeAt, Instr.sureAddr, Sem.run_bind, Sem.run_pure, Result.andThen_ok, storeVar, Ctx.size_ok hC hn, hsz, ne_eq, not_true_eq_false, if_false]; exact h1, h2⟩
    · cases hs
  · cases hs
end
end Go.Sx
