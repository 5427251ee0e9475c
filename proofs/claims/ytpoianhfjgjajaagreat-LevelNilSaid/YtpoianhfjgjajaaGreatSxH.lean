/- append to a growing slice of unknown length. No condition. -/
import Derived.Test.YtpoianhfjgjajaaGreatSxG
set_option linter.unusedSimpArgs false
set_option linter.unusedVariables false
namespace Go.Sx
open Go.RowKit (Below)
noncomputable section
theorem andS {a b : Bool} (h : (a && b) = true) : a = true ∧ b = true := by
  cases a <;> cases b <;> first | exact ⟨rfl, rfl⟩ | cases h
/-- A number that the expression does not exceed. -/
def topD (C : Ctx) (len : IE) : Option Nat :=
  match rng C.bd len with
  | some (_, h) =>
    match optMin (narrow len C.dec).2 h with
    | some (.ofNat n) => some n
    | _ => none
  | none =>
    match (narrow len C.dec).2 with
    | some (.ofNat n) => some n
    | _ => none
theorem topD_ok {C : Ctx} {P : Program} {ρ : Env} (hC : C.Ok P ρ) {len : IE} {n : Nat} (h : topD C len = some n) : len.ev ρ ≤ n := by
  have hw := narrow_ok (ρ := ρ) len hC.dec
  unfold topD at h
  split at h
  · rename_i l hh hr
    split at h
    · rename_i m hm
      cases h
      exact optMin_ok hw.2 (rng_ok hC.bd _ _ _ hr).2 _ hm
    · cases h
  · split at h
    · rename_i m hm
      cases h
      exact hw.2 _ hm
    · cases h
/-- Integers of the kinds ks, over and over, put as digits from the one numbered off + j on. -/
def putD (ks : List IntKind) (bd : Bd) (off : IE) : Nat → List AVal → IE → Option IE
  | _, [], code => some code
  | j, v :: l, code =>
    match v with
    | .int k e =>
      match ks[Nat.mod j ks.length]? with
      | some k' =>
        match kindEq k k' && fits k (rng bd e) with
        | true => putD ks bd off (j + 1) l (mkFn 1 code (mkAdd off (.lit (.ofNat j))) e)
        | false => none
      | none => none
    | _ => none
theorem putD_ok {ρ : Env} {bd : Bd} (hρ : ρ.ok bd) {f : Ren} {ks : List IntKind} {off : IE} {o : Nat} (ho : off.ev ρ = o) : ∀ (l : List AVal) (j : Nat) (code code' : IE) (cs : List Value), LRel ρ f l cs.toArray → putD ks bd off j l code = some code' →
    (∀ i : Nat, (i < o + j ∨ o + j + l.length ≤ i) → rowGet (code'.ev ρ) i = rowGet (code.ev ρ) i) ∧
    ∀ (t : Nat) (v : Value), cs[t]? = some v → ∃ k, ks[(j + t) % ks.length]? = some k ∧ v = .int k (rowGet (code'.ev ρ) (o + j + t : Nat)) ∧ kLo k ≤ rowGet (code'.ev ρ) (o + j + t : Nat) ∧ rowGet (code'.ev ρ) (o + j + t : Nat) ≤ kHi k := by
  intro l
  induction l with
  | nil =>
    intro j code code' cs hr h
    cases h
    have : cs = [] := by have := hr.1; simpa using this
    subst this
    exact ⟨fun i _ => rfl, fun t v hv => by simp at hv⟩
  | cons v l ih =>
    intro j code code' cs hr h
    unfold putD at h
    split at h
    · rename_i k e
      split at h
      · rename_i k' hk
        split at h
        · rename_i hc
          obtain ⟨h1, h2⟩ := andS hc
          have h1 := kindEq_eq h1
          subst h1
          have hb := fits_ok hρ h2
          have hl := hr.1
          obtain ⟨u, cs, rfl⟩ : ∃ u cs', cs = u :: cs' := by
            cases cs with
            | nil => simp at hl
            | cons u cs => exact ⟨u, cs, rfl⟩
          have hu : u = .int k (e.ev ρ) := by
            have := hr.2 0 (.int k e) u rfl rfl
            cases this; rfl
          have hr' : LRel ρ f l cs.toArray := by
            refine ⟨by simpa using hl, fun i w w' hw hw' => hr.2 (i + 1) w w' (by simpa using hw) (by simpa using hw')⟩
          obtain ⟨q1, q2⟩ := ih (j + 1) _ code' cs hr' h
          have hset : (mkFn 1 code (mkAdd off (.lit (.ofNat j))) e).ev ρ = rowSet (code.ev ρ) ((o + j : Nat) : Int) (e.ev ρ) := by
            rw [mkFn_ev, mkAdd_ev, ho]
            rfl
          have here : rowGet (code'.ev ρ) (o + j : Nat) = e.ev ρ := by
            rw [q1 (o + j) (.inl (by omega)), hset, rowGet_set_of _ _ _ _ hb.1 hb.2, if_pos rfl]
          refine ⟨fun i hi => ?_, fun t w hw => ?_⟩
          · simp only [List.length_cons] at hi
            rw [q1 i (by omega), hset, rowGet_set_of _ _ _ _ hb.1 hb.2, if_neg (by omega)]
          · cases t with
            | zero =>
              have hw : u = w := by simpa using hw
              subst hw
              rw [Nat.add_zero, Nat.add_zero, here]
              exact ⟨k, hk, hu, hb.1, hb.2⟩
            | succ t =>
              have := q2 t w (by simpa using hw)
              rw [show j + 1 + t = j + (t + 1) by omega, show o + (j + 1) + t = o + j + (t + 1) by omega] at this
              exact this
        · cases h
      · cases h
    · cases h
theorem putD_length {ks : List IntKind} {bd : Bd} {off : IE} : ∀ (l : List AVal) (j : Nat) (code code' : IE), putD ks bd off j l code = some code' → l = [] ∨ 0 < ks.length := by
  intro l j code code' h
  cases l with
  | nil => exact .inl rfl
  | cons v l =>
    right
    unfold putD at h
    split at h
    · split at h
      · rename_i hk
        have := (List.getElem?_eq_some_iff.1 hk).1
        omega
      · cases h
    · cases h

def aAppendA (C : Ctx) (h : T AObj) (nx : Nat) (t xt : TypeId) (s x : AVal) : Option (AVal × T AObj × Nat) :=
  match C.und t, C.und xt with
  | some (.slice e), some xd =>
    match takesCells xd with
    | false => none
    | true =>
      match s with
      | .sliceA i len sz' =>
        match C.size e, C.bytes e, aLenOf x, aZero C e, h.get i, topD C len with
        | some sz, some by_, some m, some z, some (.arr ks code n true), some top =>
          match aFirst h sz m x with
          | none => none
          | some l =>
            match allOne l && (Nat.beq sz sz' && (Nat.beq sz ks.length && (Nat.beq z.cells.length sz && (Nat.beq l.length (m * sz) && (Nat.ble 1 sz && (Nat.ble (top + m) 1073741824 && Nat.ble by_ 4096)))))), settle C.dec (mkLt C.bd n len), putD ks C.bd (mkMul len (.lit (.ofNat sz))) 0 l code with
            | true, some false, some code' => some (.sliceA nx (mkAdd len (.lit (.ofNat m))) sz, (h.del i).set nx (.arr ks code' (mkAdd len (.lit (.ofNat m))) true), nx + 1)
            | _, _, _ => none
        | _, _, _, _, _, _ => none
      | _ => none
  | _, _ => none
theorem aAppendA_ok {C : Ctx} {P : Program} {ρ : Env} (hC : C.Ok P ρ) {B : Nat → Prop} {W w : World} {f : Ren} {h h' : T AObj} (hr : HRel ρ B W f h w) {nx nx' : Nat} (hfr : ∀ j, nx ≤ j → j < nx' → f j = none) {t xt ty : TypeId} {s x v : AVal} {s' x' : Value} (hs : VRel ρ f s s') (hx : VRel ρ f x x') (ha : aAppendA C h nx t xt s x = some (v, h', nx'))
    (ts : Array TypeId) (xs : Array Value) (hts0 : ts[0]? = some t) (hts1 : ts[1]? = some xt) (hx0 : xs[0]? = some s') (hx1 : xs[1]? = some x') :
    ∃ f' w' v', (Builtin.append_ ts ty xs).run P w = .ok v' w' ∧ f.le f' ∧ (∀ j, (j < nx ∨ nx' ≤ j) → f' j = f j) ∧ HRel ρ B W f' h' w' ∧ VRel ρ f' v v' := by
  have hbs := hr.bsize
  have hws := hr.below.size
  unfold aAppendA at ha
  split at ha
  · rename_i e xd hut hux
    have ht := Ctx.und_ok hC hut
    have hxt := Ctx.und_ok hC hux
    split at ha
    · cases ha
    · rename_i hxd
      split at ha
      · rename_i i len sz'
        split at ha
        · rename_i sz by_ m z ks code n top hsz hby hm hz hg htop
          obtain ⟨z', -, hz2, it, hit, hzz⟩ := aZero_ok hC (f := f) hz w
          have hlen := aLenOf_ok (P := P) hx hm w
          split at ha
          · cases ha
          · rename_i l hl
            obtain ⟨new, q0, q2⟩ := aFirst_ok (P := P) hr hx ⟨m, hm, Nat.le_refl _⟩ hl
            split at ha
            · rename_i code' hc hle hput
              obtain ⟨g1, hc⟩ := andS hc
              obtain ⟨g2, hc⟩ := andS hc
              obtain ⟨g3, hc⟩ := andS hc
              obtain ⟨g4, hc⟩ := andS hc
              obtain ⟨g5, hc⟩ := andS hc
              obtain ⟨g6, hc⟩ := andS hc
              obtain ⟨g7, g8⟩ := andS hc
              replace g2 := Nat.eq_of_beq_eq_true g2
              replace g3 := Nat.eq_of_beq_eq_true g3
              replace g4 := Nat.eq_of_beq_eq_true g4
              replace g5 := Nat.eq_of_beq_eq_true g5
              replace g6 := Nat.le_of_ble_eq_true g6
              replace g7 := Nat.le_of_ble_eq_true g7
              replace g8 := Nat.le_of_ble_eq_true g8
              subst g2
              cases ha
              have htl := topD_ok hC htop
              have hln := settle_ok hC.dec _ _ hle
              rw [mkLt_ev hC.bd] at hln
              have hln := of_decide_eq_false hln
              have hone := allOne_ok l new g1 q2
              have hnl : new.length = m * sz := by have := q2.1; simp at this; omega
              have hzs : z'.cells.size = sz := by rw [(LRel.cells hz2).1]; exact g4
              have hnone : f nx = none := hfr nx (Nat.le_refl _) (by omega)
              have hlev : ∀ k : Nat, len.ev ρ = k → (mkAdd len (.lit (.ofNat m))).ev ρ = ((k + m : Nat) : Int) := fun k hk => by
                rw [mkAdd_ev, hk]; rfl
              have hoff : ∀ k : Nat, len.ev ρ = k → (mkMul len (.lit (.ofNat sz))).ev ρ = ((k * sz : Nat) : Int) := fun k hk => by
                rw [mkMul_ev, hk]; rfl
              -- the digits
              have digits : ∀ (k : Nat), len.ev ρ = k → ∀ (cs : Array Value) (b0 : Nat), (∀ j c kk, j < k → ks[c]? = some kk → cs[b0 + (j * ks.length + c)]? = some (.int kk (rowGet (code.ev ρ) (j * ks.length + c : Nat))) ∧ kLo kk ≤ rowGet (code.ev ρ) (j * ks.length + c : Nat) ∧ rowGet (code.ev ρ) (j * ks.length + c : Nat) ≤ kHi kk) →
                  (∀ t u, new[t]? = some u → cs[b0 + (k * sz + t)]? = some u) → ∀ (j c : Nat) (kk : IntKind), (j : Int) < (mkAdd len (.lit (.ofNat m))).ev ρ → ks[c]? = some kk → cs[b0 + (j * ks.length + c)]? = some (.int kk (rowGet (code'.ev ρ) (j * ks.length + c : Nat))) ∧ kLo kk ≤ rowGet (code'.ev ρ) (j * ks.length + c : Nat) ∧ rowGet (code'.ev ρ) (j * ks.length + c : Nat) ≤ kHi kk := by
                intro k hk cs b0 hold hnew j c kk hj hkk
                rw [hlev k hk] at hj
                obtain ⟨d1, d2⟩ := putD_ok hC.bd (hoff k hk) l 0 code code' new q2 hput
                have hcl : c < ks.length := (List.getElem?_eq_some_iff.1 hkk).1
                by_cases hjk : j < k
                · have hlt : j * ks.length + c < k * sz := by
                    have : (j + 1) * ks.length ≤ k * ks.length := Nat.mul_le_mul_right _ hjk
                    rw [Nat.add_mul] at this
                    rw [g3]; omega
                  rw [d1 _ (.inl (by omega))]
                  exact hold j c kk hjk hkk
                · obtain ⟨d, rfl⟩ : ∃ d, j = k + d := ⟨j - k, by omega⟩
                  have hdm : d < m := by omega
                  have hlt : d * sz + c < m * sz := by
                    have : (d + 1) * sz ≤ m * sz := Nat.mul_le_mul_right _ hdm
                    rw [Nat.add_mul] at this
                    omega
                  have heq : (k + d) * ks.length + c = k * sz + 0 + (d * sz + c) := by rw [← g3, Nat.add_mul]; omega
                  obtain ⟨u, hu⟩ : ∃ u, new[d * sz + c]? = some u := ⟨_, List.getElem?_eq_getElem (by omega)⟩
                  obtain ⟨k2, e1, e2, e3, e4⟩ := d2 _ u hu
                  have hmod : (0 + (d * sz + c)) % ks.length = c := by
                    rw [Nat.zero_add, g3, Nat.mul_comm, Nat.mul_add_mod, Nat.mod_eq_of_lt hcl]
                  rw [hmod, hkk] at e1
                  cases e1
                  rw [heq]
                  refine ⟨?_, e3, e4⟩
                  rw [← e2, Nat.add_zero]
                  exact hnew _ u hu
              -- a new block
              have grow : ∀ (k c' : Nat) (base : Option Addr) (oldc : List Value), len.ev ρ = k → s' = .slice base k c' → ¬ k + m ≤ c' → (∀ d, (Builtin.firstCells sz k (.slice base k c')).run P { w with drawn := d } = .ok oldc.toArray { w with drawn := d }) → oldc.length = k * sz →
                  (∀ j c kk, j < k → ks[c]? = some kk → oldc[j * ks.length + c]? = some (.int kk (rowGet (code.ev ρ) (j * ks.length + c : Nat))) ∧ kLo kk ≤ rowGet (code.ev ρ) (j * ks.length + c : Nat) ∧ rowGet (code.ev ρ) (j * ks.length + c : Nat) ≤ kHi kk) →
                  ∃ f' w' v', (Builtin.append_ ts ty xs).run P w = .ok v' w' ∧ f.le f' ∧ (∀ j, (j < nx ∨ nx + 1 ≤ j) → f' j = f j) ∧ HRel ρ B W f' ((h.del i).set nx (.arr ks code' (mkAdd len (.lit (.ofNat m))) true)) w' ∧ VRel ρ f' (.sliceA nx (mkAdd len (.lit (.ofNat m))) sz) v' := by
                intro k c' base oldc hk hs' hgt p0 hol hold
                rw [hs'] at hx0
                obtain ⟨newCap, hcap, hrun⟩ := append_grows hC (ty := ty) ht hxt hxd hsz hby hit hzz hlen p0 q0 (by omega) g8 hgt ts xs hts0 hts1 hx0 hx1
                have hsize : newCap * sz = (oldc.toArray ++ new.toArray ++ Builtin.zeroCells z'.cells (newCap - (k + m))).size := by
                  simp only [Array.size_append, List.size_toArray, size_zeroCells, hzs, hol, hnl]
                  rw [← Nat.add_mul, ← Nat.add_mul]
                  congr 1; omega
                refine ⟨f.put nx ⟨w.heap.size, 0, (oldc.toArray ++ new.toArray ++ Builtin.zeroCells z'.cells (newCap - (k + m))).size⟩, _, _, hrun, Ren.le_put _ hnone, fun j hj => Ren.put_other f _ (by omega), ?_, ?_⟩
                · refine hr.newG hnone (o := .arr ks code' (mkAdd len (.lit (.ofNat m))) true) (O := .cells (oldc.toArray ++ new.toArray ++ Builtin.zeroCells z'.cells (newCap - (k + m))) e) rfl ⟨rfl, rfl, rfl⟩ rfl ?_ (fun _ h => h) (fun j y hy => ?_)
                  · refine ⟨_, e, (0, 0), by simp, rfl, fun _ => ⟨hr.fresh (Nat.le_refl _), fun j _ => by simp⟩, ?_⟩
                    refine digits k hk (oldc.toArray ++ new.toArray ++ Builtin.zeroCells z'.cells (newCap - (k + m))) 0 (fun j c kk hj hkk => ?_) (fun t u hu => ?_)
                    · obtain ⟨a1, a2⟩ := hold j c kk hj hkk
                      refine ⟨?_, a2⟩
                      have hlt := (List.getElem?_eq_some_iff.1 a1).1
                      rw [Nat.zero_add, Array.append_assoc, Array.getElem?_append_left (by simpa using hlt)]
                      simpa using a1
                    · have hlt := (List.getElem?_eq_some_iff.1 hu).1
                      rw [Nat.zero_add, Array.append_assoc, Array.getElem?_append_right (by simp; omega), Array.getElem?_append_left (by simp [hol]; omega)]
                      simp only [List.size_toArray, hol, Nat.add_sub_cancel_left]
                      simpa using hu
                  · rcases T.get_set hy with ⟨e1, e2⟩ | ⟨e1, e2⟩
                    · exact .inl ⟨e1, e2.symm⟩
                    · exact .inr ⟨e1, (T.get_del e2).2⟩
                · have hv := VRel.sliceA (ρ := ρ) (f := f.put nx ⟨w.heap.size, 0, (oldc.toArray ++ new.toArray ++ Builtin.zeroCells z'.cells (newCap - (k + m))).size⟩) (i := nx) (s := sz) (len := mkAdd len (.lit (.ofNat m))) (c := newCap) (Ren.put_same f nx _) (by rw [hlev k hk]; omega) (by rw [hlev k hk, Int.toNat_natCast]; exact hcap) (by simp only [Nat.zero_add]; exact Nat.le_of_eq hsize)
                  rw [hlev k hk, Int.toNat_natCast] at hv
                  exact hv
              cases hs with
              | sliceA hf h0 hcap hcs =>
                rename_i c' L
                obtain ⟨k, hk⟩ := Int.eq_ofNat_of_zero_le h0
                have hkn : (len.ev ρ).toNat = k := by rw [hk]; rfl
                rw [hkn] at hcap
                obtain ⟨cs, el, fr, k1, k2, k3, k4⟩ := hr.obj i L _ hf hg
                obtain ⟨k3a, k3b⟩ := k3 rfl
                have hold : ∀ j c kk, j < k → ks[c]? = some kk → cs[L.base + (j * ks.length + c)]? = some (.int kk (rowGet (code.ev ρ) (j * ks.length + c : Nat))) ∧ kLo kk ≤ rowGet (code.ev ρ) (j * ks.length + c : Nat) ∧ rowGet (code.ev ρ) (j * ks.length + c : Nat) ≤ kHi kk := fun j c kk hj hkk => k4 j c kk (by omega) hkk
                have hkc : k * sz ≤ c' * sz := Nat.mul_le_mul_right _ hcap
                by_cases hroom : k + m ≤ c'
                · have hroom2 : (k + m) * sz ≤ c' * sz := Nat.mul_le_mul_right _ hroom
                  rw [Nat.add_mul] at hroom2
                  obtain ⟨w', cur', e1, e2, e3, e4, e5, e6, e7⟩ := run_storeRaw P L.blk el fr (L.base + k * sz) new 0 cs w k1 (by omega) (fun j hj => k3b j (by omega)) hone
                  rw [hkn] at hx0
                  refine ⟨f.put nx L, w', _, append_fits hC ht hxt hxd hsz hlen (q0 w.drawn) hroom (fun a ea => ?_) (fun ea => by cases ea) ts xs hts0 hts1 hx0 hx1, Ren.le_put _ hnone, fun j hj => Ren.put_other f _ (by omega), ?_, ?_⟩
                  · cases ea
                    rw [addr_add]
                    exact e1
                  · refine hr.inPlace hf hg rfl k3a hnone (L' := L) rfl (fun _ => Iff.rfl) (fun _ => Iff.rfl) ?_ e5 e6 e7
                    refine ⟨cur', el, fr, e2, by rw [e3]; exact k2, fun _ => ⟨k3a, k3b⟩, ?_⟩
                    refine digits k hk cur' L.base (fun j c kk hj hkk => ?_) (fun t u hu => ?_)
                    · obtain ⟨a1, a2⟩ := hold j c kk hj hkk
                      refine ⟨?_, a2⟩
                      have hcl : c < ks.length := (List.getElem?_eq_some_iff.1 hkk).1
                      have hlt : j * ks.length + c < k * sz := by
                        have : (j + 1) * ks.length ≤ k * ks.length := Nat.mul_le_mul_right _ hj
                        rw [Nat.add_mul] at this
                        rw [g3]; omega
                      rw [e4, if_neg (by omega)]
                      exact a1
                    · have hlt := (List.getElem?_eq_some_iff.1 hu).1
                      rw [e4, if_pos (by omega), show L.base + (k * sz + t) - (L.base + k * sz + 0) = t by omega]
                      exact hu
                  · have hv := VRel.sliceA (ρ := ρ) (f := f.put nx L) (i := nx) (s := sz) (len := mkAdd len (.lit (.ofNat m))) (c := c') (Ren.put_same f nx _) (by rw [hlev k hk]; omega) (by rw [hlev k hk, Int.toNat_natCast]; exact hroom) hcs
                    rw [hlev k hk, Int.toNat_natCast] at hv
                    exact hv
                · have hol : (cs.extract L.base (L.base + k * sz)).toList.length = k * sz := by simp; omega
                  have hoc : ∀ j v', (cs.extract L.base (L.base + k * sz)).toList[j]? = some v' → cs[L.base + j]? = some v' := fun j v' hj => by
                    rw [Array.getElem?_toList, Array.getElem?_extract] at hj
                    split at hj
                    · exact hj
                    · cases hj
                  refine grow k c' _ (cs.extract L.base (L.base + k * sz)).toList hk (by rw [hkn]) hroom (fun d => ?_) hol (fun j c kk hj hkk => ?_)
                  · refine run_loadCells_at hol fun j v' hj => ?_
                    have := hoc j v' hj
                    simp only [World.cell?, k1]
                    simpa using this
                  · obtain ⟨a1, a2⟩ := hold j c kk hj hkk
                    refine ⟨?_, a2⟩
                    have hcl : c < ks.length := (List.getElem?_eq_some_iff.1 hkk).1
                    have hlt : j * ks.length + c < k * sz := by
                      have : (j + 1) * ks.length ≤ k * ks.length := Nat.mul_le_mul_right _ hj
                      rw [Nat.add_mul] at this
                      rw [g3]; omega
                    rw [Array.getElem?_toList, Array.getElem?_extract, if_pos (by omega)]
                    exact a1
              | sliceN hl0 =>
                rename_i base
                by_cases hm0 : m = 0
                · subst hm0
                  have hcs : new = [] := List.eq_nil_of_length_eq_zero (by omega)
                  subst hcs
                  refine ⟨f, w, _, append_fits hC ht hxt hxd hsz (n := 0) hlen (q0 w.drawn) (Nat.le_refl _) (fun a ea => rfl) (fun _ => rfl) ts xs hts0 hts1 hx0 hx1, Ren.le_refl f, fun _ _ => rfl, (hr.less (fun j o hj => (T.get_del hj).2)).extra hnone _, .sliceN (by rw [hlev 0 hl0]; rfl)⟩
                · refine grow 0 0 base [] hl0 rfl (by omega) (fun d => ?_) (by simp) (fun j c kk hj _ => by omega)
                  cases base with
                  | none => rfl
                  | some b =>
                    simp only [Builtin.firstCells, Nat.zero_mul]
                    exact run_loadCells_list _ b [] (fun j v hv => by simp at hv)
            · cases ha
        · cases ha
      · cases ha
  · cases ha
/-- append of m values to a growing slice: what the row behind must have. -/
theorem appendA_core {C : Ctx} {P : Program} {ρ : Env} (hC : C.Ok P ρ) {B : Nat → Prop} {W w : World} {f : Ren} {h : T AObj} (hr : HRel ρ B W f h w) {nx : Nat} (hnone : f nx = none) {t xt ty e : TypeId} {xd : TypeDesc} (ht : P.underlying t = some (.slice e)) (hxt : P.underlying xt = some xd) (hxd : takesCells xd = true)
    {i sz by_ : Nat} {len n code : IE} {ks : List IntKind} (hg : ∀ L, f i = some L → h.get i = some (.arr ks code n true)) (hsz : C.size e = some sz) (hby : C.bytes e = some by_) {z : AVal} (hz : aZero C e = some z) (g4 : z.cells.length = sz) (g3 : sz = ks.length) (g6 : 1 ≤ sz) (g8 : by_ ≤ 4096)
    {m : Nat} {s' x' : Value} (hlen : (Builtin.lenOf x').run P w = .ok m w) {new : List Value} (q0 : ∀ d, (Builtin.firstCells sz m x').run P { w with drawn := d } = .ok new.toArray { w with drawn := d }) (hnl : new.length = m * sz) (hone : ∀ v ∈ new, v.oneCell' = true)
    (hbig : ∀ k : Nat, len.ev ρ = k → k + m ≤ 1073741824) (hln : len.ev ρ ≤ n.ev ρ) {L' code' : IE} (hL' : L'.ev ρ = len.ev ρ + m)
    (hd1 : ∀ k : Nat, len.ev ρ = k → ∀ i : Nat, i < k * sz → rowGet (code'.ev ρ) i = rowGet (code.ev ρ) i)
    (hd2 : ∀ k : Nat, len.ev ρ = k → ∀ (t : Nat) (v : Value), new[t]? = some v → ∃ kk, ks[t % ks.length]? = some kk ∧ v = .int kk (rowGet (code'.ev ρ) (k * sz + t : Nat)) ∧ kLo kk ≤ rowGet (code'.ev ρ) (k * sz + t : Nat) ∧ rowGet (code'.ev ρ) (k * sz + t : Nat) ≤ kHi kk)
    (hs : VRel ρ f (.sliceA i len sz) s') (ts : Array TypeId) (xs : Array Value) (hts0 : ts[0]? = some t) (hts1 : ts[1]? = some xt) (hx0 : xs[0]? = some s') (hx1 : xs[1]? = some x') :
    ∃ f' w' v', (Builtin.append_ ts ty xs).run P w = .ok v' w' ∧ f.le f' ∧ (∀ j, (j < nx ∨ nx + 1 ≤ j) → f' j = f j) ∧ HRel ρ B W f' ((h.del i).set nx (.arr ks code' L' true)) w' ∧ VRel ρ f' (.sliceA nx L' sz) v' := by
  obtain ⟨z', -, hz2, it, hit, hzz⟩ := aZero_ok hC (f := f) hz w
  have hzs : z'.cells.size = sz := by rw [(LRel.cells hz2).1]; exact g4
  have hlev : ∀ k : Nat, len.ev ρ = k → L'.ev ρ = ((k + m : Nat) : Int) := fun k hk => by rw [hL', hk]; rfl
  have digits : ∀ (k : Nat), len.ev ρ = k → ∀ (cs : Array Value) (b0 : Nat), (∀ j c kk, j < k → ks[c]? = some kk → cs[b0 + (j * ks.length + c)]? = some (.int kk (rowGet (code.ev ρ) (j * ks.length + c : Nat))) ∧ kLo kk ≤ rowGet (code.ev ρ) (j * ks.length + c : Nat) ∧ rowGet (code.ev ρ) (j * ks.length + c : Nat) ≤ kHi kk) →
      (∀ t u, new[t]? = some u → cs[b0 + (k * sz + t)]? = some u) → ∀ (j c : Nat) (kk : IntKind), (j : Int) < L'.ev ρ → ks[c]? = some kk → cs[b0 + (j * ks.length + c)]? = some (.int kk (rowGet (code'.ev ρ) (j * ks.length + c : Nat))) ∧ kLo kk ≤ rowGet (code'.ev ρ) (j * ks.length + c : Nat) ∧ rowGet (code'.ev ρ) (j * ks.length + c : Nat) ≤ kHi kk := by
    intro k hk cs b0 hold hnew j c kk hj hkk
    rw [hlev k hk] at hj
    have hcl : c < ks.length := (List.getElem?_eq_some_iff.1 hkk).1
    by_cases hjk : j < k
    · have hlt : j * ks.length + c < k * sz := by
        have : (j + 1) * ks.length ≤ k * ks.length := Nat.mul_le_mul_right _ hjk
        rw [Nat.add_mul] at this
        rw [g3]; omega
      rw [hd1 k hk _ hlt]
      exact hold j c kk hjk hkk
    · obtain ⟨d, rfl⟩ : ∃ d, j = k + d := ⟨j - k, by omega⟩
      have hdm : d < m := by omega
      have hlt : d * sz + c < m * sz := by
        have : (d + 1) * sz ≤ m * sz := Nat.mul_le_mul_right _ hdm
        rw [Nat.add_mul] at this
        omega
      have heq : (k + d) * ks.length + c = k * sz + (d * sz + c) := by rw [← g3, Nat.add_mul]; omega
      obtain ⟨u, hu⟩ : ∃ u, new[d * sz + c]? = some u := ⟨_, List.getElem?_eq_getElem (by omega)⟩
      obtain ⟨k2, e1, e2, e3, e4⟩ := hd2 k hk _ u hu
      have hmod : (d * sz + c) % ks.length = c := by
        rw [g3, Nat.mul_comm, Nat.mul_add_mod, Nat.mod_eq_of_lt hcl]
      rw [hmod, hkk] at e1
      cases e1
      rw [heq]
      refine ⟨?_, e3, e4⟩
      rw [← e2]
      exact hnew _ u hu
  have grow : ∀ (k c' : Nat) (base : Option Addr) (oldc : List Value), len.ev ρ = k → s' = .slice base k c' → ¬ k + m ≤ c' → (∀ d, (Builtin.firstCells sz k (.slice base k c')).run P { w with drawn := d } = .ok oldc.toArray { w with drawn := d }) → oldc.length = k * sz →
      (∀ j c kk, j < k → ks[c]? = some kk → oldc[j * ks.length + c]? = some (.int kk (rowGet (code.ev ρ) (j * ks.length + c : Nat))) ∧ kLo kk ≤ rowGet (code.ev ρ) (j * ks.length + c : Nat) ∧ rowGet (code.ev ρ) (j * ks.length + c : Nat) ≤ kHi kk) →
      ∃ f' w' v', (Builtin.append_ ts ty xs).run P w = .ok v' w' ∧ f.le f' ∧ (∀ j, (j < nx ∨ nx + 1 ≤ j) → f' j = f j) ∧ HRel ρ B W f' ((h.del i).set nx (.arr ks code' L' true)) w' ∧ VRel ρ f' (.sliceA nx L' sz) v' := by
    intro k c' base oldc hk hs' hgt p0 hol hold
    rw [hs'] at hx0
    obtain ⟨newCap, hcap, hrun⟩ := append_grows hC (ty := ty) ht hxt hxd hsz hby hit hzz hlen p0 q0 (hbig k hk) g8 hgt ts xs hts0 hts1 hx0 hx1
    have hsize : newCap * sz = (oldc.toArray ++ new.toArray ++ Builtin.zeroCells z'.cells (newCap - (k + m))).size := by
      simp only [Array.size_append, List.size_toArray, size_zeroCells, hzs, hol, hnl]
      rw [← Nat.add_mul, ← Nat.add_mul]
      congr 1; omega
    refine ⟨f.put nx ⟨w.heap.size, 0, (oldc.toArray ++ new.toArray ++ Builtin.zeroCells z'.cells (newCap - (k + m))).size⟩, _, _, hrun, Ren.le_put _ hnone, fun j hj => Ren.put_other f _ (by omega), ?_, ?_⟩
    · refine hr.newG hnone (o := .arr ks code' L' true) (O := .cells (oldc.toArray ++ new.toArray ++ Builtin.zeroCells z'.cells (newCap - (k + m))) e) rfl ⟨rfl, rfl, rfl⟩ rfl ?_ (fun _ h => h) (fun j y hy => ?_)
      · refine ⟨_, e, (0, 0), by simp, rfl, fun _ => ⟨hr.fresh (Nat.le_refl _), fun j _ => by simp⟩, ?_⟩
        refine digits k hk (oldc.toArray ++ new.toArray ++ Builtin.zeroCells z'.cells (newCap - (k + m))) 0 (fun j c kk hj hkk => ?_) (fun t u hu => ?_)
        · obtain ⟨a1, a2⟩ := hold j c kk hj hkk
          refine ⟨?_, a2⟩
          have hlt := (List.getElem?_eq_some_iff.1 a1).1
          rw [Nat.zero_add, Array.append_assoc, Array.getElem?_append_left (by simpa using hlt)]
          simpa using a1
        · have hlt := (List.getElem?_eq_some_iff.1 hu).1
          rw [Nat.zero_add, Array.append_assoc, Array.getElem?_append_right (by simp; omega), Array.getElem?_append_left (by simp [hol]; omega)]
          simp only [List.size_toArray, hol, Nat.add_sub_cancel_left]
          simpa using hu
      · rcases T.get_set hy with ⟨e1, e2⟩ | ⟨e1, e2⟩
        · exact .inl ⟨e1, e2.symm⟩
        · exact .inr ⟨e1, (T.get_del e2).2⟩
    · have hv := VRel.sliceA (ρ := ρ) (f := f.put nx ⟨w.heap.size, 0, (oldc.toArray ++ new.toArray ++ Builtin.zeroCells z'.cells (newCap - (k + m))).size⟩) (i := nx) (s := sz) (len := L') (c := newCap) (Ren.put_same f nx _) (by rw [hlev k hk]; omega) (by rw [hlev k hk, Int.toNat_natCast]; exact hcap) (by simp only [Nat.zero_add]; exact Nat.le_of_eq hsize)
      rw [hlev k hk, Int.toNat_natCast] at hv
      exact hv
  cases hs with
  | sliceA hf h0 hcap hcs =>
    rename_i c' L
    have hg := hg L hf
    obtain ⟨k, hk⟩ := Int.eq_ofNat_of_zero_le h0
    have hkn : (len.ev ρ).toNat = k := by rw [hk]; rfl
    rw [hkn] at hcap
    obtain ⟨cs, el, fr, k1, k2, k3, k4⟩ := hr.obj i L _ hf hg
    obtain ⟨k3a, k3b⟩ := k3 rfl
    have hold : ∀ j c kk, j < k → ks[c]? = some kk → cs[L.base + (j * ks.length + c)]? = some (.int kk (rowGet (code.ev ρ) (j * ks.length + c : Nat))) ∧ kLo kk ≤ rowGet (code.ev ρ) (j * ks.length + c : Nat) ∧ rowGet (code.ev ρ) (j * ks.length + c : Nat) ≤ kHi kk := fun j c kk hj hkk => k4 j c kk (by omega) hkk
    have hkc : k * sz ≤ c' * sz := Nat.mul_le_mul_right _ hcap
    by_cases hroom : k + m ≤ c'
    · have hroom2 : (k + m) * sz ≤ c' * sz := Nat.mul_le_mul_right _ hroom
      rw [Nat.add_mul] at hroom2
      obtain ⟨w', cur', e1, e2, e3, e4, e5, e6, e7⟩ := run_storeRaw P L.blk el fr (L.base + k * sz) new 0 cs w k1 (by omega) (fun j hj => k3b j (by omega)) hone
      rw [hkn] at hx0
      refine ⟨f.put nx L, w', _, append_fits hC ht hxt hxd hsz hlen (q0 w.drawn) hroom (fun a ea => ?_) (fun ea => by cases ea) ts xs hts0 hts1 hx0 hx1, Ren.le_put _ hnone, fun j hj => Ren.put_other f _ (by omega), ?_, ?_⟩
      · cases ea
        rw [addr_add]
        exact e1
      · refine hr.inPlace hf hg rfl k3a hnone (L' := L) rfl (fun _ => Iff.rfl) (fun _ => Iff.rfl) ?_ e5 e6 e7
        refine ⟨cur', el, fr, e2, by rw [e3]; exact k2, fun _ => ⟨k3a, k3b⟩, ?_⟩
        refine digits k hk cur' L.base (fun j c kk hj hkk => ?_) (fun t u hu => ?_)
        · obtain ⟨a1, a2⟩ := hold j c kk hj hkk
          refine ⟨?_, a2⟩
          have hcl : c < ks.length := (List.getElem?_eq_some_iff.1 hkk).1
          have hlt : j * ks.length + c < k * sz := by
            have : (j + 1) * ks.length ≤ k * ks.length := Nat.mul_le_mul_right _ hj
            rw [Nat.add_mul] at this
            rw [g3]; omega
          rw [e4, if_neg (by omega)]
          exact a1
        · have hlt := (List.getElem?_eq_some_iff.1 hu).1
          rw [e4, if_pos (by omega), show L.base + (k * sz + t) - (L.base + k * sz + 0) = t by omega]
          exact hu
      · have hv := VRel.sliceA (ρ := ρ) (f := f.put nx L) (i := nx) (s := sz) (len := L') (c := c') (Ren.put_same f nx _) (by rw [hlev k hk]; omega) (by rw [hlev k hk, Int.toNat_natCast]; exact hroom) hcs
        rw [hlev k hk, Int.toNat_natCast] at hv
        exact hv
    · have hol : (cs.extract L.base (L.base + k * sz)).toList.length = k * sz := by simp; omega
      have hoc : ∀ j v', (cs.extract L.base (L.base + k * sz)).toList[j]? = some v' → cs[L.base + j]? = some v' := fun j v' hj => by
        rw [Array.getElem?_toList, Array.getElem?_extract] at hj
        split at hj
        · exact hj
        · cases hj
      refine grow k c' _ (cs.extract L.base (L.base + k * sz)).toList hk (by rw [hkn]) hroom (fun d => ?_) hol (fun j c kk hj hkk => ?_)
      · refine run_loadCells_at hol fun j v' hj => ?_
        have := hoc j v' hj
        simp only [World.cell?, k1]
        simpa using this
      · obtain ⟨a1, a2⟩ := hold j c kk hj hkk
        refine ⟨?_, a2⟩
        have hcl : c < ks.length := (List.getElem?_eq_some_iff.1 hkk).1
        have hlt : j * ks.length + c < k * sz := by
          have : (j + 1) * ks.length ≤ k * ks.length := Nat.mul_le_mul_right _ hj
          rw [Nat.add_mul] at this
          rw [g3]; omega
        rw [Array.getElem?_toList, Array.getElem?_extract, if_pos (by omega)]
        exact a1
  | sliceN hl0 =>
    rename_i base
    by_cases hm0 : m = 0
    · subst hm0
      have hcs : new = [] := List.eq_nil_of_length_eq_zero (by omega)
      subst hcs
      refine ⟨f, w, _, append_fits hC ht hxt hxd hsz (n := 0) hlen (q0 w.drawn) (Nat.le_refl _) (fun a ea => rfl) (fun _ => rfl) ts xs hts0 hts1 hx0 hx1, Ren.le_refl f, fun _ _ => rfl, (hr.less (fun j o hj => (T.get_del hj).2)).extra hnone _, .sliceN (by rw [hlev 0 hl0]; rfl)⟩
    · refine grow 0 0 base [] hl0 rfl (by omega) (fun d => ?_) (by simp) (fun j c kk hj _ => by omega)
      cases base with
      | none => rfl
      | some b =>
        simp only [Builtin.firstCells, Nat.zero_mul]
        exact run_loadCells_list _ b [] (fun j v hv => by simp at hv)
/-- append of a part of a row. -/
def aAppendS (C : Ctx) (h : T AObj) (nx : Nat) (t xt : TypeId) (s x : AVal) : Option (AVal × T AObj × Nat) :=
  match C.und t, C.und xt with
  | some (.slice e), some xd =>
    match takesCells xd with
    | false => none
    | true =>
      match x with
      | .sliceS j st len2 sz2 _ =>
        match C.size e, C.bytes e, aZero C e, h.get j, topD C len2 with
        | some sz, some by_, some z, some (.arr ks2 code2 n2 _), some top2 =>
          match Nat.beq sz sz2 && (Nat.beq sz ks2.length && (Nat.beq z.cells.length sz && (Nat.ble 1 sz && Nat.ble by_ 4096))), settle C.dec (mkLt C.bd n2 (mkAdd st len2)), settle C.dec (mkLt C.bd len2 (.lit 0)), settle C.dec (mkLt C.bd st (.lit 0)) with
          | true, some false, some false, some false =>
            match s with
            | .sliceA i len sz' =>
              match h.get i, topD C len with
              | some (.arr ks code n true), some top =>
                match Nat.beq sz sz' && (kindsSame ks ks2 && Nat.ble (top + top2) 1073741824), settle C.dec (mkLt C.bd n len), settle C.dec (mkLt C.bd len (.lit 0)) with
                | true, some false, some false => some (.sliceA nx (mkAdd len len2) sz, (h.del i).set nx (.arr ks (mkFn 3 (mkFn 2 code (.lit 0) (mkMul len (.lit (.ofNat sz)))) (mkMul len (.lit (.ofNat sz))) (mkFn 2 code2 (mkMul st (.lit (.ofNat sz))) (mkMul len2 (.lit (.ofNat sz))))) (mkAdd len len2) true), nx + 1)
                | _, _, _ => none
              | _, _ => none
            | .slice none 0 0 0 =>
              match Nat.ble top2 1073741824 with
              | true => some (.sliceA nx len2 sz, (h.del nx).set nx (.arr ks2 (mkFn 2 code2 (mkMul st (.lit (.ofNat sz))) (mkMul len2 (.lit (.ofNat sz)))) len2 true), nx + 1)
              | false => none
            | _ => none
          | _, _, _, _ => none
        | _, _, _, _, _ => none
      | _ => none
  | _, _ => none
/-- The values of a part of a row. -/
def partV (ks : List IntKind) (code : Int) (o n : Nat) : List Value := (List.range n).map fun t => .int (ks.getD (t % ks.length) .i8) (rowGet code (o + t : Nat))
theorem partV_ok {ρ : Env} {B : Nat → Prop} {W w : World} {f : Ren} {h : T AObj} (hr : HRel ρ B W f h w) {j sz : Nat} {st len : IE} {nn : Bool} {ks : List IntKind} {code n : IE} {own : Bool} {P : Program} (hg : h.get j = some (.arr ks code n own)) (hsz : sz = ks.length) (h1 : 1 ≤ sz) (h0 : 0 ≤ st.ev ρ) (hl : 0 ≤ len.ev ρ) (hn : st.ev ρ + len.ev ρ ≤ n.ev ρ) {x' : Value} (hx : VRel ρ f (.sliceS j st len sz nn) x') :
    (Builtin.lenOf x').run P w = .ok (len.ev ρ).toNat w ∧ (∀ d, (Builtin.firstCells sz (len.ev ρ).toNat x').run P { w with drawn := d } = .ok (partV ks (code.ev ρ) ((st.ev ρ).toNat * sz) ((len.ev ρ).toNat * sz)).toArray { w with drawn := d }) ∧
    (len.ev ρ ≠ 0 → ∀ t : Nat, t < (len.ev ρ).toNat * sz → ∃ kk, ks[t % ks.length]? = some kk ∧ kLo kk ≤ rowGet (code.ev ρ) ((st.ev ρ).toNat * sz + t : Nat) ∧ rowGet (code.ev ρ) ((st.ev ρ).toNat * sz + t : Nat) ≤ kHi kk) := by
  obtain ⟨a, ha⟩ := Int.eq_ofNat_of_zero_le h0
  obtain ⟨m, hm⟩ := Int.eq_ofNat_of_zero_le hl
  rw [ha, hm] at hn
  rw [ha, hm]
  simp only [Int.toNat_natCast]
  have empty : ∀ (b : Option Addr) (c : Nat), m = 0 → (∀ d, (Builtin.firstCells sz m (.slice b 0 c)).run P { w with drawn := d } = .ok (partV ks (code.ev ρ) (a * sz) (m * sz)).toArray { w with drawn := d }) := by
    intro b c hm0 d
    subst hm0
    have : partV ks (code.ev ρ) (a * sz) (0 * sz) = [] := by rw [Nat.zero_mul]; rfl
    rw [this]
    cases b with
    | none => rfl
    | some b =>
      simp only [Builtin.firstCells, Nat.zero_mul]
      exact run_loadCells_list _ b [] (fun j v hv => by simp at hv)
  cases hx with
  | sliceS hf p0 pl pc =>
    rename_i L c
    obtain ⟨cs, el, fr, k1, k2, k3, k4⟩ := hr.obj j L _ hf hg
    have e1 : (st.ev ρ).toNat = a := by rw [ha]; rfl
    have e2 : (len.ev ρ).toNat = m := by rw [hm]; rfl
    rw [e1, e2]
    have cell : ∀ t : Nat, t < m * sz → ∃ kk, ks[t % ks.length]? = some kk ∧ cs[L.base + (a * sz + t)]? = some (.int kk (rowGet (code.ev ρ) (a * sz + t : Nat))) ∧ kLo kk ≤ rowGet (code.ev ρ) (a * sz + t : Nat) ∧ rowGet (code.ev ρ) (a * sz + t : Nat) ≤ kHi kk := by
      intro t ht
      have hc : t % sz < ks.length := by rw [← hsz]; exact Nat.mod_lt _ h1
      have hq : t / sz < m := Nat.div_lt_of_lt_mul (by rw [Nat.mul_comm]; exact ht)
      obtain ⟨kk, hkk⟩ : ∃ kk, ks[t % sz]? = some kk := ⟨_, List.getElem?_eq_getElem hc⟩
      have := k4 (a + t / sz) (t % sz) kk (by omega) hkk
      have e3 : (a + t / sz) * ks.length + t % sz = a * sz + t := by
        rw [← hsz, Nat.add_mul]
        have := Nat.div_add_mod' t sz
        omega
      rw [e3] at this
      exact ⟨kk, by rw [← hsz]; exact hkk, this.1, this.2.1, this.2.2⟩
    refine ⟨rfl, fun d => ?_, fun _ t ht => ?_⟩
    · show (loadCells ⟨L.blk, L.base + a * sz, none⟩ (m * sz)).run P { w with drawn := d } = _
      refine run_loadCells_at (by simp [partV]) fun t v hv => ?_
      have ht : t < m * sz := by
        have := (List.getElem?_eq_some_iff.1 hv).1
        simpa [partV] using this
      obtain ⟨kk, q1, q2, _⟩ := cell t ht
      have hv : v = .int kk (rowGet (code.ev ρ) (a * sz + t : Nat)) := by
        unfold partV at hv
        rw [List.getElem?_map, List.getElem?_range ht] at hv
        simp only [Option.map_some, Option.some.injEq] at hv
        rw [← hv]
        simp [List.getD_eq_getElem?_getD, q1]
      rw [hv, Nat.add_assoc]
      simp only [World.cell?, k1]
      simpa using q2
    · obtain ⟨kk, q1, q2, q3⟩ := cell t ht
      exact ⟨kk, q1, q3⟩
  | sliceZ hz _ =>
    rename_i b c
    have hm0 : m = 0 := by rw [hm] at hz; omega
    refine ⟨by subst hm0; rfl, empty _ _ hm0, fun hne => absurd (show (m : Int) = 0 by omega) hne⟩
theorem partV_get {ks : List IntKind} {code : Int} {o n t : Nat} {v : Value} (h : (partV ks code o n)[t]? = some v) : t < n ∧ v = .int (ks.getD (t % ks.length) .i8) (rowGet code (o + t : Nat)) := by
  have ht : t < n := by
    have := (List.getElem?_eq_some_iff.1 h).1
    simpa [partV] using this
  unfold partV at h
  rw [List.getElem?_map, List.getElem?_range ht] at h
  exact ⟨ht, by simpa using h.symm⟩
theorem aAppendS_ok {C : Ctx} {P : Program} {ρ : Env} (hC : C.Ok P ρ) {B : Nat → Prop} {W w : World} {f : Ren} {h h' : T AObj} (hr : HRel ρ B W f h w) {nx nx' : Nat} (hfr : ∀ j, nx ≤ j → j < nx' → f j = none) {t xt ty : TypeId} {s x v : AVal} {s' x' : Value} (hs : VRel ρ f s s') (hx : VRel ρ f x x') (ha : aAppendS C h nx t xt s x = some (v, h', nx'))
    (ts : Array TypeId) (xs : Array Value) (hts0 : ts[0]? = some t) (hts1 : ts[1]? = some xt) (hx0 : xs[0]? = some s') (hx1 : xs[1]? = some x') :
    ∃ f' w' v', (Builtin.append_ ts ty xs).run P w = .ok v' w' ∧ f.le f' ∧ (∀ j, (j < nx ∨ nx' ≤ j) → f' j = f j) ∧ HRel ρ B W f' h' w' ∧ VRel ρ f' v v' := by
  unfold aAppendS at ha
  split at ha
  · rename_i e xd hut hux
    have ht := Ctx.und_ok hC hut
    have hxt := Ctx.und_ok hC hux
    split at ha
    · cases ha
    · rename_i hxd
      split at ha
      · rename_i j st len2 sz2 nn
        split at ha
        · rename_i sz by_ z ks2 code2 n2 own2 top2 hsz hby hz hg2 htop2
          split at ha
          · rename_i hc s1 s2 s3
            obtain ⟨g1, hc⟩ := andS hc
            obtain ⟨g2, hc⟩ := andS hc
            obtain ⟨g4, hc⟩ := andS hc
            obtain ⟨g6, g8⟩ := andS hc
            replace g1 := Nat.eq_of_beq_eq_true g1
            replace g2 := Nat.eq_of_beq_eq_true g2
            replace g4 := Nat.eq_of_beq_eq_true g4
            replace g6 := Nat.le_of_ble_eq_true g6
            replace g8 := Nat.le_of_ble_eq_true g8
            subst g1
            have b1 := settle_ok hC.dec _ _ s1
            have b2 := settle_ok hC.dec _ _ s2
            have b3 := settle_ok hC.dec _ _ s3
            rw [mkLt_ev hC.bd] at b1 b2 b3
            have b1 := of_decide_eq_false b1
            have b2 := of_decide_eq_false b2
            have b3 := of_decide_eq_false b3
            rw [mkAdd_ev] at b1
            have b2 : 0 ≤ len2.ev ρ := by have : ¬ len2.ev ρ < 0 := b2; omega
            have b3 : 0 ≤ st.ev ρ := by have : ¬ st.ev ρ < 0 := b3; omega
            obtain ⟨p1, p2, p3⟩ := partV_ok (P := P) hr hg2 g2 g6 b3 b2 (by omega) hx
            have ht2 := topD_ok hC htop2
            have one : ∀ v ∈ partV ks2 (code2.ev ρ) ((st.ev ρ).toNat * sz) ((len2.ev ρ).toNat * sz), v.oneCell' = true := fun v hv => by
              obtain ⟨i, hi⟩ := List.getElem?_of_mem hv
              rw [(partV_get hi).2]
              rfl
            have plen : (partV ks2 (code2.ev ρ) ((st.ev ρ).toNat * sz) ((len2.ev ρ).toNat * sz)).length = (len2.ev ρ).toNat * sz := by simp [partV]
            obtain ⟨q, hq⟩ := Int.eq_ofNat_of_zero_le b3
            obtain ⟨m, hm⟩ := Int.eq_ofNat_of_zero_le b2
            have em : (mkMul len2 (.lit (.ofNat sz))).ev ρ = ((m * sz : Nat) : Int) := by rw [mkMul_ev, hm]; rfl
            have eq : (mkMul st (.lit (.ofNat sz))).ev ρ = ((q * sz : Nat) : Int) := by rw [mkMul_ev, hq]; rfl
            have ecut : (mkFn 2 code2 (mkMul st (.lit (.ofNat sz))) (mkMul len2 (.lit (.ofNat sz)))).ev ρ = rowCut (code2.ev ρ) ((q * sz : Nat) : Int) ((m * sz : Nat) : Int) := by
              rw [mkFn_ev, em, eq]
              rfl
            have tm : (len2.ev ρ).toNat = m := by rw [hm]; rfl
            have tq : (st.ev ρ).toNat = q := by rw [hq]; rfl
            rw [tm, tq] at p2 p3 one plen
            rw [tm] at p1
            have kin : ∀ (t : Nat) (v : Value), (partV ks2 (code2.ev ρ) (q * sz) (m * sz))[t]? = some v → t < m * sz ∧ ∃ kk, ks2[t % ks2.length]? = some kk ∧ v = .int kk (rowGet (code2.ev ρ) (q * sz + t : Nat)) ∧ kLo kk ≤ rowGet (code2.ev ρ) (q * sz + t : Nat) ∧ rowGet (code2.ev ρ) (q * sz + t : Nat) ≤ kHi kk := by
              intro t v hv
              obtain ⟨h1, h2⟩ := partV_get hv
              have hne : len2.ev ρ ≠ 0 := by
                intro h0
                rw [hm] at h0
                have : m = 0 := by omega
                subst this
                omega
              obtain ⟨kk, a1, a2, a3⟩ := p3 hne t h1
              refine ⟨h1, kk, a1, ?_, a2, a3⟩
              rw [h2]
              simp [List.getD_eq_getElem?_getD, a1]
            split at ha
            · rename_i i len sz'
              split at ha
              · rename_i ks code n top hg htop
                split at ha
                · rename_i hc s4 s5
                  cases ha
                  obtain ⟨c1, hc⟩ := andS hc
                  obtain ⟨c2, c3⟩ := andS hc
                  replace c1 := Nat.eq_of_beq_eq_true c1
                  replace c2 := kindsSame_eq c2
                  replace c3 := Nat.le_of_ble_eq_true c3
                  subst c1
                  subst c2
                  have b4 := settle_ok hC.dec _ _ s4
                  have b5 := settle_ok hC.dec _ _ s5
                  rw [mkLt_ev hC.bd] at b4 b5
                  have b4 := of_decide_eq_false b4
                  have b5 := of_decide_eq_false b5
                  have b5 : 0 ≤ len.ev ρ := by have : ¬ len.ev ρ < 0 := b5; omega
                  have ht1 := topD_ok hC htop
                  obtain ⟨k, hk⟩ := Int.eq_ofNat_of_zero_le b5
                  have ek : (mkMul len (.lit (.ofNat sz))).ev ρ = ((k * sz : Nat) : Int) := by rw [mkMul_ev, hk]; rfl
                  have ecode : (mkFn 3 (mkFn 2 code (.lit 0) (mkMul len (.lit (.ofNat sz)))) (mkMul len (.lit (.ofNat sz))) (mkFn 2 code2 (mkMul st (.lit (.ofNat sz))) (mkMul len2 (.lit (.ofNat sz))))).ev ρ = rowCat (rowCut (code.ev ρ) ((0 : Nat) : Int) ((k * sz : Nat) : Int)) ((k * sz : Nat) : Int) (rowCut (code2.ev ρ) ((q * sz : Nat) : Int) ((m * sz : Nat) : Int)) := by
                    rw [mkFn_ev, ecut, ek, mkFn_ev, ek]
                    rfl
                  refine appendA_core hC hr (hfr nx (Nat.le_refl _) (by omega)) ht hxt hxd (fun _ _ => hg) hsz hby hz g4 g2 g6 g8 p1 p2 plen one (fun k' hk' => by rw [hk] at hk'; omega) (by omega) (by rw [mkAdd_ev, hm]) (fun k' hk' i' hi' => ?_) (fun k' hk' t v hv => ?_) hs ts xs hts0 hts1 hx0 hx1
                  · have : k = k' := by rw [hk] at hk'; omega
                    subst this
                    rw [ecode, rowGet_catLo _ _ _ _ hi', rowGet_cut _ _ _ _ hi', Nat.zero_add]
                  · have : k = k' := by rw [hk] at hk'; omega
                    subst this
                    obtain ⟨h1, kk, a1, a2, a3, a4⟩ := kin t v hv
                    have e9 : rowGet (rowCat (rowCut (code.ev ρ) ((0 : Nat) : Int) ((k * sz : Nat) : Int)) ((k * sz : Nat) : Int) (rowCut (code2.ev ρ) ((q * sz : Nat) : Int) ((m * sz : Nat) : Int))) (k * sz + t : Nat) = rowGet (code2.ev ρ) (q * sz + t : Nat) := by
                      rw [rowGet_catHi _ _ _ _ (rowCut_lt _ _ _) (Nat.le_add_right _ _), Nat.add_sub_cancel_left, rowGet_cut _ _ _ _ h1]
                    rw [ecode, e9]
                    exact ⟨kk, a1, a2, a3, a4⟩
                · cases ha
              · cases ha
            · split at ha
              · rename_i c3
                cases ha
                replace c3 := Nat.le_of_ble_eq_true c3
                have hnone := hfr nx (Nat.le_refl _) (by omega)
                have hsn : VRel ρ f (.sliceA nx (.lit 0) sz) s' := by
                  cases hs
                  exact .sliceN rfl
                refine appendA_core hC hr hnone ht hxt hxd (code := .lit 0) (n := .lit 0) (fun L hL => by rw [hnone] at hL; cases hL) hsz hby hz g4 g2 g6 g8 p1 p2 plen one (fun k' hk' => ?_) (Int.le_refl _) ?_ (fun k' hk' i' hi' => ?_) (fun k' hk' t v hv => ?_) hsn ts xs hts0 hts1 hx0 hx1
                · have : (0 : Int) = k' := hk'
                  omega
                · show len2.ev ρ = 0 + (m : Int)
                  omega
                · have : (0 : Int) = k' := hk'
                  have : k' = 0 := by omega
                  subst this
                  omega
                · have : (0 : Int) = k' := hk'
                  have : k' = 0 := by omega
                  subst this
                  obtain ⟨h1, kk, a1, a2, a3, a4⟩ := kin t v hv
                  rw [ecut, Nat.zero_mul, Nat.zero_add, rowGet_cut _ _ _ _ h1]
                  exact ⟨kk, a1, a2, a3, a4⟩
              · cases ha
            · cases ha
          · cases ha
        · cases ha
      · cases ha
  · cases ha
theorem aAppendS_nx {C : Ctx} {h h' : T AObj} {nx nx' : Nat} {t xt : TypeId} {s x v : AVal} (hs : aAppendS C h nx t xt s x = some (v, h', nx')) : nx ≤ nx' := by
  unfold aAppendS at hs
  repeat' split at hs
  all_goals first
    | (cases hs; done)
    | (simp only [Option.some.injEq, Prod.mk.injEq] at hs; omega)
/-- All ways to append. -/
def aAppend3 (C : Ctx) (h : T AObj) (nx : Nat) (t xt : TypeId) (s x : AVal) : Option (AVal × T AObj × Nat) :=
  match aAppend2 C h nx t xt s x.soft with
  | some r => some r
  | none =>
    match aAppendA C h nx t xt s x with
    | some r => some r
    | none => aAppendS C h nx t xt s x.soft
theorem aAppend3_ok {C : Ctx} {P : Program} {ρ : Env} (hC : C.Ok P ρ) {B : Nat → Prop} {W w : World} {f : Ren} {h h' : T AObj} (hr : HRel ρ B W f h w) {nx nx' : Nat} (hfr : ∀ j, nx ≤ j → j < nx' → f j = none) {t xt ty : TypeId} {s x v : AVal} {s' x' : Value} (hs : VRel ρ f s s') (hx : VRel ρ f x x') (ha : aAppend3 C h nx t xt s x = some (v, h', nx'))
    (ts : Array TypeId) (xs : Array Value) (hts0 : ts[0]? = some t) (hts1 : ts[1]? = some xt) (hx0 : xs[0]? = some s') (hx1 : xs[1]? = some x') :
    ∃ f' w' v', (Builtin.append_ ts ty xs).run P w = .ok v' w' ∧ f.le f' ∧ (∀ j, (j < nx ∨ nx' ≤ j) → f' j = f j) ∧ HRel ρ B W f' h' w' ∧ VRel ρ f' v v' := by
  unfold aAppend3 at ha
  split at ha
  · rename_i r hr'
    cases ha
    exact aAppend2_ok hC hr hfr hs hx.soft hr' ts xs hts0 hts1 hx0 hx1
  · split at ha
    · rename_i r hr'
      cases ha
      exact aAppendA_ok hC hr hfr hs hx hr' ts xs hts0 hts1 hx0 hx1
    · exact aAppendS_ok hC hr hfr hs hx.soft ha ts xs hts0 hts1 hx0 hx1
theorem aAppendA_nx {C : Ctx} {h h' : T AObj} {nx nx' : Nat} {t xt : TypeId} {s x v : AVal} (hs : aAppendA C h nx t xt s x = some (v, h', nx')) : nx ≤ nx' := by
  unfold aAppendA at hs
  repeat' split at hs
  all_goals first
    | (cases hs; done)
    | (simp only [Option.some.injEq, Prod.mk.injEq] at hs; omega)
theorem aAppend3_nx {C : Ctx} {h h' : T AObj} {nx nx' : Nat} {t xt : TypeId} {s x v : AVal} (hs : aAppend3 C h nx t xt s x = some (v, h', nx')) : nx ≤ nx' := by
  unfold aAppend3 at hs
  split at hs
  · rename_i r hr
    cases hs
    exact aAppend2_nx hr
  · split at hs
    · rename_i r hr
      cases hs
      exact aAppendA_nx hr
    · exact aAppendS_nx hs
/-! a whole row stored -/
def digOf (k : IntKind) (x : IE) : Nat → List AVal → Bool
  | _, [] => true
  | j, v :: l =>
    match v with
    | .int k1 (.wrap k2 (.fn c y (.lit (.ofNat i)) _)) =>
      match Nat.beq c 0 && (kindEq k k1 && (kindEq k k2 && (Nat.beq i j && x.eq y))) with
      | true => digOf k x (j + 1) l
      | false => false
    | _ => false
theorem digOf_ok {ρ : Env} {f : Ren} {k : IntKind} {x : IE} : ∀ {l : List AVal} {j : Nat} {cs : List Value}, digOf k x j l = true → LRel ρ f l cs.toArray → ∀ (t : Nat) (v : Value), cs[t]? = some v → v = .int k (k.wrap (rowGet (x.ev ρ) (j + t : Nat))) := by
  intro l
  induction l with
  | nil =>
    intro j cs _ hr t v hv
    have : cs = [] := by have := hr.1; simpa using this
    subst this
    simp at hv
  | cons u l ih =>
    intro j cs h hr t v hv
    unfold digOf at h
    split at h
    · rename_i k1 k2 c y i z
      split at h
      · rename_i hc
        obtain ⟨h1, hc⟩ := andS hc
        obtain ⟨h2, hc⟩ := andS hc
        obtain ⟨h3, hc⟩ := andS hc
        obtain ⟨h4, h5⟩ := andS hc
        have h1 := Nat.eq_of_beq_eq_true h1
        have h2 := kindEq_eq h2
        have h3 := kindEq_eq h3
        have h4 := Nat.eq_of_beq_eq_true h4
        have h5 := IE.eq_eq h5
        subst h1; subst h2; subst h3; subst h4; subst h5
        have hl := hr.1
        obtain ⟨v0, cs, rfl⟩ : ∃ u cs', cs = u :: cs' := by
          cases cs with
          | nil => simp at hl
          | cons u cs => exact ⟨u, cs, rfl⟩
        cases t with
        | zero =>
          have hv : v0 = v := by simpa using hv
          subst hv
          have := hr.2 0 _ v0 rfl rfl
          cases this
          rfl
        | succ t =>
          have hr' : LRel ρ f l cs.toArray := ⟨by simpa using hl, fun i w w' hw hw' => hr.2 (i + 1) w w' (by simpa using hw) (by simpa using hw')⟩
          have := ih h hr' t v (by simpa using hv)
          rw [this, show i + 1 + t = i + (t + 1) by omega]
      · cases h
    · cases h
def rowSrcK : List AVal → Option (IntKind × IE)
  | .int k (.wrap _ (.fn _ x _ _)) :: _ => some (k, x)
  | _ => none
def aStoreR (C : Ctx) (h : T AObj) (t : TypeId) (p v : AVal) : Option (T AObj) :=
  match p, v with
  | .ptr (some (i, o)), .agg cs =>
    match rowSrcK cs, C.size t, h.get i with
    | some (k, x), some n, some (.cells c elem true top) =>
      match Nat.ble 64 n && (Nat.beq o 0 && (Nat.beq cs.length n && (Nat.beq n top && digOf k x 0 cs))), c.get (n - 1) with
      | true, some _ => some (h.set i (.arr [k] (.fn 4 x (.lit (.ofNat n)) (.lit (.ofNat (kindNo k)))) (.lit (.ofNat n)) true))
      | _, _ => none
    | _, _, _ => none
  | _, _ => none
theorem aStoreR_ok {C : Ctx} {P : Program} {ρ : Env} (hC : C.Ok P ρ) {B : Nat → Prop} {W w : World} {f : Ren} {h h' : T AObj} (hr : HRel ρ B W f h w) {t : TypeId} {x v : AVal} {x' v' : Value} (hx : VRel ρ f x x') (hv : VRel ρ f v v') (hs : aStoreR C h t x v = some h') :
    ∃ w', (Instr.storeAt t x' v').run P w = .ok () w' ∧ HRel ρ B W f h' w' := by
  unfold aStoreR at hs
  split at hs
  · rename_i i o cs
    split at hs
    · rename_i k y n c elem top hk hn hg
      split at hs
      · rename_i hc hlast
        rename_i u
        obtain ⟨g1, hc⟩ := andS hc
        obtain ⟨g2, hc⟩ := andS hc
        obtain ⟨g3, hc⟩ := andS hc
        obtain ⟨g4, g5⟩ := andS hc
        have g1 := Nat.le_of_ble_eq_true g1
        have g2 := Nat.eq_of_beq_eq_true g2
        have g3 := Nat.eq_of_beq_eq_true g3
        have g4 := Nat.eq_of_beq_eq_true g4
        subst g2; subst g4
        cases hs
        cases hx
        rename_i L hf
        have hcl := LRel.cells hv
        have hsz : v'.cells.size = n := by rw [hcl.1]; exact g3
        obtain ⟨cs0, fr, k1, k2, k3, k4⟩ := hr.obj i L _ hf hg
        obtain ⟨k3a, k3b⟩ := k3 rfl
        obtain ⟨_, v0, hv0, _⟩ := k4 (n - 1) u hlast
        have hlt := (Array.getElem?_eq_some_iff.1 hv0).1
        have hlen : v'.cells.toList.length = n := by simpa using hsz
        have hrel : LRel ρ f cs v'.cells.toList.toArray := by simpa [AVal.cells] using hcl
        have dig := digOf_ok g5 hrel
        have hone : ∀ w ∈ v'.cells.toList, w.oneCell' = true := fun w hw => by
          obtain ⟨j, hj⟩ := List.getElem?_of_mem hw
          rw [dig j w hj]
          rfl
        obtain ⟨w', cur', e1, e2, e3, e4, e5, e6, e7⟩ := run_storeRaw P L.blk elem fr (L.base + 0) v'.cells.toList 0 cs0 w k1 (by omega) (fun j hj => k3b j (by omega)) hone
        refine ⟨w', by simp only [Instr.storeAt, Instr.sureAddr, Sem.run_bind, Sem.run_pure, Result.andThen_ok, storeVar, Ctx.size_ok hC hn, hsz, ne_eq, not_true_eq_false, if_false]; exact e1, ?_⟩
        refine hr.turn hf hg rfl k3a (fun _ _ => Iff.rfl) (fun _ _ => Iff.rfl) e7 e6 e5 ?_
        refine ⟨cur', elem, fr, e2, by rw [e3]; exact k2, fun _ => ⟨k3a, k3b⟩, fun j c2 kk hj hkk => ?_⟩
        have hc0 : c2 = 0 := by
          have := (List.getElem?_eq_some_iff.1 hkk).1
          simp at this
          exact this
        subst hc0
        have hkk : k = kk := by simpa using hkk
        subst hkk
        have hj : j < n := by
          have : ((IE.lit (.ofNat n)).ev ρ) = (n : Int) := rfl
          omega
        have hcode : (IE.fn 4 y (.lit (.ofNat n)) (.lit (.ofNat (kindNo k)))).ev ρ = rowWrap (y.ev ρ) n (kindNo k) := rfl
        have hget : rowGet (rowWrap (y.ev ρ) n (kindNo k)) (j : Nat) = k.wrap (rowGet (y.ev ρ) (j : Nat)) := by
          rw [rowWrap_get _ _ _ _ (by simpa using hj), kOf_no]
        have e0 : j * [k].length + 0 = j := by simp
        rw [e0, hcode, hget]
        refine ⟨?_, wrap_mem k _⟩
        obtain ⟨w0, hw0⟩ : ∃ w0, v'.cells.toList[j]? = some w0 := ⟨_, List.getElem?_eq_getElem (by omega)⟩
        rw [e4, if_pos (by omega), show L.base + j - (L.base + 0 + 0) = j by omega, hw0, dig j w0 hw0, Nat.zero_add]
      · cases hs
    · cases hs
  · cases hs
/-! a whole block stored -/
def aStoreW (C : Ctx) (h : T AObj) (t : TypeId) (p v : AVal) : Option (T AObj) :=
  match p, v with
  | .ptr (some (i, o)), .agg cs =>
    match C.size t, h.get i with
    | some n, some (.cells c elem true top) =>
      match Nat.ble 24 n && (Nat.beq o 0 && (Nat.beq n top && (Nat.beq cs.length n && allOne cs))), c.get (n - 1) with
      | true, some _ => some (h.set i (.cells (cellsOf cs) elem true top))
      | _, _ => none
    | _, _ => none
  | _, _ => none
theorem aStoreW_ok {C : Ctx} {P : Program} {ρ : Env} (hC : C.Ok P ρ) {B : Nat → Prop} {W w : World} {f : Ren} {h h' : T AObj} (hr : HRel ρ B W f h w) {t : TypeId} {x v : AVal} {x' v' : Value} (hx : VRel ρ f x x') (hv : VRel ρ f v v') (hs : aStoreW C h t x v = some h') :
    ∃ w', (Instr.storeAt t x' v').run P w = .ok () w' ∧ HRel ρ B W f h' w' := by
  unfold aStoreW at hs
  split at hs
  · rename_i i o cs
    split at hs
    · rename_i n c elem top hn hg
      split at hs
      · rename_i hc hlast
        rename_i u
        obtain ⟨g1, hc⟩ := andS hc
        obtain ⟨g2, hc⟩ := andS hc
        obtain ⟨g4, hc⟩ := andS hc
        obtain ⟨g3, g5⟩ := andS hc
        have g1 := Nat.le_of_ble_eq_true g1
        have g2 := Nat.eq_of_beq_eq_true g2
        have g3 := Nat.eq_of_beq_eq_true g3
        have g4 := Nat.eq_of_beq_eq_true g4
        subst g2; subst g4
        cases hs
        cases hx
        rename_i L hf
        have hcl := LRel.cells hv
        have hsz : v'.cells.size = n := by rw [hcl.1]; exact g3
        obtain ⟨cs0, fr, k1, k2, k3, k4⟩ := hr.obj i L _ hf hg
        obtain ⟨k3a, k3b⟩ := k3 rfl
        obtain ⟨_, v0, hv0, _⟩ := k4 (n - 1) u hlast
        have hlt := (Array.getElem?_eq_some_iff.1 hv0).1
        have hlen : v'.cells.toList.length = n := by simpa using hsz
        have hrel : LRel ρ f cs v'.cells.toList.toArray := by simpa [AVal.cells] using hcl
        have hone := allOne_ok cs v'.cells.toList g5 hrel
        obtain ⟨w', cur', e1, e2, e3, e4, e5, e6, e7⟩ := run_storeRaw P L.blk elem fr (L.base + 0) v'.cells.toList 0 cs0 w k1 (by omega) (fun j hj => k3b j (by omega)) hone
        refine ⟨w', by simp only [Instr.storeAt, Instr.sureAddr, Sem.run_bind, Sem.run_pure, Result.andThen_ok, storeVar, Ctx.size_ok hC hn, hsz, ne_eq, not_true_eq_false, if_false]; exact e1, ?_⟩
        refine hr.turn hf hg rfl k3a (fun _ _ => Iff.rfl) (fun _ _ => Iff.rfl) e7 e6 e5 ?_
        refine ⟨cur', fr, e2, by rw [e3]; exact k2, fun _ => ⟨k3a, k3b⟩, fun j v hj => ?_⟩
        have hcs := cellsOf_ok hj
        obtain ⟨w0, hw0, hw1⟩ := hrel.get hcs
        have hjl := (List.getElem?_eq_some_iff.1 hcs).1
        refine ⟨by omega, w0, ?_, hw1⟩
        rw [e4, if_pos (by omega), show L.base + j - (L.base + 0 + 0) = j by omega]
        simpa using hw0
      · cases hs
    · cases hs
  · cases hs
def aStore2 (C : Ctx) (h : T AObj) (t : TypeId) (x v : AVal) : Option (T AObj) :=
  match aStoreR C h t x v with
  | some h' => some h'
  | none =>
    match aStoreW C h t x v with
    | some h' => some h'
    | none => aStore C h t x v
theorem aStore2_ok {C : Ctx} {P : Program} {ρ : Env} (hC : C.Ok P ρ) {B : Nat → Prop} {W w : World} {f : Ren} {h h' : T AObj} (hr : HRel ρ B W f h w) {t : TypeId} {x v : AVal} {x' v' : Value} (hx : VRel ρ f x x') (hv : VRel ρ f v v') (hs : aStore2 C h t x v = some h') :
    ∃ w', (Instr.storeAt t x' v').run P w = .ok () w' ∧ HRel ρ B W f h' w' := by
  unfold aStore2 at hs
  split at hs
  · rename_i hs1
    cases hs
    exact aStoreR_ok hC hr hx hv hs1
  · split at hs
    · rename_i hs1
      cases hs
      exact aStoreW_ok hC hr hx hv hs1
    · exact aStore_ok hC hr hx hv hs
end
end Go.Sx
