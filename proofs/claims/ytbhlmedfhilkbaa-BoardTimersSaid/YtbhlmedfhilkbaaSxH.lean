/- append to a growing slice of unknown length. No condition. -/
import Derived.Test.YtbhlmedfhilkbaaSxG
set_option linter.unusedSimpArgs false
set_option linter.unusedVariables false
namespace Go.Sx
open Go.RowKit (Below)
noncomputable section
theorem andS {a b : Bool} (h : (a && b) = true) : a = true ∧ b = true := by
  cases a <;> cases b <;> first | exact ⟨rfl, rfl⟩ | cases h
/-- A number that the expression does not exceed. -/
def topD (C : Ctx) (len : IE) : Option Nat :=
  match rng C.bd len with
  | some (_, h) =>
    match optMin (narrow len C.dec).2 h with
    | some (.ofNat n) => some n
    | _ => none
  | none =>
    match (narrow len C.dec).2 with
    | some (.ofNat n) => some n
    | _ => none
theorem topD_ok {C : Ctx} {P : Program} {ρ : Env} (hC : C.Ok P ρ) {len : IE} {n : Nat} (h : topD C len = some n) : len.ev ρ ≤ n := by
  have hw := narrow_ok (ρ := ρ) len hC.dec
  unfold topD at h
  split at h
  · rename_i l hh hr
    split at h
    · rename_i m hm
      cases h
      exact optMin_ok hw.2 (rng_ok hC.bd _ _ _ hr).2 _ hm
    · cases h
  · split at h
    · rename_i m hm
      cases h
      exact hw.2 _ hm
    · cases h
/-- Integers of the kinds ks, over and over, put as digits from the one numbered off + j on. -/
def putD (ks : List IntKind) (bd : Bd) (off : IE) : Nat → List AVal → IE → Option IE
  | _, [], code => some code
  | j, v :: l, code =>
    match v with
    | .int k e =>
      match ks[Nat.mod j ks.length]? with
      | some k' =>
        match kindEq k k' && fits k (rng bd e) with
        | true => putD ks bd off (j + 1) l (mkFn 1 code (mkAdd off (.lit (.ofNat j))) e)
        | false => none
      | none => none
    | _ => none
theorem putD_ok {ρ : Env} {bd : Bd} (hρ : ρ.ok bd) {f : Ren} {ks : List IntKind} {off : IE} {o : Nat} (ho : off.ev ρ = o) : ∀ (l : List AVal) (j : Nat) (code code' : IE) (cs : List Value), LRel ρ f l cs.toArray → putD ks bd off j l code = some code' →
    (∀ i : Nat, (i < o + j ∨ o + j + l.length ≤ i) → rowGet (code'.ev ρ) i = rowGet (code.ev ρ) i) ∧
    ∀ (t : Nat) (v : Value), cs[t]? = some v → ∃ k, ks[(j + t) % ks.length]? = some k ∧ v = .int k (rowGet (code'.ev ρ) (o + j + t : Nat)) ∧ kLo k ≤ rowGet (code'.ev ρ) (o + j + t : Nat) ∧ rowGet (code'.ev ρ) (o + j + t : Nat) ≤ kHi k := by
  intro l
  induction l with
  | nil =>
    intro j code code' cs hr h
    cases h
    have : cs = [] := by have := hr.1; simpa using this
    subst this
    exact ⟨fun i _ => rfl, fun t v hv => by simp at hv⟩
  | cons v l ih =>
    intro j code code' cs hr h
    unfold putD at h
    split at h
    · rename_i k e
      split at h
      · rename_i k' hk
        split at h
        · rename_i hc
          obtain ⟨h1, h2⟩ := andS hc
          have h1 := kindEq_eq h1
          subst h1
          have hb := fits_ok hρ h2
          have hl := hr.1
          obtain ⟨u, cs, rfl⟩ : ∃ u cs', cs = u :: cs' := by
            cases cs with
            | nil => simp at hl
            | cons u cs => exact ⟨u, cs, rfl⟩
          have hu : u = .int k (e.ev ρ) := by
            have := hr.2 0 (.int k e) u rfl rfl
            cases this; rfl
          have hr' : LRel ρ f l cs.toArray := by
            refine ⟨by simpa using hl, fun i w w' hw hw' => hr.2 (i + 1) w w' (by simpa using hw) (by simpa using hw')⟩
          obtain ⟨q1, q2⟩ := ih (j + 1) _ code' cs hr' h
          have hset : (mkFn 1 code (mkAdd off (.lit (.ofNat j))) e).ev ρ = rowSet (code.ev ρ) ((o + j : Nat) : Int) (e.ev ρ) := by
            rw [mkFn_ev, mkAdd_ev, ho]
            rfl
          have here : rowGet (code'.ev ρ) (o + j : Nat) = e.ev ρ := by
            rw [q1 (o + j) (.inl (by omega)), hset, rowGet_set_of _ _ _ _ hb.1 hb.2, if_pos rfl]
          refine ⟨fun i hi => ?_, fun t w hw => ?_⟩
          · simp only [List.length_cons] at hi
            rw [q1 i (by omega), hset, rowGet_set_of _ _ _ _ hb.1 hb.2, if_neg (by omega)]
          · cases t with
            | zero =>
              have hw : u = w := by simpa using hw
              subst hw
              rw [Nat.add_zero, Nat.add_zero, here]
              exact ⟨k, hk, hu, hb.1, hb.2⟩
            | succ t =>
              have := q2 t w (by simpa using hw)
              rw [show j + 1 + t = j + (t + 1) by omega, show o + (j + 1) + t = o + j + (t + 1) by omega] at this
              exact this
        · cases h
      · cases h
    · cases h
theorem putD_length {ks : List IntKind} {bd : Bd} {off : IE} : ∀ (l : List AVal) (j : Nat) (code code' : IE), putD ks bd off j l code = some code' → l = [] ∨ 0 < ks.length := by
  intro l j code code' h
  cases l with
  | nil => exact .inl rfl
  | cons v l =>
    right
    unfold putD at h
    split at h
    · split at h
      · rename_i hk
        have := (List.getElem?_eq_some_iff.1 hk).1
        omega
      · cases h
    · cases h

def aAppendA (C : Ctx) (h : T AObj) (nx : Nat) (t xt : TypeId) (s x : AVal) : Option (AVal × T AObj × Nat) :=
  match C.und t, C.und xt with
  | some (.slice e), some xd =>
    match takesCells xd with
    | false => none
    | true =>
      match s with
      | .sliceA i len sz' =>
        match C.size e, C.bytes e, aLenOf x, aZero C e, h.get i, topD C len with
        | some sz, some by_, some m, some z, some (.arr ks code n true), some top =>
          match aFirst h sz m x with
          | none => none
          | some l =>
            match allOne l && (Nat.beq sz sz' && (Nat.beq sz ks.length && (Nat.beq z.cells.length sz && (Nat.beq l.length (m * sz) && (Nat.ble 1 sz && (Nat.ble (top + m) 1073741824 && Nat.ble by_ 4096)))))), settle C.dec (mkLt C.bd n len), putD ks C.bd (mkMul len (.lit (.ofNat sz))) 0 l code with
            | true, some false, some code' => some (.sliceA nx (mkAdd len (.lit (.ofNat m))) sz, (h.del i).set nx (.arr ks code' (mkAdd len (.lit (.ofNat m))) true), nx + 1)
            | _, _, _ => none
        | _, _, _, _, _, _ => none
      | _ => none
  | _, _ => none
theorem aAppendA_ok {C : Ctx} {P : Program} {ρ : Env} (hC : C.Ok P ρ) {B : Nat → Prop} {W w : World} {f : Ren} {h h' : T AObj} (hr : HRel ρ B W f h w) {nx nx' : Nat} (hfr : ∀ j, nx ≤ j → j < nx' → f j = none) {t xt ty : TypeId} {s x v : AVal} {s' x' : Value} (hs : VRel ρ f s s') (hx : VRel ρ f x x') (ha : aAppendA C h nx t xt s x = some (v, h', nx'))
    (ts : Array TypeId) (xs : Array Value) (hts0 : ts[0]? = some t) (hts1 : ts[1]? = some xt) (hx0 : xs[0]? = some s') (hx1 : xs[1]? = some x') :
    ∃ f' w' v', (Builtin.append_ ts ty xs).run P w = .ok v' w' ∧ f.le f' ∧ (∀ j, (j < nx ∨ nx' ≤ j) → f' j = f j) ∧ HRel ρ B W f' h' w' ∧ VRel ρ f' v v' := by
  have hbs := hr.bsize
  have hws := hr.below.size
  unfold aAppendA at ha
  split at ha
  · rename_i e xd hut hux
    have ht := Ctx.und_ok hC hut
    have hxt := Ctx.und_ok hC hux
    split at ha
    · cases ha
    · rename_i hxd
      split at ha
      · rename_i i len sz'
        split at ha
        · rename_i sz by_ m z ks code n top hsz hby hm hz hg htop
          obtain ⟨z', -, hz2, it, hit, hzz⟩ := aZero_ok hC (f := f) hz w
          have hlen := aLenOf_ok (P := P) hx hm w
          split at ha
          · cases ha
          · rename_i l hl
            obtain ⟨new, q0, q2⟩ := aFirst_ok (P := P) hr hx ⟨m, hm, Nat.le_refl _⟩ hl
            split at ha
            · rename_i code' hc hle hput
              obtain ⟨g1, hc⟩ := andS hc
              obtain ⟨g2, hc⟩ := andS hc
              obtain ⟨g3, hc⟩ := andS hc
              obtain ⟨g4, hc⟩ := andS hc
              obtain ⟨g5, hc⟩ := andS hc
              obtain ⟨g6, hc⟩ := andS hc
              obtain ⟨g7, g8⟩ := andS hc
              replace g2 := Nat.eq_of_beq_eq_true g2
              replace g3 := Nat.eq_of_beq_eq_true g3
              replace g4 := Nat.eq_of_beq_eq_true g4
              replace g5 := Nat.eq_of_beq_eq_true g5
              replace g6 := Nat.le_of_ble_eq_true g6
              replace g7 := Nat.le_of_ble_eq_true g7
              replace g8 := Nat.le_of_ble_eq_true g8
              subst g2
              cases ha
              have htl := topD_ok hC htop
              have hln := settle_ok hC.dec _ _ hle
              rw [mkLt_ev hC.bd] at hln
              have hln := of_decide_eq_false hln
              have hone := allOne_ok l new g1 q2
              have hnl : new.length = m * sz := by have := q2.1; simp at this; omega
              have hzs : z'.cells.size = sz := by rw [(LRel.cells hz2).1]; exact g4
              have hnone : f nx = none := hfr nx (Nat.le_refl _) (by omega)
              have hlev : ∀ k : Nat, len.ev ρ = k → (mkAdd len (.lit (.ofNat m))).ev ρ = ((k + m : Nat) : Int) := fun k hk => by
                rw [mkAdd_ev, hk]; rfl
              have hoff : ∀ k : Nat, len.ev ρ = k → (mkMul len (.lit (.ofNat sz))).ev ρ = ((k * sz : Nat) : Int) := fun k hk => by
                rw [mkMul_ev, hk]; rfl
              -- the digits
              have digits : ∀ (k : Nat), len.ev ρ = k → ∀ (cs : Array Value) (b0 : Nat), (∀ j c kk, j < k → ks[c]? = some kk → cs[b0 + (j * ks.length + c)]? = some (.int kk (rowGet (code.ev ρ) (j * ks.length + c : Nat))) ∧ kLo kk ≤ rowGet (code.ev ρ) (j * ks.length + c : Nat) ∧ rowGet (code.ev ρ) (j * ks.length + c : Nat) ≤ kHi kk) →
                  (∀ t u, new[t]? = some u → cs[b0 + (k * sz + t)]? = some u) → ∀ (j c : Nat) (kk : IntKind), (j : Int) < (mkAdd len (.lit (.ofNat m))).ev ρ → ks[c]? = some kk → cs[b0 + (j * ks.length + c)]? = some (.int kk (rowGet (code'.ev ρ) (j * ks.length + c : Nat))) ∧ kLo kk ≤ rowGet (code'.ev ρ) (j * ks.length + c : Nat) ∧ rowGet (code'.ev ρ) (j * ks.length + c : Nat) ≤ kHi kk := by
                intro k hk cs b0 hold hnew j c kk hj hkk
                rw [hlev k hk] at hj
                obtain ⟨d1, d2⟩ := putD_ok hC.bd (hoff k hk) l 0 code code' new q2 hput
                have hcl : c < ks.length := (List.getElem?_eq_some_iff.1 hkk).1
                by_cases hjk : j < k
                · have hlt : j * ks.length + c < k * sz := by
                    have : (j + 1) * ks.length ≤ k * ks.length := Nat.mul_le_mul_right _ hjk
                    rw [Nat.add_mul] at this
                    rw [g3]; omega
                  rw [d1 _ (.inl (by omega))]
                  exact hold j c kk hjk hkk
                · obtain ⟨d, rfl⟩ : ∃ d, j = k + d := ⟨j - k, by omega⟩
                  have hdm : d < m := by omega
                  have hlt : d * sz + c < m * sz := by
                    have : (d + 1) * sz ≤ m * sz := Nat.mul_le_mul_right _ hdm
                    rw [Nat.add_mul] at this
                    omega
                  have heq : (k + d) * ks.length + c = k * sz + 0 + (d * sz + c) := by rw [← g3, Nat.add_mul]; omega
                  obtain ⟨u, hu⟩ : ∃ u, new[d * sz + c]? = some u := ⟨_, List.getElem?_eq_getElem (by omega)⟩
                  obtain ⟨k2, e1, e2, e3, e4⟩ := d2 _ u hu
                  have hmod : (0 + (d * sz + c)) % ks.length = c := by
                    rw [Nat.zero_add, g3, Nat.mul_comm, Nat.mul_add_mod, Nat.mod_eq_of_lt hcl]
                  rw [hmod, hkk] at e1
                  cases e1
                  rw [heq]
                  refine ⟨?_, e3, e4⟩
                  rw [← e2, Nat.add_zero]
                  exact hnew _ u hu
              -- a new block
              have grow : ∀ (k c' : Nat) (base : Option Addr) (oldc : List Value), len.ev ρ = k → s' = .slice base k c' → ¬ k + m ≤ c' → (∀ d, (Builtin.firstCells sz k (.slice base k c')).run P { w with drawn := d } = .ok oldc.toArray { w with drawn := d }) → oldc.length = k * sz →
                  (∀ j c kk, j < k → ks[c]? = some kk → oldc[j * ks.length + c]? = some (.int kk (rowGet (code.ev ρ) (j * ks.length + c : Nat))) ∧ kLo kk ≤ rowGet (code.ev ρ) (j * ks.length + c : Nat) ∧ rowGet (code.ev ρ) (j * ks.length + c : Nat) ≤ kHi kk) →
                  ∃ f' w' v', (Builtin.append_ ts ty xs).run P w = .ok v' w' ∧ f.le f' ∧ (∀ j, (j < nx ∨ nx + 1 ≤ j) → f' j = f j) ∧ HRel ρ B W f' ((h.del i).set nx (.arr ks code' (mkAdd len (.lit (.ofNat m))) true)) w' ∧ VRel ρ f' (.sliceA nx (mkAdd len (.lit (.ofNat m))) sz) v' := by
                intro k c' base oldc hk hs' hgt p0 hol hold
                rw [hs'] at hx0
                obtain ⟨newCap, hcap, hrun⟩ := append_grows hC (ty := ty) ht hxt hxd hsz hby hit hzz hlen p0 q0 (by omega) g8 hgt ts xs hts0 hts1 hx0 hx1
                have hsize : newCap * sz = (oldc.toArray ++ new.toArray ++ Builtin.zeroCells z'.cells (newCap - (k + m))).size := by
                  simp only [Array.size_append, List.size_toArray, size_zeroCells, hzs, hol, hnl]
                  rw [← Nat.add_mul, ← Nat.add_mul]
                  congr 1; omega
                refine ⟨f.put nx ⟨w.heap.size, 0, (oldc.toArray ++ new.toArray ++ Builtin.zeroCells z'.cells (newCap - (k + m))).size⟩, _, _, hrun, Ren.le_put _ hnone, fun j hj => Ren.put_other f _ (by omega), ?_, ?_⟩
                · refine hr.newG hnone (o := .arr ks code' (mkAdd len (.lit (.ofNat m))) true) (O := .cells (oldc.toArray ++ new.toArray ++ Builtin.zeroCells z'.cells (newCap - (k + m))) e) rfl ⟨rfl, rfl, rfl⟩ rfl ?_ (fun _ h => h) (fun j y hy => ?_)
                  · refine ⟨_, e, (0, 0), by simp, rfl, fun _ => ⟨hr.fresh (Nat.le_refl _), fun j _ => by simp⟩, ?_⟩
                    refine digits k hk (oldc.toArray ++ new.toArray ++ Builtin.zeroCells z'.cells (newCap - (k + m))) 0 (fun j c kk hj hkk => ?_) (fun t u hu => ?_)
                    · obtain ⟨a1, a2⟩ := hold j c kk hj hkk
                      refine ⟨?_, a2⟩
                      have hlt := (List.getElem?_eq_some_iff.1 a1).1
                      rw [Nat.zero_add, Array.append_assoc, Array.getElem?_append_left (by simpa using hlt)]
                      simpa using a1
                    · have hlt := (List.getElem?_eq_some_iff.1 hu).1
                      rw [Nat.zero_add, Array.append_assoc, Array.getElem?_append_right (by simp; omega), Array.getElem?_append_left (by simp [hol]; omega)]
                      simp only [List.size_toArray, hol, Nat.add_sub_cancel_left]
                      simpa using hu
                  · rcases T.get_set hy with ⟨e1, e2⟩ | ⟨e1, e2⟩
                    · exact .inl ⟨e1, e2.symm⟩
                    · exact .inr ⟨e1, (T.get_del e2).2⟩
                · have hv := VRel.sliceA (ρ := ρ) (f := f.put nx ⟨w.heap.size, 0, (oldc.toArray ++ new.toArray ++ Builtin.zeroCells z'.cells (newCap - (k + m))).size⟩) (i := nx) (s := sz) (len := mkAdd len (.lit (.ofNat m))) (c := newCap) (Ren.put_same f nx _) (by rw [hlev k hk]; omega) (by rw [hlev k hk, Int.toNat_natCast]; exact hcap) (by simp only [Nat.zero_add]; exact Nat.le_of_eq hsize)
                  rw [hlev k hk, Int.toNat_natCast] at hv
                  exact hv
              cases hs with
              | sliceA hf h0 hcap hcs =>
                rename_i c' L
                obtain ⟨k, hk⟩ := Int.eq_ofNat_of_zero_le h0
                have hkn : (len.ev ρ).toNat = k := by rw [hk]; rfl
                rw [hkn] at hcap
                obtain ⟨cs, el, fr, k1, k2, k3, k4⟩ := hr.obj i L _ hf hg
                obtain ⟨k3a, k3b⟩ := k3 rfl
                have hold : ∀ j c kk, j < k → ks[c]? = some kk → cs[L.base + (j * ks.length + c)]? = some (.int kk (rowGet (code.ev ρ) (j * ks.length + c : Nat))) ∧ kLo kk ≤ rowGet (code.ev ρ) (j * ks.length + c : Nat) ∧ rowGet (code.ev ρ) (j * ks.length + c : Nat) ≤ kHi kk := fun j c kk hj hkk => k4 j c kk (by omega) hkk
                have hkc : k * sz ≤ c' * sz := Nat.mul_le_mul_right _ hcap
                by_cases hroom : k + m ≤ c'
                · have hroom2 : (k + m) * sz ≤ c' * sz := Nat.mul_le_mul_right _ hroom
                  rw [Nat.add_mul] at hroom2
                  obtain ⟨w', cur', e1, e2, e3, e4, e5, e6, e7⟩ := run_storeRaw P L.blk el fr (L.base + k * sz) new 0 cs w k1 (by omega) (fun j hj => k3b j (by omega)) hone
                  rw [hkn] at hx0
                  refine ⟨f.put nx L, w', _, append_fits hC ht hxt hxd hsz hlen (q0 w.drawn) hroom (fun a ea => ?_) (fun ea => by cases ea) ts xs hts0 hts1 hx0 hx1, Ren.le_put _ hnone, fun j hj => Ren.put_other f _ (by omega), ?_, ?_⟩
                  · cases ea
                    rw [addr_add]
                    exact e1
                  · refine hr.inPlace hf hg rfl k3a hnone (L' := L) rfl (fun _ => Iff.rfl) (fun _ => Iff.rfl) ?_ e5 e6 e7
                    refine ⟨cur', el, fr, e2, by rw [e3]; exact k2, fun _ => ⟨k3a, k3b⟩, ?_⟩
                    refine digits k hk cur' L.base (fun j c kk hj hkk => ?_) (fun t u hu => ?_)
                    · obtain ⟨a1, a2⟩ := hold j c kk hj hkk
                      refine ⟨?_, a2⟩
                      have hcl : c < ks.length := (List.getElem?_eq_some_iff.1 hkk).1
                      have hlt : j * ks.length + c < k * sz := by
                        have : (j + 1) * ks.length ≤ k * ks.length := Nat.mul_le_mul_right _ hj
                        rw [Nat.add_mul] at this
                        rw [g3]; omega
                      rw [e4, if_neg (by omega)]
                      exact a1
                    · have hlt := (List.getElem?_eq_some_iff.1 hu).1
                      rw [e4, if_pos (by omega), show L.base + (k * sz + t) - (L.base + k * sz + 0) = t by omega]
                      exact hu
                  · have hv := VRel.sliceA (ρ := ρ) (f := f.put nx L) (i := nx) (s := sz) (len := mkAdd len (.lit (.ofNat m))) (c := c') (Ren.put_same f nx _) (by rw [hlev k hk]; omega) (by rw [hlev k hk, Int.toNat_natCast]; exact hroom) hcs
                    rw [hlev k hk, Int.toNat_natCast] at hv
                    exact hv
                · have hol : (cs.extract L.base (L.base + k * sz)).toList.length = k * sz := by simp; omega
                  have hoc : ∀ j v', (cs.extract L.base (L.base + k * sz)).toList[j]? = some v' → cs[L.base + j]? = some v' := fun j v' hj => by
                    rw [Array.getElem?_toList, Array.getElem?_extract] at hj
                    split at hj
                    · exact hj
                    · cases hj
                  refine grow k c' _ (cs.extract L.base (L.base + k * sz)).toList hk (by rw [hkn]) hroom (fun d => ?_) hol (fun j c kk hj hkk => ?_)
                  · refine run_loadCells_at hol fun j v' hj => ?_
                    have := hoc j v' hj
                    simp only [World.cell?, k1]
                    simpa using this
                  · obtain ⟨a1, a2⟩ := hold j c kk hj hkk
                    refine ⟨?_, a2⟩
                    have hcl : c < ks.length := (List.getElem?_eq_some_iff.1 hkk).1
                    have hlt : j * ks.length + c < k * sz := by
                      have : (j + 1) * ks.length ≤ k * ks.length := Nat.mul_le_mul_right _ hj
                      rw [Nat.add_mul] at this
                      rw [g3]; omega
                    rw [Array.getElem?_toList, Array.getElem?_extract, if_pos (by omega)]
                    exact a1
              | sliceN hl0 =>
                rename_i base
                by_cases hm0 : m = 0
                · subst hm0
                  have hcs : new = [] := List.eq_nil_of_length_eq_zero (by omega)
                  subst hcs
                  refine ⟨f, w, _, append_fits hC ht hxt hxd hsz (n := 0) hlen (q0 w.drawn) (Nat.le_refl _) (fun a ea => rfl) (fun _ => rfl) ts xs hts0 hts1 hx0 hx1, Ren.le_refl f, fun _ _ => rfl, (hr.less (fun j o hj => (T.get_del hj).2)).extra hnone _, .sliceN (by rw [hlev 0 hl0]; rfl)⟩
                · refine grow 0 0 base [] hl0 rfl (by omega) (fun d => ?_) (by simp) (fun j c kk hj _ => by omega)
                  cases base with
                  | none => rfl
                  | some b =>
                    simp only [Builtin.firstCells, Nat.zero_mul]
                    exact run_loadCells_list _ b [] (fun j v hv => by simp at hv)
            · cases ha
        · cases ha
      · cases ha
  · cases ha
/-- All ways to append. -/
def aAppend3 (C : Ctx) (h : T AObj) (nx : Nat) (t xt : TypeId) (s x : AVal) : Option (AVal × T AObj × Nat) :=
  match aAppend2 C h nx t xt s x.soft with
  | some r => some r
  | none => aAppendA C h nx t xt s x
theorem aAppend3_ok {C : Ctx} {P : Program} {ρ : Env} (hC : C.Ok P ρ) {B : Nat → Prop} {W w : World} {f : Ren} {h h' : T AObj} (hr : HRel ρ B W f h w) {nx nx' : Nat} (hfr : ∀ j, nx ≤ j → j < nx' → f j = none) {t xt ty : TypeId} {s x v : AVal} {s' x' : Value} (hs : VRel ρ f s s') (hx : VRel ρ f x x') (ha : aAppend3 C h nx t xt s x = some (v, h', nx'))
    (ts : Array TypeId) (xs : Array Value) (hts0 : ts[0]? = some t) (hts1 : ts[1]? = some xt) (hx0 : xs[0]? = some s') (hx1 : xs[1]? = some x') :
    ∃ f' w' v', (Builtin.append_ ts ty xs).run P w = .ok v' w' ∧ f.le f' ∧ (∀ j, (j < nx ∨ nx' ≤ j) → f' j = f j) ∧ HRel ρ B W f' h' w' ∧ VRel ρ f' v v' := by
  unfold aAppend3 at ha
  split at ha
  · rename_i r hr'
    cases ha
    exact aAppend2_ok hC hr hfr hs hx.soft hr' ts xs hts0 hts1 hx0 hx1
  · exact aAppendA_ok hC hr hfr hs hx ha ts xs hts0 hts1 hx0 hx1
theorem aAppendA_nx {C : Ctx} {h h' : T AObj} {nx nx' : Nat} {t xt : TypeId} {s x v : AVal} (hs : aAppendA C h nx t xt s x = some (v, h', nx')) : nx ≤ nx' := by
  unfold aAppendA at hs
  repeat' split at hs
  all_goals first
    | (cases hs; done)
    | (simp only [Option.some.injEq, Prod.mk.injEq] at hs; omega)
theorem aAppend3_nx {C : Ctx} {h h' : T AObj} {nx nx' : Nat} {t xt : TypeId} {s x v : AVal} (hs : aAppend3 C h nx t xt s x = some (v, h', nx')) : nx ≤ nx' := by
  unfold aAppend3 at hs
  split at hs
  · rename_i r hr
    cases hs
    exact aAppend2_nx hr
  · exact aAppendA_nx hs
/-! a whole row stored -/
def digOf (k : IntKind) (x : IE) : Nat → List AVal → Bool
  | _, [] => true
  | j, v :: l =>
    match v with
    | .int k1 (.wrap k2 (.fn c y (.lit (.ofNat i)) _)) =>
      match Nat.beq c 0 && (kindEq k k1 && (kindEq k k2 && (Nat.beq i j && x.eq y))) with
      | true => digOf k x (j + 1) l
      | false => false
    | _ => false
theorem digOf_ok {ρ : Env} {f : Ren} {k : IntKind} {x : IE} : ∀ {l : List AVal} {j : Nat} {cs : List Value}, digOf k x j l = true → LRel ρ f l cs.toArray → ∀ (t : Nat) (v : Value), cs[t]? = some v → v = .int k (k.wrap (rowGet (x.ev ρ) (j + t : Nat))) := by
  intro l
  induction l with
  | nil =>
    intro j cs _ hr t v hv
    have : cs = [] := by have := hr.1; simpa using this
    subst this
    simp at hv
  | cons u l ih =>
    intro j cs h hr t v hv
    unfold digOf at h
    split at h
    · rename_i k1 k2 c y i z
      split at h
      · rename_i hc
        obtain ⟨h1, hc⟩ := andS hc
        obtain ⟨h2, hc⟩ := andS hc
        obtain ⟨h3, hc⟩ := andS hc
        obtain ⟨h4, h5⟩ := andS hc
        have h1 := Nat.eq_of_beq_eq_true h1
        have h2 := kindEq_eq h2
        have h3 := kindEq_eq h3
        have h4 := Nat.eq_of_beq_eq_true h4
        have h5 := IE.eq_eq h5
        subst h1; subst h2; subst h3; subst h4; subst h5
        have hl := hr.1
        obtain ⟨v0, cs, rfl⟩ : ∃ u cs', cs = u :: cs' := by
          cases cs with
          | nil => simp at hl
          | cons u cs => exact ⟨u, cs, rfl⟩
        cases t with
        | zero =>
          have hv : v0 = v := by simpa using hv
          subst hv
          have := hr.2 0 _ v0 rfl rfl
          cases this
          rfl
        | succ t =>
          have hr' : LRel ρ f l cs.toArray := ⟨by simpa using hl, fun i w w' hw hw' => hr.2 (i + 1) w w' (by simpa using hw) (by simpa using hw')⟩
          have := ih h hr' t v (by simpa using hv)
          rw [this, show i + 1 + t = i + (t + 1) by omega]
      · cases h
    · cases h
def rowSrcK : List AVal → Option (IntKind × IE)
  | .int k (.wrap _ (.fn _ x _ _)) :: _ => some (k, x)
  | _ => none
def aStoreR (C : Ctx) (h : T AObj) (t : TypeId) (p v : AVal) : Option (T AObj) :=
  match p, v with
  | .ptr (some (i, o)), .agg cs =>
    match rowSrcK cs, C.size t, h.get i with
    | some (k, x), some n, some (.cells c elem true top) =>
      match Nat.ble 64 n && (Nat.beq o 0 && (Nat.beq cs.length n && (Nat.beq n top && digOf k x 0 cs))), c.get (n - 1) with
      | true, some _ => some (h.set i (.arr [k] (.fn 4 x (.lit (.ofNat n)) (.lit (.ofNat (kindNo k)))) (.lit (.ofNat n)) true))
      | _, _ => none
    | _, _, _ => none
  | _, _ => none
theorem aStoreR_ok {C : Ctx} {P : Program} {ρ : Env} (hC : C.Ok P ρ) {B : Nat → Prop} {W w : World} {f : Ren} {h h' : T AObj} (hr : HRel ρ B W f h w) {t : TypeId} {x v : AVal} {x' v' : Value} (hx : VRel ρ f x x') (hv : VRel ρ f v v') (hs : aStoreR C h t x v = some h') :
    ∃ w', (Instr.storeAt t x' v').run P w = .ok () w' ∧ HRel ρ B W f h' w' := by
  unfold aStoreR at hs
  split at hs
  · rename_i i o cs
    split at hs
    · rename_i k y n c elem top hk hn hg
      split at hs
      · rename_i hc hlast
        rename_i u
        obtain ⟨g1, hc⟩ := andS hc
        obtain ⟨g2, hc⟩ := andS hc
        obtain ⟨g3, hc⟩ := andS hc
        obtain ⟨g4, g5⟩ := andS hc
        have g1 := Nat.le_of_ble_eq_true g1
        have g2 := Nat.eq_of_beq_eq_true g2
        have g3 := Nat.eq_of_beq_eq_true g3
        have g4 := Nat.eq_of_beq_eq_true g4
        subst g2; subst g4
        cases hs
        cases hx
        rename_i L hf
        have hcl := LRel.cells hv
        have hsz : v'.cells.size = n := by rw [hcl.1]; exact g3
        obtain ⟨cs0, fr, k1, k2, k3, k4⟩ := hr.obj i L _ hf hg
        obtain ⟨k3a, k3b⟩ := k3 rfl
        obtain ⟨_, v0, hv0, _⟩ := k4 (n - 1) u hlast
        have hlt := (Array.getElem?_eq_some_iff.1 hv0).1
        have hlen : v'.cells.toList.length = n := by simpa using hsz
        have hrel : LRel ρ f cs v'.cells.toList.toArray := by simpa [AVal.cells] using hcl
        have dig := digOf_ok g5 hrel
        have hone : ∀ w ∈ v'.cells.toList, w.oneCell' = true := fun w hw => by
          obtain ⟨j, hj⟩ := List.getElem?_of_mem hw
          rw [dig j w hj]
          rfl
        obtain ⟨w', cur', e1, e2, e3, e4, e5, e6, e7⟩ := run_storeRaw P L.blk elem fr (L.base + 0) v'.cells.toList 0 cs0 w k1 (by omega) (fun j hj => k3b j (by omega)) hone
        refine ⟨w', by simp only [Instr.storeAt, Instr.sureAddr, Sem.run_bind, Sem.run_pure, Result.andThen_ok, storeVar, Ctx.size_ok hC hn, hsz, ne_eq, not_true_eq_false, if_false]; exact e1, ?_⟩
        refine hr.turn hf hg rfl k3a (fun _ _ => Iff.rfl) (fun _ _ => Iff.rfl) e7 e6 e5 ?_
        refine ⟨cur', elem, fr, e2, by rw [e3]; exact k2, fun _ => ⟨k3a, k3b⟩, fun j c2 kk hj hkk => ?_⟩
        have hc0 : c2 = 0 := by
          have := (List.getElem?_eq_some_iff.1 hkk).1
          simp at this
          exact this
        subst hc0
        have hkk : k = kk := by simpa using hkk
        subst hkk
        have hj : j < n := by
          have : ((IE.lit (.ofNat n)).ev ρ) = (n : Int) := rfl
          omega
        have hcode : (IE.fn 4 y (.lit (.ofNat n)) (.lit (.ofNat (kindNo k)))).ev ρ = rowWrap (y.ev ρ) n (kindNo k) := rfl
        have hget : rowGet (rowWrap (y.ev ρ) n (kindNo k)) (j : Nat) = k.wrap (rowGet (y.ev ρ) (j : Nat)) := by
          rw [rowWrap_get _ _ _ _ (by simpa using hj), kOf_no]
        have e0 : j * [k].length + 0 = j := by simp
        rw [e0, hcode, hget]
        refine ⟨?_, wrap_mem k _⟩
        obtain ⟨w0, hw0⟩ : ∃ w0, v'.cells.toList[j]? = some w0 := ⟨_, List.getElem?_eq_getElem (by omega)⟩
        rw [e4, if_pos (by omega), show L.base + j - (L.base + 0 + 0) = j by omega, hw0, dig j w0 hw0, Nat.zero_add]
      · cases hs
    · cases hs
  · cases hs
/-! a whole block stored -/
def aStoreW (C : Ctx) (h : T AObj) (t : TypeId) (p v : AVal) : Option (T AObj) :=
  match p, v with
  | .ptr (some (i, o)), .agg cs =>
    match C.size t, h.get i with
    | some n, some (.cells c elem true top) =>
      match Nat.ble 24 n && (Nat.beq o 0 && (Nat.beq n top && (Nat.beq cs.length n && allOne cs))), c.get (n - 1) with
      | true, some _ => some (h.set i (.cells (cellsOf cs) elem true top))
      | _, _ => none
    | _, _ => none
  | _, _ => none
theorem aStoreW_ok {C : Ctx} {P : Program} {ρ : Env} (hC : C.Ok P ρ) {B : Nat → Prop} {W w : World} {f : Ren} {h h' : T AObj} (hr : HRel ρ B W f h w) {t : TypeId} {x v : AVal} {x' v' : Value} (hx : VRel ρ f x x') (hv : VRel ρ f v v') (hs : aStoreW C h t x v = some h') :
    ∃ w', (Instr.storeAt t x' v').run P w = .ok () w' ∧ HRel ρ B W f h' w' := by
  unfold aStoreW at hs
  split at hs
  · rename_i i o cs
    split at hs
    · rename_i n c elem top hn hg
      split at hs
      · rename_i hc hlast
        rename_i u
        obtain ⟨g1, hc⟩ := andS hc
        obtain ⟨g2, hc⟩ := andS hc
        obtain ⟨g4, hc⟩ := andS hc
        obtain ⟨g3, g5⟩ := andS hc
        have g1 := Nat.le_of_ble_eq_true g1
        have g2 := Nat.eq_of_beq_eq_true g2
        have g3 := Nat.eq_of_beq_eq_true g3
        have g4 := Nat.eq_of_beq_eq_true g4
        subst g2; subst g4
        cases hs
        cases hx
        rename_i L hf
        have hcl := LRel.cells hv
        have hsz : v'.cells.size = n := by rw [hcl.1]; exact g3
        obtain ⟨cs0, fr, k1, k2, k3, k4⟩ := hr.obj i L _ hf hg
        obtain ⟨k3a, k3b⟩ := k3 rfl
        obtain ⟨_, v0, hv0, _⟩ := k4 (n - 1) u hlast
        have hlt := (Array.getElem?_eq_some_iff.1 hv0).1
        have hlen : v'.cells.toList.length = n := by simpa using hsz
        have hrel : LRel ρ f cs v'.cells.toList.toArray := by simpa [AVal.cells] using hcl
        have hone := allOne_ok cs v'.cells.toList g5 hrel
        obtain ⟨w', cur', e1, e2, e3, e4, e5, e6, e7⟩ := run_storeRaw P L.blk elem fr (L.base + 0) v'.cells.toList 0 cs0 w k1 (by omega) (fun j hj => k3b j (by omega)) hone
        refine ⟨w', by simp only [Instr.storeAt, Instr.sureAddr, Sem.run_bind, Sem.run_pure, Result.andThen_ok, storeVar, Ctx.size_ok hC hn, hsz, ne_eq, not_true_eq_false, if_false]; exact e1, ?_⟩
        refine hr.turn hf hg rfl k3a (fun _ _ => Iff.rfl) (fun _ _ => Iff.rfl) e7 e6 e5 ?_
        refine ⟨cur', fr, e2, by rw [e3]; exact k2, fun _ => ⟨k3a, k3b⟩, fun j v hj => ?_⟩
        have hcs := cellsOf_ok hj
        obtain ⟨w0, hw0, hw1⟩ := hrel.get hcs
        have hjl := (List.getElem?_eq_some_iff.1 hcs).1
        refine ⟨by omega, w0, ?_, hw1⟩
        rw [e4, if_pos (by omega), show L.base + j - (L.base + 0 + 0) = j by omega]
        simpa using hw0
      · cases hs
    · cases hs
  · cases hs
def aStore2 (C : Ctx) (h : T AObj) (t : TypeId) (x v : AVal) : Option (T AObj) :=
  match aStoreR C h t x v with
  | some h' => some h'
  | none =>
    match aStoreW C h t x v with
    | some h' => some h'
    | none => aStore C h t x v
theorem aStore2_ok {C : Ctx} {P : Program} {ρ : Env} (hC : C.Ok P ρ) {B : Nat → Prop} {W w : World} {f : Ren} {h h' : T AObj} (hr : HRel ρ B W f h w) {t : TypeId} {x v : AVal} {x' v' : Value} (hx : VRel ρ f x x') (hv : VRel ρ f v v') (hs : aStore2 C h t x v = some h') :
    ∃ w', (Instr.storeAt t x' v').run P w = .ok () w' ∧ HRel ρ B W f h' w' := by
  unfold aStore2 at hs
  split at hs
  · rename_i hs1
    cases hs
    exact aStoreR_ok hC hr hx hv hs1
  · split at hs
    · rename_i hs1
      cases hs
      exact aStoreW_ok hC hr hx hv hs1
    · exact aStore_ok hC hr hx hv hs
end
end Go.Sx
