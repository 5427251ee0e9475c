/- append of a row of unknown length to an empty slice. No condition. -/
import Derived.Test.YtpoianhfjgjajaaGreatSx13
set_option linter.unusedSimpArgs false
set_option linter.unusedVariables false
namespace Go.Sx
open Go.RowKit (Below)
noncomputable section

/-- An object under a number that no block bears says nothing. -/
theorem HRel.extra {ρ : Env} {B : Nat → Prop} {W w : World} {f : Ren} {h : T AObj} (hr : HRel ρ B W f h w) {i : Nat} (hi : f i = none) (o : AObj) : HRel ρ B W f (h.set i o) w := by
  have key : ∀ j L x, f j = some L → (h.set i o).get j = some x → h.get j = some x := by
    intro j L x hj hx
    rcases T.get_set hx with ⟨rfl, _⟩ | ⟨_, hx⟩
    · rw [hi] at hj; cases hj
    · exact hx
  exact ⟨hr.below, hr.bsize, hr.lt, fun a b La Lb oa ob ha hb ga gb => hr.apart a b La Lb oa ob ha hb (key a La oa ha ga) (key b Lb ob hb gb), fun j L x hj hx => hr.obj j L x hj (key j L x hj hx)⟩
def topLen (C : Ctx) (len : IE) : Option Nat :=
  match rng C.bd len with
  | some (_, .ofNat n) => some n
  | _ => none
def aAppendE (C : Ctx) (h : T AObj) (nx : Nat) (t xt : TypeId) (s x : AVal) : Option (AVal × T AObj × Nat) :=
  match C.und t, C.und xt with
  | some (.slice e), some (.slice _) =>
    match s, x with
    | .slice a 0 0 0, .sliceS i (.lit (.ofNat 0)) len sz _ =>
      match C.size e, C.bytes e, aZero C e, h.get i, topLen C len with
      | some sz', some by_, some z, some (.arr ks code n _), some top =>
        match Nat.beq sz sz', Nat.beq sz ks.length, Nat.beq z.cells.length sz, settle C.dec (mkLt C.bd n len), Nat.ble (top * by_) 281474976710656, Nat.ble top 9223372036854775807 with
        | true, true, true, some false, true, true => some (.sliceA nx len sz, h.set nx (.arr ks code len true), nx + 1)
        | _, _, _, _, _, _ => none
      | _, _, _, _, _ => none
    | _, _ => none
  | _, _ => none
theorem aAppendE_ok {C : Ctx} {P : Program} {ρ : Env} (hC : C.Ok P ρ) {B : Nat → Prop} {W w : World} {f : Ren} {h h' : T AObj} (hr : HRel ρ B W f h w) {nx nx' : Nat} (hfr : ∀ j, nx ≤ j → j < nx' → f j = none) {t xt ty : TypeId} {s x v : AVal} {s' x' : Value} (hs : VRel ρ f s s') (hx : VRel ρ f x x') (ha : aAppendE C h nx t xt s x = some (v, h', nx'))
    (ts : Array TypeId) (xs : Array Value) (hts0 : ts[0]? = some t) (hts1 : ts[1]? = some xt) (hx0 : xs[0]? = some s') (hx1 : xs[1]? = some x') :
    ∃ f' w' v', (Builtin.append_ ts ty xs).run P w = .ok v' w' ∧ f.le f' ∧ (∀ j, (j < nx ∨ nx' ≤ j) → f' j = f j) ∧ HRel ρ B W f' h' w' ∧ VRel ρ f' v v' := by
  unfold aAppendE at ha
  split at ha
  · rename_i e e2 hut hux
    have ht := Ctx.und_ok hC hut
    have hxt := Ctx.und_ok hC hux
    split at ha
    · rename_i a i len sz nn
      split at ha
      · rename_i sz' by_ z ks code n own top hsz hby hz hg htop
        split at ha
        · rename_i h1 h2 h3 h4 h5 h6
          have h1 := Nat.eq_of_beq_eq_true h1
          have h2 := Nat.eq_of_beq_eq_true h2
          have h3 := Nat.eq_of_beq_eq_true h3
          have h4 := settle_ok hC.dec _ _ h4
          rw [mkLt_ev hC.bd] at h4
          have h4 := of_decide_eq_false h4
          have h5 := Nat.le_of_ble_eq_true h5
          have h6 := Nat.le_of_ble_eq_true h6
          subst h1
          cases ha
          obtain ⟨z', -, hz2, it, hit, hzz⟩ := aZero_ok hC (f := f) hz w
          have htl : len.ev ρ ≤ top := by
            unfold topLen at htop
            split at htop
            · rename_i l m hr'
              cases htop
              exact (rng_ok hC.bd _ _ _ hr').2
            · cases htop
          have hnone : f nx = none := hfr nx (Nat.le_refl _) (by omega)
          obtain ⟨base, rfl⟩ : ∃ base, s' = .slice base 0 0 := by
            cases hs with
            | nilSlice => exact ⟨_, rfl⟩
            | slice hf => exact ⟨_, rfl⟩
            | sliceE hf hg' hs' => rename_i o' c' L; obtain rfl := hg' rfl; exact ⟨_, rfl⟩
          -- nothing to append
          have empty : ∀ b c, x' = .slice b 0 c → len.ev ρ = 0 → ∃ f' w' v', (Builtin.append_ ts ty xs).run P w = .ok v' w' ∧ f.le f' ∧ (∀ j, (j < nx ∨ nx + 1 ≤ j) → f' j = f j) ∧ HRel ρ B W f' (h.set nx (.arr ks code len true)) w' ∧ VRel ρ f' (.sliceA nx len sz) v' := by
            intro b c hx' hl
            subst hx'
            refine ⟨f, w, .slice base (0 + 0) 0, append_fits hC ht hxt rfl hsz (n := 0) (m := 0) (c' := 0) (new := []) rfl ?_ (Nat.le_refl _) (fun a _ => rfl) (fun _ => rfl) ts xs hts0 hts1 hx0 hx1, Ren.le_refl f, fun _ _ => rfl, hr.extra hnone _, .sliceN hl⟩
            cases b with
            | none => rfl
            | some b =>
              simp only [Builtin.firstCells, Nat.zero_mul]
              exact run_loadCells_list w b [] (fun j v hv => by simp at hv)
          cases hx with
          | sliceZ hl hz' => exact empty _ _ rfl hl
          | sliceS hf h0 hl hc =>
            rename_i L c
            by_cases hl0 : len.ev ρ = 0
            · exact empty _ c (by rw [hl0]; rfl) hl0
            · obtain ⟨m, hm⟩ := Int.eq_ofNat_of_zero_le hl
              have hm0 : 0 < m := by omega
              obtain ⟨cs, el, fr, k1, k2, k3, k4⟩ := hr.obj i L _ hf hg
              have hst : ((IE.lit (.ofNat 0)).ev ρ).toNat = 0 := rfl
              have hmn : (len.ev ρ).toNat = m := by rw [hm]; rfl
              rw [hst, hmn, Nat.zero_mul, Nat.add_zero] at hx1
              let new : List Value := (cs.toList.drop L.base).take (m * sz)
              have cell : ∀ j c k, j < m → ks[c]? = some k → cs[L.base + (j * sz + c)]? = some (.int k (rowGet (code.ev ρ) (j * sz + c : Nat))) ∧ kLo k ≤ rowGet (code.ev ρ) (j * sz + c : Nat) ∧ rowGet (code.ev ρ) (j * sz + c : Nat) ≤ kHi k := by
                intro j c k hj hk
                have := k4 j c k (by omega) hk
                rw [← h2] at this
                exact this
              have hks : 0 < ks.length ∨ ks.length = 0 := by omega
              have hnewlen : new.length = m * sz := by
                rcases Nat.eq_zero_or_pos sz with hsz0 | hsz0
                · simp [new, hsz0]
                · have hk : ks[sz - 1]? = some (ks[sz - 1]'(by omega)) := by simp
                  have := (cell (m - 1) (sz - 1) _ (by omega) hk).1
                  have hlt := (Array.getElem?_eq_some_iff.1 this).1
                  have e1 : (m - 1) * sz + (sz - 1) + 1 = m * sz := by
                    obtain ⟨m', rfl⟩ : ∃ m', m = m' + 1 := ⟨m - 1, by omega⟩
                    rw [Nat.add_sub_cancel, Nat.add_mul]
                    omega
                  simp only [new, List.length_take, List.length_drop, Array.length_toList]
                  omega
              have hnew : ∀ j v, new[j]? = some v → cs[L.base + j]? = some v := by
                intro j v hv
                simp only [new, List.getElem?_take, List.getElem?_drop] at hv
                split at hv
                · simpa using hv
                · cases hv
              have hfirst : ∀ d, (Builtin.firstCells sz m (.slice (some ⟨L.blk, L.base, none⟩) m c)).run P { w with drawn := d } = .ok new.toArray { w with drawn := d } := by
                intro d
                simp only [Builtin.firstCells]
                refine run_loadCells_at hnewlen fun j v hv => ?_
                simp [World.cell?, k1, hnew j v hv]
              have hnc : Builtin.nextslicecap (0 + m) 0 = m := by
                unfold Builtin.nextslicecap
                rw [if_pos (by omega), Nat.zero_add]
              have hmt : m ≤ top := by omega
              obtain ⟨newCap, hcap, hrun⟩ := append_growsG (ρ := ρ) hC ht hxt rfl (w := w) (n := 0) (m := m) (c' := 0) (base := base) hsz hby hit hzz (x' := .slice (some ⟨L.blk, L.base, none⟩) m c) (old := []) (new := new) rfl (fun d => by
                cases base with
                | none => rfl
                | some b =>
                  simp only [Builtin.firstCells, Nat.zero_mul]
                  exact run_loadCells_list _ b [] (fun j v hv => by simp at hv)) hfirst (by
                  have hmax : IntKind.i64.max = 9223372036854775807 := by decide
                  rw [hmax]; omega) (by
                  rw [hnc]
                  have : m * by_ ≤ top * by_ := Nat.mul_le_mul_right _ hmt
                  omega) (by omega) ts xs hts0 hts1 hx0 hx1 (ty := ty)
              have hzc : z'.cells.size = sz := by
                have := (LRel.cells hz2).1
                omega
              refine ⟨f.put nx ⟨w.heap.size, 0, (#[] ++ new.toArray ++ Builtin.zeroCells z'.cells (newCap - (0 + m))).size⟩, _, _, hrun, Ren.le_put _ hnone, fun j hj => Ren.put_other f _ (by omega), ?_, ?_⟩
              · refine hr.newG hnone (o := .arr ks code len true) (O := .cells (#[] ++ new.toArray ++ Builtin.zeroCells z'.cells (newCap - (0 + m))) e) rfl ⟨rfl, rfl, rfl⟩ rfl ?_ (fun _ h => h) (fun j x hx => ?_)
                · refine ⟨#[] ++ new.toArray ++ Builtin.zeroCells z'.cells (newCap - (0 + m)), e, (0, 0), by simp, rfl, fun _ => ⟨hr.fresh (Nat.le_refl _), fun j _ => by simp⟩, fun j c k hj hk => ?_⟩
                  have hj : j < m := by omega
                  obtain ⟨q1, q2⟩ := cell j c k hj hk
                  rw [← h2]
                  refine ⟨?_, q2⟩
                  have hcl : c < sz := by rw [h2]; exact (List.getElem?_eq_some_iff.1 hk).1
                  have hlt : j * sz + c < m * sz := by
                    have : (j + 1) * sz ≤ m * sz := Nat.mul_le_mul_right _ hj
                    rw [Nat.add_mul] at this
                    omega
                  have hnj : new[j * sz + c]? = cs[L.base + (j * sz + c)]? := by
                    simp only [new, List.getElem?_take, List.getElem?_drop, if_pos hlt]
                    simp
                  rw [← q1, ← hnj]
                  show (#[] ++ new.toArray ++ Builtin.zeroCells z'.cells (newCap - (0 + m)))[0 + (j * sz + c)]? = _
                  rw [Nat.zero_add, Array.getElem?_append_left (by simp; omega)]
                  simp
                · rcases T.get_set hx with ⟨e1, e2⟩ | ⟨e1, e2⟩
                  · exact .inl ⟨e1, e2.symm⟩
                  · exact .inr ⟨e1, e2⟩
              · have hsize : newCap * sz = (#[] ++ new.toArray ++ Builtin.zeroCells z'.cells (newCap - (0 + m))).size := by
                  simp only [Array.size_append, List.size_toArray, size_zeroCells, hzc, hnewlen, List.length_nil]
                  rw [Nat.zero_add, ← Nat.add_mul]
                  congr 1; omega
                have hv := VRel.sliceA (ρ := ρ) (f := f.put nx ⟨w.heap.size, 0, (#[] ++ new.toArray ++ Builtin.zeroCells z'.cells (newCap - (0 + m))).size⟩) (i := nx) (s := sz) (len := len) (c := newCap) (Ren.put_same f nx _) hl (by rw [hmn]; omega) (by simp only [Nat.zero_add]; simpa using Nat.le_of_eq hsize)
                rw [hmn] at hv
                have em : 0 + m = m := Nat.zero_add m
                simp only [em] at hv ⊢
                exact hv
        · cases ha
      · cases ha
    · cases ha
  · cases ha
def aAppend2 (C : Ctx) (h : T AObj) (nx : Nat) (t xt : TypeId) (s x : AVal) : Option (AVal × T AObj × Nat) :=
  match aAppend C h nx t xt s x with
  | some r => some r
  | none => aAppendE C h nx t xt s x
theorem aAppend2_ok {C : Ctx} {P : Program} {ρ : Env} (hC : C.Ok P ρ) {B : Nat → Prop} {W w : World} {f : Ren} {h h' : T AObj} (hr : HRel ρ B W f h w) {nx nx' : Nat} (hfr : ∀ j, nx ≤ j → j < nx' → f j = none) {t xt ty : TypeId} {s x v : AVal} {s' x' : Value} (hs : VRel ρ f s s') (hx : VRel ρ f x x') (ha : aAppend2 C h nx t xt s x = some (v, h', nx'))
    (ts : Array TypeId) (xs : Array Value) (hts0 : ts[0]? = some t) (hts1 : ts[1]? = some xt) (hx0 : xs[0]? = some s') (hx1 : xs[1]? = some x') :
    ∃ f' w' v', (Builtin.append_ ts ty xs).run P w = .ok v' w' ∧ f.le f' ∧ (∀ j, (j < nx ∨ nx' ≤ j) → f' j = f j) ∧ HRel ρ B W f' h' w' ∧ VRel ρ f' v v' := by
  unfold aAppend2 at ha
  split at ha
  · rename_i r hr'
    cases ha
    exact aAppend_ok hC hr hfr hs hx hr' ts xs hts0 hts1 hx0 hx1
  · exact aAppendE_ok hC hr hfr hs hx ha ts xs hts0 hts1 hx0 hx1
theorem aAppend2_nx {C : Ctx} {h h' : T AObj} {nx nx' : Nat} {t xt : TypeId} {s x v : AVal} (hs : aAppend2 C h nx t xt s x = some (v, h', nx')) : nx ≤ nx' := by
  unfold aAppend2 at hs
  split at hs
  · rename_i r hr
    cases hs
    unfold aAppend at hr
    repeat' split at hr
    all_goals first
      | (cases hr; done)
      | (simp only [Option.some.injEq, Prod.mk.injEq] at hr; omega)
  · unfold aAppendE at hs
    repeat' split at hs
    all_goals first
      | (cases hs; done)
      | (simp only [Option.some.injEq, Prod.mk.injEq] at hs; omega)
end
end Go.Sx
