/- Towers: the iterator's contract; Machine. No condition. -/
import Derived.Test.YthlmmihlehfoeaaGreatTn2
set_option linter.unusedVariables false
set_option linter.unusedSimpArgs false
namespace Go.Proofs.YthlmmihlehfoeaaGreat
open Go Go.RowKit Go.Shelf
attribute [local go_sem] Oper.semAt_some
set_option maxRecDepth 100000
set_option maxHeartbeats 4000000
/-- The tower at T, whose levels' array lies at b: so many levels, and the plain machine. -/
structure TowAt (W : World) (n₀ T o : Nat) (lv : Nat → Addr) (len : Nat) (pl : Value) : Prop where
  lt : T < n₀
  top : ∃ a cap, W.cell? ⟨T, o, none⟩ = some (.slice a len cap) ∧ (0 < len → ∃ b off, a = some ⟨b, off, none⟩ ∧ b < n₀ ∧ ∀ j, j < len → W.cell? ⟨b, off + j * 2, none⟩ = some (.pointer (some (lv j))) ∧ ∃ c, W.cell? ⟨b, off + j * 2 + 1, none⟩ = some (.int .i64 c))
  pl : W.cell? ⟨T, o + 1, none⟩ = some pl
theorem TowAt.below {A B : World} {n₀ T o : Nat} {lv : Nat → Addr} {len : Nat} {pl : Value} (h : TowAt A n₀ T o lv len pl) (k : Below n₀ A B) : TowAt B n₀ T o lv len pl := by
  obtain ⟨h1, ⟨a, cap, h2, h3⟩, h4⟩ := h
  refine ⟨h1, ⟨a, cap, (k.cell (p := ⟨T, o, none⟩) h1).trans h2, fun hl => ?_⟩, (k.cell (p := ⟨T, o + 1, none⟩) h1).trans h4⟩
  obtain ⟨b, off, rfl, hb, hc⟩ := h3 hl
  exact ⟨b, off, rfl, hb, fun j hj => ⟨(k.cell (p := ⟨b, off + j * 2, none⟩) hb).trans (hc j hj).1, by obtain ⟨c, hx⟩ := (hc j hj).2; exact ⟨c, (k.cell (p := ⟨b, off + j * 2 + 1, none⟩) hb).trans hx⟩⟩⟩
/-- A machine: its type, its address. -/
abbrev Mac := TypeId × Option Addr
def mV (x : Mac) : Value := .iface x.1 (.pointer x.2)
/-- What comes. -/
def towXs (lv : Nat → Addr) (len : Nat) (pl : Mac) : List Mac := (List.range len).map (fun j => (46, some (lv j))) ++ [pl]
theorem towXs_length (lv : Nat → Addr) (len : Nat) (pl : Mac) : (towXs lv len pl).length = len + 1 := by simp [towXs]
theorem towXs_at {lv : Nat → Addr} {len : Nat} {pl : Mac} {k : Nat} (h : k < len) : (towXs lv len pl)[k]? = some (46, some (lv k)) := by
  unfold towXs
  rw [List.getElem?_append_left (by simp; omega)]
  simp [h]
theorem towXs_last (lv : Nat → Addr) (len : Nat) (pl : Mac) : (towXs lv len pl)[len]? = some pl := by
  unfold towXs
  rw [List.getElem?_append_right (by simp)]
  simp
theorem take_at {α : Type} {l : List α} {k : Nat} {x : α} (h : l[k]? = some x) : l.take (k + 1) = l.take k ++ [x] := by
  obtain ⟨hk, hx⟩ := List.getElem?_eq_some_iff.1 h
  rw [List.take_succ_eq_append_getElem hk, hx]
theorem towXs_lv {lv : Nat → Addr} {len : Nat} {pl : Mac} {k : Nat} (h : k < len) : (towXs lv len pl).take (k + 1) = (towXs lv len pl).take k ++ [(46, some (lv k))] := take_at (towXs_at h)
theorem towXs_pl (lv : Nat → Addr) (len : Nat) (pl : Mac) : (towXs lv len pl).take (len + 1) = (towXs lv len pl).take len ++ [pl] := take_at (towXs_last lv len pl)
theorem all_stopsG {α : Type} (v : α → Mac) (xs : List α) (F : Fence) (n : Nat) (h6 : F.fn 52) (hro : F.round = none) (hn : 1 ≤ n) (Bx n₀ T o : Nat) (lv : Nat → Addr) (len : Nat) (pl : Mac) (hxs : xs.map v = towXs lv len pl) (hreach : len * 16 ≤ 140737488351232) (w : World) (hBx : Bx < w.heap.size) (hn₀ : n₀ ≤ w.heap.size) (hc : w.cell? ⟨Bx, 0, none⟩ = some (.pointer (some ⟨T, o, none⟩))) (hT : TowAt w n₀ T o lv len (mV pl)) :
    SeqStopsK F n Tryz.prog 52 #[.pointer (some ⟨Bx, 0, none⟩)] (fun x : α => #[mV (v x)]) (KpB n₀ Bx) (fun ys => ys = xs) (fun pre => ∃ k, 0 < k ∧ k ≤ len + 1 ∧ pre = xs.take k) (len + 1) w := fun l J Jx W hW hJ _ hY h0 => by
  have hc' := (hW.cell (p := ⟨Bx, 0, none⟩) hBx).trans hc
  obtain ⟨t1, ⟨a, cap, t2, t3⟩, t4⟩ := hT.below (hW.mono hn₀)
  have hl : xs.length = len + 1 := by
    have := congrArg List.length hxs
    rw [List.length_map, towXs_length] at this
    exact this
  have hall : xs.take (len + 1) = xs := List.take_of_length_le (by omega)
  have hlen : ∀ k, k ≤ len + 1 → (xs.take k).length = k := fun k hk => by rw [List.length_take]; omega
  have hat : ∀ (k : Nat) (m : Mac), (towXs lv len pl)[k]? = some m → ∃ x, xs[k]? = some x ∧ v x = m := fun k m hm => by
    rw [← hxs, List.getElem?_map] at hm
    cases hx : xs[k]? with
    | none => rw [hx] at hm; cases hm
    | some x => rw [hx] at hm; exact ⟨x, rfl, by simpa using hm⟩
  have step : ∀ (k : Nat) (m : Mac) (W1 : World), k ≤ len → (towXs lv len pl)[k]? = some m → J (xs.take k) W1 → YieldAt F (n - 1) Tryz.prog l #[mV m] W1 fun e W' => (e = .returned (.bool true) ∧ J (xs.take (k + 1)) W' ∧ KpB n₀ Bx W1 W') ∨ (e = .returned (.bool false) ∧ Jx (xs.take (k + 1)) W') := fun k m W1 hk hm hj => by
    obtain ⟨x, hx, rfl⟩ := hat k m hm
    have := hY _ x W1 hj (by rw [hlen k (by omega)]; omega)
    rw [take_at hx]
    exact this
  have hZ := fun W1 (hj : J (xs.take len) W1) => step len pl W1 (Nat.le_refl _) (towXs_last lv len pl) hj
  rcases Nat.eq_zero_or_pos len with h | hpos
  · subst h
    refine (all1_in0 F n h6 hro hn l Bx n₀ T o cap a (mV pl) (fun k => J (xs.take k)) (fun k => Jx (xs.take k)) (fun W1 hj => hZ W1 hj) W hc' t2 t4 h0).mono ?_
    rintro e W' ⟨he, hj | hj⟩
    · exact ⟨he, .inl ⟨_, hall, hj⟩⟩
    · exact ⟨he, .inr ⟨_, ⟨1, by omega, by omega, rfl⟩, hj⟩⟩
  · obtain ⟨b, off, rfl, hb, hcs⟩ := t3 hpos
    refine (all1_in F n h6 hro hn l Bx n₀ T o b off len cap lv (fun j => if h : j < len then Classical.choose (hcs j h).2 else 0) (mV pl) t1 hpos hb hreach (fun k => J (xs.take k)) (fun k => Jx (xs.take k))
      (fun k A B hj hg => hJ _ A B none hj hg (fun r e => by cases e)) (fun k W1 hj hk => step k _ W1 (by omega) (towXs_at hk) hj) hZ W (Nat.le_trans hn₀ hW.size) hc' t2 t4 (fun j hj => (hcs j hj).1) (fun j hj => by rw [dif_pos hj]; exact Classical.choose_spec (hcs j hj).2) h0).mono ?_
    · rintro e W' ⟨he, hj | ⟨k, h1, h2, hj⟩⟩
      · exact ⟨he, .inl ⟨_, hall, hj⟩⟩
      · exact ⟨he, .inr ⟨_, ⟨k, h1, h2, rfl⟩, hj⟩⟩
theorem all_stops (F : Fence) (n : Nat) (h6 : F.fn 52) (hro : F.round = none) (hn : 1 ≤ n) (Bx n₀ T o : Nat) (lv : Nat → Addr) (len : Nat) (pl : Mac) (hreach : len * 16 ≤ 140737488351232) (w : World) (hBx : Bx < w.heap.size) (hn₀ : n₀ ≤ w.heap.size) (hc : w.cell? ⟨Bx, 0, none⟩ = some (.pointer (some ⟨T, o, none⟩))) (hT : TowAt w n₀ T o lv len (mV pl)) :
    SeqStopsK F n Tryz.prog 52 #[.pointer (some ⟨Bx, 0, none⟩)] (fun x : Mac => #[mV x]) (KpB n₀ Bx) (fun ys => ys = towXs lv len pl) (fun pre => ∃ k, 0 < k ∧ k ≤ len + 1 ∧ pre = (towXs lv len pl).take k) (len + 1) w :=
  all_stopsG (fun x => x) (towXs lv len pl) F n h6 hro hn Bx n₀ T o lv len pl (List.map_id' _) hreach w hBx hn₀ hc hT
/-- Machine: the first that comes. -/
theorem machine_in (F : Fence) (n : Nat) (h3 : F.fn 12) (h5 : F.fn 31) (h6 : F.fn 52) (hro : F.round = none) (hn : 3 ≤ n) (T o : Nat) (lv : Nat → Addr) (len : Nat) (pl : Mac) (hreach : len * 16 ≤ 140737488351232) (w : World) (hT : TowAt w w.heap.size T o lv len (mV pl)) :
    CallsIn F n Tryz.prog 12 #[.pointer (some ⟨T, o, none⟩)] w fun e W' => e = .returned (mV ((towXs lv len pl).headD (0, none))) ∧ Below w.heap.size w W' := by
  have h1 : 1 ≤ n := by omega
  refine callsIn_of_wp_marks Tryz.func12 rfl h3 ?_ hro
  simp only [Tryz.ntmps12, List.size_toArray, List.length_cons, List.length_nil, Nat.reduceAdd, Nat.reduceSub, Array.replicate_succ, Array.replicate_zero, List.push_toArray, List.append_toArray, List.nil_append, List.cons_append]
  gi_wp2_with (gi_at_call 31; refine (all_in F (n - 1) h5 hro _ _).mono ?_; rintro e w' ⟨rfl, rfl⟩)
  have hs := cell_new_l w .nilIface 29
  have hb := cell_new_l (w.alloc (.cells #[.nilIface] 29)) (.pointer (some ⟨T, o, none⟩)) 24
  rw [World.size_alloc] at hb
  have hB0 : Below w.heap.size w ((w.alloc (.cells #[.nilIface] 29)).alloc (.cells #[.pointer (some ⟨T, o, none⟩)] 24)) := ((Below.refl _ w).alloc (Nat.le_refl _) _).alloc (by simp) _
  refine wpIn_rangeFunc_ownF hro h1 (gf := 52) (lb := #[.pointer (some ⟨w.heap.size + 1, 0, none⟩)]) rfl h6 (enters_of Tryz.func52 (by kernel_rfl) rfl)
    (all_stops F (n - 1) h6 hro (by omega) (w.heap.size + 1) w.heap.size T o lv len pl hreach _ (by simp) (by simp; omega) hb.1 (hT.below hB0)) KpB.t (KpB.b (by simp; omega)) (Below.refl _ _) (fun _ => rfl)
    (fun pre W => (pre = [] ∧ W.cell? ⟨w.heap.size, 0, none⟩ = some .nilIface ∧ W.frozen? ⟨w.heap.size, 0, none⟩ = false) ∧ Below w.heap.size w W)
    (fun c pre W => (∃ x, c = .ret ∧ pre = [x] ∧ W.cell? ⟨w.heap.size, 0, none⟩ = some (mV x)) ∧ Below w.heap.size w W)
    (OwnFrom.and (Own.from (fun s A B row hs hg hr => ⟨hs.1, cell_kept hs.2.1 hg hr, (frozen_kept hs.2.1 hg hr).trans hs.2.2⟩) _) (ownFrom_below (Nat.le_refl _) (by simp; omega)))
    (fun c => OwnFrom.and (Own.from (fun s A B row hs hg hr => by obtain ⟨x, e1, e2, e3⟩ := hs; exact ⟨x, e1, e2, cell_kept e3 hg hr⟩) _) (ownFrom_below (Nat.le_refl _) (by simp; omega)))
    ⟨⟨rfl, cell_alloc_l _ hs.1, frozen_alloc_l _ hs.1 hs.2⟩, hB0⟩
    (fun x => { tmps := #[.pointer (some ⟨T, o, none⟩), undef, .pointer (some ⟨w.heap.size, 0, none⟩), mV x, .pointer (some ⟨T, o, none⟩), .func (.func 52) #[] #[.pointer (some ⟨w.heap.size + 1, 0, none⟩)], mV x, undef], defers := [] }) ?assign ?body ?done ?stop
  case assign =>
    intro l x W K hK
    gi_wp2
    exact hK
  case body =>
    rintro l pre ⟨xt, xa⟩ W ⟨⟨rfl, hc, hf⟩, hB⟩ _
    simp only [mV]
    gi_wp2
    exact ⟨KeepsOthers.setCell _ _ _, ⟨(xt, xa), rfl, rfl, World.cell?_setCell_same' _ _ _ (by rw [hc]; rfl)⟩, hB.setCell (p := ⟨w.heap.size, 0, none⟩) (Nat.le_refl _) _⟩
  case done =>
    rintro D ys W hD rfl ⟨⟨he, _⟩, _⟩ _
    exact absurd (congrArg List.length he) (by rw [towXs_length]; simp)
  case stop =>
    rintro D c pre W hD hpre ⟨⟨x, rfl, rfl, hcr⟩, hB⟩ hK
    gi_wp2
    refine ⟨by simp, .inl ⟨_, _, rfl, run_takeDeferred hK, ?_⟩⟩
    have hc5 := cell_kept hcr (grownBy_putObj' _ D (.deferred none)) (fun r e => by cases e; exact ⟨_, hK, rfl⟩)
    obtain ⟨k, k1, k2, hk⟩ := hpre
    have hx : (towXs lv len pl).headD (0, none) = x := by
      have := congrArg (fun l => l.headD (0, none)) hk
      simp only [List.headD_cons] at this
      rw [this]
      cases he : towXs lv len pl with
      | nil => have := towXs_length lv len pl; rw [he] at this; cases this
      | cons y l =>
        cases k with
        | zero => omega
        | succ k => rfl
    rw [hx]
    refine ⟨mV x, ?_, rfl, hB.trans (belowK_b (w := w) (Nat.le_refl _) W D _ _ (by simp at hD; omega) hK rfl rfl)⟩
    simp [results, Tryz.f12, go_sem, hc5]
end Go.Proofs.YthlmmihlehfoeaaGreat
