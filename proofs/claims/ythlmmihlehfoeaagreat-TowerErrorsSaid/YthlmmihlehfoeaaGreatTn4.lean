/- Towers: Kinds. No condition. -/
import Derived.Maps.AppendAt
import Derived.Test.YthlmmihlehfoeaaGreatTn3
set_option linter.unusedVariables false
set_option linter.unusedSimpArgs false
namespace Go.Proofs.YthlmmihlehfoeaaGreat
open Go Go.RowKit Go.Shelf
attribute [local go_sem] Oper.semAt_some
set_option maxRecDepth 100000
set_option maxHeartbeats 4000000
theorem none_in (F : Fence) (n : Nat) (h5 : F.fn 53) (hro : F.round = none) (L p : Nat) (t : TypeId) (v : Value) (w : World) (h2 : w.cell? ⟨L, p + 2, none⟩ = some (.iface t v)) :
    CallsIn F n Tryz.prog 53 #[.pointer (some ⟨L, p, none⟩)] w fun e w' => e = .returned (.bool false) ∧ w' = w := by
  refine callsIn_of_wp Tryz.func53 rfl h5 ?_ hro
  simp only [Tryz.ntmps53, List.size_toArray, List.length_cons, List.length_nil, Nat.reduceAdd, Nat.reduceSub, Array.replicate_succ, Array.replicate_zero, List.push_toArray, List.append_toArray, List.nil_append, List.cons_append]
  gi_wp2
  go_ret
  exact ⟨rfl, rfl⟩
theorem kindL_in (F : Fence) (n : Nat) (h4 : F.fn 32) (h5 : F.fn 53) (hro : F.round = none) (hn : 1 ≤ n) (L p : Nat) (k : Int) (t : TypeId) (v : Value) (w : World) (h0 : w.cell? ⟨L, p, none⟩ = some (.int .i64 k)) (h2 : w.cell? ⟨L, p + 2, none⟩ = some (.iface t v)) :
    CallsIn F n Tryz.prog 32 #[.pointer (some ⟨L, p, none⟩)] w fun e w' => e = .returned (.int .i64 k) ∧ w' = w := by
  refine callsIn_of_wp Tryz.func32 rfl h4 ?_ hro
  simp only [Tryz.ntmps32, List.size_toArray, List.length_cons, List.length_nil, Nat.reduceAdd, Nat.reduceSub, Array.replicate_succ, Array.replicate_zero, List.push_toArray, List.append_toArray, List.nil_append, List.cons_append]
  gi_wp2_with (gi_at_call 53; refine (none_in F (n - 1) h5 hro L p t v _ h2).mono ?_; rintro e w' ⟨rfl, rfl⟩)
  go_ret
  exact ⟨rfl, rfl⟩
theorem kindK_in (F : Fence) (n : Nat) (h4 : F.fn 481) (hro : F.round = none) (p : Value) (w : World) :
    CallsIn F n Tryz.prog 481 #[p] w fun e w' => e = .returned (.int .i64 1) ∧ w' = w := by
  refine callsIn_of_wp Tryz.func481 rfl h4 ?_ hro
  simp only [Tryz.ntmps481, List.size_toArray, List.length_cons, List.length_nil, Nat.reduceAdd, Nat.reduceSub, Array.replicate_succ, Array.replicate_zero, List.push_toArray, List.append_toArray, List.nil_append, List.cons_append]
  gi_wp2
  go_ret
  exact ⟨rfl, rfl⟩
theorem kindQ_in (F : Fence) (n : Nat) (h4 : F.fn 504) (hro : F.round = none) (p : Value) (w : World) :
    CallsIn F n Tryz.prog 504 #[p] w fun e w' => e = .returned (.int .i64 2) ∧ w' = w := by
  refine callsIn_of_wp Tryz.func504 rfl h4 ?_ hro
  simp only [Tryz.ntmps504, List.size_toArray, List.length_cons, List.length_nil, Nat.reduceAdd, Nat.reduceSub, Array.replicate_succ, Array.replicate_zero, List.push_toArray, List.append_toArray, List.nil_append, List.cons_append]
  gi_wp2
  go_ret
  exact ⟨rfl, rfl⟩
/-- The function behind a method of a pointer type. -/
def methB (P : Program) (t : TypeId) (name : String) : Option FuncId :=
  match P.info? t with
  | some i =>
    match i.methods.find? (·.name == name), P.underlying t with
    | some m, some (.pointer _) =>
      match m.path.toList, m.func with
      | [], some (f, true) => some f
      | _, _ => none
    | _, _ => none
  | none => none
theorem meth_ok {P : Program} {t : TypeId} {name : String} {f : FuncId} (h : methB P t name = some f) (v : Value) (W : World) (n : Nat) : (method (n + 1) t v name).run P W = .ok (f, v) W := by
  unfold methB at h
  split at h
  · rename_i i hi
    split at h
    · rename_i m u hm hu
      split at h
      · rename_i hp hf
        cases h
        simp only [method, typeInfo, Sem.run_bind, run_program, Result.andThen_ok, hi, Sem.run_pure, hm, hp, follow, hf, receiverAt, run_underlying hu, Place.get]
      · cases h
    · cases h
  · cases h
theorem methK : methB Tryz.prog 79 "Kind" = some 481 := by kernel_rfl
theorem methQ : methB Tryz.prog 83 "Kind" = some 504 := by kernel_rfl
theorem methL : methB Tryz.prog 46 "Kind" = some 32 := by kernel_rfl
/-- What is known of a machine's kind. -/
def MacKind (w : World) (n₀ : Nat) (m : Mac) (k : Int) : Prop :=
  (m.1 = 79 ∧ k = 1) ∨ (m.1 = 83 ∧ k = 2) ∨ (m.1 = 46 ∧ ∃ L p, m.2 = some ⟨L, p, none⟩ ∧ L < n₀ ∧ w.cell? ⟨L, p, none⟩ = some (.int .i64 k) ∧ ∃ t v, w.cell? ⟨L, p + 2, none⟩ = some (.iface t v))
abbrev MacK (w : World) (n₀ : Nat) := { x : Mac × Int // MacKind w n₀ x.1 x.2 }
def kindsOf {w : World} {n₀ : Nat} (l : List (MacK w n₀)) : List Value := l.map fun x => .int .i64 x.1.2
theorem infoI : (Tryz.prog.info? 3).map (fun i => (i.zero, i.size, i.bytes)) = some (some (.int .i64 0), 1, 8) := by kernel_rfl
theorem underS : Tryz.prog.underlying 34 = some (.slice 3) := by kernel_rfl
theorem opIn_append {F : Fence} {n : Nat} {P : Program} {o : Oper} {a : Act} {K : Act → World → Prop} {Q : Exit → Act → World → Prop} {w : World} {y : Nat → Option Bool} {Z : Prop} (hg : o.guard = none) (s x : Operand) (t : TypeId) (hop : o.op = Op.call { callee := Callee.builtin Builtin.append, args := #[s, x], argTypes := #[t, t] }) {v u v' : Value} {w' : World} (hs : a.eval s = v) (hx : a.eval x = u)
    (hrun : (Builtin.append_ #[t, t] o.type #[v, u]).run P w = .ok v' w') (hK : K (a.put o.dst v') w') : if Region.wanted o y = true then Oper.wpIn F n P o a w K Q else Z := by
  rw [if_pos (by simp [Region.wanted, hg])]
  unfold Oper.wpIn
  refine ⟨?_, ?_⟩
  · simp [Oper.about, hop, resolve, Target.leads, Sem.run_pure]
  · rw [Oper.semAt_plain F _ _ (by rw [hop]; intro c hc'; cases hc')]
    simp [execOp, hop, resolve, invoke, builtin, hs, hx, hrun, Result.andThen]
    exact hK
theorem kinds_in (F : Fence) (n : Nat) (h3 : F.fn 15) (h5 : F.fn 31) (h6 : F.fn 52) (hk1 : F.fn 481) (hk2 : F.fn 504) (hk3 : F.fn 32) (hk4 : F.fn 53) (hro : F.round = none) (hn : 5 ≤ n) (T o : Nat) (lv : Nat → Addr) (len : Nat) (pl : Mac) (hreach : len ≤ 1000) (w : World) (hT : TowAt w w.heap.size T o lv len (mV pl))
    (xs : List (MacK w w.heap.size)) (hxs : xs.map (fun x => x.1.1) = towXs lv len pl) :
    CallsIn F n Tryz.prog 15 #[.pointer (some ⟨T, o, none⟩)] w fun e W' => ∃ v, e = .returned v ∧ W'.ownsRow w.heap.size 3 1 v (len + 1) (kindsOf xs) ∧ Below w.heap.size w W' := by
  have h1 : 1 ≤ n := by omega
  have h2 : 1 ≤ n - 1 - 1 := by omega
  obtain ⟨i0, hi, hz0, hz1, hz2⟩ := info_parts infoI
  have hmix : Tryz.prog.follows .mixedOrders = true := by kernel_rfl
  refine callsIn_of_wp_marks Tryz.func15 rfl h3 ?_ hro
  simp only [Tryz.ntmps15, List.size_toArray, List.length_cons, List.length_nil, Nat.reduceAdd, Nat.reduceSub, Array.replicate_succ, Array.replicate_zero, List.push_toArray, List.append_toArray, List.nil_append, List.cons_append]
  gi_wp2_with (gi_at_call 31; refine (all_in F (n - 1) h5 hro _ _).mono ?_; rintro e w' ⟨rfl, rfl⟩)
  have bO := Boxed.new w 34 (.slice none 0 0)
  have bN := Boxed.new (w.alloc (.cells #[.slice none 0 0] 34)) 24 (.pointer (some ⟨T, o, none⟩))
  rw [World.size_alloc] at bN
  have hB0 : Below w.heap.size w ((w.alloc (.cells #[.slice none 0 0] 34)).alloc (.cells #[.pointer (some ⟨T, o, none⟩)] 24)) := ((Below.refl _ w).alloc (Nat.le_refl _) _).alloc (by simp) _
  refine wpIn_rangeFunc_ownG hro h1 (gf := 52) (lb := #[.pointer (some ⟨w.heap.size + 1, 0, none⟩)]) rfl h6 (enters_of Tryz.func52 (by kernel_rfl) rfl)
    (all_stopsG (fun x : MacK w w.heap.size => x.1.1) xs F (n - 1) h6 hro (by omega) (w.heap.size + 1) w.heap.size T o lv len pl hxs (by omega) _ (by simp) (by simp; omega) bN.cell (hT.below hB0)) KpB.t (KpB.b (by simp; omega)) (Below.refl _ _) (fun _ => rfl)
    (fun pre W => ((∃ v, Boxed W w.heap.size 34 v ∧ W.ownsRow w.heap.size 3 1 v pre.length (kindsOf pre) ∧ True) ∧ Boxed W (w.heap.size + 1) 24 (.pointer (some ⟨T, o, none⟩))) ∧ Below w.heap.size w W)
    (fun _ _ _ => False)
    (OwnFrom.and (OwnFrom.and (Own.from (holdsRow_own w.heap.size w.heap.size 34 3 1 (fun pre => pre.length) (fun pre => kindsOf pre) (fun _ _ => True)) _) (Own.from (boxed_own _ _ _) _)) (ownFrom_below (Nat.le_refl _) (by simp; omega)))
    (fun _ _ _ _ _ hs _ _ => hs)
    ⟨⟨⟨_, bO.alloc _, World.ownsRow_nil _ _ _ _, trivial⟩, bN⟩, hB0⟩
    (fun x => { tmps := #[.pointer (some ⟨T, o, none⟩), undef, .slice none 0 0, .pointer (some ⟨w.heap.size, 0, none⟩), mV x.1.1, .pointer (some ⟨T, o, none⟩), .func (.func 52) #[] #[.pointer (some ⟨w.heap.size + 1, 0, none⟩)], mV x.1.1, undef, undef, undef, undef, undef, undef], defers := [] }) ?assign ?body ?done ?stop
  case assign =>
    intro l x W K hK
    gi_wp2
    exact hK
  case body =>
    rintro l pre ⟨⟨⟨xt, xa⟩, k⟩, hx⟩ W ⟨⟨⟨v, hv, hrow, _⟩, hbx⟩, hB⟩ hlt
    have hc := hv.cell
    simp only [mV]
    obtain ⟨f, hf, hen, hm, hcall⟩ : ∃ f, F.fn f ∧ (∀ args w, (callFunc f args).run Tryz.prog w = .ok (.enter f args) w) ∧ (method 629 xt (.pointer xa) "Kind").run Tryz.prog W.drew = .ok (f, .pointer xa) W.drew ∧ CallsIn F (n - 1 - 1 - 1) Tryz.prog f #[.pointer xa] W.drew (fun e w' => e = .returned (.int .i64 k) ∧ w' = W.drew) := by
      rcases hx with ⟨e1, e2⟩ | ⟨e1, e2⟩ | ⟨e1, L, p, e2, hL, c0, tt, vv, c2⟩
      · simp only at e1 e2
        subst e1 e2
        exact ⟨_, hk1, enters_of Tryz.func481 (by kernel_rfl) rfl, meth_ok methK _ _ _, kindK_in F _ hk1 hro _ _⟩
      · simp only at e1 e2
        subst e1 e2
        exact ⟨_, hk2, enters_of Tryz.func504 (by kernel_rfl) rfl, meth_ok methQ _ _ _, kindQ_in F _ hk2 hro _ _⟩
      · simp only at e1 e2 c0
        subst e1 e2
        exact ⟨_, hk3, enters_of Tryz.func32 (by kernel_rfl) rfl, meth_ok methL _ _ _, kindL_in F _ hk3 hk4 hro (by omega) L p k tt vv W.drew ((hB.cell (p := ⟨L, p, none⟩) hL).trans c0) ((hB.cell (p := ⟨L, p + 2, none⟩) hL).trans c2)⟩
    have hvd : Boxed W.drew w.heap.size 34 v := hv
    have hrd : W.drew.ownsRow w.heap.size 3 1 v pre.length (kindsOf pre) := hrow
    obtain ⟨v', w1, hrun, hown', hgrow, _⟩ := run_append_own_at (P := Tryz.prog) (W.drew.alloc (.cells #[.int .i64 k] 3)) w.heap.size 34 34 3 i0 (.int .i64 0) 1 8 underS hi hz0 hz1 hz2 rfl (by decide) v pre.length (kindsOf pre) (hrd.alloc _) ⟨W.heap.size, 0, none⟩ 1 1 [.int .i64 k] rfl (cell_one_new W.drew _ _) (by simp [Value.oneCell']) (by unfold maxLen; omega) (by omega) (by have := hB.size; simp; omega)
    obtain ⟨g', cap', rfl⟩ := ownsRow_succ hown'
    obtain ⟨hv1, hv2, hr2, hk2, hb2⟩ := hvd.appended (by decide) hrd hB.size (Nat.le_refl _) hown' hgrow
    have hc1 := hv1.cell
    have hf1 := hv1.frozen
    have hcd := hvd.cell
    have hca := (hv.alloc (.cells #[.int .i64 k] 3)).cell
    have hbd : Boxed W.drew (w.heap.size + 1) 24 (.pointer (some ⟨T, o, none⟩)) := hbx
    have hbw : Boxed w1 (w.heap.size + 1) 24 (.pointer (some ⟨T, o, none⟩)) := (hbd.alloc (.cells #[.int .i64 k] 3)).kept hgrow (hbd.not_row (by decide) hrd)
    have hx0 := hbw.other (B' := w.heap.size) (by omega) (.slice (some ⟨g', 0, none⟩) (pre.length + 1) cap')
    have hx1 := hx0.cell
    have hkk : ∀ v', KeepsOthers W.drew (w1.setCell ⟨w.heap.size, 0, none⟩ v') → KeepsOthers W (w1.setCell ⟨w.heap.size, 0, none⟩ v') := fun _ h => (KeepsOthers.drew W).trans h
    have hbb : ∀ v', Below w.heap.size W.drew (w1.setCell ⟨w.heap.size, 0, none⟩ v') → Below w.heap.size W (w1.setCell ⟨w.heap.size, 0, none⟩ v') := fun _ h => ⟨h.os, h.tape, h.output, h.size, h.block⟩
    gi_wp2
    refine wpIn_region_any hmix ?_
    change wpAnyIn _ _ _ _ _ _ _ _ _ (World.drew _)
    refine wpAnyIn_ready (rs := [0, 1]) (by kernel_rfl) (by simp) ?_
    refine AllReadyIn.cons rfl (fun K hK => ?_) (AllReadyIn.cons rfl (fun K hK => ?_) AllReadyIn.nil)
    · go_simp; refine hK _ _ ?_; clear hK K
      refine wpAnyIn_ready (rs := [1]) (by kernel_rfl) (by simp) ?_
      refine AllReadyIn.cons rfl (fun K hK => ?_) AllReadyIn.nil
      go_simp; refine hK _ _ ?_; clear hK K
      refine wpAnyIn_ready (rs := [2]) (by kernel_rfl) (by simp) ?_
      refine AllReadyIn.cons rfl (fun K hK => ?_) AllReadyIn.nil
      go_simp; refine hcall.mono ?_; rintro e w' ⟨rfl, rfl⟩; refine hK _ _ ?_; clear hK K
      refine wpAnyIn_ready (rs := [3]) (by kernel_rfl) (by simp) ?_
      refine AllReadyIn.cons rfl (fun K hK => ?_) AllReadyIn.nil
      go_simp; refine hK _ _ ?_; clear hK K
      refine wpAnyIn_ready (rs := [4]) (by kernel_rfl) (by simp) ?_
      refine AllReadyIn.cons rfl (fun K hK => ?_) AllReadyIn.nil
      refine opIn_append rfl (.tmp 8) (.tmp 11) 34 rfl rfl rfl hrun (hK _ _ ?_); clear hK K
      refine wpAnyIn_ready (rs := [5]) (by kernel_rfl) (by simp) ?_
      refine AllReadyIn.cons rfl (fun K hK => ?_) AllReadyIn.nil
      go_simp; refine hK _ _ ?_; clear hK K
      refine wpAnyIn_done (by kernel_rfl) ?_ _
      exact ⟨(hkk _ hk2).from _, ⟨hbb _ hb2, fun u hu => by rw [hbx.cell] at hu; cases hu; exact hx1⟩, ⟨⟨_, hv2, by simpa [kindsOf] using hr2, trivial⟩, hx0⟩, hB.trans (hbb _ hb2)⟩
    · go_simp; refine hK _ _ ?_; clear hK K
      refine wpAnyIn_ready (rs := [0, 2]) (by kernel_rfl) (by simp) ?_
      refine AllReadyIn.cons rfl (fun K hK => ?_) (AllReadyIn.cons rfl (fun K hK => ?_) AllReadyIn.nil)
      · go_simp; refine hK _ _ ?_; clear hK K
        refine wpAnyIn_ready (rs := [2]) (by kernel_rfl) (by simp) ?_
        refine AllReadyIn.cons rfl (fun K hK => ?_) AllReadyIn.nil
        go_simp; refine hcall.mono ?_; rintro e w' ⟨rfl, rfl⟩; refine hK _ _ ?_; clear hK K
        refine wpAnyIn_ready (rs := [3]) (by kernel_rfl) (by simp) ?_
        refine AllReadyIn.cons rfl (fun K hK => ?_) AllReadyIn.nil
        go_simp; refine hK _ _ ?_; clear hK K
        refine wpAnyIn_ready (rs := [4]) (by kernel_rfl) (by simp) ?_
        refine AllReadyIn.cons rfl (fun K hK => ?_) AllReadyIn.nil
        refine opIn_append rfl (.tmp 8) (.tmp 11) 34 rfl rfl rfl hrun (hK _ _ ?_); clear hK K
        refine wpAnyIn_ready (rs := [5]) (by kernel_rfl) (by simp) ?_
        refine AllReadyIn.cons rfl (fun K hK => ?_) AllReadyIn.nil
        go_simp; refine hK _ _ ?_; clear hK K
        refine wpAnyIn_done (by kernel_rfl) ?_ _
        exact ⟨(hkk _ hk2).from _, ⟨hbb _ hb2, fun u hu => by rw [hbx.cell] at hu; cases hu; exact hx1⟩, ⟨⟨_, hv2, by simpa [kindsOf] using hr2, trivial⟩, hx0⟩, hB.trans (hbb _ hb2)⟩
      · go_simp; refine hcall.mono ?_; rintro e w' ⟨rfl, rfl⟩; refine hK _ _ ?_; clear hK K
        refine wpAnyIn_ready (rs := [0, 3]) (by kernel_rfl) (by simp) ?_
        refine AllReadyIn.cons rfl (fun K hK => ?_) (AllReadyIn.cons rfl (fun K hK => ?_) AllReadyIn.nil)
        · go_simp; refine hK _ _ ?_; clear hK K
          refine wpAnyIn_ready (rs := [3]) (by kernel_rfl) (by simp) ?_
          refine AllReadyIn.cons rfl (fun K hK => ?_) AllReadyIn.nil
          go_simp; refine hK _ _ ?_; clear hK K
          refine wpAnyIn_ready (rs := [4]) (by kernel_rfl) (by simp) ?_
          refine AllReadyIn.cons rfl (fun K hK => ?_) AllReadyIn.nil
          refine opIn_append rfl (.tmp 8) (.tmp 11) 34 rfl rfl rfl hrun (hK _ _ ?_); clear hK K
          refine wpAnyIn_ready (rs := [5]) (by kernel_rfl) (by simp) ?_
          refine AllReadyIn.cons rfl (fun K hK => ?_) AllReadyIn.nil
          go_simp; refine hK _ _ ?_; clear hK K
          refine wpAnyIn_done (by kernel_rfl) ?_ _
          exact ⟨(hkk _ hk2).from _, ⟨hbb _ hb2, fun u hu => by rw [hbx.cell] at hu; cases hu; exact hx1⟩, ⟨⟨_, hv2, by simpa [kindsOf] using hr2, trivial⟩, hx0⟩, hB.trans (hbb _ hb2)⟩
        · go_simp; refine hK _ _ ?_; clear hK K
          refine wpAnyIn_ready (rs := [0]) (by kernel_rfl) (by simp) ?_
          refine AllReadyIn.cons rfl (fun K hK => ?_) AllReadyIn.nil
          go_simp; refine hK _ _ ?_; clear hK K
          refine wpAnyIn_ready (rs := [4]) (by kernel_rfl) (by simp) ?_
          refine AllReadyIn.cons rfl (fun K hK => ?_) AllReadyIn.nil
          refine opIn_append rfl (.tmp 8) (.tmp 11) 34 rfl rfl rfl hrun (hK _ _ ?_); clear hK K
          refine wpAnyIn_ready (rs := [5]) (by kernel_rfl) (by simp) ?_
          refine AllReadyIn.cons rfl (fun K hK => ?_) AllReadyIn.nil
          go_simp; refine hK _ _ ?_; clear hK K
          refine wpAnyIn_done (by kernel_rfl) ?_ _
          exact ⟨(hkk _ hk2).from _, ⟨hbb _ hb2, fun u hu => by rw [hbx.cell] at hu; cases hu; exact hx1⟩, ⟨⟨_, hv2, by simpa [kindsOf] using hr2, trivial⟩, hx0⟩, hB.trans (hbb _ hb2)⟩
  case done =>
    rintro D ys W hD rfl ⟨⟨⟨v, hv, hrow, _⟩, _⟩, hB⟩ hK
    have hc := hv.cell
    gi_wp2
    refine ⟨by simp, .inl ⟨_, _, rfl, run_takeDeferred hK, ?_⟩⟩
    have hl : ys.length = len + 1 := by
      have := congrArg List.length hxs
      rw [List.length_map, towXs_length] at this
      exact this
    rw [hl] at hrow
    exact ⟨_, results_tmp rfl _ _ _, v, rfl, ownsRow_putObj hrow _ hK rfl, hB.trans (belowK_b (w := w) (Nat.le_refl _) W D _ _ (by simp at hD; omega) hK rfl rfl)⟩
  case stop =>
    rintro D c pre W _ _ h _
    exact h.elim
end Go.Proofs.YthlmmihlehfoeaaGreat
