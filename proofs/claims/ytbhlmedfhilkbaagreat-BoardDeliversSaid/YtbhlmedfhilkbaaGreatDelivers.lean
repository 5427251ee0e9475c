/- BoardDelivers: whatever the input, the law returns true, and the input reads as it did. No condition. -/
import Derived.Test.YtbhlmedfhilkbaaGreatDe19
import Derived.Test.YtbhlmedfhilkbaaGreatDeliversfa
import Derived.Test.YtbhlmedfhilkbaaGreatDeliversfb
import Derived.Test.YtbhlmedfhilkbaaGreatDeliversfc
set_option linter.unusedVariables false
set_option linter.unusedSimpArgs false
namespace Go.Proofs.YtbhlmedfhilkbaaGreat.delivers
open Go Go.Sx Go.ChangeShapes Go.WideShapes Go.ChangeAt Go.RowKit
set_option maxRecDepth 1000000
noncomputable section
theorem own : ownKnob Tryz.prog.godebug = none := by kernel_rfl
theorem laidOut : laidOutB Tryz.prog = true := by kernel_rfl
theorem shapes : pksOk Tryz.prog Tryz.f5.params.toList pksD = true := by kernel_rfl
theorem walk {W : World} {base : Nat} {args : Array Value} (hl : args.size = Tryz.f5.params.toList.length) (hv : ∀ (j : Nat) t v, Tryz.f5.params[j]? = some t → args[j]? = some v → Value.okWide Tryz.prog W .any base t v) :
    Calls Tryz.prog 5 args W fun e w' => e = .returned (.bool true) ∧ Below W.heap.size W w' := by
  obtain ⟨I, hI⟩ := open_envG shapes hl (fun j t v h1 h2 => hv j t v (by simpa using h1) h2)
  obtain ⟨q1, q2⟩ := mdI_in (x := I 0) (m := 39) (by decide)
  obtain ⟨c, hc⟩ := Int.eq_ofNat_of_zero_le q1
  have hc39 : c < 39 := by omega
  have h5 : 0 ≤ I 5 := by
    obtain ⟨h1, _⟩ := hI (at9 I fun _ _ _ _ => 0) (fun _ _ => rfl)
    exact (h1 5 0 4294967295 (by kernel_rfl)).1
  obtain ⟨j, hj, said⟩ := goes9 hc39 hc h5
  obtain ⟨G, hP, hS⟩ := six I (opAt c) hj
  obtain ⟨h1, h2⟩ := hI (at9 I G) (fun _ _ => rfl)
  have hC : CD.Ok Tryz.prog (at9 I G) := ctxOf_ok mixed h1
  obtain ⟨dec, hd, hr⟩ := said G hP
  exact oSays_ok hC (smKnow_ok hC ⟨rfl, rfl⟩ (K9_ok hc39 hj hP hS)) hd hr (HRel.start _ W) (h2 _) (fun _ _ => rfl)
theorem fits : ∀ t ∈ Tryz.f5.params.toList, Tryz.prog.readableRec t = true ∧ t < Tryz.prog.types.size := by
  have h : (Tryz.f5.params.toList.all fun t => Tryz.prog.readableRec t && decide (t < Tryz.prog.types.size)) = true := by kernel_rfl
  intro t ht
  have := List.all_eq_true.1 h t ht
  simpa using this
theorem lifted (os : Os) (started : os.Started) (H : Type) (enc : TypeId × Value → H) :
    ReturnsInHanded {} Tryz.checked os 5 .any (Rows.boardDeliversSpec.pre6 enc Tryz.prog Tryz.f5 Rows.boardDeliversRow.domain false) (Rows.boardDeliversSpec.post enc Tryz.prog Tryz.f5 false true false false) := by
  refine returnsInHanded_of_change (C := Tryz.checked) own started (by kernel_rfl) Tryz.func5
    (ChangeSpec.witness6 (enc := enc) (C := Tryz.checked) false ⟨#[], #[.agg #[.int .i64 0, .int .i64 0, .int .i64 0, .int .i64 0, .int .i64 0], .int .u32 0], []⟩ 8 (by kernel_rfl) (by kernel_rfl) (by kernel_rfl) (by kernel_rfl)) ?_
  intro W base args ds gs before hval0 hW hcnd _
  have hval : ∀ (j : Nat) t v, Tryz.f5.params[j]? = some t → args[j]? = some v → Value.okWide Tryz.prog W .any base t v := hval0
  have hW' : DataW.Whole enc Tryz.prog Tryz.f5.params.toList Rows.boardDeliversSpec.vars false W args.toList ds gs before := hW
  have hlen : args.size = Tryz.f5.params.toList.length ∧ ds.length = Tryz.f5.params.toList.length := by
    obtain ⟨p, q, hA, _⟩ := hW'
    have := trodAll_length _ _ _ _ hA
    simpa using this
  have hgs : gs = [] := by
    obtain ⟨p, q, _, hV, _⟩ := hW'
    exact (trodVars_none hV).1
  subst hgs
  refine (walk hlen.1 hval).mono fun e W' ⟨he, hb⟩ => ?_
  refine ⟨_, he, post_true (tb := 4) laidOut fits (by kernel_rfl) (by kernel_rfl) rfl hW' ?_ hb⟩
  have hl2 : ds.length = 2 := hlen.2
  match ds, hl2 with
  | [d1, d2], _ => rfl

theorem an {a b : Bool} (ha : a = true) (hb : b = true) : (a && b) = true := by rw [ha, hb]; rfl
theorem joined : joinedFacts Tryz.prog 5 Tryz.f5 Rows.boardDeliversSpec Rows.boardDeliversRow = true := by
  unfold joinedFacts
  exact (an (an (an (an (an (an (an (an (an (an (an (an (an (an (an (an (an (an (an (an (an (an (an (an (an (an (an (an (an (an (an (by kernel_rfl) laidOut) f_mapsRowed) (by kernel_rfl)) (by kernel_rfl)) (by kernel_rfl)) (by kernel_rfl)) (by kernel_rfl)) (by kernel_rfl)) f_inPlace) f_unfollowed) f_recurses) f_named) (by kernel_rfl)) (by kernel_rfl)) (by kernel_rfl)) (by kernel_rfl)) (by kernel_rfl)) (by kernel_rfl)) (by kernel_rfl)) (by kernel_rfl)) (by kernel_rfl)) (by kernel_rfl)) (by kernel_rfl)) f_stopsHeard) f_mayEnter) (by kernel_rfl)) (by kernel_rfl)) (by kernel_rfl)) (by kernel_rfl)) (by kernel_rfl)) (by kernel_rfl))
theorem over : Rows.boardDeliversRow.holds Tryz.pinned (OpenSpec.ofChange Rows.boardDeliversSpec) :=
  OpenClaim.holds_of_wide 5 Tryz.f5 rfl rfl rfl rfl rfl rfl rfl ⟨rfl, rfl, rfl, rfl, rfl⟩ rfl rfl rfl rfl rfl (by kernel_rfl) Tryz.func5 joined
    (of_decide_eq_true (by kernel_rfl)) (by unfold Func.isWrapper; first | (rw [if_pos (by decide +kernel)]; kernel_rfl) | (rw [if_neg (by decide +kernel)]; exact ⟨rfl, rfl⟩))
    (fun os started H enc _ => lifted os started H enc)
theorem proved : Rows.BoardDeliversSaid := over

end
end Go.Proofs.YtbhlmedfhilkbaaGreat.delivers
