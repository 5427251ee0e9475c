/- BoardTimers: whatever the input, the law returns true, and the input reads as it did. No condition. -/
import Derived.Test.YtbhlmedfhilkbaaTi4
namespace Go.Proofs.Ytbhlmedfhilkbaa.timers
open Go Go.Sx Go.ChangeShapes Go.WideShapes Go.ChangeAt Go.RowKit
set_option maxRecDepth 1000000
noncomputable section
theorem own : ownKnob Try.prog.godebug = none := by kernel_rfl
theorem laidOut : laidOutB Try.prog = true := by kernel_rfl
theorem shapes : pksOk Try.prog Try.f4.params.toList pks = true := by kernel_rfl
theorem walk {W : World} {base : Nat} {args : Array Value} (hl : args.size = Try.f4.params.toList.length) (hv : ∀ (j : Nat) t v, Try.f4.params[j]? = some t → args[j]? = some v → Value.okWide Try.prog W .any base t v) :
    Calls Try.prog 4 args W fun e w' => e = .returned (.bool true) ∧ Below W.heap.size W w' := by
  obtain ⟨I, hI⟩ := open_envG shapes hl (fun j t v h1 h2 => hv j t v (by simpa using h1) h2)
  obtain ⟨h1, h2⟩ := hI { i := I, b := fun _ => false, g := fun _ _ _ _ => 0, gh := fun _ => Ghost.no } (fun _ _ => rfl)
  have hC : C1.Ok Try.prog { i := I, b := fun _ => false, g := fun _ _ _ _ => 0, gh := fun _ => Ghost.no } := ctxOf_ok mixed h1
  obtain ⟨v, w, hd, hr⟩ := cases_of { i := I, b := fun _ => false, g := fun _ _ _ _ => 0, gh := fun _ => Ghost.no }
  exact oSays_ok hC (smKnow_ok hC ⟨rfl, rfl⟩ K4_ok) hd hr (HRel.start _ W) (h2 _) (fun _ _ => rfl)
theorem fits : ∀ t ∈ Try.f4.params.toList, Try.prog.readableRec t = true ∧ t < Try.prog.types.size := by
  have h : (Try.f4.params.toList.all fun t => Try.prog.readableRec t && decide (t < Try.prog.types.size)) = true := by kernel_rfl
  intro t ht
  have := List.all_eq_true.1 h t ht
  simpa using this
theorem lifted (os : Os) (started : os.Started) (H : Type) (enc : TypeId × Value → H) :
    ReturnsInHanded {} Try.checked os 4 .any (Rows.boardTimersSpec.pre6 enc Try.prog Try.f4 Rows.boardTimersRow.domain false) (Rows.boardTimersSpec.post enc Try.prog Try.f4 false true false false) := by
  refine returnsInHanded_of_change (C := Try.checked) own started (by kernel_rfl) Try.func4
    (ChangeSpec.witness6 (enc := enc) (C := Try.checked) false ⟨#[], #[.int .i64 0, .int .i64 0, .int .i64 0], []⟩ 8 (by kernel_rfl) (by kernel_rfl) (by kernel_rfl) (by kernel_rfl)) ?_
  intro W base args ds gs before hval0 hW hcnd _
  have hval : ∀ (j : Nat) t v, Try.f4.params[j]? = some t → args[j]? = some v → Value.okWide Try.prog W .any base t v := hval0
  have hW' : DataW.Whole enc Try.prog Try.f4.params.toList Rows.boardTimersSpec.vars false W args.toList ds gs before := hW
  have hlen : args.size = Try.f4.params.toList.length ∧ ds.length = Try.f4.params.toList.length := by
    obtain ⟨p, q, hA, _⟩ := hW'
    have := trodAll_length _ _ _ _ hA
    simpa using this
  have hgs : gs = [] := by
    obtain ⟨p, q, _, hV, _⟩ := hW'
    exact (trodVars_none hV).1
  subst hgs
  refine (walk hlen.1 hval).mono fun e W' ⟨he, hb⟩ => ?_
  refine ⟨_, he, post_true (tb := 4) laidOut fits (by kernel_rfl) (by kernel_rfl) rfl hW' ?_ hb⟩
  have hl3 : ds.length = 3 := hlen.2
  match ds, hl3 with
  | [d1, d2, d3], _ => rfl

theorem over : Rows.boardTimersRow.holds Try.pinned (OpenSpec.ofChange Rows.boardTimersSpec) :=
  OpenClaim.holds_of_wide 4 Try.f4 rfl rfl rfl rfl rfl rfl rfl ⟨rfl, rfl, rfl, rfl, rfl⟩ rfl rfl rfl rfl rfl (by kernel_rfl) Try.func4 (by kernel_rfl)
    (of_decide_eq_true (by kernel_rfl)) (by unfold Func.isWrapper; first | (rw [if_pos (by decide +kernel)]; kernel_rfl) | (rw [if_neg (by decide +kernel)]; exact ⟨rfl, rfl⟩))
    (fun os started H enc _ => lifted os started H enc)
theorem proved : Rows.BoardTimersSaid := over

end
end Go.Proofs.Ytbhlmedfhilkbaa.timers
