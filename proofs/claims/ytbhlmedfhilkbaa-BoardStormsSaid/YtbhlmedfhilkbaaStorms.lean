/- BoardStorms: whatever the input, the law returns true, and the input reads as it did. No condition. -/
import Derived.Test.YtbhlmedfhilkbaaSt6
namespace Go.Proofs.Ytbhlmedfhilkbaa.storms
open Go Go.Sx Go.ChangeShapes Go.WideShapes Go.ChangeAt Go.RowKit
set_option maxRecDepth 1000000
noncomputable section
theorem own : ownKnob Try.prog.godebug = none := by kernel_rfl
theorem laidOut : laidOutB Try.prog = true := by kernel_rfl
theorem shapes : pksOk Try.prog Try.f3.params.toList pks = true := by kernel_rfl
theorem walk {W : World} {base : Nat} {args : Array Value} (hl : args.size = Try.f3.params.toList.length) (hv : ∀ (j : Nat) t v, Try.f3.params[j]? = some t → args[j]? = some v → Value.okWide Try.prog W .any base t v) :
    Calls Try.prog 3 args W fun e w' => e = .returned (.bool true) ∧ Below W.heap.size W w' := by
  obtain ⟨I, hI⟩ := open_envG shapes hl (fun j t v h1 h2 => hv j t v (by simpa using h1) h2)
  have go : ∀ {w k i : Int} {G : Nat → Int → Int → Int → Int} (dec : Dec), (cRun w k i).wf = true → okR w k i = true → Five w k i G → dec.holds { i := I, b := fun _ => false, g := G, gh := GH0 } → oSays C1 (smKnow C1 (K3 w k i)) 600 20 none' no' 3 (symArgs pks 0) .nil 0 dec = true → Calls Try.prog 3 args W fun e w' => e = .returned (.bool true) ∧ Below W.heap.size W w' := by
    intro w k i G dec hwf hok hG hd hr
    obtain ⟨h1, h2⟩ := hI { i := I, b := fun _ => false, g := G, gh := GH0 } (fun _ _ => rfl)
    have hC : C1.Ok Try.prog { i := I, b := fun _ => false, g := G, gh := GH0 } := ctxOf_ok mixed h1
    exact oSays_ok hC (smKnow_ok hC ⟨rfl, rfl⟩ (K3_ok hwf hok hG)) hd hr (HRel.start _ W) (h2 _) (fun _ _ => rfl)
  have nil : ∀ G : Nat → Int → Int → Int → Int, Dec.holds { i := I, b := fun _ => false, g := G, gh := GH0 } [] := fun G p hp => by cases hp
  obtain ⟨G0, g0⟩ := five onlyB
  obtain ⟨G1, g1⟩ := five onlyS
  obtain ⟨G2, g2⟩ := five onlyL
  have ev : ∀ (G : Nat → Int → Int → Int → Int) (n : Int), (BE.eq mk (.lit n)).ev { i := I, b := fun _ => false, g := G, gh := GH0 } = decide (mk.ev { i := I, b := fun _ => false, g := G, gh := GH0 } = n) := fun _ _ => rfl
  have same : ∀ G : Nat → Int → Int → Int → Int, mk.ev { i := I, b := fun _ => false, g := G, gh := GH0 } = mk.ev { i := I, b := fun _ => false, g := G0, gh := GH0 } := fun _ => rfl
  rcases mk_in { i := I, b := fun _ => false, g := G0, gh := GH0 } with h | h | h
  · exact go _ wfB okB g0 (decCons (nil G0) (by rw [ev, h]; rfl)) law0
  · exact go _ wfS okS g1 (decCons (decCons (nil G1) (v := false) (by rw [ev, same, h]; rfl)) (by rw [ev, same, h]; rfl)) law1
  · exact go _ wfL okL g2 (decCons (decCons (decCons (nil G2) (v := false) (by rw [ev, same, h]; rfl)) (v := false) (by rw [ev, same, h]; rfl)) (by rw [ev, same, h]; rfl)) law2
theorem fits : ∀ t ∈ Try.f3.params.toList, Try.prog.readableRec t = true ∧ t < Try.prog.types.size := by
  have h : (Try.f3.params.toList.all fun t => Try.prog.readableRec t && decide (t < Try.prog.types.size)) = true := by kernel_rfl
  intro t ht
  have := List.all_eq_true.1 h t ht
  simpa using this
theorem lifted (os : Os) (started : os.Started) (H : Type) (enc : TypeId × Value → H) :
    ReturnsInHanded {} Try.checked os 3 .any (Rows.boardStormsSpec.pre6 enc Try.prog Try.f3 Rows.boardStormsRow.domain false) (Rows.boardStormsSpec.post enc Try.prog Try.f3 false true false false) := by
  refine returnsInHanded_of_change (C := Try.checked) own started (by kernel_rfl) Try.func3
    (ChangeSpec.witness6 (enc := enc) (C := Try.checked) false ⟨#[], #[.int .u32 0, .int .i64 0, .int .i64 0], []⟩ 8 (by kernel_rfl) (by kernel_rfl) (by kernel_rfl) (by kernel_rfl)) ?_
  intro W base args ds gs before hval0 hW hcnd _
  have hval : ∀ (j : Nat) t v, Try.f3.params[j]? = some t → args[j]? = some v → Value.okWide Try.prog W .any base t v := hval0
  have hW' : DataW.Whole enc Try.prog Try.f3.params.toList Rows.boardStormsSpec.vars false W args.toList ds gs before := hW
  have hlen : args.size = Try.f3.params.toList.length ∧ ds.length = Try.f3.params.toList.length := by
    obtain ⟨p, q, hA, _⟩ := hW'
    have := trodAll_length _ _ _ _ hA
    simpa using this
  have hgs : gs = [] := by
    obtain ⟨p, q, _, hV, _⟩ := hW'
    exact (trodVars_none hV).1
  subst hgs
  refine (walk hlen.1 hval).mono fun e W' ⟨he, hb⟩ => ?_
  refine ⟨_, he, post_true (tb := 4) laidOut fits (by kernel_rfl) (by kernel_rfl) rfl hW' ?_ hb⟩
  have hl3 : ds.length = 3 := hlen.2
  match ds, hl3 with
  | [d1, d2, d3], _ => rfl

theorem over : Rows.boardStormsRow.holds Try.pinned (OpenSpec.ofChange Rows.boardStormsSpec) :=
  OpenClaim.holds_of_wide 3 Try.f3 rfl rfl rfl rfl rfl rfl rfl ⟨rfl, rfl, rfl, rfl, rfl⟩ rfl rfl rfl rfl rfl (by kernel_rfl) Try.func3 (by kernel_rfl)
    (of_decide_eq_true (by kernel_rfl)) (by unfold Func.isWrapper; first | (rw [if_pos (by decide +kernel)]; kernel_rfl) | (rw [if_neg (by decide +kernel)]; exact ⟨rfl, rfl⟩))
    (fun os started H enc _ => lifted os started H enc)
theorem proved : Rows.BoardStormsSaid := over

end
end Go.Proofs.Ytbhlmedfhilkbaa.storms
