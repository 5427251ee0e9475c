/- RecoveryVars: whatever the assignment, the live variables, the registers, the context and the mapping, the law returns true, and the arguments read as they did. No condition. -/
import Derived.Test.YthcfcjkljglgfaaV1
import Derived.Test.YthcfcjkljglgfaaV2
import Derived.Test.YthcfcjkljglgfaaV3
namespace Go.Proofs.Ythcfcjkljglgfaa.vars
open Go Go.Sx Go.ChangeShapes Go.WideShapes Go.ChangeAt Go.RowKit
set_option maxRecDepth 1000000
noncomputable section
theorem own : ownKnob Try.prog.godebug = none := by kernel_rfl
theorem laidOut : laidOutB Try.prog = true := by kernel_rfl
/-! the examples of the document -/
def cSane : Con := { g := 8, args := [], res := .bool (.lit true) }
theorem sane0 : cSane.runs Try.prog [] 100 30 = true := by kernel_rfl
theorem sane : cSane.Ok Try.prog G0 GH0 := Con.of_run mixed ConsOk.nil 100 30 sane0
/-! the law: four ways to map numbers to registers -/
def pks : List PK := [.agg (List.replicate 28 .i64), .int .u32, .agg (List.replicate 80 .u32 ++ [.u8])]
theorem shapes : pksOk Try.prog Try.f6.params.toList pks = true := by kernel_rfl
def C1 : Ctx := ctxOf Try.prog (bdOf pks)
def Kn (m : Nat) : Know := ⟨[cSane, c17 m, c18], []⟩
def mp (v : Int) : BE := .eq (.rem (.var 109) (.lit 4)) (.lit v)
theorem law0 : oSays C1 (smKnow C1 (Kn 0)) 100 30 np no 6 (symArgs pks 0) .nil 0 [(mp 0, true)] = true := by kernel_rfl
theorem law1 : oSays C1 (smKnow C1 (Kn 1)) 100 30 np no 6 (symArgs pks 0) .nil 0 [(mp 1, true), (mp 0, false)] = true := by kernel_rfl
theorem law2 : oSays C1 (smKnow C1 (Kn 2)) 100 30 np no 6 (symArgs pks 0) .nil 0 [(mp 2, true), (mp 1, false), (mp 0, false)] = true := by kernel_rfl
theorem law3 : oSays C1 (smKnow C1 (Kn 3)) 100 30 np no 6 (symArgs pks 0) .nil 0 [(mp 2, false), (mp 1, false), (mp 0, false)] = true := by kernel_rfl
theorem wfSane : cSane.wf = true := by kernel_rfl
theorem wf18 : c18.wf = true := by kernel_rfl
theorem known {m : Nat} (hw : (c17 m).wf = true) (h : (c17 m).Ok Try.prog G0 GH0) : (Kn m).Ok Try.prog G0 GH0 :=
  ⟨ConsOk.cons wfSane sane (ConsOk.cons hw h (ConsOk.cons wf18 ok18 ConsOk.nil)), fun c h => by cases h⟩
theorem walk {W : World} {base : Nat} {args : Array Value} (hl : args.size = Try.f6.params.toList.length) (hv : ∀ (j : Nat) t v, Try.f6.params[j]? = some t → args[j]? = some v → Value.okWide Try.prog W .any base t v) :
    Calls Try.prog 6 args W fun e w' => e = .returned (.bool true) ∧ Below W.heap.size W w' := by
  obtain ⟨I, hI⟩ := open_envG shapes hl (fun j t v h1 h2 => hv j t v (by simpa using h1) h2)
  obtain ⟨h1, h2⟩ := hI { i := I, b := fun _ => false, g := G0, gh := GH0 } (fun _ _ => rfl)
  have go : ∀ (m : Nat) (dec : Dec), (c17 m).wf = true → (c17 m).Ok Try.prog G0 GH0 → dec.holds { i := I, b := fun _ => false, g := G0, gh := GH0 } → oSays C1 (smKnow C1 (Kn m)) 100 30 np no 6 (symArgs pks 0) .nil 0 dec = true → Calls Try.prog 6 args W fun e w' => e = .returned (.bool true) ∧ Below W.heap.size W w' := by
    intro m dec hw hok hd hr
    have hC : C1.Ok Try.prog { i := I, b := fun _ => false, g := G0, gh := GH0 } := ctxOf_ok mixed h1
    exact oSays_ok hC (smKnow_ok hC ⟨rfl, rfl⟩ (known hw hok)) hd hr (HRel.start _ W) (h2 _) (fun _ _ => rfl)
  have nil : Dec.holds { i := I, b := fun _ => false, g := G0, gh := GH0 } [] := fun p hp => by cases hp
  cases e0 : (mp 0).ev { i := I, b := fun _ => false, g := G0, gh := GH0 }
  · cases e1 : (mp 1).ev { i := I, b := fun _ => false, g := G0, gh := GH0 }
    · cases e2 : (mp 2).ev { i := I, b := fun _ => false, g := G0, gh := GH0 }
      · exact go 3 _ (by kernel_rfl) ok17_3 (decCons (decCons (decCons nil e0) e1) e2) law3
      · exact go 2 _ (by kernel_rfl) ok17_2 (decCons (decCons (decCons nil e0) e1) e2) law2
    · exact go 1 _ (by kernel_rfl) ok17_1 (decCons (decCons nil e0) e1) law1
  · exact go 0 _ (by kernel_rfl) ok17_0 (decCons nil e0) law0
theorem fits : ∀ t ∈ Try.f6.params.toList, Try.prog.readableRec t = true ∧ t < Try.prog.types.size := by
  have h : (Try.f6.params.toList.all fun t => Try.prog.readableRec t && decide (t < Try.prog.types.size)) = true := by kernel_rfl
  intro t ht
  have := List.all_eq_true.1 h t ht
  simpa using this
theorem lifted (os : Os) (started : os.Started) (H : Type) (enc : TypeId × Value → H) :
    ReturnsInHanded {} Try.checked os 6 .any (Rows.recoveryVarsSpec.pre6 enc Try.prog Try.f6 Rows.recoveryVarsRow.domain false) (Rows.recoveryVarsSpec.post enc Try.prog Try.f6 false true false false) := by
  refine returnsInHanded_of_change (C := Try.checked) own started (by kernel_rfl) Try.func6
    (ChangeSpec.witness6 (enc := enc) (C := Try.checked) false ⟨#[], #[.agg #[.int .i64 0, .int .i64 0, .int .i64 0, .int .i64 0, .int .i64 0, .int .i64 0, .int .i64 0, .int .i64 0, .int .i64 0, .int .i64 0, .int .i64 0, .int .i64 0, .int .i64 0, .int .i64 0, .int .i64 0, .int .i64 0, .int .i64 0, .int .i64 0, .int .i64 0, .int .i64 0, .int .i64 0, .int .i64 0, .int .i64 0, .int .i64 0, .int .i64 0, .int .i64 0, .int .i64 0, .int .i64 0], .int .u32 0, .agg #[.int .u32 0, .int .u32 0, .int .u32 0, .int .u32 0, .int .u32 0, .int .u32 0, .int .u32 0, .int .u32 0, .int .u32 0, .int .u32 0, .int .u32 0, .int .u32 0, .int .u32 0, .int .u32 0, .int .u32 0, .int .u32 0, .int .u32 0, .int .u32 0, .int .u32 0, .int .u32 0, .int .u32 0, .int .u32 0, .int .u32 0, .int .u32 0, .int .u32 0, .int .u32 0, .int .u32 0, .int .u32 0, .int .u32 0, .int .u32 0, .int .u32 0, .int .u32 0, .int .u32 0, .int .u32 0, .int .u32 0, .int .u32 0, .int .u32 0, .int .u32 0, .int .u32 0, .int .u32 0, .int .u32 0, .int .u32 0, .int .u32 0, .int .u32 0, .int .u32 0, .int .u32 0, .int .u32 0, .int .u32 0, .int .u32 0, .int .u32 0, .int .u32 0, .int .u32 0, .int .u32 0, .int .u32 0, .int .u32 0, .int .u32 0, .int .u32 0, .int .u32 0, .int .u32 0, .int .u32 0, .int .u32 0, .int .u32 0, .int .u32 0, .int .u32 0, .int .u32 0, .int .u32 0, .int .u32 0, .int .u32 0, .int .u32 0, .int .u32 0, .int .u32 0, .int .u32 0, .int .u32 0, .int .u32 0, .int .u32 0, .int .u32 0, .int .u32 0, .int .u32 0, .int .u32 0, .int .u32 0, .int .u8 0]], []⟩ 8 (by kernel_rfl) (by kernel_rfl) (by kernel_rfl) (by kernel_rfl)) ?_
  intro W base args ds gs before hval0 hW hcnd _
  have hval : ∀ (j : Nat) t v, Try.f6.params[j]? = some t → args[j]? = some v → Value.okWide Try.prog W .any base t v := hval0
  have hW' : DataW.Whole enc Try.prog Try.f6.params.toList Rows.recoveryVarsSpec.vars false W args.toList ds gs before := hW
  have hlen : args.size = Try.f6.params.toList.length ∧ ds.length = Try.f6.params.toList.length := by
    obtain ⟨p, q, hA, _⟩ := hW'
    have := trodAll_length _ _ _ _ hA
    simpa using this
  have hgs : gs = [] := by
    obtain ⟨p, q, _, hV, _⟩ := hW'
    exact (trodVars_none hV).1
  subst hgs
  refine (walk hlen.1 hval).mono fun e W' ⟨he, hb⟩ => ?_
  refine ⟨_, he, post_true (tb := 4) laidOut fits (by kernel_rfl) (by kernel_rfl) rfl hW' ?_ hb⟩
  have hl3 : ds.length = 3 := hlen.2
  match ds, hl3 with
  | [d1, d2, d3], _ => rfl

theorem over : Rows.recoveryVarsRow.holds Try.pinned (OpenSpec.ofChange Rows.recoveryVarsSpec) :=
  OpenClaim.holds_of_wide 6 Try.f6 rfl rfl rfl rfl rfl rfl rfl ⟨rfl, rfl, rfl, rfl, rfl⟩ rfl rfl rfl rfl rfl (by kernel_rfl) Try.func6 (by kernel_rfl)
    (of_decide_eq_true (by kernel_rfl)) (by unfold Func.isWrapper; first | (rw [if_pos (by decide +kernel)]; kernel_rfl) | (rw [if_neg (by decide +kernel)]; exact ⟨rfl, rfl⟩))
    (fun os started H enc _ => lifted os started H enc)
theorem proved : Rows.RecoveryVarsSaid := over

end
end Go.Proofs.Ythcfcjkljglgfaa.vars
