/- RecoveryGuests: whatever the input, the law returns true, and the input reads as it did. No condition. -/
import Derived.Test.YthcfcjkljglgfaaRg12
set_option linter.unusedVariables false
set_option linter.unusedSimpArgs false
namespace Go.Proofs.Ythcfcjkljglgfaa.guests
open Go Go.Sx Go.ChangeShapes Go.WideShapes Go.ChangeAt Go.RowKit
set_option maxRecDepth 1000000
noncomputable section
theorem own : ownKnob Try.prog.godebug = none := by kernel_rfl
theorem laidOut : laidOutB Try.prog = true := by kernel_rfl
theorem shapes : pqsOk PR Try.f4.params.toList pqsG = true := by kernel_rfl
theorem walk {H : Type} {enc : TypeId × Value → H} {W : World} {base : Nat} {args : Array Value} {ds : List (DataW H)} {mp : List MemPlace} (hl : args.size = 3) (hv : ∀ (j : Nat) t v, Try.f4.params[j]? = some t → args[j]? = some v → Value.okWide Try.prog W .any base t v)
    (ht : DataW.TrodAll enc Try.prog W 0 (fun _ => true) true Try.f4.params.toList args.toList ds mp) (hlen : ∀ a (n c : Nat), args[0]? = some (.slice a n c) → (n : Int) ≤ 70368744177664) :
    Calls Try.prog 4 args W fun e w' => e = .returned (.bool true) ∧ Below W.heap.size W w' := by
  obtain ⟨G, hG, hf⟩ := recG_ex
  exact guests_walk (G := G) (cLawG_ok hG hf) (ts := Try.f4.params.toList) shapes hl (fun j t v h1 h2 => hv j t v (by simpa using h1) h2) ht hlen
theorem fits : ∀ t ∈ Try.f4.params.toList, Try.prog.readableRec t = true ∧ t < Try.prog.types.size := by
  have h : (Try.f4.params.toList.all fun t => Try.prog.readableRec t && decide (t < Try.prog.types.size)) = true := by kernel_rfl
  intro t ht
  have := List.all_eq_true.1 h t ht
  simpa using this
theorem third : Try.f4.params.toList = [31, 32, 36] := by kernel_rfl
theorem under0 : Try.prog.underlying 31 = some (.slice 3) ∧ Try.prog.bytesOf 3 = 8 := by
  exact ⟨by kernel_rfl, by kernel_rfl⟩
theorem slice0 {H : Type} {enc : TypeId × Value → H} {W : World} {t0 t1 t2 u0 : TypeId} {more : List TypeId} {args : Array Value} {ds : List (DataW H)} {mp : List MemPlace} (hA : DataW.TrodAll enc Try.prog W 0 (fun _ => true) true [t0, t1, t2] args.toList ds mp) (h0 : Try.prog.underlying t0 = some (.slice u0)) (b0 : Try.prog.bytesOf u0 = 8)
    (hsz : (DataW.weightsEach Try.prog ([t0, t1, t2] ++ more) (ds ++ [])).all (· ≤ reachBytes) = true) : ∀ a (n c : Nat), args[0]? = some (.slice a n c) → (n : Int) ≤ 70368744177664 := by
  intro a n c hn
  have hrb := reachBytes_lt
  obtain ⟨l⟩ := args
  obtain ⟨x, vs, d, ds1, p, q, e1, rfl, rfl, k0, r1⟩ := trodAll_cons hA
  have e1 : l = x :: vs := e1
  subst e1
  have hn : some x = some (.slice a n c) := hn
  cases hn
  rcases slice_len h0 k0 with h | ⟨elems, rest, rfl, h3⟩
  · omega
  · have := sized_slice hsz (j := 0) (t := t0) rfl rfl h0
    rw [b0] at this
    omega
theorem lifted (os : Os) (started : os.Started) (H : Type) (enc : TypeId × Value → H) :
    ReturnsInHanded {} Try.checked os 4 .any (Rows.recoveryGuestsSpec.pre6 enc Try.prog Try.f4 Rows.recoveryGuestsRow.domain false) (Rows.recoveryGuestsSpec.post enc Try.prog Try.f4 false true false false) := by
  refine returnsInHanded_of_change_sized (C := Try.checked) own started (by kernel_rfl) Try.func4
    (ChangeSpec.witness6 (enc := enc) (C := Try.checked) false ⟨#[], #[.slice none 0 0, .agg #[.int .i64 0, .int .i64 0, .int .i64 0], .agg #[.int .i64 0, .int .u32 0, .int .u32 0, .int .u32 0, .int .u32 0, .int .u32 0, .int .u32 0, .int .u32 0, .int .u32 0, .int .u32 0, .int .u32 0, .int .u32 0, .int .u32 0, .int .u32 0, .int .u32 0, .int .u32 0, .int .u32 0, .int .u32 0, .int .u32 0, .int .u32 0, .int .u32 0, .int .u32 0, .int .u32 0, .int .i64 0, .int .i64 0, .int .i64 0, .int .i64 0, .int .i64 0, .int .u32 0, .int .u32 0, .int .i64 0, .int .u32 0, .int .u32 0, .int .u32 0, .int .u32 0, .int .u32 0, .int .u32 0, .int .u32 0, .int .u32 0, .int .u32 0, .int .u32 0, .int .u32 0, .int .u32 0, .int .u32 0, .int .u32 0, .int .u32 0, .int .u32 0, .int .u32 0, .int .u32 0, .int .u32 0, .int .u32 0, .int .u32 0, .int .u32 0, .int .u32 0, .int .u32 0, .int .u32 0, .int .u32 0, .int .u32 0, .int .u32 0, .int .u32 0, .int .u32 0, .int .u32 0, .int .u32 0, .int .u32 0, .int .u32 0, .int .u32 0, .int .u32 0, .int .u32 0, .int .u32 0, .int .u32 0, .int .u32 0, .int .u32 0, .int .u32 0, .int .u32 0, .int .u32 0, .int .u32 0, .int .u32 0, .int .u32 0, .int .u32 0, .int .u32 0, .int .u32 0, .int .u32 0, .int .u32 0, .int .u32 0, .int .u32 0, .int .u32 0, .int .u32 0, .int .u32 0, .int .u32 0, .int .u32 0, .int .u32 0, .int .u32 0, .int .u32 0, .int .u32 0, .int .u32 0, .int .u32 0, .int .u32 0, .int .u32 0, .int .u32 0, .int .u32 0, .int .u32 0, .int .u32 0, .int .u32 0, .int .u32 0, .int .u32 0, .int .u32 0, .int .u32 0, .int .u32 0, .int .u32 0, .int .u32 0, .int .u32 0, .int .u32 0, .int .u32 0, .int .u32 0, .int .u32 0, .int .u32 0, .int .u32 0, .int .u32 0, .int .u32 0, .int .u32 0, .int .u32 0, .int .u32 0, .int .u32 0]], []⟩ 8 (by kernel_rfl) (by kernel_rfl) (by kernel_rfl) (by kernel_rfl)) ?_
  intro W base args ds gs before hval0 hW hcnd hsz _
  have hval : ∀ (j : Nat) t v, Try.f4.params[j]? = some t → args[j]? = some v → Value.okWide Try.prog W .any base t v := hval0
  have hW' : DataW.Whole enc Try.prog Try.f4.params.toList Rows.recoveryGuestsSpec.vars false W args.toList ds gs before := hW
  have hlen : args.size = Try.f4.params.toList.length ∧ ds.length = Try.f4.params.toList.length := by
    obtain ⟨p, q, hA, _⟩ := hW'
    have := trodAll_length _ _ _ _ hA
    simpa using this
  have hgs : gs = [] := by
    obtain ⟨p, q, _, hV, _⟩ := hW'
    exact (trodVars_none hV).1
  subst hgs
  obtain ⟨p, q, hA, hrest⟩ := hW'
  have hl3 : ds.length = 3 := hlen.2
  have ha3 : args.size = 3 := hlen.1
  have hb : ∀ a (n c : Nat), args[0]? = some (.slice a n c) → (n : Int) ≤ 70368744177664 := by
    have hA' := hA
    rw [third] at hA'
    have hsz' := hsz
    rw [third] at hsz'
    exact slice0 hA' under0.1 under0.2 hsz'
  refine (walk ha3 hval hA hb).mono fun e W' ⟨he, hb⟩ => ?_
  refine ⟨_, he, post_true (tb := 4) laidOut fits (by kernel_rfl) (by kernel_rfl) rfl ⟨p, q, hA, hrest⟩ ?_ hb⟩
  match ds, hl3 with
  | [d0, d1, d2], _ => rfl
theorem over : Rows.recoveryGuestsRow.holds Try.pinned (OpenSpec.ofChange Rows.recoveryGuestsSpec) :=
  OpenClaim.holds_of_wide 4 Try.f4 rfl rfl rfl rfl rfl rfl rfl ⟨rfl, rfl, rfl, rfl, rfl⟩ rfl rfl rfl rfl rfl (by kernel_rfl) Try.func4 (by kernel_rfl)
    (of_decide_eq_true (by kernel_rfl)) (by unfold Func.isWrapper; first | (rw [if_pos (by decide +kernel)]; kernel_rfl) | (rw [if_neg (by decide +kernel)]; exact ⟨rfl, rfl⟩))
    (fun os started H enc _ => lifted os started H enc)
theorem proved : Rows.RecoveryGuestsSaid := over
end
end Go.Proofs.Ythcfcjkljglgfaa.guests
