/- BoardNone: whatever the number and the inputs, the law returns true, and the arguments read as they did. No condition. -/
import Derived.Test.YtbhlmedfhilkbaaSxO
import Derived.Test.YtbhlmedfhilkbaaRows
namespace Go.Proofs.Ytbhlmedfhilkbaa.nones
open Go Go.Sx Go.ChangeShapes Go.WideShapes Go.ChangeAt Go.RowKit
set_option maxRecDepth 1000000

theorem own : ownKnob Try.prog.godebug = none := by kernel_rfl
theorem laidOut : laidOutB Try.prog = true := by kernel_rfl
theorem mixed : Try.prog.follows .mixedOrders = true := by kernel_rfl

/-! the law: inputs that are nil, or not -/
def pqs1 : List PQ := [.int .i64, .nilS]
def pqs2 : List PQ := [.int .i64, .sl [.u32] true 70368744177664]
theorem shapes1 : pqsOk Try.prog Try.f5.params.toList pqs1 = true := by kernel_rfl
theorem shapes2 : pqsOk Try.prog Try.f5.params.toList pqs2 = true := by kernel_rfl
noncomputable def C1 : Ctx := ctxOf Try.prog (pqBd pqs1)
noncomputable def C2 : Ctx := ctxOf Try.prog (pqBd pqs2)
theorem ran1 : saysTrue [] (aCallN C1 (aDraw C1) (sumTrue 6) 300 30 5 (pqArgs pqs1 0) (pqObjs pqs1 0) 1) = true := by kernel_rfl
theorem ran2 : saysTrue [] (aCallN C2 (aDraw C2) (sumTrue 6) 300 30 5 (pqArgs pqs2 0) (pqObjs pqs2 0) 3) = true := by kernel_rfl

/-! the examples of the document -/
noncomputable def C0 : Ctx := ctxOf Try.prog (fun _ => none)
theorem sane0 : saysTrue [] (aCallN C0 (aDraw C0) noSum 300 30 6 [] .nil 0) = true := by kernel_rfl
theorem sane : SumOk Try.prog 6 (.bool true) :=
  SumOk.of_run (C := C0) (ρ := E []) (ctxOf_ok mixed (fun i lo hi h => by cases h)) (fun p hp => by cases hp) sane0

theorem walk {H : Type} {enc : TypeId × Value → H} {W : World} {base : Nat} {args : Array Value} {ds : List (DataW H)} {mp : List MemPlace} (hl : args.size = 2) (hv : ∀ (j : Nat) t v, Try.f5.params[j]? = some t → args[j]? = some v → Value.okWide Try.prog W .any base t v)
    (ht : DataW.TrodAll enc Try.prog W 0 (fun _ => true) true Try.f5.params.toList args.toList ds mp) (hlen : ∀ a (n c : Nat), args[1]? = some (.slice a n c) → (n : Int) ≤ 70368744177664) : Calls Try.prog 5 args W fun e w' => e = .returned (.bool true) ∧ Below W.heap.size W w' := by
  have main : ∀ (pqs : List PQ), pqsOk Try.prog Try.f5.params.toList pqs = true → (∀ (j : Nat) p v, pqs[j]? = some p → args[j]? = some v → p.fit v) → ∀ nx, pqWide pqs ≤ nx →
      saysTrue [] (aCallN (ctxOf Try.prog (pqBd pqs)) (aDraw (ctxOf Try.prog (pqBd pqs))) (sumTrue 6) 300 30 5 (pqArgs pqs 0) (pqObjs pqs 0) nx) = true → Calls Try.prog 5 args W fun e w' => e = .returned (.bool true) ∧ Below W.heap.size W w' := by
    intro pqs hp hfit nx hnx hrun
    obtain ⟨I, hI⟩ := open_law (W := W) (base := base) hp hfit (fun j t v h1 h2 => hv j t v (by simpa using h1) h2) ht
    obtain ⟨hb, f, hr, ha, hn⟩ := hI { i := I, b := fun _ => false } (fun _ _ => rfl)
    exact says_ok (ctxOf_ok mixed hb) (fun B W => sumTrue_ok sane) (fun p hp => by cases hp) hrun hr ha (fun j h1 => hn j (by omega))
  have hal : ∃ x y, args = #[x, y] := by
    obtain ⟨l⟩ := args
    match l, hl with
    | [x, y], _ => exact ⟨x, y, rfl⟩
  obtain ⟨x, y, rfl⟩ := hal
  by_cases hy : y = .slice none 0 0
  · refine main pqs1 shapes1 (fun j p v hp hv => ?_) 1 (by decide) ran1
    match j, hp, hv with
    | 0, rfl, rfl => trivial
    | 1, rfl, rfl => exact hy
  · refine main pqs2 shapes2 (fun j p v hp hv => ?_) 3 (by decide) ran2
    match j, hp, hv with
    | 0, rfl, rfl => trivial
    | 1, rfl, rfl => exact ⟨fun _ => hy, by decide, fun a n c h => hlen a n c (by rw [← h]; rfl)⟩

theorem second_of {args : Array Value} {v : Value} (h : args.size = 2) (hn : args[1]? = some v) : ∃ x, args = #[x, v] := by
  obtain ⟨l⟩ := args
  match l, h, hn with
  | [x, y], _, hn =>
    have hn : some y = some v := hn
    cases hn
    exact ⟨x, rfl⟩
theorem fits : ∀ t ∈ Try.f5.params.toList, Try.prog.readableRec t = true ∧ t < Try.prog.types.size := by
  have h : (Try.f5.params.toList.all fun t => Try.prog.readableRec t && decide (t < Try.prog.types.size)) = true := by kernel_rfl
  intro t ht
  have := List.all_eq_true.1 h t ht
  simpa using this
theorem second : Try.f5.params.toList = [3, 38] := by kernel_rfl
theorem under : Try.prog.underlying 38 = some (.slice 22) ∧ Try.prog.bytesOf 22 = 4 := by
  exact ⟨by kernel_rfl, by kernel_rfl⟩
theorem lifted (os : Os) (started : os.Started) (H : Type) (enc : TypeId × Value → H) :
    ReturnsInHanded {} Try.checked os 5 .any (Rows.boardNoneSpec.pre6 enc Try.prog Try.f5 Rows.boardNoneRow.domain false) (Rows.boardNoneSpec.post enc Try.prog Try.f5 false true false false) := by
  refine returnsInHanded_of_change_sized (C := Try.checked) own started (by kernel_rfl) Try.func5
    (ChangeSpec.witness6 (enc := enc) (C := Try.checked) false ⟨#[], #[.int .i64 0, .slice none 0 0], []⟩ 8 (by kernel_rfl) (by kernel_rfl) (by kernel_rfl) (by kernel_rfl)) ?_
  intro W base args ds gs before hval0 hW hcnd hsz _
  have hval : ∀ (j : Nat) t v, Try.f5.params[j]? = some t → args[j]? = some v → Value.okWide Try.prog W .any base t v := hval0
  have hW' : DataW.Whole enc Try.prog Try.f5.params.toList Rows.boardNoneSpec.vars false W args.toList ds gs before := hW
  have hlen : args.size = Try.f5.params.toList.length ∧ ds.length = Try.f5.params.toList.length := by
    obtain ⟨p, q, hA, _⟩ := hW'
    have := trodAll_length _ _ _ _ hA
    simpa using this
  have hgs : gs = [] := by
    obtain ⟨p, q, _, hV, _⟩ := hW'
    exact (trodVars_none hV).1
  subst hgs
  obtain ⟨p, q, hA, hrest⟩ := hW'
  have hl2 : ds.length = 2 := hlen.2
  have hb : ∀ a (n c : Nat), args[1]? = some (.slice a n c) → (n : Int) ≤ 70368744177664 := by
    intro a n c hn
    rw [second] at hA
    obtain ⟨x, rfl⟩ := second_of hlen.1 hn
    match ds, hl2, hA with
    | [d1, d2], _, hA =>
      obtain ⟨_, _, _, ⟨_, _, h2, _, _⟩, _⟩ := hA
      rcases slice_len under.1 h2 with h0 | ⟨elems, rest, rfl, h3⟩
      · omega
      · have := sized_slice hsz (j := 1) (t := 38) (by rfl) (by rfl) under.1
        have hu2 : Try.checked.prog.bytesOf 22 = 4 := under.2
        rw [hu2] at this
        have hrb := reachBytes_lt
        omega
  refine (walk hlen.1 hval hA hb).mono fun e W' ⟨he, hb⟩ => ?_
  refine ⟨_, he, post_true (tb := 4) laidOut fits (by kernel_rfl) (by kernel_rfl) rfl ⟨p, q, hA, hrest⟩ ?_ hb⟩
  match ds, hl2 with
  | [d1, d2], _ => rfl

theorem over : Rows.boardNoneRow.holds Try.pinned (OpenSpec.ofChange Rows.boardNoneSpec) :=
  OpenClaim.holds_of_wide 5 Try.f5 rfl rfl rfl rfl rfl rfl rfl ⟨rfl, rfl, rfl, rfl, rfl⟩ rfl rfl rfl rfl rfl (by kernel_rfl) Try.func5 (by kernel_rfl)
    (of_decide_eq_true (by kernel_rfl)) (by unfold Func.isWrapper; first | (rw [if_pos (by decide +kernel)]; kernel_rfl) | (rw [if_neg (by decide +kernel)]; exact ⟨rfl, rfl⟩))
    (fun os started H enc _ => lifted os started H enc)
theorem proved : Rows.BoardNoneSaid := over
#print axioms proved
end Go.Proofs.Ytbhlmedfhilkbaa.nones
