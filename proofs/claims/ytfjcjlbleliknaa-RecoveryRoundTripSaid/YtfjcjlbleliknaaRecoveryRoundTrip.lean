/- RecoveryRoundTrip: whatever the kind, the state, the site and the steps, the law returns true, and the arguments read as they did. -/
import Derived.Test.YtfjcjlbleliknaaRows
import Derived.Test.YtfjcjlbleliknaaSx22
namespace Go.Proofs.Ytfjcjlbleliknaa.roundTrip
open Go Go.Sx Go.ChangeShapes Go.WideShapes Go.ChangeAt Go.RowKit
set_option maxRecDepth 1000000

theorem own : ownKnob Try.prog.godebug = none := by kernel_rfl
theorem laidOut : laidOutB Try.prog = true := by kernel_rfl
theorem mixed : Try.prog.follows .mixedOrders = true := by kernel_rfl

/-! the examples of the document -/
noncomputable def C0 : Ctx := ctxOf Try.prog (fun _ => none)
theorem sane0 : saysTrue [] (aCallN C0 (aDraw C0) noSum 100 30 8 [] .nil 0) = true := by kernel_rfl
theorem sane : SumOk Try.prog 8 (.bool true) :=
  SumOk.of_run (C := C0) (ρ := ⟨fun _ => 0, fun _ => false⟩) (ctxOf_ok mixed (fun i lo hi h => by cases h)) (fun p hp => by cases hp) sane0

/-! the law: two kinds of guests, six kinds of sites, three indices -/
def state : PK := .agg [.u32, .u32, .u32, .u32, .u32, .u32, .u32, .u32, .u32, .u32, .u32, .u32, .u32, .u32, .u32, .u32, .u32, .u32, .u32, .u32, .u32, .u32, .i64, .i64]
def pks : List PK := [.int .i64, state, .agg [.i64, .i64, .i64, .u32, .u32, .i64, .u32]]
theorem shapes : pksOk Try.prog Try.f7.params.toList pks = true := by kernel_rfl
noncomputable def C1 : Ctx := ctxOf Try.prog (bdOf pks)
noncomputable def kd : IE := mkWrap C1.bd .i64 (mkAdd (.lit 1) (mkBits .and .i64 (.var 0) (.lit 1)))
noncomputable def sk : IE := mkWrap C1.bd .i64 (mkAdd (.lit 1) (mkRem (mkBits .and .i64 (.var 26) (.lit 65535)) (.lit 6)))
noncomputable def ix : IE := mkRem (mkBits .and .i64 (.var 27) (.lit 65535)) (.lit 3)
noncomputable def eqs (e : IE) (n : Int) (y z : DT) : DT := .split (mkEq C1.bd e (.lit n)) y z
noncomputable def U : DT := .range ix (eqs ix 0 .leaf (eqs ix 1 .leaf (eqs ix 2 .leaf .leaf)))
noncomputable def V : DT := .range sk (eqs sk 1 .leaf (eqs sk 2 U (eqs sk 3 U (eqs sk 4 .leaf (eqs sk 5 .leaf (eqs sk 6 .leaf .leaf))))))
noncomputable def k1 : BE := mkEq C1.bd kd (.lit 1)
noncomputable def k2 : BE := mkEq C1.bd kd (.lit 2)
def d0 (e : IE) : Dec := [(.lt e (.lit 1), false), (.lt (.lit 2) e, false)]
theorem ranK : DT.check C1 (sumTrue 8) 100 30 7 V ((k1, true) :: d0 kd) (symArgs pks 0) = true := by kernel_rfl
theorem ranQ : DT.check C1 (sumTrue 8) 100 30 7 V ((k2, true) :: (k1, false) :: d0 kd) (symArgs pks 0) = true := by kernel_rfl
theorem noOther : Go.Sx.settle ((k1, false) :: d0 kd) k2 = some true := by kernel_rfl
theorem kdRange : rng C1.bd kd = some (1, 2) := by kernel_rfl
theorem runs : Runs C1 (sumTrue 8) 100 30 7 [] (symArgs pks 0) :=
  Runs.range kd 1 2 kdRange (Runs.split k1 (Runs.of V ranK) (Runs.sure k2 noOther (Runs.of V ranQ)))
theorem walk {W : World} {base : Nat} {args : Array Value} (hl : args.size = Try.f7.params.toList.length) (hv : ∀ (j : Nat) t v, Try.f7.params[j]? = some t → args[j]? = some v → Value.okWide Try.prog W .any base t v) :
    Calls Try.prog 7 args W fun e w' => e = .returned (.bool true) ∧ Below W.heap.size W w' := by
  obtain ⟨ρ, h1, h2⟩ := open_env shapes hl (fun j t v h1 h2 => hv j t v (by simpa using h1) h2)
  exact Runs.sound (C := C1) (ctxOf_ok mixed h1) (fun B W => sumTrue_ok sane) W (fun p hp => by cases hp) (h2 _) runs

theorem fits : ∀ t ∈ Try.f7.params.toList, Try.prog.readableRec t = true ∧ t < Try.prog.types.size := by
  have h : (Try.f7.params.toList.all fun t => Try.prog.readableRec t && decide (t < Try.prog.types.size)) = true := by kernel_rfl
  intro t ht
  have := List.all_eq_true.1 h t ht
  simpa using this
theorem lifted (os : Os) (started : os.Started) (H : Type) (enc : TypeId × Value → H) :
    ReturnsInHanded {} Try.checked os 7 .any (Rows.recoveryRoundTripSpec.pre6 enc Try.prog Try.f7 Rows.recoveryRoundTripRow.domain false) (Rows.recoveryRoundTripSpec.post enc Try.prog Try.f7 false true false false) := by
  refine returnsInHanded_of_change (C := Try.checked) own started (by kernel_rfl) Try.func7
    (ChangeSpec.witness6 (enc := enc) (C := Try.checked) false ⟨#[], #[.int .i64 0, .agg #[.int .u32 0, .int .u32 0, .int .u32 0, .int .u32 0, .int .u32 0, .int .u32 0, .int .u32 0, .int .u32 0, .int .u32 0, .int .u32 0, .int .u32 0, .int .u32 0, .int .u32 0, .int .u32 0, .int .u32 0, .int .u32 0, .int .u32 0, .int .u32 0, .int .u32 0, .int .u32 0, .int .u32 0, .int .u32 0, .int .i64 0, .int .i64 0], .agg #[.int .i64 0, .int .i64 0, .int .i64 0, .int .u32 0, .int .u32 0, .int .i64 0, .int .u32 0]], []⟩ 8 (by kernel_rfl) (by kernel_rfl) (by kernel_rfl) (by kernel_rfl)) ?_
  intro W base args ds gs before hval0 hW hcnd _
  have hval : ∀ (j : Nat) t v, Try.f7.params[j]? = some t → args[j]? = some v → Value.okWide Try.prog W .any base t v := hval0
  have hW' : DataW.Whole enc Try.prog Try.f7.params.toList Rows.recoveryRoundTripSpec.vars false W args.toList ds gs before := hW
  have hlen : args.size = Try.f7.params.toList.length ∧ ds.length = Try.f7.params.toList.length := by
    obtain ⟨p, q, hA, _⟩ := hW'
    have := trodAll_length _ _ _ _ hA
    simpa using this
  have hgs : gs = [] := by
    obtain ⟨p, q, _, hV, _⟩ := hW'
    exact (trodVars_none hV).1
  subst hgs
  refine (walk hlen.1 hval).mono fun e W' ⟨he, hb⟩ => ?_
  refine ⟨_, he, post_true (tb := 4) laidOut fits (by kernel_rfl) (by kernel_rfl) rfl hW' ?_ hb⟩
  have hl3 : ds.length = 3 := hlen.2
  match ds, hl3 with
  | [d1, d2, d3], _ => rfl

theorem over : Rows.recoveryRoundTripRow.holds Try.pinned (OpenSpec.ofChange Rows.recoveryRoundTripSpec) :=
  OpenClaim.holds_of_wide 7 Try.f7 rfl rfl rfl rfl rfl rfl rfl ⟨rfl, rfl, rfl, rfl, rfl⟩ rfl rfl rfl rfl rfl (by kernel_rfl) Try.func7 (by kernel_rfl)
    (of_decide_eq_true (by kernel_rfl)) (by unfold Func.isWrapper; first | (rw [if_pos (by decide +kernel)]; kernel_rfl) | (rw [if_neg (by decide +kernel)]; exact ⟨rfl, rfl⟩))
    (fun os started H enc _ => lifted os started H enc)
theorem proved : Rows.RecoveryRoundTripSaid := over
#print axioms proved
end Go.Proofs.Ytfjcjlbleliknaa.roundTrip
