/- TowerErrors: whatever the argument, one of the runs is the law's. No condition. -/
import Derived.Test.YthlmmihlehfoeaaGreatTe15
import Derived.Test.YthlmmihlehfoeaaGreatSh
set_option linter.unusedVariables false
set_option linter.unusedSimpArgs false
namespace Go.Proofs.YthlmmihlehfoeaaGreat
open Go Go.Sx Go.ChangeShapes Go.WideShapes Go.ChangeAt Go.RowKit
set_option maxRecDepth 1000000
noncomputable section
def pksE : List PK := [.int .u8, .agg [.i64, .i64, .i64]]
def envE (I : Nat → Int) : Env := { i := I, b := fun _ => false, g := G0, gh := GH0 }
theorem agg_re {ρ : Env} {f : Ren} {a : AVal} {k : IntKind} {e e' : IE} {l : List AVal} {args : Array Value} (he : e.ev ρ = e'.ev ρ) (h : LRel ρ f [a, .agg (.int k e :: l)] args) : LRel ρ f [a, .agg (.int k e' :: l)] args := by
  refine ⟨h.1, fun i v v' h1 h2 => ?_⟩
  match i, h1 with
  | 0, h1 => exact h.2 0 v v' h1 h2
  | 1, h1 =>
    have h1 : some (AVal.agg (.int k e' :: l)) = some v := h1
    cases h1
    have q := h.2 1 _ v' rfl h2
    cases q with
    | agg ha ha' =>
      refine .agg ha fun i v v' k1 k2 => ?_
      match i, k1 with
      | 0, k1 =>
        have k1 : some (AVal.int k e') = some v := k1
        cases k1
        have r := ha' 0 _ v' rfl k2
        cases r
        rw [he]
        exact .int k e'
      | i + 1, k1 => exact ha' (i + 1) v v' k1 k2
def flips : Bool := (List.range 256).all fun y => (List.range 8).all fun m => !(decide (bitsI .xor .u8 (y : Int) (shlI .u8 1 (m : Int)) = (y : Int)))
theorem flips_all : flips = true := by kernel_rfl
theorem flip_ne (x s : Int) : IntKind.u8.wrap x ≠ bitsI .xor .u8 (IntKind.u8.wrap x) (shlI .u8 1 (bitsI .and .i64 s 7)) := by
  have hy : 0 ≤ IntKind.u8.wrap x ∧ IntKind.u8.wrap x ≤ 255 := wrap_mem .u8 x
  have hm : 0 ≤ bitsI .and .i64 s 7 ∧ bitsI .and .i64 s 7 ≤ 7 := bitsI_and .i64 s 7 (by decide)
  obtain ⟨y, ey⟩ := Int.eq_ofNat_of_zero_le hy.1
  obtain ⟨m, em⟩ := Int.eq_ofNat_of_zero_le hm.1
  rw [ey, em]
  have h := List.all_eq_true.1 (List.all_eq_true.1 flips_all y (List.mem_range.2 (by omega))) m (List.mem_range.2 (by omega))
  intro e
  rw [decide_eq_true e.symm] at h
  cases h
theorem flip_holds (ρ : Env) (b : Nat) : (BE.eq (wv b) (.bits .xor .u8 (wv b) (.shl .u8 (.lit 1) (.bits .and .i64 (.var 3) (.lit 7))))).ev ρ = false := decide_eq_false (flip_ne _ _)
theorem holds1 {ρ : Env} {b : BE} {v : Bool} {l : Dec} (h : b.ev ρ = v) (hl : Dec.holds ρ l) : Dec.holds ρ ((b, v) :: l) := fun p hp => by
  rcases List.mem_cons.1 hp with rfl | hp
  · exact h
  · exact hl p hp
theorem in64 (I : Nat → Int) (b0 : 0 ≤ I 0 ∧ I 0 ≤ 255) (b1 : -9223372036854775808 ≤ I 1 ∧ I 1 ≤ 9223372036854775807) (b3 : -9223372036854775808 ≤ I 3 ∧ I 3 ≤ 9223372036854775807) {lo hi : Int} (b2 : lo ≤ I 2 ∧ I 2 ≤ hi) :
    (envE I).ok (bdL [(0, 0, 255), (1, -9223372036854775808, 9223372036854775807), (2, lo, hi), (3, -9223372036854775808, 9223372036854775807)]) := bdL_ok fun i lo' hi' h => by
  simp only [List.mem_cons, List.not_mem_nil, or_false, Prod.mk.injEq] at h
  rcases h with ⟨rfl, rfl, rfl⟩ | ⟨rfl, rfl, rfl⟩ | ⟨rfl, rfl, rfl⟩ | ⟨rfl, rfl, rfl⟩
  · exact b0
  · exact b1
  · exact b2
  · exact b3
theorem te_walk {W : World} {base : Nat} {args : Array Value} {ts : List TypeId} (shapes : pksOk PR ts pksE = true) (hl : args.size = ts.length) (hv : ∀ (j : Nat) t v, ts[j]? = some t → args[j]? = some v → Value.okWide PR W .any base t v) :
    Calls PR 4 args W fun e w' => e = .returned (.bool true) ∧ Below W.heap.size W w' := by
  obtain ⟨I, hI⟩ := open_envG shapes hl hv
  obtain ⟨h1, h2⟩ := hI (envE I) (fun _ _ => rfl)
  have b0 : 0 ≤ I 0 ∧ I 0 ≤ 255 := h1 0 0 255 (by kernel_rfl)
  have b1 : -9223372036854775808 ≤ I 1 ∧ I 1 ≤ 9223372036854775807 := h1 1 _ _ (by kernel_rfl)
  have b2 : -9223372036854775808 ≤ I 2 ∧ I 2 ≤ 9223372036854775807 := h1 2 _ _ (by kernel_rfl)
  have b3 : -9223372036854775808 ≤ I 3 ∧ I 3 ≤ 9223372036854775807 := h1 3 _ _ (by kernel_rfl)
  have fin : ∀ (bds : List (Nat × Int × Int)) (q : IE) (pre : Dec), okTE bds q pre = true → (envE I).ok (bdL bds) → pre.holds (envE I) → (IE.var 1).ev (envE I) = q.ev (envE I) →
      Calls PR 4 args W fun e w' => e = .returned (.bool true) ∧ Below W.heap.size W w' := by
    intro bds q pre hok hb hp hq
    have ha : LRel (envE I) (fun _ => none) (teC bds q pre).args args := agg_re hq (h2 fun _ => none)
    have r := te_ok hok (envE I) ⟨rfl, rfl⟩ hb hp _ W (fun _ => none) W args (HRel.start _ W) ha (fun _ _ => rfl)
    refine Calls.mono r ?_
    rintro e w' ⟨v, rfl, f', _, _, hr, hv⟩
    refine ⟨?_, hr.below.below⟩
    cases hv
    rfl
  have bB := in64 I b0 b1 b3 b2
  have n0 : 0 ≤ hE.ev (envE I) := Int.tmod_nonneg _ b0.1
  have n1 : hE.ev (envE I) < 4 := Int.tmod_lt_of_pos _ (show (0 : Int) < 4 by decide)
  obtain ⟨n, hn⟩ := Int.eq_ofNat_of_zero_le n0
  have hn4 : n < 4 := by omega
  have en : (BE.eq hE (.lit (.ofNat n))).ev (envE I) = true := decide_eq_true hn
  by_cases c1 : I 1 < 0
  · exact fin teB (.var 1) (preL n) (okL n hn4) bB (holds1 en (holds1 (decide_eq_true c1) nilH)) rfl
  by_cases c2 : I 1 < n
  · obtain ⟨j, hj⟩ := Int.eq_ofNat_of_zero_le (show 0 ≤ I 1 by omega)
    have hjn : j < n := by omega
    have eJ : (preJ n j).holds (envE I) := holds1 en (holds1 (decide_eq_true (show (Int.ofNat j) < hE.ev (envE I) by rw [hn]; exact Int.ofNat_lt.2 hjn)) nilH)
    have eq : (IE.var 1).ev (envE I) = (IE.lit (.ofNat j)).ev (envE I) := hj
    by_cases j0 : j = 0
    · subst j0
      exact fin teB (.lit 0) (preJ n 0) (okZ n hjn hn4) bB eJ eq
    by_cases c3 : I 2 < 0
    · exact fin teB _ (preA n j) (okA n j (by omega) hjn hn4) bB (holds1 (decide_eq_true c3) eJ) eq
    by_cases c4 : I 2 < Int.ofNat (256 * j)
    · obtain ⟨x, hx⟩ := Int.eq_ofNat_of_zero_le (show 0 ≤ I 2 by omega)
      have c4 : I 2 < ((256 * j : Nat) : Int) := c4
      have hk : x / 256 < j := by omega
      obtain ⟨b, hb⟩ := okF n j (x / 256) hk hjn hn4
      refine fin (teD (x / 256)) _ (preF n j b) hb (in64 I b0 b1 b3 ?_) (holds1 (flip_holds _ b) eJ) eq
      show ((256 * (x / 256) : Nat) : Int) ≤ I 2 ∧ I 2 ≤ ((256 * (x / 256) + 255 : Nat) : Int)
      omega
    · exact fin teB _ (preB n j) (okB n j (by omega) hjn hn4) bB (holds1 (decide_eq_false c3) (holds1 (decide_eq_false c4) eJ)) eq
  · exact fin teB (.var 1) (preH n) (okH n hn4) bB (holds1 en (holds1 (decide_eq_false c1) (holds1 (decide_eq_false c2) (holds1 (decide_eq_false (show ¬ I 1 < hE.ev (envE I) by rw [hn]; exact c2)) nilH)))) rfl
end
end Go.Proofs.YthlmmihlehfoeaaGreat
