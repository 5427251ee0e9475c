/- Flags: the program's and the reference's are one function of the kind and two words. No condition. -/
import Derived.Test.YthcfcjkljglgfaaBa
set_option linter.unusedVariables false
set_option linter.unusedSimpArgs false
namespace Go.Proofs.Ythcfcjkljglgfaa
open Go Go.Sx
set_option maxRecDepth 1000000
noncomputable section
/-! joined bits of words, as numbers -/
theorem bits_nat {x y : Nat} (hx : x < 4294967296) (hy : y < 4294967296) : bitsI .xor .u32 x y = ((x ^^^ y : Nat) : Int) ∧ bitsI .and .u32 x y = ((x &&& y : Nat) : Int) ∧ bitsI .or .u32 x y = ((x ||| y : Nat) : Int) := by
  have e : ∀ n : Nat, n < 4294967296 → (BitVec.ofInt IntKind.u32.bits (n : Int)).toNat = n := fun n h => by
    rw [BitVec.ofInt_natCast, BitVec.toNat_ofNat]
    exact Nat.mod_eq_of_lt h
  have w : ∀ n : Nat, n < 4294967296 → IntKind.u32.wrap (n : Int) = n := fun n h => wrap_id .u32 _ (by show (0 : Int) ≤ n; omega) (by show (n : Int) ≤ 4294967295; omega)
  have l1 : x ^^^ y < 4294967296 := Nat.xor_lt_two_pow (n := 32) hx hy
  have l2 : x &&& y < 4294967296 := Nat.and_lt_two_pow (n := 32) x hy
  have l3 : x ||| y < 4294967296 := Nat.or_lt_two_pow (n := 32) hx hy
  refine ⟨?_, ?_, ?_⟩
  · show IntKind.u32.wrap ((BitVec.ofInt IntKind.u32.bits (x : Int) ^^^ BitVec.ofInt IntKind.u32.bits (y : Int)).toNat : Int) = _
    rw [BitVec.toNat_xor, e x hx, e y hy, w _ l1]
  · show IntKind.u32.wrap ((BitVec.ofInt IntKind.u32.bits (x : Int) &&& BitVec.ofInt IntKind.u32.bits (y : Int)).toNat : Int) = _
    rw [BitVec.toNat_and, e x hx, e y hy, w _ l2]
  · show IntKind.u32.wrap ((BitVec.ofInt IntKind.u32.bits (x : Int) ||| BitVec.ofInt IntKind.u32.bits (y : Int)).toNat : Int) = _
    rw [BitVec.toNat_or, e x hx, e y hy, w _ l3]
theorem top_bit {x : Nat} (h : x < 4294967296) : x.testBit 31 = decide (2147483648 ≤ x) := by
  rw [Nat.testBit_eq_decide_div_mod_eq]
  congr 1
  apply propext
  show x / 2147483648 % 2 = 1 ↔ _
  omega
theorem and_top (z : Nat) : z &&& 2147483648 = (z.testBit 31).toNat * 2147483648 := by
  have h : ∀ i, (z &&& 2147483648).testBit i = (z.testBit i && decide (31 = i)) := fun i => by
    rw [Nat.testBit_and, show (2147483648 : Nat) = 2 ^ 31 from rfl, Nat.testBit_two_pow]
  refine Nat.eq_of_testBit_eq fun i => ?_
  rw [h]
  by_cases hi : 31 = i
  · subst hi
    cases hz : z.testBit 31 <;> simp <;> decide
  · cases hz : z.testBit 31
    · simp [hi]
    · have e : Bool.toNat true * 2147483648 = 2 ^ 31 := rfl
      rw [e, Nat.testBit_two_pow]
      simp [hi]
theorem over_nat {x y r : Nat} (hx : x < 4294967296) (hy : y < 4294967296) (hr : r < 4294967296) :
    bitsI .and .u32 (bitsI .and .u32 (bitsI .xor .u32 x r) (bitsI .xor .u32 y r)) 2147483648 = 0 ↔ ¬ ((2147483648 ≤ x ↔ r < 2147483648) ∧ (2147483648 ≤ y ↔ r < 2147483648)) := by
  have l1 : x ^^^ r < 4294967296 := Nat.xor_lt_two_pow (n := 32) hx hr
  have l2 : y ^^^ r < 4294967296 := Nat.xor_lt_two_pow (n := 32) hy hr
  have l3 : (x ^^^ r) &&& (y ^^^ r) < 4294967296 := Nat.and_lt_two_pow (n := 32) _ l2
  rw [(bits_nat hx hr).1, (bits_nat hy hr).1, (bits_nat l1 l2).2.1, show (2147483648 : Int) = ((2147483648 : Nat) : Int) from rfl, (bits_nat l3 (by decide)).2.1]
  have e : ((x ^^^ r) &&& (y ^^^ r)) &&& 2147483648 = (((x ^^^ r) &&& (y ^^^ r)).testBit 31).toNat * 2147483648 := and_top _
  rw [e, Nat.testBit_and, Nat.testBit_xor, Nat.testBit_xor, top_bit hx, top_bit hy, top_bit hr]
  by_cases h1 : 2147483648 ≤ x <;> by_cases h2 : 2147483648 ≤ y <;> by_cases h3 : 2147483648 ≤ r <;> simp [h1, h2, h3] <;> omega
/-! the function -/
theorem flgP_in (r : Int) (c v : Bool) : 0 ≤ flgP r c v ∧ flgP r c v ≤ 15 := by
  unfold flgP
  cases c <;> cases v <;> simp only [Bool.false_eq_true, if_true, if_false] <;> constructor <;> split <;> split <;> omega
theorem flgI_in (k a b : Int) : 0 ≤ flgI k a b ∧ flgI k a b ≤ 15 := by
  unfold flgI
  repeat' split
  all_goals first | exact flgP_in _ _ _ | omega
/-! what the runs say -/
def n31 : IE := .lit 2147483648
def n32 : IE := .lit 4294967296
def baseE (r : IE) : IE := .sel false r (.lit 0) (.bits .or .u32 (.sel true r n31 (.lit 0) (.lit 8)) (.lit 4)) (.sel true r n31 (.lit 0) (.lit 8))
def rawProg (s x y : IE) : IE :=
  let r : IE := .wrap .u32 s
  let b := baseE r
  let w : IE := .sel true s n32 b (.bits .or .u32 b (.lit 2))
  .sel false (.bits .and .u32 (.bits .and .u32 (.bits .xor .u32 x r) (.bits .xor .u32 y r)) n31) (.lit 0) w (.bits .or .u32 w (.lit 1))
def negE : IE := .bits .xor .u32 (.lit 4294967295) (.var 2)
def progE (k : Int) : IE :=
  if k = 0 then .bits .and .u32 (.var 1) (.lit 15)
  else if k = 1 then rawProg (.add (.var 1) (.var 2)) (.var 1) (.var 2)
  else if k = 2 then rawProg (.add (.add (.var 1) (.var 2)) (.lit 1)) (.var 1) (.var 2)
  else if k = 3 then rawProg (.add (.add (.var 1) negE) (.lit 1)) (.var 1) negE
  else if k = 4 then rawProg (.add (.var 1) negE) (.var 1) negE
  else if k = 5 then baseE (.var 1)
  else .lit 0
def sgn1 (i : Nat) : IE := .sel true (.var i) n31 (.var i) (.sub (.var i) n32)
def rawRef (r s1 s2 t : IE) : IE :=
  let o (x y : Int) : IE := .sel false (.sel true t (.lit (.negSucc 2147483647)) (.lit 1) (.sub (.lit 1) (.sel true t n31 (.lit 1) (.lit 0)))) (.lit 1) (.lit x) (.lit y)
  let c (p q x y : Int) : IE := .sel true s1 s2 (o p q) (o x y)
  .sel true r n31 (.sel false r (.lit 0) (c 5 4 7 6) (c 1 0 3 2)) (c 9 8 11 10)
def refE (k : Int) : IE :=
  if k = 0 then .bits .and .u32 (.var 1) (.lit 15)
  else if k = 1 then rawRef (.wrap .u32 (.add (.var 1) (.var 2))) (.add (.var 1) (.var 2)) n32 (.add (sgn1 1) (sgn1 2))
  else if k = 2 then rawRef (.wrap .u32 (.add (.wrap .u32 (.add (.var 1) (.var 2))) (.lit 1))) (.add (.add (.var 1) (.var 2)) (.lit 1)) n32 (.add (.add (sgn1 1) (sgn1 2)) (.lit 1))
  else if k = 3 then rawRef (.wrap .u32 (.sub (.var 1) (.var 2))) (.var 1) (.var 2) (.sub (sgn1 1) (sgn1 2))
  else if k = 4 then rawRef (.wrap .u32 (.sub (.wrap .u32 (.sub (.var 1) (.var 2))) (.lit 1))) (.var 1) (.add (.var 2) (.lit 1)) (.sub (.sub (sgn1 1) (sgn1 2)) (.lit 1))
  else if k = 5 then .sel true (.var 1) n31 (.sel false (.var 1) (.lit 0) (.lit 4) (.lit 0)) (.lit 8)
  else .lit 0
def cFlR (g : FuncId) (k : Int) (e : IE) : Con := { g := g, args := [.int .i64 (.lit k), uV .u32 1, uV .u32 2], bds := [u32B 1, u32B 2], res := .int .u32 e }
def okFl (g : FuncId) (e : Int → IE) (k : Int) : Bool := ((cFlR g k (e k)).tree PR ⟨[], []⟩ 40 none' no' 12 []).all ((cFlR g k (e k)).leaf (qN (bdL [u32B 1, u32B 2]) [])) []
theorem fl_prog : ([0, 1, 2, 3, 4, 5] : List Int).all (okFl 40 progE) = true := by kernel_rfl
theorem fl_ref : ([0, 1, 2, 3, 4, 5] : List Int).all (okFl 32 refE) = true := by kernel_rfl
end
end Go.Proofs.Ythcfcjkljglgfaa
