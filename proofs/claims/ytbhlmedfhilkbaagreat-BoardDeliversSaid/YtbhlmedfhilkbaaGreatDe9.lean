/- BoardDelivers: the instruction and its word as given numbers. No condition. -/
import Derived.Test.YtbhlmedfhilkbaaGreatDe4
set_option linter.unusedVariables false
set_option linter.unusedSimpArgs false
namespace Go.Proofs.YtbhlmedfhilkbaaGreat
open Go Go.Sx
set_option maxRecDepth 1000000
noncomputable section
/-! 120 the law's numbers, 121 the fields, 122 the word -/
def nC (i : Nat) : IE := .fn 120 (.lit (.ofNat i)) (.lit 0) (.lit 0)
def kC (j : Nat) : IE := .wrap .u8 (.fn 121 (.lit (.ofNat j)) (.lit 0) (.lit 0))
def k4C : IE := .wrap .u32 (.fn 121 (.lit 4) (.lit 0) (.lit 0))
def wC : IE := .wrap .u32 (.fn 122 (.lit 0) (.lit 0) (.lit 0))
def f16 (j : Nat) : IE := .rem (kC j) (.lit 16)
def sgC (b : Nat) : IE := .sel true (.rem k4C (.lit (2 ^ b : Nat))) (.lit (2 ^ (b - 1) : Nat)) (.rem k4C (.lit (2 ^ b : Nat))) (.add (.rem k4C (.lit (2 ^ b : Nat))) (.lit (4294967296 - 2 ^ b : Nat)))
/-- What the fifth number is taken by. -/
def modC (n : Nat) : Int :=
  match shpOf n with
  | .i | .u | .s => 262144
  | .j | .l => 4194304
  | .g => 4
  | .c => 5
  | _ => 1
def fldC (n : Nat) : List IE :=
  match shpOf n with
  | .abc => [f16 1, f16 2, f16 3, z0]
  | .i => [f16 1, f16 2, z0, sgC 18]
  | .u => [f16 1, f16 2, z0, .rem k4C (.lit 262144)]
  | .j => [f16 1, z0, z0, sgC 22]
  | .l => [f16 1, z0, z0, .rem k4C (.lit 4194304)]
  | .s => [z0, z0, z0, .rem k4C (.lit 262144)]
  | .n => [z0, z0, z0, z0]
  | .y => [z0, f16 2, z0, z0]
  | .g => [f16 1, z0, z0, .rem k4C (.lit 4)]
  | .c => [z0, f16 2, z0, .rem k4C (.lit 5)]
def md (i : Nat) (m : Int) : IE := .rem (.add (.rem (.var i) (.lit m)) (.lit m)) (.lit m)
def preN : Dec := [(.eq (.var 1) (nC 1), true), (.eq (.var 2) (nC 2), true), (.eq (.var 3) (nC 3), true), (.eq (.var 4) (nC 4), true)]
def cMadeP (c : Nat) : Con := { g := 27, args := [.agg [uV .i64 0, uV .i64 1, uV .i64 2, uV .i64 3, uV .i64 4]], bds := [i64B 0, i64B 1, i64B 2, i64B 3, i64B 4], pre := (.eq idxE (.lit (.ofNat c)), true) :: preN, res := asIns (opAt c) (fldC (opAt c)) }
def kM : Know := ⟨[cOps, cSign 80 18, cSign 80 22], []⟩
def mM (n : Nat) : IE := md 4 (modC n)
def sgM (n b : Nat) : IE := .sel true (.rem (mM n) (.lit (2 ^ b : Nat))) (.lit (2 ^ (b - 1) : Nat)) (.rem (mM n) (.lit (2 ^ b : Nat))) (.add (.rem (mM n) (.lit (2 ^ b : Nat))) (.lit (4294967296 - 2 ^ b : Nat)))

def cEncP (n : Nat) : Con := { g := 30, args := [asIns n (fldC n)], res := .tuple [.int .u32 wC, .int .i64 z0] }

end
end Go.Proofs.YtbhlmedfhilkbaaGreat
