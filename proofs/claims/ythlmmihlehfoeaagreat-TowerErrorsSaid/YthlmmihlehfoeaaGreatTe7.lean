/- TowerErrors: the law's runs. No condition. -/
import Derived.Test.YthlmmihlehfoeaaGreatTe3
set_option linter.unusedVariables false
set_option linter.unusedSimpArgs false
namespace Go.Proofs.YthlmmihlehfoeaaGreat
open Go Go.Sx
set_option maxRecDepth 1000000
noncomputable section
def loopsL : List LCon := upTo 3 (lPo true 3) ++ (upTo 2 (q0ToL 2) ++ (upTo 5 (lPo false 5) ++ (upTo 3 (kToL 3) ++ (upTo 8 (lPo true 8) ++ upTo 5 (qToL 5)))))
def KL : Know := ⟨[cSane, cMach0, cKinds0], loopsL⟩
/-- 0 the height, 1 the level, 2 the offset, 3 the bit. -/
def hE : IE := .rem (.var 0) (.lit 4)
def teB : List (Nat × Int × Int) := [(0, 0, 255), (1, -9223372036854775808, 9223372036854775807), (2, -9223372036854775808, 9223372036854775807), (3, -9223372036854775808, 9223372036854775807)]
/-- The offset in page k. -/
def teD (k : Nat) : List (Nat × Int × Int) := [(0, 0, 255), (1, -9223372036854775808, 9223372036854775807), (2, .ofNat (256 * k), .ofNat (256 * k + 255)), (3, -9223372036854775808, 9223372036854775807)]
def teC (bds : List (Nat × Int × Int)) (q : IE) (pre : Dec) : Con := { g := 4, args := [.int .u8 (.var 0), .agg [.int .i64 q, .int .i64 (.var 2), .int .i64 (.var 3)]], bds := bds, pre := pre, res := .bool (.lit true) }
/-- The level below 0; beyond the height n; j. -/
def preL (n : Nat) : Dec := [(.eq hE (.lit (.ofNat n)), true), (.lt (.var 1) (.lit 0), true)]
def preH (n : Nat) : Dec := [(.eq hE (.lit (.ofNat n)), true), (.lt (.var 1) (.lit 0), false), (.lt (.var 1) (.lit (.ofNat n)), false), (.lt (.var 1) hE, false)]
def preJ (n j : Nat) : Dec := [(.eq hE (.lit (.ofNat n)), true), (.lt (.lit (.ofNat j)) hE, true)]
/-- The offset below 0; beyond level j. -/
def preA (n j : Nat) : Dec := (.lt (.var 2) (.lit 0), true) :: preJ n j
def preB (n j : Nat) : Dec := (.lt (.var 2) (.lit 0), false) :: (.lt (.var 2) (.lit (.ofNat (256 * j))), false) :: preJ n j
/-- The offset in a page: the flipped byte is another; b where the page lies. -/
def wv (b : Nat) : IE := .wrap .u8 (.fn 0 (.lit 0) (.rem (.add (.lit (.ofNat b)) (.var 2)) (.lit 256)) (.lit 0))
def preF (n j b : Nat) : Dec := (.eq (wv b) (.bits .xor .u8 (wv b) (.shl .u8 (.lit 1) (.bits .and .i64 (.var 3) (.lit 7)))), false) :: preJ n j
def okTE (bds : List (Nat × Int × Int)) (q : IE) (pre : Dec) : Bool := ((teC bds q pre).tree PR KL 600 none' no' 40 []).all ((teC bds q pre).leaf (qP (bdL bds) 4)) pre
theorem te0L : okTE teB (.var 1) (preL 0) = true := by kernel_rfl
theorem te0H : okTE teB (.var 1) (preH 0) = true := by kernel_rfl
theorem te1L : okTE teB (.var 1) (preL 1) = true := by kernel_rfl
theorem te1H : okTE teB (.var 1) (preH 1) = true := by kernel_rfl
theorem te10 : okTE teB (.lit 0) (preJ 1 0) = true := by kernel_rfl
end
end Go.Proofs.YthlmmihlehfoeaaGreat
