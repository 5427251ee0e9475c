/- RecoveryGuests: the first loop of an instruction. No condition. -/
import Derived.Test.YthcfcjkljglgfaaRg1
set_option linter.unusedVariables false
set_option linter.unusedSimpArgs false
namespace Go.Proofs.Ythcfcjkljglgfaa
open Go Go.Sx
set_option maxRecDepth 1000000
noncomputable section
def opK : List IntKind := [.i64, .i64, .i64, .i64, .u32]
def opO (code n : IE) : AObj := .arr opK code n true
def wrO (l : List AVal) : AObj := .cells (treeAt l 0) 80 true 8
def gone : AObj := .arr [] (.lit 0) (.lit 0) true
/-- The place, at most m - 1 further. -/
def atE (F : Fns) (j : Nat) (m : Int) : IE := .add (.var 2) (.rem (.add (.rem (.sub (dg F .i64 j) (.var 2)) (.lit m)) (.lit m)) (.lit m))
def lenE (F : Fns) (j : Nat) (m : Int) : IE := .rem (dg F .u8 j) (.lit m)
def bF (F : Fns) (j : Nat) : AVal := .bool (.eq (kvE F j) (.lit 1))
/-! 4 how many operations, 5 they -/
def FL1 (n : Nat) : Fns := ⟨160 + 2 * n, 161 + 2 * n, [0, 1, 2, 4, 5, 10, 11, 12, 13, 14, 15, 16, 17]⟩
def c1A (n : Nat) : List AVal := [pm, .sliceA 2 (.var 4) 5, .ptr (some (3, 0)), .int .i64 (.lit (.ofNat n))]
def c1O : List AObj := [mkO (.var 2), numO, opO (.var 5) (.var 4), wrO wrV]
def c1B (n : Nat) : List (Nat × Int × Int) := mkB (Int.ofNat (100000 + 10 * (3 - n))) ++ (wrB ++ [(4, 0, Int.ofNat (3 - n))])
def c1 : Nat → Con
  | 0 => { g := 24, args := c1A 0, os := c1O, bds := c1B 0, res := .tuple [pm, .sliceA 2 (.var 4) 5, .ptr (some (3, 0))], os' := c1O }
  | n + 1 => { g := 24, args := c1A (n + 1), os := c1O, bds := c1B (n + 1), res := .tuple [pm, .sliceA 4 (lenE (FL1 (n + 1)) 0 4) 5, .ptr (some (3, 0))], os' := [mkO (atE (FL1 (n + 1)) 3 (Int.ofNat (8 * (n + 1)))), numO, gone, wrO [bF (FL1 (n + 1)) 6, bF (FL1 (n + 1)) 7, bF (FL1 (n + 1)) 8, bF (FL1 (n + 1)) 9, bF (FL1 (n + 1)) 10, bF (FL1 (n + 1)) 11, bF (FL1 (n + 1)) 12, bF (FL1 (n + 1)) 13], opO (kvE (FL1 (n + 1)) 14) (lenE (FL1 (n + 1)) 0 4)] }
def l1 (n : Nat) : LCon := { con := c1 n, key := 5, n := 141, sl := [0, 3, 4, 5], e := .exit 0, sl' := [0, 3, 4] }
def kMk : Know := ⟨cSource :: cWord :: takes, []⟩
def t1z : Out := (l1 0).tree PR kMk 20 none' no' 12 [] (.lit 0)
def t1 (n : Nat) : Out := (l1 (n + 1)).treeN (l1 n) PR kMk 20 none' no' 12 []
def rt1 (n : Nat) : RT := (c1 (n + 1)).rows (FL1 (n + 1)) (t1 n)
def ok1 (n : Nat) : Bool := (t1 n).all ((c1 (n + 1)).defLeaf (FL1 (n + 1))) [] && ((rt1 n).only (memV (FL1 (n + 1)).vars) (FL1 (n + 1)).KR && (c1 (n + 1)).wf)
theorem z1_run : (t1z.all ((c1 0).leaf (qP (bdL (c1 0).bds) 4)) [] && (c1 0).wf) = true := by kernel_rfl
theorem run1_0 : ok1 0 = true := by kernel_rfl
theorem run1_1 : ok1 1 = true := by kernel_rfl
theorem run1_2 : ok1 2 = true := by kernel_rfl
/-! 6 how many rounds there are -/
def F1S : Fns := ⟨168, 169, [0, 1, 2, 4, 5, 6, 10, 11, 12, 13, 14, 15, 16, 17]⟩
def c1S : Con := { g := 24, args := [pm, .sliceA 2 (.var 4) 5, .ptr (some (3, 0)), .int .i64 (.var 6)], os := c1O, bds := mkB 100000 ++ (wrB ++ [(4, 0, 0), (6, 0, 3)]), res := .tuple [pm, .sliceA 4 (lenE F1S 0 4) 5, .ptr (some (3, 0))], os' := [mkO (atE F1S 3 24), numO, gone, wrO [bF F1S 6, bF F1S 7, bF F1S 8, bF F1S 9, bF F1S 10, bF F1S 11, bF F1S 12, bF F1S 13], opO (kvE F1S 14) (lenE F1S 0 4)] }
def l1S : LCon := { con := c1S, key := 5, n := 141, sl := [0, 3, 4, 5], e := .exit 0, sl' := [0, 3, 4] }
def fc6 (k : Int) : Dec := [(.eq (.var 6) (.lit k), true)]
def t1S (k : Int) : Out := l1S.tree0 (l1 k.toNat) PR (fc6 k)
def rt1S : RT := c1S.rows F1S (casesO (.var 6) t1S [0, 1, 2, 3])
theorem run1S : (casesAll (.var 6) t1S (fun _ => c1S.defLeaf F1S) [] [0, 1, 2, 3] && (rt1S.only (memV F1S.vars) 168 && c1S.wf)) = true := by kernel_rfl
end
end Go.Proofs.Ythcfcjkljglgfaa
