/- RecoveryGuests: the second loop of an instruction; an instruction. No condition. -/
import Derived.Test.YthcfcjkljglgfaaRg2
set_option linter.unusedVariables false
set_option linter.unusedSimpArgs false
namespace Go.Proofs.Ythcfcjkljglgfaa
open Go Go.Sx
set_option maxRecDepth 1000000
noncomputable section
def FL2 (n : Nat) : Fns := ⟨170 + 2 * n, 171 + 2 * n, [0, 1, 2, 4, 5, 10, 11, 12, 13, 14, 15, 16, 17]⟩
def c2B (n : Nat) : List (Nat × Int × Int) := mkB (Int.ofNat (100040 + 10 * (3 - n))) ++ (wrB ++ [(4, 0, Int.ofNat (7 - n))])
def c2 : Nat → Con
  | 0 => { g := 24, args := c1A 0, os := c1O, bds := c2B 0, res := .tuple [pm, .sliceA 2 (.var 4) 5], os' := [mkO (.var 2), numO, opO (.var 5) (.var 4), gone] }
  | n + 1 => { g := 24, args := c1A (n + 1), os := c1O, bds := c2B (n + 1), res := .tuple [pm, .sliceA 4 (lenE (FL2 (n + 1)) 0 8) 5], os' := [mkO (atE (FL2 (n + 1)) 3 (Int.ofNat (8 * (n + 1)))), numO, gone, gone, opO (kvE (FL2 (n + 1)) 6) (lenE (FL2 (n + 1)) 0 8)] }
def l2 (n : Nat) : LCon := { con := c2 n, key := 26, n := 141, sl := [0, 3, 4, 11], e := .exit 3, sl' := [0, 3] }
def t2z : Out := (l2 0).tree PR kMk 20 none' no' 12 [] (.lit 0)
def t2 (n : Nat) : Out := (l2 (n + 1)).treeN (l2 n) PR kMk 20 none' no' 12 []
def rt2 (n : Nat) : RT := (c2 (n + 1)).rows (FL2 (n + 1)) (t2 n)
def ok2 (n : Nat) : Bool := (t2 n).all ((c2 (n + 1)).defLeaf (FL2 (n + 1))) [] && ((rt2 n).only (memV (FL2 (n + 1)).vars) (FL2 (n + 1)).KR && (c2 (n + 1)).wf)
theorem z2_run : (t2z.all ((c2 0).leaf (qP (bdL (c2 0).bds) 4)) [] && (c2 0).wf) = true := by kernel_rfl
theorem run2_0 : ok2 0 = true := by kernel_rfl
theorem run2_1 : ok2 1 = true := by kernel_rfl
theorem run2_2 : ok2 2 = true := by kernel_rfl
def F2S : Fns := ⟨178, 179, [0, 1, 2, 4, 5, 6, 10, 11, 12, 13, 14, 15, 16, 17]⟩
def c2S : Con := { g := 24, args := [pm, .sliceA 2 (.var 4) 5, .ptr (some (3, 0)), .int .i64 (.var 6)], os := c1O, bds := mkB 100040 ++ (wrB ++ [(4, 0, 4), (6, 0, 3)]), res := .tuple [pm, .sliceA 4 (lenE F2S 0 8) 5], os' := [mkO (atE F2S 3 24), numO, gone, gone, opO (kvE F2S 6) (lenE F2S 0 8)] }
def l2S : LCon := { con := c2S, key := 26, n := 141, sl := [0, 3, 4, 11], e := .exit 3, sl' := [0, 3] }
def t2S (k : Int) : Out := l2S.tree0 (l2 k.toNat) PR (fc6 k)
def rt2S : RT := c2S.rows F2S (casesO (.var 6) t2S [0, 1, 2, 3])
theorem run2S : (casesAll (.var 6) t2S (fun _ => c2S.defLeaf F2S) [] [0, 1, 2, 3] && (rt2S.only (memV F2S.vars) 178 && c2S.wf)) = true := by kernel_rfl
/-! an instruction -/
def FI : Fns := ⟨180, 181, [0, 1, 2]⟩
def cInstr : Con := { g := 24, args := [pm], os := [mkO (.var 2), numO], bds := mkB 90000, res := .sliceA 2 (lenE FI 0 8) 5, os' := [mkO (atE FI 3 64), numO, opO (kvE FI 6) (lenE FI 0 8)] }
def kIn : Know := ⟨cSource :: cWord :: takes, [l1S, l2S]⟩
def tI : Out := cInstr.tree PR kIn 20 none' no' 12 []
def rtI : RT := cInstr.rows FI tI
def okI : Bool := tI.all (cInstr.defLeaf FI) [] && (rtI.only (memV FI.vars) 180 && cInstr.wf)
theorem runI : okI = true := by kernel_rfl
end
end Go.Proofs.Ythcfcjkljglgfaa
