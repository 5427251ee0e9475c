/- RecoveryGuests: a block is made. No condition. -/
import Derived.Test.YthcfcjkljglgfaaRg3
set_option linter.unusedVariables false
set_option linter.unusedSimpArgs false
namespace Go.Proofs.Ythcfcjkljglgfaa
open Go Go.Sx
set_option maxRecDepth 1000000
noncomputable section
abbrev intT : TypeId := 3
abbrev blkT : TypeId := 40
def lent : AObj := .arr [] (.lit 0) (.lit 0) false
def blkO (a p o : AVal) (own : Bool) : AObj := .cells (treeAt [a, p, o] 0) blkT own 3
def pgV (i : Nat) : AVal := .slice (some (i, 0)) 1 1 0
def pgO (v : AVal) (own : Bool) : AObj := .cells (treeAt [v] 0) intT own 1
def atO (code n : IE) : AObj := .arr [.u32] code n true
/-! 20 how many instructions, 21 the first address, 23 the addresses, 4 how many operations, 5 they; j instructions are still to come, of 12 -/
def FM (j : Nat) : Fns := ⟨190 + 2 * j, 191 + 2 * j, [0, 1, 2, 4, 5, 20, 21, 22, 23]⟩
def cMA (j : Nat) : List AVal := [pm, uV .i64 20, uV .u32 21, .ptr (some (2, 0)), .int .i64 (.lit (Int.ofNat (12 - j))), .ptr (some (6, 0))]
def cMO (j : Nat) : List AObj := [mkO (.var 2), numO, blkO (.sliceA 3 (.lit (Int.ofNat (12 - j))) 1) (pgV 5) (.sliceA 4 (.var 4) 5) true, atO (.var 23) (.lit (Int.ofNat (12 - j))), opO (.var 5) (.var 4), pgO (uV .i64 22) false, lent]
def cMB (j : Nat) : List (Nat × Int × Int) := mkB (Int.ofNat (10 + 70 * (12 - j))) ++ [(4, 0, Int.ofNat (8 * (12 - j))), (20, 1, 12), u32B 21, (22, -1000000000, 1000000000)]
def cMP (j : Nat) : Dec := [(.lt (.var 20) (.lit (Int.ofNat (12 - j))), false)]
def cMR : AVal := .tuple [pm, uV .i64 20, uV .u32 21, .ptr (some (2, 0)), .ptr (some (6, 0))]
def cMo' (at' la ca lo co : IE) : List AObj := [mkO at', numO, blkO (.sliceA 7 la 1) (pgV 5) (.sliceA 8 lo 5) true, gone, gone, pgO (uV .i64 22) false, lent, atO ca la, opO co lo]
def cM : Nat → Con
  | 0 => { g := 12, args := cMA 0, os := cMO 0, bds := cMB 0, pre := cMP 0, res := cMR, os' := cMo' (.var 2) (.lit 12) (.var 23) (.var 4) (.var 5) }
  | j + 1 => { g := 12, args := cMA (j + 1), os := cMO (j + 1), bds := cMB (j + 1), pre := cMP (j + 1), res := cMR, os' := cMo' (atE (FM (j + 1)) 4 (Int.ofNat (70 * (j + 1)))) (lenE (FM (j + 1)) 7 16) (kvE (FM (j + 1)) 10) (lenE (FM (j + 1)) 8 128) (kvE (FM (j + 1)) 11) }
def lM (j : Nat) : LCon := { con := cM j, key := 7, n := 125, sl := [3, 4, 5, 6, 7, 2], e := .exit 0, sl' := [3, 4, 5, 6, 2] }
def polM : FuncId → Nat → Bool := fun g k => Nat.beq g 12 && (Nat.beq k 3000001 || (Nat.beq k 3000002 || Nat.beq k 1000000))
def kMd : Know := ⟨cInstr :: takes, []⟩
def tMz : Out := (lM 0).tree PR kMd 20 none' no' 12 [] (.lit 0)
def tM (j : Nat) : Out := (lM (j + 1)).treeN (lM j) PR kMd 20 polM no' 12 []
def rtM (j : Nat) : RT := (cM (j + 1)).rows (FM (j + 1)) (tM j)
def okM (j : Nat) : Bool := (tM j).all ((cM (j + 1)).defLeaf (FM (j + 1))) (cMP (j + 1)) && ((rtM j).only (memV (FM (j + 1)).vars) (FM (j + 1)).KR && (cM (j + 1)).wf)
/-! 0 the numbers, 1 how many -/
def FB : Fns := ⟨216, 217, [0, 1]⟩
def numO' : AObj := .arr [.i64] (.var 0) (.var 1) false
def cMade : Con := { g := 12, args := [.sliceS 0 (.lit 0) (.var 1) 1 false], os := [numO'], bds := [(1, 0, 150)], res := .agg [.sliceA 1 (lenE FB 0 32) 1, pgV 2, .sliceA 3 (lenE FB 1 200) 5], os' := [numO', atO (kvE FB 4) (lenE FB 0 32), pgO (.int .i64 (dg FB .i64 5)) true, opO (kvE FB 6) (lenE FB 1 200)] }
def kB : Know := ⟨takes, [lM 12]⟩
def tB : Out := cMade.tree PR kB 20 polM no' 12 []
def rtB : RT := cMade.rows FB tB
def okB : Bool := tB.all (cMade.defLeaf FB) [] && (rtB.only (memV FB.vars) 216 && cMade.wf)
theorem zM_run : (tMz.all ((cM 0).leaf (qP (bdL (cM 0).bds) 4)) (cMP 0) && (cM 0).wf) = true := by kernel_rfl
theorem runM : (List.range 12).all okM = true := by kernel_rfl
theorem runB : okB = true := by kernel_rfl
end
end Go.Proofs.Ythcfcjkljglgfaa
