/- RecoveryGuests: the program's Guest and the reference's, of any block. No condition. -/
import Derived.Test.YthcfcjkljglgfaaRg4
import Derived.Test.YthcfcjkljglgfaaFl2
set_option linter.unusedVariables false
set_option linter.unusedSimpArgs false
namespace Go.Proofs.Ythcfcjkljglgfaa
open Go Go.Sx
set_option maxRecDepth 1000000
noncomputable section
/-! 0 the kind, 90 the state, 1 the addresses, 2 how many, 3 the operations, 4 how many, 11 how many pages, 5 .. 10 the site, 91 the variables, 92 the context -/
def gsO : List AObj := [.arr [.u32] (.var 1) (.var 2) false, lent, .arr opK (.var 3) (.var 4) false]
def siteV : AVal := .agg [uV .i64 5, uV .i64 6, uV .i64 7, uV .u32 8, uV .u32 9, uV .i64 10]
def gsA : List AVal := [uV .i64 0, .agg (stCells (.var 90)), .agg [.sliceS 0 (.lit 0) (.var 2) 1 false, .sliceS 1 (.lit 0) (.var 11) 1 false, .sliceS 2 (.lit 0) (.var 4) 5 false], siteV, .agg (rowCells (.var 91) (List.replicate 28 .u32) 0), .agg (rowCells (.var 92) (List.replicate 64 .u32) 0)]
def gsB : List (Nat × Int × Int) := [i64B 0, (2, 0, 100000), (4, 0, 1000), (11, 0, 1000), i64B 5, i64B 6, i64B 7, u32B 8, u32B 9, i64B 10]
def FG : Fns := ⟨220, 221, [0, 1, 2, 3, 4, 6, 7, 8, 90, 91, 92]⟩
def cGuP : Con := { g := 13, args := gsA, os := gsO, bds := gsB, res := .agg (dgL FG stKinds 0), os' := gsO }
def cGuR : Con := { cGuP with g := 14 }
def kG : Know := ⟨[cFl 40, cFl 32], []⟩
def lowT : BE := .lt (.var 6) (.lit 1)
def highT : BE := .lt (.lit 6) (.var 6)
def kinds6 : List Int := [1, 2, 3, 4, 5, 6]
def tGu (c : Con) (fc : Dec) : Out := c.tree PR kG 40 none' no' 20 fc
def zT : BE := .lt (.lit 0) (.var 2)
def n7 : BE := .lt (.var 7) (.lit 0)
def m7 : BE := .lt (.var 7) (.var 2)
def fc6' (k : Int) : Dec := [(.eq (.var 6) (.lit k), true), (zT, true)]
def tGuK (c : Con) (k : Int) : Out := .split n7 (tGu c ((n7, true) :: fc6' k)) (.split m7 (tGu c ((m7, true) :: (n7, false) :: fc6' k)) (tGu c ((m7, false) :: (n7, false) :: fc6' k)))
def tGuA (c : Con) : Out := .split zT (.split lowT (tGu c [(lowT, true), (zT, true)]) (.split highT (tGu c [(highT, true), (zT, true)]) (casesO (.var 6) (tGuK c) kinds6))) (tGu c [(zT, false)])
def rtGu : RT := cGuP.rows FG (tGuA cGuP)
def okGuP : Bool := (tGuA cGuP).all (cGuP.defLeaf FG) [] && (rtGu.only (memV FG.vars) 220 && (cGuP.wf && cGuR.wf))
def okGuR : Bool := (tGuA cGuR).all (cGuR.agreeLeaf cGuP.endsA (tGuA cGuP)) []
theorem runGuP : okGuP = true := by kernel_rfl
theorem runGuR : okGuR = true := by kernel_rfl
end
end Go.Proofs.Ythcfcjkljglgfaa
