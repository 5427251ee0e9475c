/- RecoveryGuests: the law's runs. No condition. -/
import Derived.Test.YthcfcjkljglgfaaRg6
import Derived.Test.YthcfcjkljglgfaaSh
set_option linter.unusedVariables false
set_option linter.unusedSimpArgs false
namespace Go.Proofs.Ythcfcjkljglgfaa
open Go Go.Sx
set_option maxRecDepth 1000000
noncomputable section
/-! 0 the numbers, 1 how many, 2 3 4 what is changed, 5 the kind, 30 .. 35 the site, 200 the state, 201 the variables, 202 the context -/
def bigV : AVal := .agg (uV .i64 5 :: (stCells (.var 200) ++ ([uV .i64 30, uV .i64 31, uV .i64 32, uV .u32 33, uV .u32 34, uV .i64 35] ++ (rowCells (.var 201) (List.replicate 28 .u32) 0 ++ rowCells (.var 202) (List.replicate 64 .u32) 0))))
def lgB : List (Nat × Int × Int) := [(1, 0, 70368744177664), i64B 2, i64B 3, i64B 4, i64B 5, i64B 30, i64B 31, i64B 32, u32B 33, u32B 34, i64B 35]
def cSaneG : Con := { g := 8, args := [], res := .bool (.lit true) }
theorem saneG : (cSaneG.runs PR [] 100 30 && cSaneG.wf) = true := by kernel_rfl
/-- A block of nothing. -/
def nlV : AVal := .slice none 0 0 0
def cGuZ : Con := { g := 13, args := [uV .i64 0, .agg (stCells (.var 200)), .agg [nlV, nlV, nlV], siteV, .agg (rowCells (.var 201) (List.replicate 28 .u32) 0), .agg (rowCells (.var 202) (List.replicate 64 .u32) 0)], bds := [i64B 0, i64B 5, i64B 6, i64B 7, u32B 8, u32B 9, i64B 10], res := .agg (stCells (.var 200)) }
theorem runGuZ : (runP cGuZ kG 20 12 4 && cGuZ.wf) = true := by kernel_rfl
def KG : Know := ⟨cSaneG :: cMade :: cGuP :: cGuR :: cGuZ :: (List.range 12).map cTu, []⟩
/-- How many numbers there are: all, or 150. -/
def lenB (b : Bool) : IE := match b with
  | true => .lit 150
  | false => .var 1
def sB (b : Bool) : Nat → IE := fun i => match Nat.beq i 1 with
  | true => lenB b
  | false => .var i
def lA (b : Bool) : IE := (lenE FB 0 32).rep (sB b)
def lO (b : Bool) : IE := (lenE FB 1 200).rep (sB b)
def modG : IE := .rem (.add (.rem (.var 2) (.lit 11)) (.lit 11)) (.lit 11)
def hG' (b : Bool) : IE := .rem (.bits .and .i64 (.var 4) (.lit 65535)) (.add (lA b) (.lit 1))
def facG (b : Bool) (k : Nat) : Dec := (.lt (.lit 150) (.var 1), b) :: (match Nat.ble k 10 with
  | true => [(.eq (lO b) (.lit 0), false), (.lt (.sub (lO b) (.lit 1)) (.lit 0), false), (.eq modG (.lit (.ofNat k)), true), (.lt (lA b) (hG' b), false)]
  | false => [(.eq (lO b) (.lit 0), true)])
def cLG (b : Bool) (k : Nat) : Con := { g := 4, args := [.sliceS 0 (.lit 0) (.var 1) 1 false, .agg [uV .i64 2, uV .i64 3, uV .i64 4], bigV], os := [numO'], bds := lgB, pre := facG b k, res := .bool (.lit true), os' := [numO'] }
def okLG (b : Bool) (k : Nat) : Bool := ((cLG b k).tree PR KG 100 none' no' 30 []).all ((cLG b k).leaf (qP (bdL lgB) 4)) (facG b k)
theorem lg0 : [0, 1, 2, 3, 4, 5].all (okLG false) = true := by kernel_rfl
theorem lg1 : [6, 7, 8, 9, 10, 11].all (okLG false) = true := by kernel_rfl
theorem lg2 : [0, 1, 2, 3, 4, 5].all (okLG true) = true := by kernel_rfl
theorem lg3 : [6, 7, 8, 9, 10, 11].all (okLG true) = true := by kernel_rfl
theorem tu_run : (List.range 12).all okTu = true := by kernel_rfl
end
end Go.Proofs.Ythcfcjkljglgfaa
