/- Made of reference 02. No condition. -/
import Derived.Test.YtbhlmedfhilkbaaGreatLk0
set_option linter.unusedSimpArgs false
set_option linter.unusedVariables false
set_option linter.unusedSectionVars false
namespace Go.Proofs.YtbhlmedfhilkbaaGreat
open Go Go.Sx
set_option maxRecDepth 1000000
noncomputable section
def lMade2_0 : List Int := [0, 1, 2, 3, 4, 5, 6, 7]
theorem tMade2_0 : (casesAll eMade2 tMade2 (fun _ => cMade2.defLeaf FM2) cMade2.pre lMade2_0 && onlyL tMade2 cMade2 FM2 112 lMade2_0) = true := by kernel_rfl
def lMade2_1 : List Int := [8, 9, 10, 11, 12, 13, 14, 15]
theorem tMade2_1 : (casesAll eMade2 tMade2 (fun _ => cMade2.defLeaf FM2) cMade2.pre lMade2_1 && onlyL tMade2 cMade2 FM2 112 lMade2_1) = true := by kernel_rfl
def lMade2_2 : List Int := [16, 17, 18, 19, 20, 21, 22, 23]
theorem tMade2_2 : (casesAll eMade2 tMade2 (fun _ => cMade2.defLeaf FM2) cMade2.pre lMade2_2 && onlyL tMade2 cMade2 FM2 112 lMade2_2) = true := by kernel_rfl
def lMade2_3 : List Int := [24, 25, 26, 27, 28, 29, 30, 31]
theorem tMade2_3 : (casesAll eMade2 tMade2 (fun _ => cMade2.defLeaf FM2) cMade2.pre lMade2_3 && onlyL tMade2 cMade2 FM2 112 lMade2_3) = true := by kernel_rfl
def lMade2_4 : List Int := [32, 33, 34, 35, 36, 37, 38, 39]
theorem tMade2_4 : (casesAll eMade2 tMade2 (fun _ => cMade2.defLeaf FM2) cMade2.pre lMade2_4 && onlyL tMade2 cMade2 FM2 112 lMade2_4) = true := by kernel_rfl
def lMade2_5 : List Int := [40, 41, 42, 43, 44, 45, 46, 47]
theorem tMade2_5 : (casesAll eMade2 tMade2 (fun _ => cMade2.defLeaf FM2) cMade2.pre lMade2_5 && onlyL tMade2 cMade2 FM2 112 lMade2_5) = true := by kernel_rfl
def lMade2_6 : List Int := [48, 49, 50, 51, 52, 53, 54, 55]
theorem tMade2_6 : (casesAll eMade2 tMade2 (fun _ => cMade2.defLeaf FM2) cMade2.pre lMade2_6 && onlyL tMade2 cMade2 FM2 112 lMade2_6) = true := by kernel_rfl
def lMade2_7 : List Int := [56, 57, 58, 59, 60, 61, 62, 63]
theorem tMade2_7 : (casesAll eMade2 tMade2 (fun _ => cMade2.defLeaf FM2) cMade2.pre lMade2_7 && onlyL tMade2 cMade2 FM2 112 lMade2_7) = true := by kernel_rfl
def lMade2_8 : List Int := [64, 65, 66, 67, 68, 69, 70, 71]
theorem tMade2_8 : (casesAll eMade2 tMade2 (fun _ => cMade2.defLeaf FM2) cMade2.pre lMade2_8 && onlyL tMade2 cMade2 FM2 112 lMade2_8) = true := by kernel_rfl
def lMade2_9 : List Int := [72, 73, 74, 75, 76, 77, 78]
theorem tMade2_9 : (casesAll eMade2 tMade2 (fun _ => cMade2.defLeaf FM2) cMade2.pre lMade2_9 && onlyL tMade2 cMade2 FM2 112 lMade2_9) = true := by kernel_rfl
def lMade2 : List Int := lMade2_0 ++ (lMade2_1 ++ (lMade2_2 ++ (lMade2_3 ++ (lMade2_4 ++ (lMade2_5 ++ (lMade2_6 ++ (lMade2_7 ++ (lMade2_8 ++ (lMade2_9)))))))))
theorem tMade2_all : (casesAll eMade2 tMade2 (fun _ => cMade2.defLeaf FM2) cMade2.pre lMade2 && onlyL tMade2 cMade2 FM2 112 lMade2) = true := all_app tMade2_0 (all_app tMade2_1 (all_app tMade2_2 (all_app tMade2_3 (all_app tMade2_4 (all_app tMade2_5 (all_app tMade2_6 (all_app tMade2_7 (all_app tMade2_8 (tMade2_9)))))))))
end
end Go.Proofs.YtbhlmedfhilkbaaGreat
