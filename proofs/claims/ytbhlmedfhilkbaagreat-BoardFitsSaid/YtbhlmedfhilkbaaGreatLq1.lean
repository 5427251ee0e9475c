/- Made of reference 03. No condition. -/
import Derived.Test.YtbhlmedfhilkbaaGreatLk0
set_option linter.unusedSimpArgs false
set_option linter.unusedVariables false
set_option linter.unusedSectionVars false
namespace Go.Proofs.YtbhlmedfhilkbaaGreat
open Go Go.Sx
set_option maxRecDepth 1000000
noncomputable section
def lMade3_0 : List Int := [0, 1, 2, 3, 4, 5, 6, 7]
theorem tMade3_0 : (casesAll eMade3 tMade3 (fun _ => cMade3.defLeaf FM3) cMade3.pre lMade3_0 && onlyL tMade3 cMade3 FM3 120 lMade3_0) = true := by kernel_rfl
def lMade3_1 : List Int := [8, 9, 10, 11, 12, 13, 14, 15]
theorem tMade3_1 : (casesAll eMade3 tMade3 (fun _ => cMade3.defLeaf FM3) cMade3.pre lMade3_1 && onlyL tMade3 cMade3 FM3 120 lMade3_1) = true := by kernel_rfl
def lMade3_2 : List Int := [16, 17, 18, 19, 20, 21, 22, 23]
theorem tMade3_2 : (casesAll eMade3 tMade3 (fun _ => cMade3.defLeaf FM3) cMade3.pre lMade3_2 && onlyL tMade3 cMade3 FM3 120 lMade3_2) = true := by kernel_rfl
def lMade3_3 : List Int := [24, 25, 26, 27, 28, 29, 30, 31]
theorem tMade3_3 : (casesAll eMade3 tMade3 (fun _ => cMade3.defLeaf FM3) cMade3.pre lMade3_3 && onlyL tMade3 cMade3 FM3 120 lMade3_3) = true := by kernel_rfl
def lMade3_4 : List Int := [32, 33, 34, 35, 36, 37, 38]
theorem tMade3_4 : (casesAll eMade3 tMade3 (fun _ => cMade3.defLeaf FM3) cMade3.pre lMade3_4 && onlyL tMade3 cMade3 FM3 120 lMade3_4) = true := by kernel_rfl
def lMade3 : List Int := lMade3_0 ++ (lMade3_1 ++ (lMade3_2 ++ (lMade3_3 ++ (lMade3_4))))
theorem tMade3_all : (casesAll eMade3 tMade3 (fun _ => cMade3.defLeaf FM3) cMade3.pre lMade3 && onlyL tMade3 cMade3 FM3 120 lMade3) = true := all_app tMade3_0 (all_app tMade3_1 (all_app tMade3_2 (all_app tMade3_3 (tMade3_4))))
end
end Go.Proofs.YtbhlmedfhilkbaaGreat
