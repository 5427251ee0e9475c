/- Encode of reference 02, the first half. No condition. -/
import Derived.Test.YtbhlmedfhilkbaaGreatLk0
set_option linter.unusedSimpArgs false
set_option linter.unusedVariables false
set_option linter.unusedSectionVars false
namespace Go.Proofs.YtbhlmedfhilkbaaGreat
open Go Go.Sx
set_option maxRecDepth 1000000
noncomputable section
def lEnc2_0 : List Int := [0, 1, 2, 3, 4, 5, 6, 7]
theorem tEnc2_0 : (casesAll (.var 0) tEnc2 (fun _ => cEnc2.defLeaf FE2) cEnc2.pre lEnc2_0 && onlyL tEnc2 cEnc2 FE2 116 lEnc2_0) = true := by kernel_rfl
def lEnc2_1 : List Int := [8, 9, 10, 11, 12, 13, 14, 15]
theorem tEnc2_1 : (casesAll (.var 0) tEnc2 (fun _ => cEnc2.defLeaf FE2) cEnc2.pre lEnc2_1 && onlyL tEnc2 cEnc2 FE2 116 lEnc2_1) = true := by kernel_rfl
def lEnc2_2 : List Int := [16, 17, 18, 19, 20, 21, 22, 23]
theorem tEnc2_2 : (casesAll (.var 0) tEnc2 (fun _ => cEnc2.defLeaf FE2) cEnc2.pre lEnc2_2 && onlyL tEnc2 cEnc2 FE2 116 lEnc2_2) = true := by kernel_rfl
def lEnc2_3 : List Int := [24, 25, 26, 27, 28, 29, 30, 31]
theorem tEnc2_3 : (casesAll (.var 0) tEnc2 (fun _ => cEnc2.defLeaf FE2) cEnc2.pre lEnc2_3 && onlyL tEnc2 cEnc2 FE2 116 lEnc2_3) = true := by kernel_rfl
def lEnc2_4 : List Int := [32, 33, 34, 35, 36, 37, 38, 39]
theorem tEnc2_4 : (casesAll (.var 0) tEnc2 (fun _ => cEnc2.defLeaf FE2) cEnc2.pre lEnc2_4 && onlyL tEnc2 cEnc2 FE2 116 lEnc2_4) = true := by kernel_rfl
def lEnc2_5 : List Int := [40, 41, 42, 43, 44, 45, 46, 47]
theorem tEnc2_5 : (casesAll (.var 0) tEnc2 (fun _ => cEnc2.defLeaf FE2) cEnc2.pre lEnc2_5 && onlyL tEnc2 cEnc2 FE2 116 lEnc2_5) = true := by kernel_rfl
def lEnc2_6 : List Int := [48, 49, 50, 51, 52, 53, 54, 55]
theorem tEnc2_6 : (casesAll (.var 0) tEnc2 (fun _ => cEnc2.defLeaf FE2) cEnc2.pre lEnc2_6 && onlyL tEnc2 cEnc2 FE2 116 lEnc2_6) = true := by kernel_rfl
def lEnc2_7 : List Int := [56, 57, 58, 59, 60, 61, 62, 63]
theorem tEnc2_7 : (casesAll (.var 0) tEnc2 (fun _ => cEnc2.defLeaf FE2) cEnc2.pre lEnc2_7 && onlyL tEnc2 cEnc2 FE2 116 lEnc2_7) = true := by kernel_rfl
end
end Go.Proofs.YtbhlmedfhilkbaaGreat
