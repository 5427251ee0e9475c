/- Encode of reference 02, the second half. No condition. -/
import Derived.Test.YtbhlmedfhilkbaaGreatLk0
set_option linter.unusedSimpArgs false
set_option linter.unusedVariables false
set_option linter.unusedSectionVars false
namespace Go.Proofs.YtbhlmedfhilkbaaGreat
open Go Go.Sx
set_option maxRecDepth 1000000
noncomputable section
def lEnc2_8 : List Int := [64, 65, 66, 67, 68, 69, 70, 71]
theorem tEnc2_8 : (casesAll (.var 0) tEnc2 (fun _ => cEnc2.defLeaf FE2) cEnc2.pre lEnc2_8 && onlyL tEnc2 cEnc2 FE2 116 lEnc2_8) = true := by kernel_rfl
def lEnc2_9 : List Int := [72, 73, 74, 75, 76, 77, 78, 79]
theorem tEnc2_9 : (casesAll (.var 0) tEnc2 (fun _ => cEnc2.defLeaf FE2) cEnc2.pre lEnc2_9 && onlyL tEnc2 cEnc2 FE2 116 lEnc2_9) = true := by kernel_rfl
def lEnc2_10 : List Int := [80, 81, 82, 83, 84, 85, 86, 87]
theorem tEnc2_10 : (casesAll (.var 0) tEnc2 (fun _ => cEnc2.defLeaf FE2) cEnc2.pre lEnc2_10 && onlyL tEnc2 cEnc2 FE2 116 lEnc2_10) = true := by kernel_rfl
def lEnc2_11 : List Int := [88, 89, 90, 91, 92, 93, 94, 95]
theorem tEnc2_11 : (casesAll (.var 0) tEnc2 (fun _ => cEnc2.defLeaf FE2) cEnc2.pre lEnc2_11 && onlyL tEnc2 cEnc2 FE2 116 lEnc2_11) = true := by kernel_rfl
def lEnc2_12 : List Int := [96, 97, 98, 99, 100, 101, 102, 103]
theorem tEnc2_12 : (casesAll (.var 0) tEnc2 (fun _ => cEnc2.defLeaf FE2) cEnc2.pre lEnc2_12 && onlyL tEnc2 cEnc2 FE2 116 lEnc2_12) = true := by kernel_rfl
def lEnc2_13 : List Int := [104, 105, 106, 107, 108, 109, 110, 111]
theorem tEnc2_13 : (casesAll (.var 0) tEnc2 (fun _ => cEnc2.defLeaf FE2) cEnc2.pre lEnc2_13 && onlyL tEnc2 cEnc2 FE2 116 lEnc2_13) = true := by kernel_rfl
def lEnc2_14 : List Int := [112, 113, 114, 115, 116, 117, 118, 119]
theorem tEnc2_14 : (casesAll (.var 0) tEnc2 (fun _ => cEnc2.defLeaf FE2) cEnc2.pre lEnc2_14 && onlyL tEnc2 cEnc2 FE2 116 lEnc2_14) = true := by kernel_rfl
def lEnc2_15 : List Int := [120, 121, 122, 123, 124, 125, 126, 127]
theorem tEnc2_15 : (casesAll (.var 0) tEnc2 (fun _ => cEnc2.defLeaf FE2) cEnc2.pre lEnc2_15 && onlyL tEnc2 cEnc2 FE2 116 lEnc2_15) = true := by kernel_rfl
def lEnc2_16 : List Int := [128, 129, 130]
theorem tEnc2_16 : (casesAll (.var 0) tEnc2 (fun _ => cEnc2.defLeaf FE2) cEnc2.pre lEnc2_16 && onlyL tEnc2 cEnc2 FE2 116 lEnc2_16) = true := by kernel_rfl
end
end Go.Proofs.YtbhlmedfhilkbaaGreat
