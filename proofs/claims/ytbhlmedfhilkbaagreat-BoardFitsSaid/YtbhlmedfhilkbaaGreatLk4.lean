/- Encode of reference 02. No condition. -/
import Derived.Test.YtbhlmedfhilkbaaGreatLk2
import Derived.Test.YtbhlmedfhilkbaaGreatLk3
set_option linter.unusedSimpArgs false
set_option linter.unusedVariables false
set_option linter.unusedSectionVars false
namespace Go.Proofs.YtbhlmedfhilkbaaGreat
open Go Go.Sx
set_option maxRecDepth 1000000
noncomputable section
def lEnc2 : List Int := lEnc2_0 ++ (lEnc2_1 ++ (lEnc2_2 ++ (lEnc2_3 ++ (lEnc2_4 ++ (lEnc2_5 ++ (lEnc2_6 ++ (lEnc2_7 ++ (lEnc2_8 ++ (lEnc2_9 ++ (lEnc2_10 ++ (lEnc2_11 ++ (lEnc2_12 ++ (lEnc2_13 ++ (lEnc2_14 ++ (lEnc2_15 ++ (lEnc2_16))))))))))))))))
theorem tEnc2_all : (casesAll (.var 0) tEnc2 (fun _ => cEnc2.defLeaf FE2) cEnc2.pre lEnc2 && onlyL tEnc2 cEnc2 FE2 116 lEnc2) = true := all_app tEnc2_0 (all_app tEnc2_1 (all_app tEnc2_2 (all_app tEnc2_3 (all_app tEnc2_4 (all_app tEnc2_5 (all_app tEnc2_6 (all_app tEnc2_7 (all_app tEnc2_8 (all_app tEnc2_9 (all_app tEnc2_10 (all_app tEnc2_11 (all_app tEnc2_12 (all_app tEnc2_13 (all_app tEnc2_14 (all_app tEnc2_15 (tEnc2_16))))))))))))))))
end
end Go.Proofs.YtbhlmedfhilkbaaGreat
