/- Encode of reference 03; Tame of reference 06. No condition. -/
import Derived.Test.YtbhlmedfhilkbaaGreatLk0
set_option linter.unusedSimpArgs false
set_option linter.unusedVariables false
set_option linter.unusedSectionVars false
namespace Go.Proofs.YtbhlmedfhilkbaaGreat
open Go Go.Sx
set_option maxRecDepth 1000000
noncomputable section
def lEnc3_0 : List Int := [0, 1, 2, 3, 4, 5, 6, 7]
theorem tEnc3_0 : (casesAll (.var 0) tEnc3 (fun _ => cEnc3.defLeaf FE3) cEnc3.pre lEnc3_0 && onlyL tEnc3 cEnc3 FE3 124 lEnc3_0) = true := by kernel_rfl
def lEnc3_1 : List Int := [8, 9, 10, 11, 12, 13, 14, 15]
theorem tEnc3_1 : (casesAll (.var 0) tEnc3 (fun _ => cEnc3.defLeaf FE3) cEnc3.pre lEnc3_1 && onlyL tEnc3 cEnc3 FE3 124 lEnc3_1) = true := by kernel_rfl
def lEnc3_2 : List Int := [16, 17, 18, 19, 20, 21, 22, 23]
theorem tEnc3_2 : (casesAll (.var 0) tEnc3 (fun _ => cEnc3.defLeaf FE3) cEnc3.pre lEnc3_2 && onlyL tEnc3 cEnc3 FE3 124 lEnc3_2) = true := by kernel_rfl
def lEnc3_3 : List Int := [24, 25, 26, 27, 28, 29, 30, 31]
theorem tEnc3_3 : (casesAll (.var 0) tEnc3 (fun _ => cEnc3.defLeaf FE3) cEnc3.pre lEnc3_3 && onlyL tEnc3 cEnc3 FE3 124 lEnc3_3) = true := by kernel_rfl
def lEnc3_4 : List Int := [32, 33, 34, 35, 36, 37, 38, 39]
theorem tEnc3_4 : (casesAll (.var 0) tEnc3 (fun _ => cEnc3.defLeaf FE3) cEnc3.pre lEnc3_4 && onlyL tEnc3 cEnc3 FE3 124 lEnc3_4) = true := by kernel_rfl
def lEnc3_5 : List Int := [40, 41, 42, 43, 44, 45, 46, 47]
theorem tEnc3_5 : (casesAll (.var 0) tEnc3 (fun _ => cEnc3.defLeaf FE3) cEnc3.pre lEnc3_5 && onlyL tEnc3 cEnc3 FE3 124 lEnc3_5) = true := by kernel_rfl
def lEnc3_6 : List Int := [48, 49, 50, 51, 52, 53, 54, 55]
theorem tEnc3_6 : (casesAll (.var 0) tEnc3 (fun _ => cEnc3.defLeaf FE3) cEnc3.pre lEnc3_6 && onlyL tEnc3 cEnc3 FE3 124 lEnc3_6) = true := by kernel_rfl
def lEnc3_7 : List Int := [56, 57, 58, 59, 60, 61, 62, 63]
theorem tEnc3_7 : (casesAll (.var 0) tEnc3 (fun _ => cEnc3.defLeaf FE3) cEnc3.pre lEnc3_7 && onlyL tEnc3 cEnc3 FE3 124 lEnc3_7) = true := by kernel_rfl
def lEnc3 : List Int := lEnc3_0 ++ (lEnc3_1 ++ (lEnc3_2 ++ (lEnc3_3 ++ (lEnc3_4 ++ (lEnc3_5 ++ (lEnc3_6 ++ (lEnc3_7)))))))
theorem tEnc3_all : (casesAll (.var 0) tEnc3 (fun _ => cEnc3.defLeaf FE3) cEnc3.pre lEnc3 && onlyL tEnc3 cEnc3 FE3 124 lEnc3) = true := all_app tEnc3_0 (all_app tEnc3_1 (all_app tEnc3_2 (all_app tEnc3_3 (all_app tEnc3_4 (all_app tEnc3_5 (all_app tEnc3_6 (tEnc3_7)))))))
theorem tEnc3_o : (runP cEnc3L ⟨[], []⟩ 40 12 12 && runP cEnc3H ⟨[], []⟩ 40 12 12) = true := by kernel_rfl
theorem tTame3_all : (tTame3.all (cTame3.defLeaf FT3) cTame3.pre && (cTame3.rows FT3 tTame3).only (memV FT3.vars) 122) = true := by kernel_rfl
theorem lk_wf : (cMade2.wf && (cEnc2.wf && (cMade3.wf && (cTame3.wf && (cEnc3.wf && (cEnc3L.wf && cEnc3H.wf)))))) = true := by kernel_rfl
end
end Go.Proofs.YtbhlmedfhilkbaaGreat
