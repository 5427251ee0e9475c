/- The references' instructions: patterns, contracts. No condition. -/
import Derived.Test.YtbhlmedfhilkbaaGreatBa
set_option linter.unusedSimpArgs false
set_option linter.unusedVariables false
set_option linter.unusedSectionVars false
namespace Go.Proofs.YtbhlmedfhilkbaaGreat
open Go Go.Sx
set_option maxRecDepth 1000000
noncomputable section
def i64s (l : List Nat) : List AVal := l.map (uV .i64)
def FM2 : Fns := ⟨112, 113, [0, 1, 2, 3, 4]⟩
def kinK : List IntKind := [.i64, .i64, .i64, .i64, .u32, .i64]
def cMade2 : Con := { g := 92, args := [.agg (i64s [0, 1, 2, 3, 4])], bds := [0, 1, 2, 3, 4].map i64B, res := .agg (.int .i64 (dgB FM2 131 0) :: dgL FM2 kinK 1) }
def eMade2 : IE := .rem (.bits .and .i64 (.var 0) (.lit 65535)) (.lit 79)
def tMade2 (n : Int) : Out := cMade2.caseT PR (fun _ => ⟨[], []⟩) 40 none' no' 12 [] eMade2 n
def FE2 : Fns := ⟨116, 117, [0, 1, 2, 3, 4, 5, 6]⟩
def kinV : List AVal := i64s [0, 1, 2, 3, 4] ++ [uV .u32 5, uV .i64 6]
def kinB : List (Nat × Int × Int) := [(0, 0, 130), i64B 1, i64B 2, i64B 3, i64B 4, u32B 5, i64B 6]
def cEnc2 : Con := { g := 52, args := [.agg kinV], bds := kinB, res := .agg [.strS (kvE FE2 0) (dg FE2 .u8 1), .int .i64 (dg FE2 .i64 2)] }
def tEnc2 (n : Int) : Out := cEnc2.caseT PR (fun _ => ⟨[], []⟩) 40 none' no' 12 [] (.var 0) n
def kinQ : List IntKind := [.i64, .i64, .i64, .i64, .u32]
def qinV : List AVal := i64s [0, 1, 2, 3] ++ [uV .u32 4]
def FM3 : Fns := ⟨120, 121, [0, 1, 2, 3, 4]⟩
def cMade3 : Con := { g := 27, args := [.agg (i64s [0, 1, 2, 3, 4])], bds := [0, 1, 2, 3, 4].map i64B, res := .agg (dgL FM3 kinQ 0) }
def eMade3 : IE := .rem (.add (.rem (.var 0) (.lit 39)) (.lit 39)) (.lit 39)
def tMade3 (n : Int) : Out := cMade3.caseT PR (fun _ => ⟨[], []⟩) 80 none' no' 12 [] eMade3 n
def FT3 : Fns := ⟨122, 123, [0, 1, 2, 3, 4, 5]⟩
def qinB : List (Nat × Int × Int) := [i64B 0, i64B 1, i64B 2, i64B 3, u32B 4]
def cTame3 : Con := { g := 96, args := [.agg qinV, uV .i64 5], bds := i64B 5 :: qinB, res := .agg (dgL FT3 kinQ 0) }
def tTame3 : Out := cTame3.tree PR ⟨[], []⟩ 40 none' no' 12 []
def FE3 : Fns := ⟨124, 125, [0, 1, 2, 3, 4]⟩
def cEnc3 : Con := { g := 30, args := [.agg qinV], bds := [(0, 0, 63), i64B 1, i64B 2, i64B 3, u32B 4], res := .tuple [.int .u32 (dg FE3 .u32 0), .int .i64 (dg FE3 .i64 1)] }
def tEnc3 (n : Int) : Out := cEnc3.caseT PR (fun _ => ⟨[], []⟩) 40 none' no' 12 [] (.var 0) n
def cEnc3o (lo hi : Int) : Con := { g := 30, args := [.agg qinV], bds := [(0, lo, hi), i64B 1, i64B 2, i64B 3, u32B 4], res := .tuple [.int .u32 (.lit 0), .int .i64 (.lit 12)] }
def cEnc3L : Con := cEnc3o (-9223372036854775808) (-1)
def cEnc3H : Con := cEnc3o 64 9223372036854775807
end
end Go.Proofs.YtbhlmedfhilkbaaGreat
