/- Reference 23's Laid: a board by functions of the numbers; runs. No condition. -/
import Derived.Test.YtbhlmedfhilkbaaGreatRp1
import Derived.Test.YtbhlmedfhilkbaaGreatLk5
set_option linter.unusedSimpArgs false
set_option linter.unusedVariables false
set_option linter.unusedSectionVars false
namespace Go.Proofs.YtbhlmedfhilkbaaGreat
open Go Go.Sx
set_option maxRecDepth 1000000
noncomputable section
def FLK : Fns := ⟨130, 131, [10, 11, 20, 21, 22, 23]⟩
def FLQ : Fns := ⟨132, 133, [10, 11, 20, 21, 22, 23]⟩
def uL (n : Int) : AVal := .int .u32 (.lit n)
/-- The state of a board that Laid has made: its digits 9 11 14 20 25 27 29. -/
def stF (F : Fns) : List AVal := [uL 256, uL 0, uL 800, uL 900, .int .u32 (dg F .u32 9), .int .u32 (dg F .u32 11), .int .u32 (dg F .u32 14), .int .u32 (dg F .u32 20), uL 1200, uL 0, uL 0, uL 0, uL 0, uL 0, uL 0, uL 0, uL 0, uL 0,
 .int .u32 (dg F .u32 25), uL 0, uL 0, uL 0, .int .i64 (.rem (dg F .u8 27) (.lit 100)), .int .i64 (.rem (dg F .u8 29) (.lit 125))]
/-- The inputs: 27 numbers, of which 25 are the board's. -/
def inO : AObj := .arr [.u32] (.var 24) (.var 27) false
def in27 : BE × Bool := (.lt (.var 27) (.var 25), false)
def inV : AVal := .sliceS 1 (.lit 0) (.var 25) 1 false
def inN : AObj := .arr [.u32] (.var 24) (.var 25) true
def boardR (l : List AVal) (i o : AVal) (stop : AVal) : AObj := .cells (treeAt (l ++ [i, o, stop]) 0) 55 true 5
def machR (l : List AVal) (j : Nat) : AObj := .cells (treeAt (l ++ [.ptr (some (j, 0))]) 0) 138 true 25
def cpuR6 (l : List AVal) (j : Nat) : AObj := .cells (treeAt (l ++ [.ptr (some (j, 0))]) 0) 68 true 25
def laidB : List (Nat × Int × Int) := [lenB 11, i64B 20, i64B 21, i64B 22, i64B 23, (25, 0, 8), lenB 27]
def cLaidK : Con := { g := 14, args := [.int .i64 (.lit 1), progV, .agg (i64s [20, 21, 22, 23]), inV], os := [progO, inO], bds := laidB, pre := [in27], res := .ptr (some (2, 0)), os' := [progO, inO, boardR [.ptr (some (3, 0)), .ptr none] (.sliceA 5 (.var 25) 1) (.slice none 0 0 0) (.bool (.lit false)), machR (stF FLK) 4, .ghost 2 [kvE FLK 30] .nil, inN] }
def kLaidK : Know := ⟨[cNewR true, cCodeK, rPoke, rSync, rProt], []⟩
def tLaidK : Out := cLaidK.tree PR kLaidK 40 none' no' 12 []
theorem laidK_run : (tLaidK.all (cLaidK.defLeaf FLK) cLaidK.pre && ((cLaidK.rows FLK tLaidK).only (memV FLK.vars) 130 && cLaidK.wf)) = true := by kernel_rfl
def cLaidQ : Con := { g := 14, args := [.int .i64 (.lit 2), progV, .agg (i64s [20, 21, 22, 23]), inV], os := [progO, inO], bds := laidB, pre := [in27], res := .ptr (some (2, 0)), os' := [progO, inO, boardR [.ptr none, .ptr (some (3, 0))] (.sliceA 5 (.var 25) 1) (.slice none 0 0 0) (.bool (.lit false)), cpuR6 (stF FLQ) 4, .ghost 2 [kvE FLQ 30] .nil, inN] }
def kLaidQ : Know := ⟨[cNewR false, cCodeQ, rPoke, rSync, rProt], []⟩
def tLaidQ : Out := cLaidQ.tree PR kLaidQ 40 none' no' 12 []
theorem laidQ_run : (tLaidQ.all (cLaidQ.defLeaf FLQ) cLaidQ.pre && ((cLaidQ.rows FLQ tLaidQ).only (memV FLQ.vars) 132 && cLaidQ.wf)) = true := by kernel_rfl
theorem laid_wf : (kLaidK.cons.all Con.wf && kLaidQ.cons.all Con.wf) = true := by kernel_rfl
end
end Go.Proofs.YtbhlmedfhilkbaaGreat
