/- The board's snapshot on a memory of two pages: bytes, pages (as St2, in the great seat). No condition. -/
import Derived.Test.YtbhlmedfhilkbaaGreatBd1
set_option linter.unusedVariables false
set_option linter.unusedSimpArgs false
namespace Go.Proofs.YtbhlmedfhilkbaaGreat
open Go Go.Sx
set_option maxRecDepth 1000000
noncomputable section
/-! 1 the address, 20 and 21 the pages, 30 the page's number, 31 how many bytes are done, 32 the bytes -/
def pgO (c : IE) : AObj := .arr [.u8] c (.lit 256) false
def slots2 : AObj := .cells (((((((T.nil.set 0 (.ptr (some (3, 0)))).set 1 (.ptr (some (2, 0)))).set 6 (.int .i64 (.lit 4))).set 7 (.ptr (some (3, 0)))).set 8 (.ptr (some (3, 0)))).set 13 (.int .i64 (.lit 0)))) 148 false 14
def cpuH : AObj := .cells (treeOf [.slice (some (1, 0)) 2 2 0, .bool (.lit false)] 0 .nil) 96 false 26
def memL : List AObj := [cpuH, slots2, pgO (.var 20), pgO (.var 21)]
def FP : Fns := ⟨102, 103, [1, 20, 21]⟩
def FC : Fns := ⟨104, 105, [1, 20, 21]⟩
def byteP (F : Fns) : IE := .wrap .u8 (.fn 0 (.fn F.KR F.x (.lit 0) (.lit 0)) (.lit 0) (.lit 0))
def cPk (g : FuncId) (F : Fns) : Con := { g := g, args := [.ptr (some (0, 0)), .int .u32 (.var 1)], bds := [(1, 0, 767)], os := memL, res := .int .u8 (byteP F), os' := memL }
def qE : IE := .quo (.var 1) (.lit 256)
def tPk (g : FuncId) (F : Fns) (n : Int) : Out := (cPk g F).caseT PR (fun _ => ⟨[], []⟩) 20 none' no' 12 [] qE n
theorem pk_def : casesAll qE (tPk 169 FP) (fun _ => (cPk 169 FP).defLeaf FP) [] [0, 1, 2] = true := by kernel_rfl
theorem cd_def : casesAll qE (tPk 167 FC) (fun _ => (cPk 167 FC).defLeaf FC) [] [0, 1, 2] = true := by kernel_rfl
def rtPk (g : FuncId) (F : Fns) : RT := (cPk g F).rows F (casesO qE (tPk g F) [0, 1, 2])
theorem pk_only : (rtPk 169 FP).only (memV FP.vars) 102 = true := by kernel_rfl
theorem cd_only : (rtPk 167 FC).only (memV FC.vars) 104 = true := by kernel_rfl
/-! a page's content -/
def atV (m : String) : AVal := .func (.method m) [.iface 90 (.ptr (some (0, 0)))] []
def FQ : Fns := ⟨106, 107, [20, 21, 30, 31, 32]⟩
def FK : Fns := ⟨108, 109, [20, 21, 30, 31, 32]⟩
def cCt (m : String) (F : Fns) (z : Int) : Con :=
  { g := 85, args := [.int .i64 (.var 30), atV m, .slice (some (4, 0)) 256 256 0, .int .i64 (.lit 256), .int .i64 (.var 31)],
    os := memL ++ [.arr [.u8] (.var 32) (.lit 256) true], bds := [(30, 0, 1), (31, 0, 256)], res := .tuple [.slice (some (4, 0)) 256 256 0],
    os' := memL ++ [.arr [.u8] (.fn F.KV F.x (.lit 0) (.lit z)) (.lit 256) true] }
def lCt (m : String) (F : Fns) (z : Int) : LCon := { con := cCt m F z, key := 4, n := 26, sl := [0, 1, 5, 9, 10], e := .exit 0, sl' := [5] }
def kPk : Know := ⟨[cPk 169 FP, cPk 167 FC], []⟩
def μC : IE := .sub (.lit 256) (.var 31)
def tCt (m : String) (F : Fns) (z : Int) : Out := (lCt m F z).tree PR kPk 20 none' no' 12 [] μC
end
end Go.Proofs.YtbhlmedfhilkbaaGreat
