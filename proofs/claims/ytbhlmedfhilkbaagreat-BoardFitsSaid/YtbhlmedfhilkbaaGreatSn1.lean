/- The examples of the chapter. No condition. -/
import Derived.Test.YtbhlmedfhilkbaaGreatBa
import Derived.Test.YtbhlmedfhilkbaaGreatLk6
import Derived.Test.YtbhlmedfhilkbaaGreatBs11
import Derived.Test.YtbhlmedfhilkbaaGreatBs10
import Derived.Test.YtbhlmedfhilkbaaGreatWo1
set_option linter.unusedSimpArgs false
set_option linter.unusedVariables false
set_option linter.unusedSectionVars false
namespace Go.Proofs.YtbhlmedfhilkbaaGreat
open Go Go.Sx
set_option maxRecDepth 1000000
noncomputable section
def cSane : Con := { g := 13, args := [], res := .bool (.lit true) }
theorem sane0 : cSane.runs PR [] 300 30 = true := by kernel_rfl
theorem wfSane : cSane.wf = true := by kernel_rfl
theorem sane {G : Nat → Int → Int → Int → Int} {GH : Nat → Ghost} : cSane.Ok PR G GH := Con.of_run mixed ConsOk.nil 300 30 sane0
end
end Go.Proofs.YtbhlmedfhilkbaaGreat
namespace Go.Proofs.YtbhlmedfhilkbaaGreat
open Go Go.Sx
set_option maxRecDepth 1000000
noncomputable section
/-! what Laid's memory is known to be -/
def mK (coh : Bool) : IE := match coh with
 | true => kvE FLK 30
 | false => kvE FLQ 30
def hd6 (coh : Bool) : Dec := [(.eq (.fn 0 (mK coh) (.lit 3) (.lit 0)) (.lit 6), true), (.eq (.fn 0 (mK coh) (.lit 7) (.lit 0)) (.lit 1), coh)]
def e2 : IE := .rem (.add (.rem (.var 22) (.lit 2)) (.lit 2)) (.lit 2)
def e8 : IE := .rem (.add (.rem (.var 21) (.lit 8)) (.lit 8)) (.lit 8)
def is2 (coh : Bool) : BE × Bool := match coh with
 | true => (.eq e2 (.lit 0), true)
 | false => (.eq e2 (.lit 1), true)
def many (l : Bool) : BE × Bool := (.lt (.lit 8) (.var 27), l)
def lawB : List (Nat × Int × Int) := [lenB 11, i64B 20, i64B 21, i64B 22, i64B 23, lenB 27, (25, 0, 0)]
def lawV : AVal := .sliceS 1 (.lit 0) (.var 27) 1 false
/-- Which machine. -/
def cKind (coh : Bool) : Con := { g := 15, args := [.agg (i64s [20, 21, 22, 23])], bds := [i64B 20, i64B 21, i64B 22, i64B 23], pre := [is2 coh], res := .int .i64 (.lit (match coh with | true => 1 | false => 2)) }
theorem kind_run : (runP (cKind true) ⟨[], []⟩ 20 12 12 && (runP (cKind false) ⟨[], []⟩ 20 12 12 && ((cKind true).wf && (cKind false).wf))) = true := by kernel_rfl
def kLaw (coh : Bool) : Know := match coh with
 | true => ⟨[cKind true, cSane, cLaidK, cMachK, cClone, cSnapRK, cSnapPK, cSnap2K, cRestK, cWords, cPages6 0], []⟩
 | false => ⟨[cKind false, cSane, cLaidQ, cMachQ, cClone, cSnapRQ, cSnapPQ, cSnap2Q, cRestQ, cWords, cPages6 1], []⟩
def lawC (g : Nat) (coh l : Bool) (pre : Dec) : Con := { g := g, args := [progV, .agg (i64s [20, 21, 22, 23]), lawV], os := [progO, inO], bds := lawB, pre := is2 coh :: many l :: (hd6 coh ++ pre), res := .bool (.lit true), os' := [progO, inO] }
def cFits (s : Nat) (coh l : Bool) : Con := lawC 12 coh l [(.eq e8 (.lit (.ofNat s)), true)]
def rF (coh l : Bool) (s : Nat) : Bool := runP (cFits s coh l) (kLaw coh) 100 12 12
end
end Go.Proofs.YtbhlmedfhilkbaaGreat
