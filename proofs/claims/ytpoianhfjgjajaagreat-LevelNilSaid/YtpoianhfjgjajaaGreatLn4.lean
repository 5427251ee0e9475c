/- LevelNil: zeros poked, the second half of the pages; pages read; decoding's formats. No condition. -/
import Derived.Test.YtpoianhfjgjajaaGreatLn2
namespace Go.Proofs.YtpoianhfjgjajaaGreat.nil
open Go Go.Sx
set_option maxRecDepth 1000000
noncomputable section
theorem poB : ((List.range 32).map (· + 32)).all okPo = true := by kernel_rfl
theorem co0 : okCo 0 = true := by kernel_rfl
theorem co1 : okCo 1 = true := by kernel_rfl
theorem co2 : okCo 2 = true := by kernel_rfl
theorem wfC : ((cCo 0).wf && ((cCo 1).wf && (cCo 2).wf)) = true := by kernel_rfl
def shp (kn d a b : Bool) (kind bits most : Int) : List AVal := [.bool (.lit kn), .bool (.lit d), .bool (.lit a), .bool (.lit b), .int .i64 (.lit kind), .int .i64 (.lit bits), .int .u32 (.lit most)]
def cOf (n : Int) (res : List AVal) : Con := { g := 228, args := [.int .i64 (.lit n)], res := .agg res }
/-- The formats of the two instructions. -/
def cO1 : Con := cOf 16 (shp true true true false 1 18 0)
def cO2 : Con := cOf 33 (shp true true true false 1 18 0)
theorem of_run : (cO1.wf && (cO1.runs PR [] 70 8 && (cO2.wf && cO2.runs PR [] 70 8))) = true := by kernel_rfl
end
end Go.Proofs.YtpoianhfjgjajaaGreat.nil
