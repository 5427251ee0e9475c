/- Part Sn1. No condition. -/
import Derived.Test.YtbhlmedfhilkbaaGreatBa
set_option linter.all false
namespace Go.Proofs.YtbhlmedfhilkbaaGreat
open Go Go.Sx
set_option maxRecDepth 1000000
noncomputable section
def JN:Con:={g:=13,args:=[],res:= .bool (.lit true)}
theorem YN:JN.runs PR [] 300 30=true:=by kernel_rfl
theorem ZL{G:Nat->Int->Int->Int->Int}{GH:Nat->bz}:JN.Ok PR G GH:=Con.tz mixed bO.nil 300 30 YN
end
end Go.Proofs.YtbhlmedfhilkbaaGreat
