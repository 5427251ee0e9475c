/- Part BrK. No condition. -/
import Derived.Test.YtbhlmedfhilkbaaGreatBr1
set_option linter.all false
namespace Go.Proofs.YtbhlmedfhilkbaaGreat
open Go Go.Sx
set_option maxRecDepth 1000000
noncomputable section
theorem Y2:brA qn i7 true true=true:=by kernel_rfl
theorem ZY:brN qn i7 true true 0=true:=by kernel_rfl
theorem abh:brN qn i7 true true 1=true:=by kernel_rfl
theorem ab8:brN qn i7 true true 2=true:=by kernel_rfl
theorem Zc:brN qn i7 true true 3=true:=by kernel_rfl
theorem abx:brN qn i7 true true 4=true:=by kernel_rfl
theorem acw:brN qn i7 true true 5=true:=by kernel_rfl
theorem ZH:brN qn i7 true true 6=true:=by kernel_rfl
theorem acf:brN qn i7 true true 7=true:=by kernel_rfl
theorem ZR:brN qn i7 true true 8=true:=by kernel_rfl
theorem Z9:brN qn i7 true true 9=true:=by kernel_rfl
theorem TK: ∀n,n<10->brN qn i7 true true n=true
 |0,_=>ZY
 |1,_=>abh
 |2,_=>ab8
 |3,_=>Zc
 |4,_=>abx
 |5,_=>acw
 |6,_=>ZH
 |7,_=>acf
 |8,_=>ZR
 |9,_=>Z9
end
end Go.Proofs.YtbhlmedfhilkbaaGreat
