/- Part BrQ. No condition. -/
import Derived.Test.YtbhlmedfhilkbaaGreatBr1
set_option linter.all false
namespace Go.Proofs.YtbhlmedfhilkbaaGreat
open Go Go.Sx
set_option maxRecDepth 1000000
noncomputable section
theorem ZD:brA pY oP false true=true:=by kernel_rfl
theorem Zn:brN pY oP false true 0=true:=by kernel_rfl
theorem ZS:brN pY oP false true 1=true:=by kernel_rfl
theorem YG:brN pY oP false true 2=true:=by kernel_rfl
theorem YT:brN pY oP false true 3=true:=by kernel_rfl
theorem Zk:brN pY oP false true 4=true:=by kernel_rfl
theorem Zq:brN pY oP false true 5=true:=by kernel_rfl
theorem ab2:brN pY oP false true 6=true:=by kernel_rfl
theorem aa0:brN pY oP false true 7=true:=by kernel_rfl
theorem abm:brN pY oP false true 8=true:=by kernel_rfl
theorem ab9:brN pY oP false true 9=true:=by kernel_rfl
theorem US: ∀n,n<10->brN pY oP false true n=true
 |0,_=>Zn
 |1,_=>ZS
 |2,_=>YG
 |3,_=>YT
 |4,_=>Zk
 |5,_=>Zq
 |6,_=>ab2
 |7,_=>aa0
 |8,_=>abm
 |9,_=>ab9
end
end Go.Proofs.YtbhlmedfhilkbaaGreat
