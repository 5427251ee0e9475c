/- A round of Q, the reference's board: each case fits. No condition. -/
import Derived.Test.YtbhlmedfhilkbaaGreatBr1
set_option linter.unusedSimpArgs false
set_option linter.unusedVariables false
set_option linter.unusedSectionVars false
namespace Go.Proofs.YtbhlmedfhilkbaaGreat
open Go Go.Sx
set_option maxRecDepth 1000000
noncomputable section
theorem ach:brA jG i9 false false=true:=by kernel_rfl
theorem ab5:brN jG i9 false false 0=true:=by kernel_rfl
theorem aa1:brN jG i9 false false 1=true:=by kernel_rfl
theorem ZC:brN jG i9 false false 2=true:=by kernel_rfl
theorem aax:brN jG i9 false false 3=true:=by kernel_rfl
theorem ZO:brN jG i9 false false 4=true:=by kernel_rfl
theorem ab1:brN jG i9 false false 5=true:=by kernel_rfl
theorem ab6:brN jG i9 false false 6=true:=by kernel_rfl
theorem acg:brN jG i9 false false 7=true:=by kernel_rfl
theorem aa8:brN jG i9 false false 8=true:=by kernel_rfl
theorem YU:brN jG i9 false false 9=true:=by kernel_rfl
theorem TD: ∀n,n<10->brN jG i9 false false n=true
 |0,_=>ab5
 |1,_=>aa1
 |2,_=>ZC
 |3,_=>aax
 |4,_=>ZO
 |5,_=>ab1
 |6,_=>ab6
 |7,_=>acg
 |8,_=>aa8
 |9,_=>YU
end
end Go.Proofs.YtbhlmedfhilkbaaGreat
namespace Go.Proofs.YtbhlmedfhilkbaaGreat
open Go Go.Sx
set_option maxRecDepth 1000000
noncomputable section
theorem aap:brA jM fy true false=true:=by kernel_rfl
theorem Z2:brN jM fy true false 0=true:=by kernel_rfl
theorem ZM:brN jM fy true false 1=true:=by kernel_rfl
theorem Zx:brN jM fy true false 2=true:=by kernel_rfl
theorem aah:brN jM fy true false 3=true:=by kernel_rfl
theorem YZ:brN jM fy true false 4=true:=by kernel_rfl
theorem Za:brN jM fy true false 5=true:=by kernel_rfl
theorem abo:brN jM fy true false 6=true:=by kernel_rfl
theorem ZT:brN jM fy true false 7=true:=by kernel_rfl
theorem ZX:brN jM fy true false 8=true:=by kernel_rfl
theorem ZV:brN jM fy true false 9=true:=by kernel_rfl
theorem UI: ∀n,n<10->brN jM fy true false n=true
 |0,_=>Z2
 |1,_=>ZM
 |2,_=>Zx
 |3,_=>aah
 |4,_=>YZ
 |5,_=>Za
 |6,_=>abo
 |7,_=>ZT
 |8,_=>ZX
 |9,_=>ZV
end
end Go.Proofs.YtbhlmedfhilkbaaGreat
