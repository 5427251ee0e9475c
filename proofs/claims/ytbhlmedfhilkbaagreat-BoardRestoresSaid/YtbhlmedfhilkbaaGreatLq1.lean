/- Part Lq1. No condition. -/
import Derived.Test.YtbhlmedfhilkbaaGreatBa
set_option linter.all false
namespace Go.Proofs.YtbhlmedfhilkbaaGreat
open Go Go.Sx
set_option maxRecDepth 1000000
noncomputable section
def yh:List Int:=[0,1,2,3,4,5,6,7]
theorem QP:(aj lF gk (fun _=>dI.ao FM3) dI.pre yh&&aT gk dI FM3 120 yh)=true:=by kernel_rfl
def yF:List Int:=[8,9,10,11,12,13,14,15]
theorem Ox:(aj lF gk (fun _=>dI.ao FM3) dI.pre yF&&aT gk dI FM3 120 yF)=true:=by kernel_rfl
def we:List Int:=[16,17,18,19,20,21,22,23]
theorem PE:(aj lF gk (fun _=>dI.ao FM3) dI.pre we&&aT gk dI FM3 120 we)=true:=by kernel_rfl
def xn:List Int:=[24,25,26,27,28,29,30,31]
theorem OE:(aj lF gk (fun _=>dI.ao FM3) dI.pre xn&&aT gk dI FM3 120 xn)=true:=by kernel_rfl
def yC:List Int:=[32,33,34,35,36,37,38]
theorem Pb:(aj lF gk (fun _=>dI.ao FM3) dI.pre yC&&aT gk dI FM3 120 yC)=true:=by kernel_rfl
def CO:List Int:=yh++(yF++(we++(xn++(yC))))
theorem xT:(aj lF gk (fun _=>dI.ao FM3) dI.pre CO&&aT gk dI FM3 120 CO)=true:=aV QP (aV Ox (aV PE (aV OE (Pb))))
end
end Go.Proofs.YtbhlmedfhilkbaaGreat
