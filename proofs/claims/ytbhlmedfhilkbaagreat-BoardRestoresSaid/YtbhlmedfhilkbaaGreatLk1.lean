/- Part Lk1. No condition. -/
import Derived.Test.YtbhlmedfhilkbaaGreatBa
set_option linter.all false
namespace Go.Proofs.YtbhlmedfhilkbaaGreat
open Go Go.Sx
set_option maxRecDepth 1000000
noncomputable section
def wI:List Int:=[0,1,2,3,4,5,6,7]
theorem Pk:(aj gm dm (fun _=>bK.ao FM2) bK.pre wI&&aT dm bK FM2 112 wI)=true:=by kernel_rfl
def ya:List Int:=[8,9,10,11,12,13,14,15]
theorem QM:(aj gm dm (fun _=>bK.ao FM2) bK.pre ya&&aT dm bK FM2 112 ya)=true:=by kernel_rfl
def yq:List Int:=[16,17,18,19,20,21,22,23]
theorem Qz:(aj gm dm (fun _=>bK.ao FM2) bK.pre yq&&aT dm bK FM2 112 yq)=true:=by kernel_rfl
def wY:List Int:=[24,25,26,27,28,29,30,31]
theorem PM:(aj gm dm (fun _=>bK.ao FM2) bK.pre wY&&aT dm bK FM2 112 wY)=true:=by kernel_rfl
def wZ:List Int:=[32,33,34,35,36,37,38,39]
theorem QB:(aj gm dm (fun _=>bK.ao FM2) bK.pre wZ&&aT dm bK FM2 112 wZ)=true:=by kernel_rfl
def vY:List Int:=[40,41,42,43,44,45,46,47]
theorem St:(aj gm dm (fun _=>bK.ao FM2) bK.pre vY&&aT dm bK FM2 112 vY)=true:=by kernel_rfl
def wU:List Int:=[48,49,50,51,52,53,54,55]
theorem PA:(aj gm dm (fun _=>bK.ao FM2) bK.pre wU&&aT dm bK FM2 112 wU)=true:=by kernel_rfl
def yN:List Int:=[56,57,58,59,60,61,62,63]
theorem OQ:(aj gm dm (fun _=>bK.ao FM2) bK.pre yN&&aT dm bK FM2 112 yN)=true:=by kernel_rfl
def x9:List Int:=[64,65,66,67,68,69,70,71]
theorem O1:(aj gm dm (fun _=>bK.ao FM2) bK.pre x9&&aT dm bK FM2 112 x9)=true:=by kernel_rfl
def xu:List Int:=[72,73,74,75,76,77,78]
theorem Om:(aj gm dm (fun _=>bK.ao FM2) bK.pre xu&&aT dm bK FM2 112 xu)=true:=by kernel_rfl
def BU:List Int:=wI++(ya++(yq++(wY++(wZ++(vY++(wU++(yN++(x9++(xu)))))))))
theorem wy:(aj gm dm (fun _=>bK.ao FM2) bK.pre BU&&aT dm bK FM2 112 BU)=true:=aV Pk (aV QM (aV Qz (aV PM (aV QB (aV St (aV PA (aV OQ (aV O1 (Om)))))))))
end
end Go.Proofs.YtbhlmedfhilkbaaGreat
