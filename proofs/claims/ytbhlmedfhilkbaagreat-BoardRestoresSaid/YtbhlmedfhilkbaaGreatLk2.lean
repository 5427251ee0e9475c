/- Part Lk2. No condition. -/
import Derived.Test.YtbhlmedfhilkbaaGreatBa
set_option linter.all false
namespace Go.Proofs.YtbhlmedfhilkbaaGreat
open Go Go.Sx
set_option maxRecDepth 1000000
noncomputable section
def Cg:List Int:=[0,1,2,3,4,5,6,7]
theorem SB:(aj (.var 0) cH (fun _=>bg.ao FE2) bg.pre Cg&&aT cH bg FE2 116 Cg)=true:=by kernel_rfl
def AN:List Int:=[8,9,10,11,12,13,14,15]
theorem Vd:(aj (.var 0) cH (fun _=>bg.ao FE2) bg.pre AN&&aT cH bg FE2 116 AN)=true:=by kernel_rfl
def BY:List Int:=[16,17,18,19,20,21,22,23]
theorem UH:(aj (.var 0) cH (fun _=>bg.ao FE2) bg.pre BY&&aT cH bg FE2 116 BY)=true:=by kernel_rfl
def BI:List Int:=[24,25,26,27,28,29,30,31]
theorem VA:(aj (.var 0) cH (fun _=>bg.ao FE2) bg.pre BI&&aT cH bg FE2 116 BI)=true:=by kernel_rfl
def A1:List Int:=[32,33,34,35,36,37,38,39]
theorem Uv:(aj (.var 0) cH (fun _=>bg.ao FE2) bg.pre A1&&aT cH bg FE2 116 A1)=true:=by kernel_rfl
def B3:List Int:=[40,41,42,43,44,45,46,47]
theorem UT:(aj (.var 0) cH (fun _=>bg.ao FE2) bg.pre B3&&aT cH bg FE2 116 B3)=true:=by kernel_rfl
def Dn:List Int:=[48,49,50,51,52,53,54,55]
theorem T8:(aj (.var 0) cH (fun _=>bg.ao FE2) bg.pre Dn&&aT cH bg FE2 116 Dn)=true:=by kernel_rfl
def Cd:List Int:=[56,57,58,59,60,61,62,63]
theorem VF:(aj (.var 0) cH (fun _=>bg.ao FE2) bg.pre Cd&&aT cH bg FE2 116 Cd)=true:=by kernel_rfl
end
end Go.Proofs.YtbhlmedfhilkbaaGreat
