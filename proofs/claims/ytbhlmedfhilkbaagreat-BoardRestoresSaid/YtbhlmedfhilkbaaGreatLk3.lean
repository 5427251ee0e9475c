/- Part Lk3. No condition. -/
import Derived.Test.YtbhlmedfhilkbaaGreatLk2
set_option linter.all false
namespace Go.Proofs.YtbhlmedfhilkbaaGreat
open Go Go.Sx
set_option maxRecDepth 1000000
noncomputable section
def CB:List Int:=[64,65,66,67,68,69,70,71]
theorem Vk:(aj (.var 0) cH (fun _=>bg.ao FE2) bg.pre CB&&aT cH bg FE2 116 CB)=true:=by kernel_rfl
def Bj:List Int:=[72,73,74,75,76,77,78,79]
theorem SM:(aj (.var 0) cH (fun _=>bg.ao FE2) bg.pre Bj&&aT cH bg FE2 116 Bj)=true:=by kernel_rfl
def x7:List Int:=[80,81,82,83,84,85,86,87]
theorem RJ:(aj (.var 0) cH (fun _=>bg.ao FE2) bg.pre x7&&aT cH bg FE2 116 x7)=true:=by kernel_rfl
def xW:List Int:=[88,89,90,91,92,93,94,95]
theorem Px:(aj (.var 0) cH (fun _=>bg.ao FE2) bg.pre xW&&aT cH bg FE2 116 xW)=true:=by kernel_rfl
def xj:List Int:=[96,97,98,99,100,101,102,103]
theorem RE:(aj (.var 0) cH (fun _=>bg.ao FE2) bg.pre xj&&aT cH bg FE2 116 xj)=true:=by kernel_rfl
def wG:List Int:=[104,105,106,107,108,109,110,111]
theorem Qw:(aj (.var 0) cH (fun _=>bg.ao FE2) bg.pre wG&&aT cH bg FE2 116 wG)=true:=by kernel_rfl
def xh:List Int:=[112,113,114,115,116,117,118,119]
theorem OS:(aj (.var 0) cH (fun _=>bg.ao FE2) bg.pre xh&&aT cH bg FE2 116 xh)=true:=by kernel_rfl
def yB:List Int:=[120,121,122,123,124,125,126,127]
theorem RU:(aj (.var 0) cH (fun _=>bg.ao FE2) bg.pre yB&&aT cH bg FE2 116 yB)=true:=by kernel_rfl
def yc:List Int:=[128,129,130]
theorem Qf:(aj (.var 0) cH (fun _=>bg.ao FE2) bg.pre yc&&aT cH bg FE2 116 yc)=true:=by kernel_rfl
def Kq:List Int:=Cg++(AN++(BY++(BI++(A1++(B3++(Dn++(Cd++(CB++(Bj++(x7++(xW++(xj++(wG++(xh++(yB++(yc))))))))))))))))
theorem zK:(aj (.var 0) cH (fun _=>bg.ao FE2) bg.pre Kq&&aT cH bg FE2 116 Kq)=true:=aV SB (aV Vd (aV UH (aV VA (aV Uv (aV UT (aV T8 (aV VF (aV Vk (aV SM (aV RJ (aV Px (aV RE (aV Qw (aV OS (aV RU (Qf))))))))))))))))
end
end Go.Proofs.YtbhlmedfhilkbaaGreat
