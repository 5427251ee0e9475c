/- Part Kr0. No condition. -/
import Derived.Test.YtbhlmedfhilkbaaGreatKc0
import Derived.Test.YtbhlmedfhilkbaaGreatRm2
set_option linter.all false
namespace Go.Proofs.YtbhlmedfhilkbaaGreat
open Go Go.Sx
set_option maxRecDepth 1000000
noncomputable section
def Cz:Con:={iX with pre:=[(.eq jf (.lit 1),true)],res:=Np cdE (.lit 0) (.lit 1)}
def vN(n:Int):Con:={iX with pre:=[(.eq jf (.lit 1),true),(.eq cdE (.lit n),true)],res:=Np (.lit n) (.lit 0) (.lit 1)}
def Dp:Con:={iX with pre:=[(.eq jf (.lit 1),false)],res:=Np (.lit 0) (.var 1) (.lit 0)}
section
variable{G:Nat->Int->Int->Int->Int}(hB:cX G)
include hB
theorem I1:Cz.Ok PR G gh:=by
 refine eV (c:=iX) (q:=[(cdE,.sel false (f22 4) (.lit 1) cdE (.lit 0)),(.lit 0,.sel false (f22 4) (.lit 1) (.lit 0) (.var 1)),(.sel false (.lit 1) (.lit 1) (.lit 1) (.lit 0),.sel false (f22 4) (.lit 1) (.lit 1) (.lit 0))]) rfl rfl rfl rfl (oq hB) rfl fun ρ h1 h2 h3=>⟨h2,aw,fun p hp=> ?_⟩
 have a:(f22 4).ev ρ=1:=of_decide_eq_true (h3 (.eq jf (.lit 1),true) (by simp [Cz]))
 simp only [List.mem_cons,List.not_mem_nil,or_false] at hp
 rcases hp with rfl |rfl |rfl
 ·show cdE.ev ρ=aA false ((f22 4).ev ρ) 1 (cdE.ev ρ) 0;rw [a]; rfl
 ·show 0=aA false ((f22 4).ev ρ) 1 0 (ρ.i 1);rw [a]; rfl
 ·show aA false 1 1 1 0=aA false ((f22 4).ev ρ) 1 1 0;rw [a]
theorem Jt(n:Int):(vN n).Ok PR G gh:=by
 refine eV (c:=iX) (q:=[(.lit n,.sel false (f22 4) (.lit 1) cdE (.lit 0)),(.lit 0,.sel false (f22 4) (.lit 1) (.lit 0) (.var 1)),(.sel false (.lit 1) (.lit 1) (.lit 1) (.lit 0),.sel false (f22 4) (.lit 1) (.lit 1) (.lit 0))]) rfl rfl rfl rfl (oq hB) rfl fun ρ h1 h2 h3=>⟨h2,aw,fun p hp=> ?_⟩
 have a:(f22 4).ev ρ=1:=of_decide_eq_true (h3 (.eq jf (.lit 1),true) (by simp [vN]))
 have b:cdE.ev ρ=n:=of_decide_eq_true (h3 (.eq cdE (.lit n),true) (by simp [vN]))
 simp only [List.mem_cons,List.not_mem_nil,or_false] at hp
 rcases hp with rfl |rfl |rfl
 ·show n=aA false ((f22 4).ev ρ) 1 (cdE.ev ρ) 0;rw [a,b]; rfl
 ·show 0=aA false ((f22 4).ev ρ) 1 0 (ρ.i 1);rw [a]; rfl
 ·show aA false 1 1 1 0=aA false ((f22 4).ev ρ) 1 1 0;rw [a]
theorem G7:Dp.Ok PR G gh:=by
 refine eV (c:=iX) (q:=[(.lit 0,.sel false (f22 4) (.lit 1) cdE (.lit 0)),(.var 1,.sel false (f22 4) (.lit 1) (.lit 0) (.var 1)),(.sel false (.lit 0) (.lit 1) (.lit 1) (.lit 0),.sel false (f22 4) (.lit 1) (.lit 1) (.lit 0))]) rfl rfl rfl rfl (oq hB) rfl fun ρ h1 h2 h3=>⟨h2,aw,fun p hp=> ?_⟩
 have a:(f22 4).ev ρ≠1:=of_decide_eq_false (h3 (.eq jf (.lit 1),false) (by simp [Dp]))
 simp only [List.mem_cons,List.not_mem_nil,or_false] at hp
 rcases hp with rfl |rfl |rfl
 ·show 0=aA false ((f22 4).ev ρ) 1 (cdE.ev ρ) 0;simp [aA,a]
 ·show ρ.i 1=aA false ((f22 4).ev ρ) 1 0 (ρ.i 1);simp [aA,a]
 ·show aA false 0 1 1 0=aA false ((f22 4).ev ρ) 1 1 0;simp [aA,a]
end
def EP:Con:={g:=126,args:=[.int .u32 (.var 1),pm],bds:=[bC 1],os:=[dZ 2 (.var 0)],res:= .agg (VS++tK),os':=[dZ 2 (.var 0)]}
def Xu(n:Int):Know:=⟨[vN n,Cz,Dp],[]⟩
def Zu:List FuncId:=[126,134,93,115,94]
def ac5:FuncId->Nat->Bool:=fun g k=>(Nat.beq k 1000000||Nat.beq k 2000000)&&Fg g Zu
def ivK:List (Nat×Nat):=[(0,5),(5,16),(16,22),(22,32),(32,47),(47,48),(48,63),(63,64),(64,79),(79,80),(80,87),(87,88),(88,95),(95,96),(96,110),(110,112),(112,114),(114,128),(128,129),(129,130),(130,131),(131,256)]
def Qa(v:Nat×Nat):Dec:=match Nat.beq (v.1+1) v.2 with
 |true=>[(.eq cdE (.lit v.1),true)]
 |false=>[(.lt cdE (.lit v.1),false),(.lt cdE (.lit v.2),true)]
def adz(v:Nat×Nat):Int:=match Nat.beq (v.1+1) v.2 with
 |true=>v.1
 |false=>1000
def b2E:IE:= .wrap .u8 (.fn 21 (.var 0) (.wrap .u32 (.add (.var 1) (.lit 2))) (.lit 0))
def RF(v:Nat×Nat):List Dec:=match Nat.beq v.1 88 with
 |true=>[(.eq b2E (.lit 8),true)::Qa v,(.eq b2E (.lit 8),false)::Qa v]
 |false=>[Qa v]
def ady(v:Nat×Nat)(f:Dec):Out:=EP.tree PR (Xu (adz v)) 40 ac5 no' 20 f
def Gx(v:Nat×Nat):Bool:=(RF v).all fun f=>(ady v f).all (EP.cQ (EO cFk 10) tFk) (f++EP.pre)
def iR(k:Nat):List (Nat×Nat):=(ivK.drop (4*k)).take 4
theorem adv:(iR 0).all Gx=true:=by kernel_rfl
theorem ac8:(iR 1).all Gx=true:=by kernel_rfl
theorem adj:(iR 2).all Gx=true:=by kernel_rfl
theorem adb:(iR 3).all Gx=true:=by kernel_rfl
theorem ad5:(iR 4).all Gx=true:=by kernel_rfl
theorem ad8:(iR 5).all Gx=true:=by kernel_rfl
end
end Go.Proofs.YtbhlmedfhilkbaaGreat
