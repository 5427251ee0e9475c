/- Part Qd1. No condition. -/
import Derived.Test.YtbhlmedfhilkbaaGreatBd1
set_option linter.all false
namespace Go.Proofs.YtbhlmedfhilkbaaGreat
open Go Go.Sx
set_option maxRecDepth 1000000
noncomputable section
def shp(kn d a b:Bool)(kind bits LB:Int):List ab:=[.bool (.lit kn),.bool (.lit d),.bool (.lit a),.bool (.lit b),.int .i64 (.lit kind),.int .i64 (.lit bits),.int .u32 (.lit LB)]
def s0:List ab:=shp false false false false 0 0 0
def u9:List ab:=shp true true true true 0 0 0
def sI:List ab:=shp true true true false 1 18 0
def sU:List ab:=shp true true true false 2 18 0
def sJ:List ab:=shp true true false false 1 22 0
def sL:List ab:=shp true true false false 2 22 0
def sS:List ab:=shp true false false false 2 18 0
def sN:List ab:=shp true false false false 0 0 0
def sY:List ab:=shp true false true false 0 0 0
def sG:List ab:=shp true true false false 2 18 3
def sC:List ab:=shp true false true false 2 18 4
def VU:List (List ab)->List ab
 | []=>[]
 |l::m=>l++VU m
def yz:List ab:=VU [s0,u9,u9,u9,u9,u9,u9,u9,u9,u9,u9,u9,u9,s0,s0,s0,
 sI,sU,sU,sU,sI,sI,sI,sI,sI,sI,sI,sI,s0,s0,s0,s0,
 sI,sI,sI,sI,sI,sI,s0,s0,sJ,sL,s0,s0,s0,s0,s0,s0,
 sS,sN,sN,sN,sY,sG,sC,s0,s0,s0,s0,s0,s0,s0,s0,s0]
def vz:Con:={g:=212,args:=[],res:= .agg yz}
theorem Ip:vz.runs PR [] 30 8=true:=by kernel_rfl
theorem IF{G:Nat->Int->Int->Int->Int}:vz.Ok PR G gh:=Con.tz mixed bO.nil 30 8 Ip
def cOf(n:Int):Con:={g:=194,args:=[uV .i64 1],pre:=[(.eq (.var 1) (.lit n),true)],res:= .agg ((yz.drop (7*n.toNat)).take 7)}
def dD:List Int:=(List.range 64).map Int.ofNat
theorem U0:(dD.all fun n=>(cOf n).wf&&(cOf n).runs PR [vz] 10 8)=true:=by kernel_rfl
theorem NQ:vz.wf=true:=by kernel_rfl
theorem Od{G:Nat->Int->Int->Int->Int}{n:Int}(hn:n∈dD):(cOf n).wf=true/\(cOf n).Ok PR G gh:=by
 have:=List.all_eq_true.1 U0 n hn;simp only [Bool.and_eq_true] at this;exact ⟨this.1,Con.tz mixed (bO.cons NQ IF bO.nil) 10 8 this.2⟩
def sgR(b:Nat):IE:= .wrap .u32 (.shr .i32 (.wrap .i32 (.shl .u32 (.var 1) (.lit (.ofNat (32-b))))) (.lit (.ofNat (32-b))))
def sgE(b:Nat):IE:= .sel true (.rem (.var 1) (.lit (2^b:Nat))) (.lit (2^(b-1):Nat)) (.rem (.var 1) (.lit (2^b:Nat))) (.add (.rem (.var 1) (.lit (2^b:Nat))) (.lit (4294967296-2^b:Nat)))
def yL(g:FuncId)(b:Nat):Con:={g:=g,args:=[uV .u32 1,.int .i64 (.lit b)],bds:=[bC 1],res:= .int .u32 (sgR b)}
def iC(g:FuncId)(b:Nat):Con:={yL g b with res:= .int .u32 (sgE b)}
theorem ZG{ρ:Env}(h0:0<=ρ.i 1)(h1:ρ.i 1<=4294967295)(b:Nat)(hb:b=8\/b=18\/b=22):(sgE b).ev ρ=(sgR b).ev ρ:=by
 have e1: ∀s:Nat,((2^s:Nat):Int)=(2:Int)^s:=fun s=>by simp
 have go: ∀(b s:Nat) (p q:Int),((2^b:Nat):Int)=p->((2^(b-1):Nat):Int)=q->32-b=s->((4294967296-2^b:Nat):Int)=4294967296-p->(2:Int)^(min s 32)*p=4294967296->2*q=p->1<=q->(sgE b).ev ρ=(sgR b).ev ρ:=by
  intro b s p q hp hq hs h4 hm h2q hq1
  have hP:1<=(2:Int)^(min s 32):=by
   have:0<(2:Int)^(min s 32):=Int.pow_pos (by decide)
   omega
  have er:(IE.rem (.var 1) (.lit (2^b:Nat))).ev ρ=ρ.i 1 % p:=by
   show (ρ.i 1).tmod ((2^b:Nat):Int)=_;rw [hp];exact Int.tmod_eq_emod_of_nonneg h0
  have el:(sgE b).ev ρ=if ρ.i 1 % p<q then ρ.i 1 % p else ρ.i 1 % p+(4294967296-p):=by
   show aA true ((IE.rem (.var 1) (.lit (2^b:Nat))).ev ρ) ((2^(b-1):Nat):Int) ((IE.rem (.var 1) (.lit (2^b:Nat))).ev ρ) ((IE.rem (.var 1) (.lit (2^b:Nat))).ev ρ+((4294967296-2^b:Nat):Int))=_;rw [er,hq,h4];simp [aA]
  have eR:(sgR b).ev ρ=IntKind.u32.wrap ((IntKind.i32.wrap (IntKind.u32.wrap (ρ.i 1*2^(min s 32)))).fdiv (2^(min s 32))):=by
   unfold sgR;rw [hs];rfl
  rw [el,eR];have hPn:0<=(2:Int)^(min s 32):=by omega
  rw [Int.fdiv_eq_ediv_of_nonneg _ hPn];generalize hPe:(2:Int)^(min s 32)=P at*;have hn:=Int.emod_add_mul_ediv (ρ.i 1) p;have hr0:=Int.emod_nonneg (ρ.i 1) (show p≠0 by omega)
  have hr1:=Int.emod_lt_of_pos (ρ.i 1) (show 0<p by omega)
  generalize ρ.i 1 % p=r at*;generalize ρ.i 1 / p=d at*
  have top:r*P<4294967296:=by
   calc r*P<p*P:=Int.mul_lt_mul_of_pos_right hr1 (by omega)
    _=4294967296:=by rw [Int.mul_comm]; exact hm
  have low:=Int.mul_nonneg hr0 hPn
  have k1:IntKind.u32.wrap (ρ.i 1*P)=r*P:=by
   rw [dM];show ρ.i 1*P % 4294967296=r*P;rw [<- hn,Int.add_mul,Int.mul_right_comm,show p*P=4294967296 by rw [Int.mul_comm]; exact hm,Int.add_mul_emod_self_left]
   exact Int.emod_eq_of_lt low top
  rw [k1]
  have k3:q*P=2147483648:=by
   have:2*(q*P)=4294967296:=by rw [<- Int.mul_assoc,h2q,Int.mul_comm]; exact hm
   omega
  have k2:IntKind.i32.wrap (r*P)=if r<q then r*P else (r-p)*P:=by
   rw [dM];show (if 2147483648<=r*P % 4294967296 then r*P % 4294967296-4294967296 else r*P % 4294967296)=_
   rw [Int.emod_eq_of_lt low top]
   by_cases hlt:r<q
   ·have:r*P<q*P:=Int.mul_lt_mul_of_pos_right hlt (by omega)
    rw [if_pos hlt,if_neg (by omega)]
   ·have:q*P<=r*P:=Int.mul_le_mul_of_nonneg_right (by omega) hPn
    rw [if_neg hlt,if_pos (by omega),Int.sub_mul,show p*P=4294967296 by rw [Int.mul_comm]; exact hm]
  rw [k2,dM]
  by_cases hlt:r<q
  ·rw [if_pos hlt,if_pos hlt,Int.mul_ediv_cancel _ (by omega)]
   show r=r % 4294967296;omega
  ·rw [if_neg hlt,if_neg hlt,Int.mul_ediv_cancel _ (by omega)]
   show r+(4294967296-p)=(r-p) % 4294967296;omega
 rcases hb with rfl |rfl |rfl
 ·exact go 8 24 256 128 rfl rfl rfl rfl rfl rfl (by decide)
 ·exact go 18 14 262144 131072 rfl rfl rfl rfl rfl rfl (by decide)
 ·exact go 22 10 4194304 2097152 rfl rfl rfl rfl rfl rfl (by decide)
theorem Sb:((yL 196 8).runs PR [] 10 4&&((yL 196 18).runs PR [] 10 4&&(yL 196 22).runs PR [] 10 4))=true:=by kernel_rfl
theorem yG{G:Nat->Int->Int->Int->Int}(b:Nat)(hb:b=8\/b=18\/b=22):(iC 196 b).Ok PR G gh:=by
 have h:=Sb;simp only [Bool.and_eq_true] at h
 have raw:(yL 196 b).Ok PR G gh:=by
  rcases hb with rfl |rfl |rfl
  ·exact Con.tz mixed bO.nil 10 4 h.1
  ·exact Con.tz mixed bO.nil 10 4 h.2.1
  ·exact Con.tz mixed bO.nil 10 4 h.2.2
 refine Con.q9 raw (q:=[(sgE b,sgR b)]) rfl fun ρ h1 h2 h3 p hp=> ?_
 simp only [List.mem_cons,List.not_mem_nil,or_false] at hp;subst hp;obtain ⟨q1,q2⟩:=h2 1 0 4294967295 rfl;exact ZG q1 q2 b hb
def runK(c:Con)(K:Know)(d:Nat):Bool:=(c.tree PR K 40 aG no' 12 []).all (c.leaf (qP (bdL c.bds) d)) c.pre
theorem J4{G:Nat->Int->Int->Int->Int}{c:Con}{K:Know}{d:Nat}(hK:K.Ok PR G gh)(h:runK c K d=true):c.Ok PR G gh:=Con.q8 mixed hK 40 aG no' 12 d h
theorem V9{G:Nat->Int->Int->Int->Int}:Know.Ok PR G gh ⟨[],[]⟩:=⟨bO.nil,fun _ h=>by cases h⟩
theorem L6:(runK (iC 80 18) ⟨[],[]⟩ 10&&runK (iC 80 22) ⟨[],[]⟩ 10)=true:=by kernel_rfl
theorem uM{G:Nat->Int->Int->Int->Int}(b:Nat)(hb:b=18\/b=22):(iC 80 b).Ok PR G gh:=by
 have h:=L6;simp only [Bool.and_eq_true] at h
 rcases hb with rfl |rfl
 ·exact J4 V9 h.1
 ·exact J4 V9 h.2
end
end Go.Proofs.YtbhlmedfhilkbaaGreat
