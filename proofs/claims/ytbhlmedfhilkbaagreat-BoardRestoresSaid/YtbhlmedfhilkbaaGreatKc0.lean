/- Part Kc0. No condition. -/
import Derived.Test.YtbhlmedfhilkbaaGreatBd5
import Derived.Test.YtbhlmedfhilkbaaGreatFl1
import Derived.Test.YtbhlmedfhilkbaaGreatQd2
set_option linter.all false
namespace Go.Proofs.YtbhlmedfhilkbaaGreat
open Go Go.Sx
set_option maxRecDepth 1000000
noncomputable section
def jf:IE:= .fn 22 (.var 0) (.var 1) (.lit 4)
def CE(k:Nat)(n:Int):Con:={iS k with pre:=[(.eq jf (.lit 1),true),(.eq cdE (.lit n),true)],res:= .tuple [.int .u8 (.lit n),.bool (.lit true)]}
def Cy(k:Nat):Con:={iS k with pre:=[(.eq jf (.lit 1),true)],res:= .tuple [.int .u8 cdE,.bool (.lit true)]}
def Cv(k:Nat):Con:={iS k with pre:=[(.eq jf (.lit 1),false)],res:= .tuple [.int .u8 (.lit 0),.bool (.lit false)]}
section
variable{G:Nat->Int->Int->Int->Int}(hB:cX G)
include hB
theorem WS{k:Nat}(hk:k<2)(n:Int):(CE k n).Ok PR G gh:=by
 refine eV (c:=iS k) (q:=[(.lit n,ftE),(.lit 1,.sel false jf (.lit 1) (.lit 1) (.lit 0))]) rfl rfl rfl rfl (oe hB hk) rfl fun ρ h1 h2 h3=>⟨h2,aw,fun p hp=> ?_⟩
 have a:jf.ev ρ=1:=of_decide_eq_true (h3 (.eq jf (.lit 1),true) (by simp [CE]))
 have b:cdE.ev ρ=n:=of_decide_eq_true (h3 (.eq cdE (.lit n),true) (by simp [CE]))
 simp only [List.mem_cons,List.not_mem_nil,or_false] at hp
 rcases hp with rfl |rfl
 ·show n=aA false (jf.ev ρ) 1 (cdE.ev ρ) 0;rw [a,b]; rfl
 ·show 1=aA false (jf.ev ρ) 1 1 0;rw [a]; rfl
theorem IG{k:Nat}(hk:k<2):(Cy k).Ok PR G gh:=by
 refine eV (c:=iS k) (q:=[(cdE,ftE),(.lit 1,.sel false jf (.lit 1) (.lit 1) (.lit 0))]) rfl rfl rfl rfl (oe hB hk) rfl fun ρ h1 h2 h3=>⟨h2,aw,fun p hp=> ?_⟩
 have a:jf.ev ρ=1:=of_decide_eq_true (h3 (.eq jf (.lit 1),true) (by simp [Cy]))
 simp only [List.mem_cons,List.not_mem_nil,or_false] at hp
 rcases hp with rfl |rfl
 ·show cdE.ev ρ=aA false (jf.ev ρ) 1 (cdE.ev ρ) 0;rw [a]; rfl
 ·show 1=aA false (jf.ev ρ) 1 1 0;rw [a]; rfl
theorem Iq{k:Nat}(hk:k<2):(Cv k).Ok PR G gh:=by
 refine eV (c:=iS k) (q:=[(.lit 0,ftE),(.lit 0,.sel false jf (.lit 1) (.lit 1) (.lit 0))]) rfl rfl rfl rfl (oe hB hk) rfl fun ρ h1 h2 h3=>⟨h2,aw,fun p hp=> ?_⟩
 have a:jf.ev ρ≠1:=of_decide_eq_false (h3 (.eq jf (.lit 1),false) (by simp [Cv]))
 simp only [List.mem_cons,List.not_mem_nil,or_false] at hp
 rcases hp with rfl |rfl
 ·show 0=aA false (jf.ev ρ) 1 (cdE.ev ρ) 0;simp [aA,a]
 ·show 0=aA false (jf.ev ρ) 1 1 0;simp [aA,a]
end
def FK:Fns:=⟨108,109,[0,1]⟩
def Zh:ab:= .iface 143 pm
def VS:List ab:=[.int .i64 (dg FK .u8 0),.int .i64 (dg FK .u8 1),.int .i64 (dg FK .u8 2),.int .i64 (dg FK .i8 3),.int .i64 (dg FK .u8 4),.int .u32 (dg FK .u32 5),.int .i64 (dg FK .u8 6)]
def tK:List ab:=[.int .i64 (dg FK .u8 7),.int .u32 (dg FK .u32 8)]
def cFk:Con:={g:=232,args:=[.int .u32 (.var 1),.func (.method "Fetch" ) [Zh] []],bds:=[bC 1],os:=[dZ 0 (.var 0)],res:= .tuple [.agg VS,.agg tK],os':=[dZ 0 (.var 0)]}
def kFk:Know:=⟨[Cy 0,Cv 0,iC 196 8],[]⟩
def pkK:FuncId->Nat->Bool:=fun g k=>(Nat.beq k 1000000&&Fg g [232,239,255,271,269,253,238])||(Nat.beq k 2000000&&Fg g [232,239,255,271,269,253,238,254])
def tFk:Out:=cFk.tree PR kFk 40 pkK no' 20 []
def gP:RT:=cFk.rows FK tFk
def kfL:List IE:=[dg FK .u8 0,dg FK .u8 1,dg FK .u8 2,dg FK .i8 3,dg FK .u8 4,dg FK .u32 5,dg FK .u8 6,dg FK .u8 7,dg FK .u32 8]
def isK(x:IE):List (Int×Int)->IE
 | []=> .lit 0
 | (lo,hi)::l=> .sel true x (.lit lo) (.lit 0) (.sel true x (.lit hi) (.lit 1) (isK x l))
def wm:List (Int×Int):=[(0,5),(16,22),(32,47),(48,63),(64,79),(80,87),(88,95),(96,110),(112,114),(128,131)]
def kfT:List BE:=[.lt (.var 1) (.lit 8),.lt (.var 2) (.lit 8),.lt (.var 3) (.lit 8),.lt (.lit (-2)) (.var 3),.lt (.sel false (.var 0) (.lit 129) (.var 2) (.lit 0)) (.lit 4),.eq (isK (.var 0) wm) (.lit 1)]
theorem yO:(tFk.all (cFk.ao FK) []&&(tFk.all (m5 cFk kfL kfT 40) []&&gP.only (bR FK.vars) 108))=true:=by kernel_rfl
theorem w8:tFk.all (cFk.ao FK) []=true:=(Bool.and_eq_true_iff.1 yO).1
theorem Yd:tFk.all (m5 cFk kfL kfT 40) []=true:=(Bool.and_eq_true_iff.1 (Bool.and_eq_true_iff.1 yO).2).1
theorem Mj:gP.only (bR FK.vars) 108=true:=(Bool.and_eq_true_iff.1 (Bool.and_eq_true_iff.1 yO).2).2
def kRD:IE:= .rem (dg FK .u8 1) (.lit 8)
def kRS:IE:= .sel false (dg FK .u8 0) (.lit 129) (.rem (dg FK .u8 2) (.lit 4)) (.rem (dg FK .u8 2) (.lit 8))
def kRX:IE:= .sub (.rem (.add (dg FK .i8 3) (.lit 1)) (.lit 16)) (.lit 1)
def OY:List ab:=[.int .i64 (dg FK .u8 0),.int .i64 kRD,.int .i64 kRS,.int .i64 kRX,.int .i64 (dg FK .u8 4),.int .u32 (dg FK .u32 5),.int .i64 (dg FK .u8 6)]
def WH:Con:={cFk with res:= .tuple [.agg OY,.agg tK]}
def kfQ:Prs:=[(dg FK .u8 0,dg FK .u8 0),(kRD,dg FK .u8 1),(kRS,dg FK .u8 2),(kRX,dg FK .i8 3),(dg FK .u8 4,dg FK .u8 4),(dg FK .u32 5,dg FK .u32 5),(dg FK .u8 6,dg FK .u8 6),(dg FK .u8 7,dg FK .u8 7),(dg FK .u32 8,dg FK .u32 8)]
theorem XA:kFk.cons.all Con.wf=true:=by kernel_rfl
section
variable{G:Nat->Int->Int->Int->Int}(hB:cX G)(hF:FK.Def G gP)
include hB
theorem WI:kFk.Ok PR G gh:=bB XA (aJ (IG hB (by decide)) (aJ (Iq hB (by decide)) (aJ (yG 8 (.inl rfl)) dj)))
include hF
omit hB in
theorem Fa:cFk.Leaves G gh tFk:=Con.jq (c:=cFk) [] (fun _ _ _ _=>aw) (F:=FK) (by decide) (o:=tFk) w8 hF
theorem W0:cFk.Ok PR G gh:=Con.f6 (c:=cFk) (K:=kFk) mixed (WI hB) (L:=40) (pol:=pkK) (pure:=no') (d:=20) (facts:=[]) (fun _ _ _ _=>aw) (Fa hF)
omit hB in
theorem oB{ρ:Env}(h1:ρ.std G gh)(h2:ρ.ok (bdL cFk.bds)){t:BE}(ht:t∈kfT):(t.rep (atL kfL)).ev ρ=true:=
 Rm (by decide) w8 Yd h2 aw (by rw [h1.1]; exact hF) ht
omit hB in
theorem Gk{ρ:Env}(h1:ρ.std G gh)(h2:ρ.ok (bdL cFk.bds)):kfQ.hold ρ:=fun p hp=>by
 have f1:(dg FK .u8 1).ev ρ<8:=of_decide_eq_true (oB hF h1 h2 (t:= .lt (.var 1) (.lit 8)) (by simp [kfT]))
 have f2:(dg FK .u8 2).ev ρ<8:=of_decide_eq_true (oB hF h1 h2 (t:= .lt (.var 2) (.lit 8)) (by simp [kfT]))
 have f3:(dg FK .i8 3).ev ρ<8:=of_decide_eq_true (oB hF h1 h2 (t:= .lt (.var 3) (.lit 8)) (by simp [kfT]))
 have f4: -2<(dg FK .i8 3).ev ρ:=of_decide_eq_true (oB hF h1 h2 (t:= .lt (.lit (-2)) (.var 3)) (by simp [kfT]))
 have f5:aA false ((dg FK .u8 0).ev ρ) 129 ((dg FK .u8 2).ev ρ) 0<4:=of_decide_eq_true (oB hF h1 h2 (t:= .lt (.sel false (.var 0) (.lit 129) (.var 2) (.lit 0)) (.lit 4)) (by simp [kfT]))
 have g: ∀i,0<=(dg FK .u8 i).ev ρ:=fun i=>(wrap_mem .u8 ((IE.fn 0 (.fn FK.KR FK.x (.lit 0) (.lit 0)) (.lit (.ofNat i)) (.lit 0)).ev ρ)).1
 have g1:=g 1;have g2:=g 2;simp only [kfQ,List.mem_cons,List.not_mem_nil,or_false] at hp
 rcases hp with rfl |rfl |rfl |rfl |rfl |rfl |rfl |rfl |rfl
 ·rfl
 ·show ((dg FK .u8 1).ev ρ).tmod 8=_;rw [Int.tmod_eq_emod_of_nonneg g1];exact Int.emod_eq_of_lt g1 f1
 ·show aA false ((dg FK .u8 0).ev ρ) 129 (((dg FK .u8 2).ev ρ).tmod 4) (((dg FK .u8 2).ev ρ).tmod 8)=(dg FK .u8 2).ev ρ;rw [Int.tmod_eq_emod_of_nonneg g2,Int.tmod_eq_emod_of_nonneg g2];unfold aA at f5 ⊢
  by_cases he:(dg FK .u8 0).ev ρ=129
  ·simp only [he,Bool.false_eq_true,if_false,if_true] at f5 ⊢;exact Int.emod_eq_of_lt g2 f5
  ·simp only [he,Bool.false_eq_true,if_false] at f5 ⊢;exact Int.emod_eq_of_lt g2 f2
 ·show ((dg FK .i8 3).ev ρ+1).tmod 16-1=(dg FK .i8 3).ev ρ;rw [Int.tmod_eq_emod_of_nonneg (by omega),Int.emod_eq_of_lt (by omega) (by omega)]
  omega
 all_goals rfl
theorem Tc:WH.Ok PR G gh:=Con.q9 (c:=cFk) (r:=WH.res) (q:=kfQ) (W0 hB hF) rfl fun _ h1 h2 _=>Gk hF h1 h2
omit hB in
theorem Sa{ρ:Env}(h1:ρ.std G gh)(h2:ρ.ok (bdL cFk.bds)):(isK (dg FK .u8 0) wm).ev ρ=1:=of_decide_eq_true (oB hF h1 h2 (t:= .eq (isK (.var 0) wm) (.lit 1)) (by simp [kfT]))
end
def FKS:Fns:=⟨110,111,[0,90]⟩
def Wy(F:Fns):List IntKind->Nat->List ab
 | [],_=>[]
 |k::l,j=> .int k (dg F k j)::Wy F l (j+1)
def Z8:ab:= .agg (sv (.var 90) aW 0)
def aau:IE:= .fn FKS.KV FKS.x (.lit 0) (.lit 26)
def da:Con:={g:=231,args:=[Z8,Zh],os:=[dZ 0 (.var 0)],res:= .tuple [.agg (Wy FKS aW 0),.agg [.int .i64 (dg FKS .u8 24),.int .u32 (dg FKS .u32 25)]],os':=[dZ 0 aau]}
def GD:IE:= .wrap .u32 (.fn 0 (.var 90) (.lit 0) (.lit 0))
def Hz(W:IE):Nat->IE:=fun i=>match i with
 |1=>W
 |i=> .var i
def kj:IE:=(dg FK .u8 0).rep (Hz GD)
def Xb(n:Int):Con:={cFk with pre:=[(.eq (dg FK .u8 0) (.lit n),true)],res:= .tuple [.agg [.int .i64 (.lit n),.int .i64 kRD,.int .i64 (.rem (dg FK .u8 2) (.lit (match aK n 129 with |true=>4 |false=>8))),.int .i64 kRX,.int .i64 (dg FK .u8 4),.int .u32 (dg FK .u32 5),.int .i64 (dg FK .u8 6)],.agg tK]}
def kK(n:Int):Know:=⟨[Xb n,kZ 0 1,kZ 0 4,gS 0 1,gS 0 4,cFl 266],[]⟩
def tKs(n:Int):Out:=da.pf PR kK 40 aG no' 20 [] kj n
def aea:List Int:=((List.range 256).map Int.ofNat).filter fun n=>wm.any fun s=>aL s.1 n&&cC n s.2
def bm(k:Nat):List Int:=aea.filter fun n=>match k with
 |0=>aL 32 n&&cC n 47
 |1=>aL 48 n&&cC n 63
 |2=>aL 64 n&&cC n 79
 |3=>aL 80 n&&cC n 87
 |4=>aL 88 n&&cC n 92
 |5=>aL 92 n&&cC n 95
 |_=>cC n 32||aL 95 n
def zl(k:Nat):Bool:=(bm k).all (fun n=>(kK n).cons.all Con.wf)&&(aj kj tKs (fun _=>da.ao FKS) [] (bm k)&&aT tKs da FKS 110 (bm k))
section
variable{G:Nat->Int->Int->Int->Int}(hB:cX G)(hF:FK.Def G gP)
include hB hF
theorem S1(n:Int):(Xb n).Ok PR G gh:=by
 refine eV (c:=WH) (q:=[(.lit n,dg FK .u8 0),(kRD,kRD),(.rem (dg FK .u8 2) (.lit (match aK n 129 with |true=>4 |false=>8)),kRS),(kRX,kRX),(dg FK .u8 4,dg FK .u8 4),(dg FK .u32 5,dg FK .u32 5),(dg FK .u8 6,dg FK .u8 6),(dg FK .u8 7,dg FK .u8 7),(dg FK .u32 8,dg FK .u32 8)]) rfl rfl rfl rfl (Tc hB hF) rfl fun ρ h1 h2 h3=>⟨h2,aw,fun p hp=> ?_⟩
 have a:(dg FK .u8 0).ev ρ=n:=of_decide_eq_true (h3 (.eq (dg FK .u8 0) (.lit n),true) (by simp [Xb]))
 simp only [List.mem_cons,List.not_mem_nil,or_false] at hp
 rcases hp with rfl |rfl |rfl |rfl |rfl |rfl |rfl |rfl |rfl
 ·exact a.symm
 ·rfl
 ·show ((dg FK .u8 2).ev ρ).tmod (match aK n 129 with |true=>4 |false=>8)=aA false ((dg FK .u8 0).ev ρ) 129 (((dg FK .u8 2).ev ρ).tmod 4) (((dg FK .u8 2).ev ρ).tmod 8)
  rw [a];unfold aA;rw [om]
  by_cases he:n=129<;>simp [he]
 all_goals rfl
end
end
end Go.Proofs.YtbhlmedfhilkbaaGreat
