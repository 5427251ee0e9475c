/- Part Rs11. No condition. -/
import Derived.Test.YtbhlmedfhilkbaaGreatRs1
set_option linter.all false
namespace Go.Proofs.YtbhlmedfhilkbaaGreat
open Go Go.Sx
set_option maxRecDepth 1000000
noncomputable section
theorem am7:rRs true true=true:=by kernel_rfl
theorem am4:rRs true false=true:=by kernel_rfl
theorem am8:rRs false true=true:=by kernel_rfl
theorem ane:rRs false false=true:=by kernel_rfl
open Classical in
def memFl(x:Int):Int:=if bn x then 1 else 0
def anu(G:Nat->Int->Int->Int->Int):Prop:=agt G/\ ∀M,G 148 M 0 0=memFl M
theorem an1: ∃G,anu G:=by
 obtain ⟨G,hG⟩:=ac1;refine ⟨fun c x y z=>if c=148 then memFl x else G c x y z,hG.mono fun c hc=> ?_,fun M=> ?_⟩
 ·funext x y z
  exact if_neg (by omega)
 ·exact if_pos rfl
theorem alm{M:Int}(h:memFl M=1):bn M:=by
 unfold memFl at h;split at h
 ·assumption
 ·cases h
theorem akp{M:Int}(h:bn M):memFl M=1:=if_pos h
theorem anc:([true,false].all fun coh=>[true,false].all fun l=>(kRs coh l).cons.all Con.wf)=true:=by kernel_rfl
theorem ale: ∀coh l,rRs coh l=true
 |true,true=>am7
 |true,false=>am4
 |false,true=>am8
 |false,false=>ane
section
variable{G:Nat->Int->Int->Int->Int}
theorem amc(hG:RunG G){ρ:Env}(h1:ρ.std G gh)(h2:ρ.ok (bdL cuB))(hp:ρ.i 28<=ρ.i 25)(coh:Bool):(ai6 coh).ev ρ=DX G (FB coh) (xCu.ev ρ) .u8 25:=by
 have hS:0<=ρ.i 28/\ρ.i 28<=8:=h2 28 _ _ rfl;have hT:0<=ρ.i 25/\ρ.i 25<=8:=h2 25 _ _ rfl;obtain ⟨_,s0,s1⟩:=ak3 hG h1 h2 hp coh;have e25:(dCu coh .u8 25).ev ρ=DX G (FB coh) (xCu.ev ρ) .u8 25:=aei h1 coh xCu .u8 25;show aA true (ρ.i 25) (((dCu coh .u8 25).ev ρ).tmod 9) (ρ.i 25) (((dCu coh .u8 25).ev ρ).tmod 9)=_;rw [e25,pV (by omega) (by omega)]
 unfold aA;simp only [if_true];split<;>omega
theorem aln{ρ:Env}(coh l:Bool):0<=(r9Z coh l).ev ρ/\(r9Z coh l).ev ρ<=8:=by
 have e:(r9Z coh l).ev ρ=(IntKind.u8.wrap ((IE.fn 0 (.fn (FB coh).KR (ain coh l w40) (.lit 0) (.lit 0)) (.lit (.ofNat 25)) (.lit 0)).ev ρ)).tmod 9:=rfl;generalize (IE.fn 0 (.fn (FB coh).KR (ain coh l w40) (.lit 0) (.lit 0)) (.lit (.ofNat 25)) (.lit 0)).ev ρ=p at e;have p0:0<=IntKind.u8.wrap p:=(wrap_mem .u8 p).1;have a:=Int.tmod_nonneg (9:Int) p0;have b:=Int.tmod_lt_of_pos (IntKind.u8.wrap p) (show (0:Int)<9 by decide)
 rw [e];omega
theorem aml{ρ:Env}(coh l:Bool):(af9 coh l).ev ρ=aA true ((PG l).ev ρ) ((r9Z coh l).ev ρ) ((PG l).ev ρ) ((r9Z coh l).ev ρ):=by
 have h:=aln (ρ:=ρ) coh l;cases l
 ·rfl
 ·show (r9Z coh true).ev ρ=aA true 8 ((r9Z coh true).ev ρ) 8 ((r9Z coh true).ev ρ);unfold aA;simp only [if_true];split<;>omega
theorem anx{ρ:Env}(coh l:Bool)(hT:0<=(PG l).ev ρ):0<=(af9 coh l).ev ρ/\(af9 coh l).ev ρ<=(PG l).ev ρ:=by
 have h:=aln (ρ:=ρ) coh l;rw [aml];unfold aA;simp only [if_true];split<;>omega
variable(hL:anu G)
include hL
theorem amr(coh l:Bool):(kRs coh l).Ok PR G gh:=by
 have w:=List.all_eq_true.1 (List.all_eq_true.1 anc coh (by cases coh<;>simp)) l (by cases l<;>simp)
 obtain ⟨hG,h8⟩:=hL;have hB:=hG.made.base;have h8': ∀M,G 148 M 0 0=1->bn M:=fun M h=>alm ((h8 M).symm.trans h)
 cases coh
 ·exact bB w (aJ (Fi false) (aJ ZL (aJ (Ec hG false l).2 (aJ (ajb hG.made false).2 (aJ (LU hB) (aJ (ake hB h8' false).2 (aJ (aka hG.toRunG false).2 (aJ (W5 hG.toRunG).2 (aJ (Tv hG.toRunG).2 (aJ (Sg hB).2 (aJ zC.2 (aJ x5.2 (aJ yo.2 (aJ (ajd hB false).2 dj))))))))))))))
 ·exact bB w (aJ (Fi true) (aJ ZL (aJ (Ec hG true l).2 (aJ (ajb hG.made true).2 (aJ (MJ hB) (aJ (ake hB h8' true).2 (aJ (aka hG.toRunG true).2 (aJ (XH hG.toRunG).2 (aJ (TN hG.toRunG).2 (aJ (PC hB).2 (aJ zC.2 (aJ x5.2 (aJ yo.2 (aJ (ajd hB true).2 dj))))))))))))))
theorem amu{ρ:Env}(h1:ρ.std G gh)(h2:ρ.ok (bdL D8)){coh l:Bool}(hl:(many l).1.ev ρ=(many l).2)(hm:0<=w40.ev ρ/\w40.ev ρ<40):bn ((mXZ coh l).ev ρ):=by
 have hG:=hL.1.toRunG;obtain ⟨ho,_⟩:=anz (coh:=coh) (w:=w40) h2 hl ⟨hm.1,by omega⟩
 have h1':(ρ.rep (σL coh l w40)).std G gh:=h1
 have mem0:bn ((mL coh).ev ρ):=by
  rw [aaj hL.1 h1 coh];exact akq hL.1.made h1 h2 coh
 have memo:=aj1 hG coh _ h1' ho mem0;have inv:=N7 hG coh _ h1' ho;rw [ajw] at memo inv;obtain ⟨_,_,_,_,_,_,_,_,hd⟩:=inv;have hpos:0<=(mL coh).ev ρ:=mem0.k.pos;have hd0:=hd (ag ((mL coh).ev ρ) (3:Nat)) (ag ((mL coh).ev ρ) (7:Nat)) ⟨hpos,rfl,rfl⟩
 have e:(mXZ coh l).ev ρ=G (FB coh).KV ((ain coh l w40).ev ρ) 0 24:=by
  have ev:(am2 coh l w40 24).ev ρ=G (FB coh).KV ((ain coh l w40).ev ρ) 0 24:=aew h1 coh (ain coh l w40) 24;show aD (aD ((am2 coh l w40 24).ev ρ) (3:Nat) (ag ((mL coh).ev ρ) (3:Nat))) (7:Nat) (ag ((mL coh).ev ρ) (7:Nat))=_;rw [ev,<-hd0.n,iq hd0.pos,<-hd0.c,iq hd0.pos]
 rw [e];exact memo
theorem amw{ρ:Env}(h1:ρ.std G gh)(h2:ρ.ok (bdL D8)){coh l:Bool}(hl:(many l).1.ev ρ=(many l).2)(m40:0<=w40.ev ρ/\w40.ev ρ<40)(m60:0<=ag6.ev ρ/\ag6.ev ρ<60):(af9 coh l).ev ρ<=(s2Z coh l).ev ρ:=by
 have hG:=hL.1.toRunG;have hT:=ah1 h2 hl
 have h2':(ρ.rep (σSp coh l)).ok (bdL spB):=Dg fun i lo hi h=>by
  simp only [spB,List.mem_cons,Prod.mk.injEq,List.not_mem_nil,or_false] at h
  rcases h with ⟨rfl,rfl,rfl⟩ | ⟨rfl,rfl,rfl⟩ | ⟨rfl,rfl,rfl⟩
  ·show 0<=w40.ev ρ/\w40.ev ρ<=100; omega
  ·show 0<=ag6.ev ρ/\ag6.ev ρ<=100; omega
  ·exact hT
 have h1a:((ρ.rep (σSp coh l)).rep (σR coh)).std G gh:=h1;obtain ⟨k1,k2⟩:=okR hG h2' coh;have hs:=(ak3 hG h1a k1 k2 coh).2.1;rw [<- amc hG h1a k1 k2 coh] at hs
 have e1:(s2Z coh l).ev ρ=(ai6 coh).ev ((ρ.rep (σSp coh l)).rep (σR coh)):=by
  unfold s2Z;rw [IE.bX h2 aw,IE.a9,IE.a9]
 have e2:((ρ.rep (σSp coh l)).rep (σR coh)).i 28=(af9 coh l).ev ρ:=by
  have a:((ρ.rep (σSp coh l)).rep (σR coh)).i 28=(afg coh w3).ev (ρ.rep (σSp coh l)):=rfl;rw [a,<-IE.a9,aml];rfl
 rw [e1,<-e2];exact hs
theorem amn:(Ti 11).Ok PR G gh:=ac2 hL.1 fun coh l ρ h1 h2 h3=>by
 have h2b:ρ.ok (bdL D8):=h2;have h3': ∀p∈is2 coh::many l::(hd6 coh++(hdL coh++[])),p.1.ev ρ=p.2:=h3;have hl:(many l).1.ev ρ=(many l).2:=h3' _ (List.mem_cons_of_mem _ (List.mem_cons_self ..));have m40:0<=w40.ev ρ/\w40.ev ρ<40:=Yu (ρ.i 20) (m:=40) 40 rfl (by decide)
 have m60:0<=ag6.ev ρ/\ag6.ev ρ<60:=Yu (ρ.i 21) (m:=60) 60 rfl (by decide)
 have hT:=ah1 h2 hl;have hZrs:=anx (ρ:=ρ) coh l hT.1;have h2Z:=amw hL h1 h2 hl (coh:=coh) m40 m60;have f0:=ak4 hL.1 h1 h2 (coh:=coh) hl (w:=w40) ⟨m40.1,by omega⟩
 have hk:=Q4 hL.1.made.base h1 40 (ajl coh) (aa (aa (List.all_eq_true.1 ak6 coh (by cases coh<;>simp))).2).2
 have c1:(amb (ajl coh)).1.ev ρ=true:=decide_eq_true (show ag ((ajl coh).ev ρ) 3=6 from hk.1)
 have c2:(al9 (ajl coh)).ev ρ=coh:=hk.2
 have c3:(akc (mXZ coh l)).ev ρ=true:=by
  show decide (fnI ρ 148 ((mXZ coh l).ev ρ) 0 0=1)=true;rw [bY (by decide),h1.1,hL.2]
  exact decide_eq_true (akp (amu hL h1 h2 hl m40))
 have c4:(mkLt (bdL D8) (inZ coh l) (.lit 0)).ev ρ=false:=by
  rw [cK h2b];exact decide_eq_false (show ¬(PG l).ev ρ-(af9 coh l).ev ρ<0 by omega)
 have c5:(mkLt (bdL D8) (.lit 8) (inZ coh l)).ev ρ=false:=by
  rw [cK h2b];exact decide_eq_false (show ¬8<(PG l).ev ρ-(af9 coh l).ev ρ by omega)
 have c6:(mkLt (bdL D8) (s2Z coh l) (af9 coh l)).ev ρ=false:=by
  rw [cK h2b];exact decide_eq_false (show ¬(s2Z coh l).ev ρ<(af9 coh l).ev ρ by omega)
 have hf:(rsF coh l).holds ρ:=bJ f0 (ak c1 (ak c2 (ak c3 (ak c4 (ak c5 (ak c6 aw))))));refine bA (amr hL coh l) (ale coh l) ρ h1 h2 (show ∀p∈is2 coh::many l::(hd6 coh++(hdL coh++rsF coh l)),p.1.ev ρ=p.2 from fun p hp=> ?_)
 simp only [List.append_nil,List.mem_cons,List.mem_append] at hp h3'
 rcases hp with rfl |rfl |hp |hp |hp
 ·exact h3' _ (.inl rfl)
 ·exact h3' _ (.inr (.inl rfl))
 ·exact h3' _ (.inr (.inr (.inl hp)))
 ·exact h3' _ (.inr (.inr (.inr hp)))
 ·exact hf p hp
end
end
end Go.Proofs.YtbhlmedfhilkbaaGreat
