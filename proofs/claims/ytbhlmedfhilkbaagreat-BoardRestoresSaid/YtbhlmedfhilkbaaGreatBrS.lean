/- Part BrS. No condition. -/
import Derived.Test.YtbhlmedfhilkbaaGreatBrQ
import Derived.Test.YtbhlmedfhilkbaaGreatBrK
import Derived.Test.YtbhlmedfhilkbaaGreatMr3
set_option linter.all false
namespace Go.Proofs.YtbhlmedfhilkbaaGreat
open Go Go.Sx
set_option maxRecDepth 1000000
noncomputable section
theorem ach:brA jG i9 false false=true:=by kernel_rfl
theorem ab5:brN jG i9 false false 0=true:=by kernel_rfl
theorem aa1:brN jG i9 false false 1=true:=by kernel_rfl
theorem ZC:brN jG i9 false false 2=true:=by kernel_rfl
theorem aax:brN jG i9 false false 3=true:=by kernel_rfl
theorem ZO:brN jG i9 false false 4=true:=by kernel_rfl
theorem ab1:brN jG i9 false false 5=true:=by kernel_rfl
theorem ab6:brN jG i9 false false 6=true:=by kernel_rfl
theorem acg:brN jG i9 false false 7=true:=by kernel_rfl
theorem aa8:brN jG i9 false false 8=true:=by kernel_rfl
theorem YU:brN jG i9 false false 9=true:=by kernel_rfl
theorem TD: ∀n,n<10->brN jG i9 false false n=true
 |0,_=>ab5
 |1,_=>aa1
 |2,_=>ZC
 |3,_=>aax
 |4,_=>ZO
 |5,_=>ab1
 |6,_=>ab6
 |7,_=>acg
 |8,_=>aa8
 |9,_=>YU
theorem aap:brA jM fy true false=true:=by kernel_rfl
theorem Z2:brN jM fy true false 0=true:=by kernel_rfl
theorem ZM:brN jM fy true false 1=true:=by kernel_rfl
theorem Zx:brN jM fy true false 2=true:=by kernel_rfl
theorem aah:brN jM fy true false 3=true:=by kernel_rfl
theorem YZ:brN jM fy true false 4=true:=by kernel_rfl
theorem Za:brN jM fy true false 5=true:=by kernel_rfl
theorem abo:brN jM fy true false 6=true:=by kernel_rfl
theorem ZT:brN jM fy true false 7=true:=by kernel_rfl
theorem ZX:brN jM fy true false 8=true:=by kernel_rfl
theorem ZV:brN jM fy true false 9=true:=by kernel_rfl
theorem UI: ∀n,n<10->brN jM fy true false n=true
 |0,_=>Z2
 |1,_=>ZM
 |2,_=>Zx
 |3,_=>aah
 |4,_=>YZ
 |5,_=>Za
 |6,_=>abo
 |7,_=>ZT
 |8,_=>ZX
 |9,_=>ZV
theorem wrap64{x:Int}(h1: -9223372036854775808<=x)(h2:x<=9223372036854775807):IntKind.i64.wrap x=x:=bI .i64 x h1 h2
theorem uT{a b:Int}(ha: -9223372036854775808<=a/\a<=9223372036854775807)(hb: -9223372036854775808<=b/\b<=9223372036854775807)(h:IntKind.i64.wrap (a-b)=0):a=b:=by
 rw [dM] at h;simp only [rq] at h;split at h<;>omega
theorem FA{ρ:Env}{l r s o e t:IE}(hl: -10000<=l.ev ρ/\l.ev ρ<=10000)(h0:0<=l.ev ρ*1002-r.ev ρ-t.ev ρ)(h1:l.ev ρ*1002-r.ev ρ-t.ev ρ<ρ.i 3*1002-ρ.i 2-ρ.i 26)(hs:s.ev ρ<=ρ.i 25)(he:e.ev ρ+(l.ev ρ*1002-r.ev ρ-t.ev ρ)<=100000000)(ho:o.ev ρ+(l.ev ρ*1002-r.ev ρ-t.ev ρ)<=100000000):(j7 l r s o e t).holds ρ:=by
 intro p hp;have hp:p∈[(BE.lt l (.lit (-10000)),false),(.lt (.lit 10000) l,false),(.lt (μB.rep (nxt l r s o e t)) μB,true),(.lt (μB.rep (nxt l r s o e t)) (.lit 0),false),((BE.lt (.var 25) (.var 28)).rep (nxt l r s o e t),false),((BE.lt (.lit zd) (.add (.var 43) μB)).rep (nxt l r s o e t),false),((BE.lt (.lit zd) (.add (.var 41) μB)).rep (nxt l r s o e t),false)]:=hp;simp only [List.mem_cons,List.not_mem_nil,or_false] at hp
 rcases hp with rfl |rfl |rfl |rfl |rfl |rfl |rfl
 ·exact decide_eq_false (show ¬l.ev ρ< -10000 by omega)
 ·exact decide_eq_false (show ¬(10000:Int)<l.ev ρ by omega)
 ·exact decide_eq_true (show l.ev ρ*1002-r.ev ρ-t.ev ρ<ρ.i 3*1002-ρ.i 2-ρ.i 26 by omega)
 ·exact decide_eq_false (show ¬l.ev ρ*1002-r.ev ρ-t.ev ρ<0 by omega)
 ·exact decide_eq_false (show ¬ρ.i 25<s.ev ρ by omega)
 ·exact decide_eq_false (show ¬(100000000:Int)<e.ev ρ+(l.ev ρ*1002-r.ev ρ-t.ev ρ) by omega)
 ·exact decide_eq_false (show ¬(100000000:Int)<o.ev ρ+(l.ev ρ*1002-r.ev ρ-t.ev ρ) by omega)
theorem ak{ρ:Env}{t:BE}{v:Bool}{d:Dec}(h:t.ev ρ=v)(hd:d.holds ρ):Dec.holds ρ ((t,v)::d):=aR hd h
theorem TJ{ρ:Env}{coh:Bool}(h2:ρ.ok (bdL brB))(h3:mJ.holds ρ)(hk:0<ρ.i 3->0<=(fO coh).ev ρ/\(fO coh).ev ρ<=ρ.i 3):(∃ k,k<3/\(Hb coh k).holds ρ)\/ ∃n s f,n<10/\(yY coh n s f).holds ρ:=by
 have b3: -10000<=ρ.i 3/\ρ.i 3<=10000:=h2 3 _ _ rfl;have b2:0<=ρ.i 2/\ρ.i 2<=1000:=h2 2 _ _ rfl;have b28:0<=ρ.i 28/\ρ.i 28<=8:=h2 28 _ _ rfl;have b25:0<=ρ.i 25/\ρ.i 25<=8:=h2 25 _ _ rfl;have b41:0<=ρ.i 41/\ρ.i 41<=100000000:=h2 41 _ _ rfl;have b43:0<=ρ.i 43/\ρ.i 43<=100000000:=h2 43 _ _ rfl;have b26:0<=ρ.i 26/\ρ.i 26<=1:=h2 26 _ _ rfl;have p1: ¬ρ.i 25<ρ.i 28:=of_decide_eq_false (h3 (.lt (.var 25) (.var 28),false) (by simp [mJ]))
 have p2: ¬(100000000:Int)<ρ.i 43+(ρ.i 3*1002-ρ.i 2-ρ.i 26):=of_decide_eq_false (h3 (.lt (.lit zd) (.add (.var 43) μB),false) (by simp [mJ]))
 have p3: ¬(100000000:Int)<ρ.i 41+(ρ.i 3*1002-ρ.i 2-ρ.i 26):=of_decide_eq_false (h3 (.lt (.lit zd) (.add (.var 41) μB),false) (by simp [mJ]))
 by_cases g3:0<ρ.i 3
 case neg=>exact .inl ⟨0,by decide,ak (decide_eq_false g3) aw⟩
 have eg:goB.ev ρ=true:=decide_eq_true g3
 by_cases g26:ρ.i 26=1
 ·exact .inl ⟨1,by decide,ak (decide_eq_true g26) (ak eg aw)⟩
 have es:stB.ev ρ=false:=decide_eq_false g26;obtain ⟨k0,k1⟩:=hk g3
 have eL:(cy coh).ev ρ=ρ.i 3-(fO coh).ev ρ:=by
  show IntKind.i64.wrap (ρ.i 3-(fO coh).ev ρ)=_;exact wrap64 (by omega) (by omega)
 by_cases gE:(cy coh).ev ρ<1
 ·exact .inl ⟨2,by decide,ak (decide_eq_true gE) (ak es (ak eg aw))⟩
 have ee:(Ma coh).ev ρ=false:=decide_eq_false gE
 have eL2:(gM coh).ev ρ=ρ.i 3-(fO coh).ev ρ-1:=by
  show IntKind.i64.wrap ((cy coh).ev ρ-1)=_;rw [eL];exact wrap64 (by omega) (by omega)
 have eT:kG.ev ρ=0:=by
  show aA false (ρ.i 26) 1 1 0=0;unfold aA;simp only [Bool.false_eq_true,if_false,g26]
 have hsame:(Fu coh).ev ρ=false->1<=(fO coh).ev ρ:=fun h=>by
  have h:=of_decide_eq_false h;have w1: -9223372036854775808<=(dR coh .i64 22).ev ρ/\(dR coh .i64 22).ev ρ<=9223372036854775807:=wrap_mem .i64 _;have w2: -9223372036854775808<=(pH (.var 90)).ev ρ/\(pH (.var 90)).ev ρ<=9223372036854775807:=wrap_mem .i64 _
  by_cases h0:(fO coh).ev ρ=0
  ·exact absurd (uT w1 w2 h0) h
  ·omega
 have hT1:(IE.lit 1).ev ρ=1:=rfl;generalize hkk:(fO coh).ev ρ=kk at*;refine .inr ?_
 -- which case
 have hn: ∃n,n<10/\(VM coh n).holds ρ/\(n=2->ρ.i 28<ρ.i 25):=by
  have h28:(BE.lt (.var 28) (.var 25)).ev ρ=decide (ρ.i 28<ρ.i 25):=rfl;have hi1:(BE.eq bL (.lit 0)).ev ρ=decide (ρ.i 25-ρ.i 28=0):=rfl;have hi2:(BE.lt (.lit 0) bL).ev ρ=decide (0<ρ.i 25-ρ.i 28):=rfl;have ht:0<=(tiE coh).ev ρ:=(wrap_mem .u32 _).1
  by_cases t4:(tkE coh).ev ρ=4
  ·have e4:(ja coh 4).ev ρ=true:=decide_eq_true t4
   by_cases i0:(tiE coh).ev ρ=0
   ·exact ⟨0,by decide,ak e4 (ak (decide_eq_true i0) aw),fun h=>by cases h⟩
   by_cases i1:(tiE coh).ev ρ=1
   ·exact ⟨1,by decide,ak e4 (ak (decide_eq_true i1) aw),fun h=>by cases h⟩
   by_cases i2:(tiE coh).ev ρ=2
   ·by_cases hin:ρ.i 28<ρ.i 25
    ·exact ⟨2,by decide,ak e4 (ak (decide_eq_true i2) (ak (decide_eq_true hin) (ak (decide_eq_false (show ¬ρ.i 25-ρ.i 28=0 by omega)) (ak (decide_eq_true (show 0<ρ.i 25-ρ.i 28 by omega)) aw)))),fun _=>hin⟩
    ·exact ⟨5,by decide,ak e4 (ak (decide_eq_true i2) (ak (decide_eq_false hin) (ak (decide_eq_true (show ρ.i 25-ρ.i 28=0 by omega)) (ak (decide_eq_false (show ¬0<ρ.i 25-ρ.i 28 by omega)) aw)))),fun h=>by cases h⟩
   by_cases i3:(tiE coh).ev ρ=3
   ·exact ⟨3,by decide,ak e4 (ak (decide_eq_true i3) aw),fun h=>by cases h⟩
   have i4:(BE.lt (tiE coh) (.lit 4)).ev ρ=false:=decide_eq_false (show ¬(tiE coh).ev ρ<4 by omega)
   cases hv:(Mi coh).ev ρ
   ·exact ⟨8,by decide,ak e4 (ak i4 (ak hv aw)),fun h=>by cases h⟩
   ·exact ⟨4,by decide,ak e4 (ak i4 (ak hv aw)),fun h=>by cases h⟩
  ·have e4:(ja coh 4).ev ρ=false:=decide_eq_false t4;cases h2:(ja coh 2).ev ρ
   ·cases hv:(Mi coh).ev ρ
    ·exact ⟨9,by decide,ak e4 (ak h2 (ak hv aw)),fun h=>by cases h⟩
    ·exact ⟨7,by decide,ak e4 (ak h2 (ak hv aw)),fun h=>by cases h⟩
   ·exact ⟨6,by decide,ak e4 (ak h2 aw),fun h=>by cases h⟩
 obtain ⟨n,hn10,hI,hn2⟩:=hn;have u41:(up 41).ev ρ=ρ.i 41+1:=rfl;have u43:(up 43).ev ρ=ρ.i 43+1:=rfl;have u28:(up 28).ev ρ=ρ.i 28+1:=rfl;have u2:(up 2).ev ρ=ρ.i 2+1:=rfl;have v: ∀i,(IE.var i).ev ρ=ρ.i i:=fun _=>rfl
 have li: ∀i,(IE.lit i).ev ρ=i:=fun _=>rfl
 have fin: ∀s f,(Fu coh).ev ρ=s->R3.ev ρ=f->(XJ coh n s f).holds ρ-> ∃n s f,n<10/\(yY coh n s f).holds ρ:=fun s f h1 h2 h3=>
  ⟨n,s,f,hn10,bJ hI (ak h1 (ak h2 (ak ee (ak es (ak eg (ak (decide_eq_false (show ¬(99999999:Int)<ρ.i 41 by omega)) (ak (decide_eq_false (show ¬(99999999:Int)<ρ.i 43 by omega)) h3)))))))⟩
 have dev: ∀s o e:IE,s.ev ρ<=ρ.i 25->o.ev ρ<=ρ.i 41+1->e.ev ρ<=ρ.i 43+1->(j7 (gM coh) (.lit 0) s o e).holds ρ:=fun s o e q1 q2 q3=>by
  refine FA ?_ ?_ ?_ ?_ ?_ ?_<;>(try rw [eL2])<;>(try rw [li])<;>(try rw [eT])<;>omega
 have oth: ∀r t:IE,∀x y:Int,r.ev ρ=x->t.ev ρ=y->(x+y<=ρ.i 2+1002*kk+1)->(ρ.i 2<x+y+1002*kk)->x+y<=1001->(j7 (cy coh) r (.var 28) (.var 41) (up 43) t).holds ρ:=fun r t x y hr ht q1 q2 q3=>by
  refine FA ?_ ?_ ?_ ?_ ?_ ?_<;>(try rw [eL])<;>(try rw [hr])<;>(try rw [ht])<;>(try rw [v])<;>(try rw [u43])<;>omega
 have more: ∃s f,(Fu coh).ev ρ=s/\R3.ev ρ=f/\(XJ.more coh s f).holds ρ:=by
  cases hs:(Fu coh).ev ρ
  ·have h1:=hsame hs;refine ⟨false,_,rfl,rfl,?_⟩;show Dec.holds ρ (j7 (cy coh) (.lit 1) (.var 28) (.var 41) (up 43)++j7 (cy coh) (.lit 0) (.var 28) (.var 41) (up 43) (.lit 1));exact bJ (oth _ _ 1 0 (li 1) eT (by omega) (by omega) (by omega)) (oth _ _ 0 1 (li 0) (li 1) (by omega) (by omega) (by omega))
  ·by_cases hf:ρ.i 2=1000
   ·refine ⟨true,true,rfl,decide_eq_true hf,?_⟩;exact oth _ _ 1000 1 (li 1000) (li 1) (by omega) (by omega) (by omega)
   ·refine ⟨true,false,rfl,decide_eq_false hf,?_⟩;exact ak (decide_eq_false (show ¬(999:Int)<ρ.i 2 by omega)) (bJ (oth _ _ (ρ.i 2+1) 0 u2 eT (by omega) (by omega) (by omega)) (oth _ _ (ρ.i 2) 1 (v 2) (li 1) (by omega) (by omega) (by omega)))
 obtain ⟨s,f,hs,hf,hm⟩:=more;refine fin s f hs hf ?_
 match n,hn10,hn2 with
 |0,_,_=>exact hm
 |1,_,_=>exact dev _ _ _ (by rw [v]; omega) (by rw [u41]; omega) (by rw [u43]; omega)
 |2,_,hn2=>exact dev _ _ _ (by have:=hn2 rfl; rw [u28]; omega) (by rw [v]; omega) (by rw [v]; omega)
 |3,_,_=>exact dev _ _ _ (by rw [v]; omega) (by rw [v]; omega) (by rw [v]; omega)
 |4,_,_=>exact hm
 |5,_,_=>exact dev _ _ _ (by rw [v]; omega) (by rw [v]; omega) (by rw [v]; omega)
 |6,_,_=>exact hm
 |7,_,_=>exact hm
 |8,_,_=>exact hm
 |9,_,_=>exact hm
def σB(M S l r s oc o t ec n:IE):Nat->IE:=fun i=>match i with
 |0=>M
 |90=>S
 |3=>l
 |2=>r
 |28=>s
 |40=>oc
 |41=>o
 |26=>t
 |42=>ec
 |43=>n
 |i=> .var i
def E5(coh:Bool)(v s oc o ec n:IE):Nat->IE:=σB (fS coh) (nt coh (zG coh v)) (gM coh) (.lit 0) s oc o (.lit 0) ec n
def σ1(coh:Bool):Nat->IE:=E5 coh (zo coh) (.var 28) (.fn 1 (.var 40) (.var 41) (zo coh)) (up 41) (nk coh (.lit 1) (zo coh)) (up 43)
def σ2(coh:Bool):Nat->IE:=E5 coh (.wrap .u32 (.fn 0 (.var 24) (.var 28) (.lit 0))) (up 28) (.var 40) (.var 41) (.var 42) (.var 43)
def σ5(coh:Bool):Nat->IE:=E5 coh (.lit 0) (.var 28) (.var 40) (.var 41) (.var 42) (.var 43)
def σ3(coh:Bool):Nat->IE:=E5 coh (.wrap .u32 bL) (.var 28) (.var 40) (.var 41) (.var 42) (.var 43)
def UZ(coh:Bool):Nat->IE:=σB (fS coh) (nt coh (N5 coh)) (cy coh) (.add (jU coh) (.lit 1)) (.var 28) (.var 40) (.var 41) (.lit 0) (nk coh (tiE coh) (.lit 0)) (up 43)
def oZ(coh:Bool):Nat->IE:=σB (fS coh) (xO coh) (cy coh) (jU coh) (.var 28) (.var 40) (.var 41) (.lit 1) (nk coh (tiE coh) (.lit 0)) (up 43)
section
variable{G:Nat->Int->Int->Int->Int}{F:Fns}{ρ:Env}
def Gs(G:Nat->Int->Int->Int->Int)(F:Fns)(X:Int):RV->Prop
 | .bad=>True
 | .again Y=>F.alike G X Y
 | .done l=>F.is G X l
theorem TP{t:RT}(h:F.Def G t)(hρ:ρ.g=G):Gs G F (F.x.ev ρ) (t.pick ρ):=by
 have:=h ρ hρ;unfold Gs;exact this
end
inductive Rnd where
 |A |L |S |d1 |d2 |d5 |d3 |D
def B5(coh:Bool)(ρ:Env):Prop:=(tkE coh).ev ρ≠4\/((tiE coh).ev ρ≠0/\(tiE coh).ev ρ≠1/\(tiE coh).ev ρ≠2/\(tiE coh).ev ρ≠3)
def Rnd.when(coh:Bool)(ρ:Env):Rnd->Prop
 | .A=> ¬(0<ρ.i 3)\/ρ.i 26=1
 | .L=>0<ρ.i 3/\ρ.i 26≠1/\(cy coh).ev ρ<1
 | .S=>0<ρ.i 3/\ρ.i 26≠1/\ ¬(cy coh).ev ρ<1/\(((tkE coh).ev ρ=4/\(tiE coh).ev ρ=0)\/(B5 coh ρ/\((tkE coh).ev ρ=2\/(eR coh 18).ev ρ=0\/(jU coh).ev ρ=1000)))
 | .d1=>0<ρ.i 3/\ρ.i 26≠1/\ ¬(cy coh).ev ρ<1/\(tkE coh).ev ρ=4/\(tiE coh).ev ρ=1
 | .d2=>0<ρ.i 3/\ρ.i 26≠1/\ ¬(cy coh).ev ρ<1/\(tkE coh).ev ρ=4/\(tiE coh).ev ρ=2/\ρ.i 28<ρ.i 25
 | .d5=>0<ρ.i 3/\ρ.i 26≠1/\ ¬(cy coh).ev ρ<1/\(tkE coh).ev ρ=4/\(tiE coh).ev ρ=2/\ ¬ρ.i 28<ρ.i 25
 | .d3=>0<ρ.i 3/\ρ.i 26≠1/\ ¬(cy coh).ev ρ<1/\(tkE coh).ev ρ=4/\(tiE coh).ev ρ=3
 | .D=>0<ρ.i 3/\ρ.i 26≠1/\ ¬(cy coh).ev ρ<1/\B5 coh ρ/\(tkE coh).ev ρ≠2/\(eR coh 18).ev ρ≠0/\(jU coh).ev ρ≠1000
def Rnd.val(coh pr:Bool)(ρ:Env):Rnd->RV
 | .A=>JH.rt.pick ρ
 | .L=>(V6 coh).rt.pick ρ
 | .S=>(Gh coh pr).rt.pick ρ
 | .d1=>(dev coh (zo coh) (.var 28) (up 41) (.fn 1 (.var 40) (.var 41) (zo coh)) (up 43) (nk coh (.lit 1) (zo coh))).rt.pick ρ
 | .d2=>(dev coh (.wrap .u32 (.fn 0 (.var 24) (.var 28) (.lit 0))) (up 28) (.var 41) (.var 40) (.var 43) (.var 42)).rt.pick ρ
 | .d5=>(dev coh (.lit 0) (.var 28) (.var 41) (.var 40) (.var 43) (.var 42)).rt.pick ρ
 | .d3=>(dev coh (.wrap .u32 bL) (.var 28) (.var 41) (.var 40) (.var 43) (.var 42)).rt.pick ρ
 | .D=>(EI coh).rt.pick ρ
theorem pP(coh pr:Bool)(ρ:Env): ∃r:Rnd,r.when coh ρ/\(fk coh pr).rt.pick ρ=r.val coh pr ρ:=by
 have sp: ∀(b:BE) (y n:HT),(HT.split b y n).rt.pick ρ=aS (b.ev ρ) (y.rt.pick ρ) (n.rt.pick ρ):=fun _ _ _=>rfl
 have yes: ∀ {b:BE} {y n:HT},b.ev ρ=true->(HT.split b y n).rt.pick ρ=y.rt.pick ρ:=fun h=>by rw [sp,h]; rfl
 have no: ∀ {b:BE} {y n:HT},b.ev ρ=false->(HT.split b y n).rt.pick ρ=n.rt.pick ρ:=fun h=>by rw [sp,h]; rfl
 unfold fk
 by_cases g:0<ρ.i 3
 case neg=>exact ⟨.A,.inl g,no (b:=goB) (decide_eq_false g)⟩
 rw [yes (b:=goB) (decide_eq_true g)]
 by_cases t:ρ.i 26=1
 ·exact ⟨.A,.inr t,yes (b:=stB) (decide_eq_true t)⟩
 rw [no (b:=stB) (decide_eq_false t)]
 by_cases e:(cy coh).ev ρ<1
 ·exact ⟨.L,⟨g,t,e⟩,yes (b:=(Ma coh)) (decide_eq_true e)⟩
 rw [no (b:=(Ma coh)) (decide_eq_false e)]
 have other:B5 coh ρ-> ∃r:Rnd,r.when coh ρ/\(BA coh pr).rt.pick ρ=r.val coh pr ρ:=fun ho=>by
  unfold BA
  by_cases k2:(tkE coh).ev ρ=2
  ·exact ⟨.S,⟨g,t,e,.inr ⟨ho,.inl k2⟩⟩,yes (b:=(.eq (tkE coh) (.lit 2))) (decide_eq_true k2)⟩
  rw [no (b:=(.eq (tkE coh) (.lit 2))) (decide_eq_false k2)]
  by_cases v:(eR coh 18).ev ρ=0
  ·exact ⟨.S,⟨g,t,e,.inr ⟨ho,.inr (.inl v)⟩⟩,yes (b:=(.eq (eR coh 18) (.lit 0))) (decide_eq_true v)⟩
  rw [no (b:=(.eq (eR coh 18) (.lit 0))) (decide_eq_false v)]
  by_cases f:(jU coh).ev ρ=1000
  ·exact ⟨.S,⟨g,t,e,.inr ⟨ho,.inr (.inr f)⟩⟩,yes (b:=(.eq (jU coh) (.lit 1000))) (decide_eq_true f)⟩
  rw [no (b:=(.eq (jU coh) (.lit 1000))) (decide_eq_false f)];exact ⟨.D,⟨g,t,e,ho,k2,v,f⟩,rfl⟩
 by_cases k4:(tkE coh).ev ρ=4
 case neg=>
  rw [no (b:=(.eq (tkE coh) (.lit 4))) (decide_eq_false k4)];exact other (.inl k4)
 rw [yes (b:=(.eq (tkE coh) (.lit 4))) (decide_eq_true k4)];unfold abn
 by_cases i0:(tiE coh).ev ρ=0
 ·exact ⟨.S,⟨g,t,e,.inl ⟨k4,i0⟩⟩,yes (b:=(gJ coh 0)) (decide_eq_true i0)⟩
 rw [no (b:=(gJ coh 0)) (decide_eq_false i0)]
 by_cases i1:(tiE coh).ev ρ=1
 ·exact ⟨.d1,⟨g,t,e,k4,i1⟩,yes (b:=(gJ coh 1)) (decide_eq_true i1)⟩
 rw [no (b:=(gJ coh 1)) (decide_eq_false i1)]
 by_cases i2:(tiE coh).ev ρ=2
 ·rw [yes (b:=(gJ coh 2)) (decide_eq_true i2)]
  by_cases s:ρ.i 28<ρ.i 25
  ·exact ⟨.d2,⟨g,t,e,k4,i2,s⟩,yes (b:=(.lt (.var 28) (.var 25))) (decide_eq_true s)⟩
  ·exact ⟨.d5,⟨g,t,e,k4,i2,s⟩,no (b:=(.lt (.var 28) (.var 25))) (decide_eq_false s)⟩
 rw [no (b:=(gJ coh 2)) (decide_eq_false i2)]
 by_cases i3:(tiE coh).ev ρ=3
 ·exact ⟨.d3,⟨g,t,e,k4,i3⟩,yes (b:=(gJ coh 3)) (decide_eq_true i3)⟩
 rw [no (b:=(gJ coh 3)) (decide_eq_false i3)];exact other (.inr ⟨i0,i1,i2,i3⟩)
theorem zu(coh:Bool)(ρ:Env)(M S l r s oc o t ec n:IE):(FB coh).x.ev (ρ.rep (σB M S l r s oc o t ec n))=(uS [M,S,l,r,.var 24,s,.var 25,oc,o,t,ec,n]).ev ρ:=by
 rw [<- IE.a9];cases coh<;>rfl
theorem Nf(coh:Bool)(ρ:Env){l r s oc o t ec n M:IE}:(stE (.var 90)).map (·.ev (ρ.rep (σB M (xO coh) l r s oc o t ec n)))=(zE coh).map (·.ev ρ):=by
 cases coh<;>rfl
theorem OG{G:Nat->Int->Int->Int->Int}{F:Fns}{X Y:Int}{l:List Int}(h:F.is G X l)(k:F.is G Y l):F.alike G X Y:=⟨h.1.trans k.1.symm,fun z=>(h.2 z).trans (k.2 z).symm⟩
theorem Nw{G:Nat->Int->Int->Int->Int}{coh:Bool}(h:(FB coh).Def G (fk coh true).rt):(FB coh).Def G (fk coh false).rt:=by
 intro ρ hρ;obtain ⟨r,hw,hp⟩:=pP coh true ρ;have hs:=h ρ hρ;rw [hp] at hs
 have same: ∀q:(fk coh false).rt.pick ρ=r.val coh true ρ,match (fk coh false).rt.pick ρ with
  | .bad=>True
  | .again X=>(FB coh).alike G ((FB coh).x.ev ρ) X
  | .done l=>(FB coh).is G ((FB coh).x.ev ρ) l:=fun q=>by rw [q]; exact hs
 -- the same case
 have pk:(fk coh false).rt.pick ρ=r.val coh false ρ:=by
  obtain ⟨r',hw',hp'⟩:=pP coh false ρ;rw [hp']
  have:r'=r:=by
   cases r<;>cases r'<;>first |rfl | (exfalso; revert hw hw'; unfold Rnd.when; unfold B5; omega)
  rw [this]
 cases r with
 |S=>
  have hs:(FB coh).is G ((FB coh).x.ev ρ) ((zE coh++[fS coh,.var 28,bL,.var 41,.lit 1,up 43,.lit 0,.lit 0,.var 40,nk coh (tiE coh) (.lit 0)]).map (·.ev ρ)):=hs;rw [pk];show (FB coh).alike G ((FB coh).x.ev ρ) ((uS [fS coh,xO coh,cy coh,jU coh,.var 24,.var 28,.var 25,.var 40,.var 41,.lit 1,nk coh (tiE coh) (.lit 0),up 43]).ev ρ);rw [<- zu coh ρ (fS coh) (xO coh) (cy coh) (jU coh) (.var 28) (.var 40) (.var 41) (.lit 1) (nk coh (tiE coh) (.lit 0)) (up 43)];refine OG hs ?_;have h2:=h (ρ.rep (oZ coh)) hρ
  have hg:0<(cy coh).ev ρ:=by
   obtain ⟨_,_,h3,_⟩:=hw;omega
  have e1:(fk coh true).rt.pick (ρ.rep (oZ coh))=JH.rt.pick (ρ.rep (oZ coh)):=by
   have a1:goB.ev (ρ.rep (oZ coh))=true:=decide_eq_true (show (0:Int)<(cy coh).ev ρ from hg)
   have a2:stB.ev (ρ.rep (oZ coh))=true:=decide_eq_true (show (1:Int)=1 from rfl)
   show aS (goB.ev (ρ.rep (oZ coh))) (aS (stB.ev (ρ.rep (oZ coh))) _ _) _=_;rw [a1,a2];rfl
  rw [e1] at h2;have h2:(FB coh).is G ((FB coh).x.ev (ρ.rep (oZ coh))) ((stE (.var 90)++[.var 0,.var 28,bL,.var 41,kG,.var 43,.lit 0,.lit 0,.var 40,.var 42]).map (·.ev (ρ.rep (oZ coh)))):=h2;rw [List.map_append] at h2;unfold oZ at h2;rw [Nf] at h2;rw [List.map_append];exact h2
 |A=>exact same pk
 |L=>exact same pk
 |d1=>exact same pk
 |d2=>exact same pk
 |d5=>exact same pk
 |d3=>exact same pk
 |D=>exact same pk
structure RunG (G:Nat->Int->Int->Int->Int):Prop where
 made:Made G
 rH:gg G
 d:FD.Def G kT
 f:FF.Def G pa
 s:FS.Def G BQ
 r:FR.Def G JJ
 k:FK.Def G gP
 ks:FKS.Def G sM
 rk:FRK.Def G (jQ FKS).rt
 bk:(FB true).Def G (fk true true).rt
 bq:(FB false).Def G (fk false true).rt
theorem JK:((fk true true).rt.only (bR (FB true).vars) 136&&(fk false true).rt.only (bR (FB false).vars) 138)=true:=by kernel_rfl
theorem Ws{ρ:Env}(hP:gg ρ.g):x0.ev ρ=pk4 (ρ.i 0) (ρ.i 90) 0 (ρ.i 3):=by
 have kp: ∀x y z:Int,fnI ρ KP x y z=cG x y:=fun x y z=>by
  rw [bY (by decide)]
  exact hP x y z
 show fnI ρ KP (ρ.i 0) (fnI ρ KP (ρ.i 90) (fnI ρ KP 0 (fnI ρ KP (ρ.i 3) 0 0) 0) 0) 0=_;rw [kp,kp,kp,kp];rfl
section
variable{G:Nat->Int->Int->Int->Int}(hG:RunG G)
include hG
theorem Hp(coh:Bool):(FB coh).Def G (fk coh true).rt:=by
 cases coh
 ·exact hG.bq
 ·exact hG.bk
theorem Tg(coh pr:Bool):(FB coh).Def G (fk coh pr).rt:=by
 cases pr
 ·exact Nw (Hp hG coh)
 ·exact Hp hG coh
theorem FT{ρ:Env}(h1:ρ.std G gh)(coh:Bool)(hw:ρ.i 3<=10000)(h0:0<ρ.i 3):0<=(fO coh).ev ρ/\(fO coh).ev ρ<=ρ.i 3:=by
 have hP:gg ρ.g:=by rw [h1.1]; exact hG.rH
 have key: ∀F R:Fns,F.vars=[0,90]->R.vars=[0,90,2,3]->(7<F.KR/\7<F.KV)->7<R.KR->R.Def G (jQ F).rt->(∀ M S,dgN .u8 (G F.KR (pk2 M S) 0 0) 24=0->fN (G F.KR (pk2 M S) 0 0)=IntKind.i64.wrap (fN S+1))->0<=IntKind.i64.wrap ((dX R.KR x0 .i64 22).ev ρ-(pH (.var 90)).ev ρ)/\IntKind.i64.wrap ((dX R.KR x0 .i64 22).ev ρ-(pH (.var 90)).ev ρ)<=ρ.i 3:=fun F R e1 e2 e3 e4 e5 e6=>by
  have:=NB hG.rH e1 e2 e3 e5 e6 10000 (ρ.i 0) (ρ.i 90) 0 (ρ.i 3) (Int.le_refl 0) (by omega) (by omega)
  have ex:(dX R.KR x0 .i64 22).ev ρ=fN (G R.KR (pk4 (ρ.i 0) (ρ.i 90) 0 (ρ.i 3)) 0 0):=by
   show IntKind.i64.wrap (ag (fnI ρ R.KR (x0.ev ρ) 0 0) _)=_;rw [Ws hP,bY e4,h1.1];rfl
  have ey:(pH (.var 90)).ev ρ=fN (ρ.i 90):=rfl;rw [ex,ey];omega
 cases coh
 ·exact key FS FR rfl rfl (by decide) (by decide) hG.r (Zb hG.rH hG.s)
 ·exact key FKS FRK rfl rfl (by decide) (by decide) hG.rk (aa2 hG.rH hG.k hG.ks)
theorem yu{ρ:Env}(h1:ρ.std G gh)(coh:Bool){p q:Int}(h0:bS p q (ρ.i 0)):bS p q ((fS coh).ev ρ):=by
 have hP:gg ρ.g:=by rw [h1.1]; exact hG.rH
 have key: ∀F R:Fns,F.vars=[0,90]->R.vars=[0,90,2,3]->(7<F.KR/\7<F.KV)->7<R.KV->R.Def G (jQ F).rt->(∀ M S,bS p q M->bS p q (G F.KV (pk2 M S) 0 26))->bS p q ((vX R.KV x0 24).ev ρ):=fun F R e1 e2 e3 e4 e5 e6=>by
  have:=Rn hG.rH e1 e2 e3 e5 e6 (ρ.i 3).toNat (ρ.i 0) (ρ.i 90) 0 (ρ.i 3) (by omega) h0
  have ex:(vX R.KV x0 24).ev ρ=G R.KV (pk4 (ρ.i 0) (ρ.i 90) 0 (ρ.i 3)) 0 24:=by
   show fnI ρ R.KV (x0.ev ρ) 0 _=_;rw [Ws hP,bY e4,h1.1];rfl
  rw [ex];exact this
 cases coh
 ·exact key FS FR rfl rfl (by decide) (by decide) hG.r (Z5 hG.made.base hG.rH hG.s)
 ·exact key FKS FRK rfl rfl (by decide) (by decide) hG.rk (Zd hG.made.base hG.rH hG.k hG.ks)
omit hG in
theorem su{c:Con}{coh:Bool}(n:Nat)(hp:c.pre=[])(hr:c.res= .agg [.int .i64 (tkE coh),.int .u32 (tiE coh)])(hc:c.Ok PR G gh):(AM c coh n).Ok PR G gh:=by
 refine eV (c:=c) (q:=[(tkE coh,tkE coh),(.lit (.ofNat n),tiE coh)]) rfl rfl rfl rfl hc (by rw [hr]; rfl) fun ρ h1 h2 h3=>⟨h2,by rw [hp]; exact aw,fun p hp=> ?_⟩
 have a:(tiE coh).ev ρ=(n:Int):=of_decide_eq_true (h3 (gJ coh (.ofNat n),true) (by simp [AM]))
 simp only [List.mem_cons,List.not_mem_nil,or_false] at hp
 rcases hp with rfl |rfl
 ·rfl
 ·exact a.symm
theorem K5{l:ba}{c:Con}{coh pr:Bool}(hb:l.con.bds=brB)(hpre:l.con.pre=mJ)(hsl:l.sl.length=l.con.args.length)(ha:brA l c coh pr=true)(hn: ∀n,n<10->brN l c coh pr n=true)(hp:c.pre=[])(hr:c.res= .agg [.int .i64 (tkE coh),.int .u32 (tiE coh)])(hc:c.Ok PR G gh):l.con.wf=true/\l.Ok PR G gh:=by
 obtain ⟨a0,a1,a2,w1,w2,w3,w6,wf⟩:pZ l c coh pr 6 (Hb coh 0)=true/\pZ l c coh pr 6 (Hb coh 1)=true/\pZ l c coh pr 6 (Hb coh 2)=true/\(kBr c coh 1).cons.all Con.wf=true/\(kBr c coh 2).cons.all Con.wf=true/\(kBr c coh 3).cons.all Con.wf=true/\(kBr c coh 6).cons.all Con.wf=true/\l.con.wf=true:=by
  simpa only [brA,Bool.and_eq_true] using ha
 have hk: ∀n,n<10->(kBr c coh n).Ok PR G gh:=fun n h=>match n,h with
  |0,_=>bB w6 (aJ hc dj)
  |1,_=>bB w1 (aJ (su 1 hp hr hc) dj)
  |2,_=>bB w2 (aJ (su 2 hp hr hc) dj)
  |3,_=>bB w3 (aJ (su 3 hp hr hc) dj)
  |4,_=>bB w6 (aJ hc dj)
  |5,_=>bB w2 (aJ (su 2 hp hr hc) dj)
  |6,_=>bB w6 (aJ hc dj)
  |7,_=>bB w6 (aJ hc dj)
  |8,_=>bB w6 (aJ hc dj)
  |9,_=>bB w6 (aJ hc dj)
 refine ⟨wf,ba.OX (L:=20) (pol:=aG) (pure:=no') (d:=12) (μ:=μB) mixed wf hsl fun ρ h1 h2 h3=> ?_⟩
 have h2':ρ.ok (bdL brB):=by rw [<- hb]; exact h2
 have h3':Dec.holds ρ mJ:=by rw [<- hpre]; exact h3
 have b3: -10000<=ρ.i 3/\ρ.i 3<=10000:=h2' 3 _ _ rfl;have hkF:7<(FB coh).KR/\7<(FB coh).KV:=by cases coh<;>decide
 have fin: ∀n f,n<10->Dec.holds ρ f->pZ l c coh pr n f=true-> ∃(K:Know) (facts:Dec),K.Ok PR G gh/\facts.holds ρ/\ ∃e s at' q,(l.tree PR K 20 aG no' 12 facts μB).pick ρ=some (e,s)/\l.con.ends at' s=some q/\q.hold ρ:=fun n f hn hf h=>
  ⟨kBr c coh n,f,hk n hn,hf,Con.Yx hkF h h2 (bJ hf h3) (by rw [h1.1]; exact Tg hG coh pr)⟩
 rcases TJ (coh:=coh) h2' h3' (fun h0=>FT hG h1 coh b3.2 h0) with ⟨k,hk3,hf⟩ | ⟨n,s,f,hn10,hf⟩
 ·match k,hk3,hf with
  |0,_,hf=>exact fin 6 _ (by decide) hf a0
  |1,_,hf=>exact fin 6 _ (by decide) hf a1
  |2,_,hf=>exact fin 6 _ (by decide) hf a2
 ·have h:=hn n hn10
  obtain ⟨q1,q2,q3,q4⟩:pZ l c coh pr n (yY coh n true true)=true/\pZ l c coh pr n (yY coh n true false)=true/\pZ l c coh pr n (yY coh n false true)=true/\pZ l c coh pr n (yY coh n false false)=true:=by
   simpa only [brN,Bool.and_eq_true] using h
  cases s<;>cases f
  ·exact fin n _ hn10 hf q4
  ·exact fin n _ hn10 hf q3
  ·exact fin n _ hn10 hf q2
  ·exact fin n _ hn10 hf q1
theorem Ur:pY.con.wf=true/\pY.Ok PR G gh:=K5 hG rfl rfl rfl ZD US rfl rfl (SZ hG.made.base hG.d hG.f hG.s hG.r).2
theorem SX:qn.con.wf=true/\qn.Ok PR G gh:=K5 hG rfl rfl rfl Y2 TK rfl rfl (OC hG.made.base hG.k hG.ks hG.rk).2
theorem Of:jG.con.wf=true/\jG.Ok PR G gh:=K5 hG rfl rfl rfl ach TD rfl rfl (QX hG.made.base hG.d hG.f hG.s hG.r).2
theorem RP:jM.con.wf=true/\jM.Ok PR G gh:=K5 hG rfl rfl rfl aap UI rfl rfl (Lt hG.made.base hG.k hG.ks hG.rk).2
end
def muN(ρ:Env):Int:=ρ.i 3*1002-ρ.i 2-ρ.i 26
structure Okb (ρ:Env):Prop where
 l: -10000<=ρ.i 3/\ρ.i 3<=10000
 r:0<=ρ.i 2/\ρ.i 2<=1000
 s:0<=ρ.i 28/\ρ.i 28<=ρ.i 25
 t:ρ.i 25<=8
 o:0<=ρ.i 41/\ρ.i 41<=100000000
 n:0<=ρ.i 43/\ρ.i 43<=100000000
 z:0<=ρ.i 26/\ρ.i 26<=1
 pn:ρ.i 43+muN ρ<=100000000
 po:ρ.i 41+muN ρ<=100000000
def Rnd.next(coh:Bool):Rnd->Option (Nat->IE)
 | .d1=>some (σ1 coh)
 | .d2=>some (σ2 coh)
 | .d5=>some (σ5 coh)
 | .d3=>some (σ3 coh)
 | .D=>some (UZ coh)
 |_=>none
structure Nums (coh:Bool) (ρ:Env) (kk:Int):Prop where
 k:(fO coh).ev ρ=kk
 k0:0<=kk/\kk<=ρ.i 3
 left:(cy coh).ev ρ=ρ.i 3-kk
 gM:(gM coh).ev ρ=ρ.i 3-kk-1
 row:(jU coh).ev ρ=(if kk=0 then ρ.i 2 else 0)
section
variable{G:Nat->Int->Int->Int->Int}(hG:RunG G)
include hG
theorem YW{ρ:Env}(h1:ρ.std G gh)(coh:Bool)(h:Okb ρ)(h0:0<ρ.i 3): ∃kk,Nums coh ρ kk:=by
 have hk:=FT hG h1 coh h.l.2 h0
 have eL:(cy coh).ev ρ=ρ.i 3-(fO coh).ev ρ:=by
  show IntKind.i64.wrap (ρ.i 3-(fO coh).ev ρ)=_;have:=h.l;exact wrap64 (by omega) (by omega)
 refine ⟨_,rfl,hk,eL,?_,?_⟩
 ·show IntKind.i64.wrap ((cy coh).ev ρ-1)=_;rw [eL];have:=h.l;exact wrap64 (by omega) (by omega)
 ·show aA false ((dR coh .i64 22).ev ρ) ((pH (.var 90)).ev ρ) (ρ.i 2) 0=_;have w1: -9223372036854775808<=(dR coh .i64 22).ev ρ/\(dR coh .i64 22).ev ρ<=9223372036854775807:=wrap_mem .i64 _;have w2: -9223372036854775808<=(pH (.var 90)).ev ρ/\(pH (.var 90)).ev ρ<=9223372036854775807:=wrap_mem .i64 _;have es:(fO coh).ev ρ=IntKind.i64.wrap ((dR coh .i64 22).ev ρ-(pH (.var 90)).ev ρ):=rfl;unfold aA;simp only [Bool.false_eq_true,if_false]
  by_cases e:(dR coh .i64 22).ev ρ=(pH (.var 90)).ev ρ
  ·rw [if_pos e,es,e,Int.sub_self,if_pos (by rfl)]
  ·rw [if_neg e,if_neg fun h=>e (uT w1 w2 (by rw [<- es]; exact h))]
omit hG in
theorem Va{ρ:Env}{coh:Bool}{kk:Int}(h:Okb ρ)(hn:Nums coh ρ kk){r:Rnd}(hw:r.when coh ρ){σ:Nat->IE}(hσ:r.next coh=some σ):Okb (ρ.rep σ)/\0<=muN (ρ.rep σ)/\muN (ρ.rep σ)<muN ρ:=by
 obtain ⟨l,r0,s,t,o,n,z,pn,po⟩:=h;obtain ⟨_,k0,e1,e2,e3⟩:=hn;unfold muN at*
 have dev: ∀(M S s' oc o' ec n':IE),ρ.i 26≠1-> ¬(cy coh).ev ρ<1->0<=s'.ev ρ->s'.ev ρ<=ρ.i 25->0<=o'.ev ρ->o'.ev ρ<=ρ.i 41+1->0<=n'.ev ρ->n'.ev ρ<=ρ.i 43+1->
  Okb (ρ.rep (σB M S (gM coh) (.lit 0) s' oc o' (.lit 0) ec n'))/\0<=(gM coh).ev ρ*1002-0-0/\(gM coh).ev ρ*1002-0-0<ρ.i 3*1002-ρ.i 2-ρ.i 26:=fun M S s' oc o' ec n' q0 q1 q2 q3 q4 q5 q6 q7=>by
  rw [e1] at q1
  have x:Okb (ρ.rep (σB M S (gM coh) (.lit 0) s' oc o' (.lit 0) ec n')):={
   l:=⟨show -10000<=(gM coh).ev ρ by omega,show (gM coh).ev ρ<=10000 by omega⟩
   r:=⟨show (0:Int)<=0 by omega,show (0:Int)<=1000 by omega⟩
   s:=⟨show 0<=s'.ev ρ by omega,show s'.ev ρ<=ρ.i 25 by omega⟩
   t:=show ρ.i 25<=8 by omega
   o:=⟨show 0<=o'.ev ρ by omega,show o'.ev ρ<=100000000 by omega⟩
   n:=⟨show 0<=n'.ev ρ by omega,show n'.ev ρ<=100000000 by omega⟩
   z:=⟨show (0:Int)<=0 by omega,show (0:Int)<=1 by omega⟩
   pn:=show n'.ev ρ+((gM coh).ev ρ*1002-0-0)<=100000000 by omega
   po:=show o'.ev ρ+((gM coh).ev ρ*1002-0-0)<=100000000 by omega}
  exact ⟨x,by omega,by omega⟩
 have u: ∀i,(up i).ev ρ=ρ.i i+1:=fun _=>rfl
 have v: ∀i,(IE.var i).ev ρ=ρ.i i:=fun _=>rfl
 cases r with
 |A=>cases hσ
 |L=>cases hσ
 |S=>cases hσ
 |d1=>cases hσ; obtain ⟨a1,a2,a3,_⟩:=hw; exact dev _ _ _ _ _ _ _ a2 a3 (by rw [v]; omega) (by rw [v]; omega) (by rw [u]; omega) (by rw [u]; omega) (by rw [u]; omega) (by rw [u]; omega)
 |d2=>cases hσ; obtain ⟨a1,a2,a3,_,_,a6⟩:=hw; exact dev _ _ _ _ _ _ _ a2 a3 (by rw [u]; omega) (by rw [u]; omega) (by rw [v]; omega) (by rw [v]; omega) (by rw [v]; omega) (by rw [v]; omega)
 |d5=>cases hσ; obtain ⟨a1,a2,a3,_⟩:=hw; exact dev _ _ _ _ _ _ _ a2 a3 (by rw [v]; omega) (by rw [v]; omega) (by rw [v]; omega) (by rw [v]; omega) (by rw [v]; omega) (by rw [v]; omega)
 |d3=>cases hσ; obtain ⟨a1,a2,a3,_⟩:=hw; exact dev _ _ _ _ _ _ _ a2 a3 (by rw [v]; omega) (by rw [v]; omega) (by rw [v]; omega) (by rw [v]; omega) (by rw [v]; omega) (by rw [v]; omega)
 |D=>
  cases hσ;obtain ⟨a1,a2,a3,a4,a5,a6,a7⟩:=hw;rw [e1] at a3
  have er:0<=(jU coh).ev ρ/\(jU coh).ev ρ<=999/\(kk=0->(jU coh).ev ρ=ρ.i 2):=by
   rw [e3] at a7 ⊢;split at a7<;>rename_i hk
   ·rw [if_pos hk]; omega
   ·rw [if_neg hk]; omega
  have x:Okb (ρ.rep (UZ coh)):={
   l:=⟨show -10000<=(cy coh).ev ρ by omega,show (cy coh).ev ρ<=10000 by omega⟩
   r:=⟨show (0:Int)<=(jU coh).ev ρ+1 by omega,show (jU coh).ev ρ+1<=1000 by omega⟩
   s:=⟨show 0<=ρ.i 28 by omega,show ρ.i 28<=ρ.i 25 by omega⟩
   t:=show ρ.i 25<=8 by omega
   o:=⟨show 0<=ρ.i 41 by omega,show ρ.i 41<=100000000 by omega⟩
   n:=⟨show 0<=ρ.i 43+1 by omega,show ρ.i 43+1<=100000000 by omega⟩
   z:=⟨show (0:Int)<=0 by omega,show (0:Int)<=1 by omega⟩
   pn:=show ρ.i 43+1+((cy coh).ev ρ*1002-((jU coh).ev ρ+1)-0)<=100000000 by omega
   po:=show ρ.i 41+((cy coh).ev ρ*1002-((jU coh).ev ρ+1)-0)<=100000000 by omega}
  exact ⟨x,show 0<=(cy coh).ev ρ*1002-((jU coh).ev ρ+1)-0 by omega,show (cy coh).ev ρ*1002-((jU coh).ev ρ+1)-0<ρ.i 3*1002-ρ.i 2-ρ.i 26 by omega⟩
theorem Hk{ρ:Env}(h1:ρ.std G gh)(coh:Bool): ∃r:Rnd,r.when coh ρ/\(match r.next coh with
 |some σ=>(FB coh).alike G ((FB coh).x.ev ρ) ((FB coh).x.ev (ρ.rep σ))
 |none=>Gs G (FB coh) ((FB coh).x.ev ρ) (r.val coh true ρ)):=by
 obtain ⟨r,hw,hp⟩:=pP coh true ρ;have hs:=TP (Hp hG coh) h1.1;rw [hp] at hs;refine ⟨r,hw,?_⟩;cases r with
 |A=>exact hs
 |L=>exact hs
 |S=>exact hs
 |d1=>show (FB coh).alike G _ ((FB coh).x.ev (ρ.rep (σ1 coh))); unfold σ1 E5; rw [zu]; exact hs
 |d2=>show (FB coh).alike G _ ((FB coh).x.ev (ρ.rep (σ2 coh))); unfold σ2 E5; rw [zu]; exact hs
 |d5=>show (FB coh).alike G _ ((FB coh).x.ev (ρ.rep (σ5 coh))); unfold σ5 E5; rw [zu]; exact hs
 |d3=>show (FB coh).alike G _ ((FB coh).x.ev (ρ.rep (σ3 coh))); unfold σ3 E5; rw [zu]; exact hs
 |D=>show (FB coh).alike G _ ((FB coh).x.ev (ρ.rep (UZ coh))); unfold UZ; rw [zu]; exact hs
theorem NL{coh:Bool}{P:Env->Prop}(hend: ∀(ρ:Env) (r:Rnd),ρ.std G gh->Okb ρ->(0<ρ.i 3-> ∃kk,Nums coh ρ kk)->r.when coh ρ->r.next coh=none->Gs G (FB coh) ((FB coh).x.ev ρ) (r.val coh true ρ)->P ρ)
 (hstep: ∀(ρ:Env) (r:Rnd) (σ:Nat->IE) (kk:Int),ρ.std G gh->Okb ρ->Nums coh ρ kk->r.when coh ρ->r.next coh=some σ->(FB coh).alike G ((FB coh).x.ev ρ) ((FB coh).x.ev (ρ.rep σ))->Okb (ρ.rep σ)->0<=muN (ρ.rep σ)->muN (ρ.rep σ)<muN ρ->P (ρ.rep σ)->P ρ): ∀ρ:Env,ρ.std G gh->Okb ρ->P ρ:=by
 have key: ∀m:Nat,∀ρ:Env,ρ.std G gh->Okb ρ->(muN ρ).toNat<m->P ρ:=by
  intro m
  induction m with
  |zero=>intro ρ _ _ h; omega
  |succ m ih=>
   intro ρ h1 h2 hm;obtain ⟨r,hw,hs⟩:=Hk hG h1 coh;cases hn:r.next coh with
   |none=>
    rw [hn] at hs;exact hend ρ r h1 h2 (YW hG h1 coh h2) hw hn hs
   |some σ=>
    rw [hn] at hs
    have h0:0<ρ.i 3:=by
     cases r<;>first |exact hw.1 |cases hn
    obtain ⟨kk,hk⟩:=YW hG h1 coh h2 h0;obtain ⟨a1,a2,a3⟩:=Va h2 hk hw hn;exact hstep ρ r σ kk h1 h2 hk hw hn hs a1 a2 a3 (ih (ρ.rep σ) h1 a1 (by omega))
 exact fun ρ h1 h2=>key _ ρ h1 h2 (Nat.lt_succ_self _)
end
theorem sQ{ρ:Env}: ∀(l:List IE) (j:Nat) (acc:IE) (m:Nat),m<j->ag ((fJ j acc l).ev ρ) (m:Nat)=ag (acc.ev ρ) (m:Nat)
 | [],_,_,_,_=>rfl
 |e::l,j,acc,m,h=>by
  show ag ((fJ (j+1) (dG 1 acc (.lit (.ofNat j)) e) l).ev ρ) (m:Nat)=_;rw [sQ l (j+1) _ m (by omega),cz]
  exact aI (acc.ev ρ) (e.ev ρ) (by omega)
theorem qK{ρ:Env}: ∀(l:List IE) (j:Nat) (acc:IE),(∀ e∈l,fE (e.ev ρ))-> ∀(i:Nat) (e:IE),l[i]? =some e->ag ((fJ j acc l).ev ρ) (j+i:Nat)=e.ev ρ
 | [],_,_,_,i,e,he=>by simp at he
 |x::l,j,acc,hl,i,e,he=>by
  show ag ((fJ (j+1) (dG 1 acc (.lit (.ofNat j)) x) l).ev ρ) (j+i:Nat)=_;cases i with
  |zero=>
   cases he;rw [sQ l (j+1) _ _ (by omega),cz]
   have hx:=hl x (List.mem_cons_self ..);have:=eW (acc.ev ρ) (x.ev ρ) j j hx.1 hx.2;rw [if_pos rfl] at this;exact this
  |succ i=>
   rw [show j+(i+1)=j+1+i by omega]
   exact qK l (j+1) _ (fun e h=>hl e (List.mem_cons_of_mem _ h)) i e (by simpa using he)
theorem xF(k:IntKind)(x:Int):fE (k.wrap x):=ez (wrap_mem k x).1 (wrap_mem k x).2
theorem adn{ρ:Env}(e:IE):(mx0 e).ev ρ=max (e.ev ρ) 0:=by
 show aA true (e.ev ρ) 0 0 (e.ev ρ)=_;unfold aA;simp only [if_true];split<;>omega
def og(coh:Bool)(e:Nat->IE):Bool:=(List.range 24).all fun j=>fits (D3 j) (rng (fun _=>none) (xz coh e j))
theorem yX{coh:Bool}{e:Nat->IE}(h:og coh e=true){ρ:Env}{j:Nat}(hj:j<24):kLo (D3 j)<=(xz coh e j).ev ρ/\(xz coh e j).ev ρ<=kHi (D3 j):=
 ep (bd:=fun _=>none) (fun i lo hi h=>by cases h) (List.all_eq_true.1 h j (List.mem_range.2 hj))
theorem ac0{coh:Bool}{e:Nat->IE}(h:og coh e=true)(hp:nt coh e=fJ 0 (.lit 0) ((List.range 24).map (xz coh e))){ρ:Env}{j:Nat}(hj:j<24):dgN (D3 j) ((nt coh e).ev ρ) j=(xz coh e j).ev ρ:=by
 have hb:=yX h (ρ:=ρ) hj
 have hg:((List.range 24).map (xz coh e))[j]? =some (xz coh e j):=by
  rw [List.getElem?_map,List.getElem?_range hj]; rfl
 have:=qK (ρ:=ρ) ((List.range 24).map (xz coh e)) 0 (.lit 0) (fun x hx=>by
  obtain ⟨i,hi,rfl⟩:=List.mem_map.1 hx;have:=yX h (ρ:=ρ) (List.mem_range.1 hi);exact ez this.1 this.2) j _ hg
 rw [Nat.zero_add] at this;unfold dgN;rw [hp,this];exact bI _ _ hb.1 hb.2
def abr(coh:Bool):Rnd->IE
 | .d1=>zo coh
 | .d2=> .wrap .u32 (.fn 0 (.var 24) (.var 28) (.lit 0))
 | .d3=> .wrap .u32 bL
 |_=> .lit 0
theorem EL:([true,false].all fun coh=>og coh (N5 coh)&&[Rnd.d1,.d2,.d5,.d3].all fun r=>og coh (zG coh (abr coh r)))=true:=by kernel_rfl
theorem YJ(coh:Bool):og coh (N5 coh)=true:=by
 have:=List.all_eq_true.1 EL coh (by cases coh<;>simp)
 exact (aa this).1
theorem YD(coh:Bool){r:Rnd}(hr:r∈[Rnd.d1,.d2,.d5,.d3]):og coh (zG coh (abr coh r))=true:=by
 have:=List.all_eq_true.1 EL coh (by cases coh<;>simp)
 exact List.all_eq_true.1 (aa this).2 r hr
theorem acz(coh:Bool):nt coh (N5 coh)=fJ 0 (.lit 0) ((List.range 24).map (xz coh (N5 coh))):=by cases coh<;>rfl
theorem Zo(coh:Bool)(v:IE):nt coh (zG coh v)=fJ 0 (.lit 0) ((List.range 24).map (xz coh (zG coh v))):=by cases coh<;>rfl
def DX(G:Nat->Int->Int->Int->Int)(F:Fns)(X:Int)(k:IntKind)(j:Nat):Int:=dgN k (G F.KR X 0 0) j
section
variable{G:Nat->Int->Int->Int->Int}{F:Fns}{X Y:Int}{l:List Int}
theorem C6(h:F.is G X l){k:IntKind}{j:Nat}{v:Int}(hv:l[j]? =some v)(h1:kLo k<=v)(h2:v<=kHi k):DX G F X k j=v:=by
 unfold DX dgN;rw [h.1,cP l j _ hv (ez h1 h2)];exact bI k _ h1 h2
theorem Wb(h:F.is G X l){j:Nat}{v:Int}(hv:l[j]? =some v):G F.KV X 0 (j:Nat)=v:=by
 rw [h.2,Int.toNat_natCast];simp [List.getD_eq_getElem?_getD,hv]
theorem iM(h:F.alike G X Y)(k:IntKind)(j:Nat):DX G F X k j=DX G F Y k j:=by
 unfold DX;rw [h.1]
theorem Ff(h:F.alike G X Y)(z:Int):G F.KV X 0 z=G F.KV Y 0 z:=h.2 z
end
structure BInv (G:Nat->Int->Int->Int->Int) (coh:Bool) (ρ:Env) (X:Int):Prop where
 s0:ρ.i 28<=DX G (FB coh) X .u8 25
 s1:DX G (FB coh) X .u8 25<=ρ.i 25
 l:DX G (FB coh) X .i8 26=ρ.i 25-DX G (FB coh) X .u8 25
 o0:ρ.i 41<=DX G (FB coh) X .u32 27
 o1:DX G (FB coh) X .u32 27<=ρ.i 41+max 0 (muN ρ)
 n0:ρ.i 43<=DX G (FB coh) X .u32 29
 n1:DX G (FB coh) X .u32 29<=ρ.i 43+max 0 (muN ρ)
 z:G (FB coh).KV X 0 28=0\/G (FB coh).KV X 0 28=1
 hd: ∀p q:Int,bS p q (ρ.i 0)->bS p q (G (FB coh).KV X 0 24)
section
variable{G:Nat->Int->Int->Int->Int}(hG:RunG G)
include hG
theorem N7(coh:Bool): ∀ρ:Env,ρ.std G gh->Okb ρ->BInv G coh ρ ((FB coh).x.ev ρ):=by
 refine NL hG (coh:=coh) (P:=fun ρ=>BInv G coh ρ ((FB coh).x.ev ρ)) (fun ρ r h1 h2 h3 hw hn hs=> ?_) fun ρ r σ kk h1 h2 h3 hw hn ha h4 h5 h6 ih=> ?_
 ·obtain ⟨l,r0,s,t,o,n,z,pn,po⟩:=h2
  have done: ∀(st:List IE) (M oc ec stop nn:IE),(∀ p q:Int,bS p q (ρ.i 0)->bS p q (M.ev ρ))->st.length=24->(stop.ev ρ=0\/stop.ev ρ=1)->ρ.i 43<=nn.ev ρ->nn.ev ρ<=ρ.i 43+max 0 (muN ρ)->nn.ev ρ<=100000000->(FB coh).is G ((FB coh).x.ev ρ) ((st++[M,.var 28,bL,.var 41,stop,nn,.lit 0,.lit 0,oc,ec]).map (·.ev ρ))->BInv G coh ρ ((FB coh).x.ev ρ):=fun st M oc ec stop nn hM hl q1 q2 q3 q4 h=>by
   have at': ∀i:Nat,((st++[M,.var 28,bL,.var 41,stop,nn,.lit 0,.lit 0,oc,ec]).map (·.ev ρ))[24+i]? =([M,.var 28,bL,.var 41,stop,nn,.lit 0,.lit 0,oc,ec].map (·.ev ρ))[i]? :=fun i=>by
    rw [List.map_append,List.getElem?_append_right (by simp [hl]),List.length_map,hl,Nat.add_sub_cancel_left]
   have e25:DX G (FB coh) ((FB coh).x.ev ρ) .u8 25=ρ.i 28:=C6 h (at' 1) (show (0:Int)<=ρ.i 28 by omega) (show ρ.i 28<=255 by omega)
   have e26:DX G (FB coh) ((FB coh).x.ev ρ) .i8 26=ρ.i 25-ρ.i 28:=C6 h (at' 2) (show (-128:Int)<=ρ.i 25-ρ.i 28 by omega) (show ρ.i 25-ρ.i 28<=127 by omega)
   have e27:DX G (FB coh) ((FB coh).x.ev ρ) .u32 27=ρ.i 41:=C6 h (at' 3) (show (0:Int)<=ρ.i 41 by omega) (show ρ.i 41<=4294967295 by omega)
   have e24:G (FB coh).KV ((FB coh).x.ev ρ) 0 24=M.ev ρ:=Wb h (at' 0);have e28:G (FB coh).KV ((FB coh).x.ev ρ) 0 28=stop.ev ρ:=Wb h (at' 4);have e29:DX G (FB coh) ((FB coh).x.ev ρ) .u32 29=nn.ev ρ:=C6 h (at' 5) (show (0:Int)<=nn.ev ρ by omega) (show nn.ev ρ<=4294967295 by omega)
   exact ⟨by rw [e25]; omega,by rw [e25]; omega,by rw [e26,e25],by rw [e27]; omega,by rw [e27]; omega,by rw [e29]; exact q2,by rw [e29]; exact q3,by rw [e28]; exact q1,fun p q h0=>by rw [e24]; exact hM p q h0⟩
  have hst:kG.ev ρ=0\/kG.ev ρ=1:=by
   show aA false (ρ.i 26) 1 1 0=0\/aA false (ρ.i 26) 1 1 0=1;unfold aA;simp only [Bool.false_eq_true,if_false];split
   ·exact .inr rfl
   ·exact .inl rfl
  have v: ∀i,(IE.var i).ev ρ=ρ.i i:=fun _=>rfl
  cases r with
  |A=>exact done (stE (.var 90)) (.var 0) _ _ _ _ (fun _ _ h0=>h0) rfl hst (by rw [v]; omega) (by rw [v]; omega) (by rw [v]; omega) hs
  |L=>exact done (zE coh) (fS coh) _ _ _ _ (fun _ _ h0=>yu hG h1 coh h0) rfl hst (by rw [v]; omega) (by rw [v]; omega) (by rw [v]; omega) hs
  |S=>
   have u:(up 43).ev ρ=ρ.i 43+1:=rfl;obtain ⟨w1,w2,w3,_⟩:=hw;have hmu:1<=muN ρ:=by unfold muN; omega
   exact done (zE coh) (fS coh) _ _ _ _ (fun _ _ h0=>yu hG h1 coh h0) rfl (.inr rfl) (by rw [u]; omega) (by rw [u]; omega) (by rw [u]; omega) hs
  |_=>cases hn
 ·obtain ⟨s0,s1,l,o0,o1,n0,n1,z,hh⟩:=ih
  have tr: ∀s' o' n':Int,(ρ.rep σ).i 0=(fS coh).ev ρ->(ρ.rep σ).i 28=s'->(ρ.rep σ).i 41=o'->(ρ.rep σ).i 43=n'->(ρ.rep σ).i 25=ρ.i 25->ρ.i 28<=s'->ρ.i 41<=o'->ρ.i 43<=n'->o'+muN (ρ.rep σ)<=ρ.i 41+muN ρ->n'+muN (ρ.rep σ)<=ρ.i 43+muN ρ->BInv G coh ρ ((FB coh).x.ev ρ):=fun s' o' n' e0 e1 e2 e3 e4 q1 q2 q3 q4 q5=>by
   rw [e1] at s0;rw [e4] at s1 l;rw [e2] at o0 o1;rw [e3] at n0 n1;refine ⟨?_,?_,?_,?_,?_,?_,?_,?_,fun p q h0=> ?_⟩
   ·rw [iM ha]; omega
   ·rw [iM ha]; omega
   ·rw [iM ha,iM ha]; exact l
   ·rw [iM ha]; omega
   ·rw [iM ha]; omega
   ·rw [iM ha]; omega
   ·rw [iM ha]; omega
   ·rw [Ff ha]; exact z
   ·rw [Ff ha];exact hh p q (by rw [e0]; exact yu hG h1 coh h0)
  have m1:muN (ρ.rep σ)+1<=muN ρ:=by omega
  cases r with
  |d1=>cases hn; exact tr _ _ _ rfl rfl rfl rfl rfl (Int.le_refl _) (show ρ.i 41<=ρ.i 41+1 by omega) (show ρ.i 43<=ρ.i 43+1 by omega) (show ρ.i 41+1+_<=_ by omega) (show ρ.i 43+1+_<=_ by omega)
  |d2=>cases hn; exact tr _ _ _ rfl rfl rfl rfl rfl (show ρ.i 28<=ρ.i 28+1 by omega) (Int.le_refl _) (Int.le_refl _) (show ρ.i 41+_<=_ by omega) (show ρ.i 43+_<=_ by omega)
  |d5=>cases hn; exact tr _ _ _ rfl rfl rfl rfl rfl (Int.le_refl _) (Int.le_refl _) (Int.le_refl _) (show ρ.i 41+_<=_ by omega) (show ρ.i 43+_<=_ by omega)
  |d3=>cases hn; exact tr _ _ _ rfl rfl rfl rfl rfl (Int.le_refl _) (Int.le_refl _) (Int.le_refl _) (show ρ.i 41+_<=_ by omega) (show ρ.i 43+_<=_ by omega)
  |D=>cases hn; exact tr _ _ _ rfl rfl rfl rfl rfl (Int.le_refl _) (Int.le_refl _) (show ρ.i 43<=ρ.i 43+1 by omega) (show ρ.i 41+_<=_ by omega) (show ρ.i 43+1+_<=_ by omega)
  |_=>cases hn
end
def xB:IE:=uS [.var 0,.var 90,.var 3,.lit 0,.var 24,.var 28,.var 25,.var 40,.var 41,kG,.lit 0,.lit 0]
def dB(coh:Bool)(k:IntKind)(j:Nat):IE:=dX (FB coh).KR xB k j
def vB(coh:Bool)(j:Nat):IE:=vX (FB coh).KV xB j
def r9(coh:Bool):IE:= .rem (dB coh .u8 25) (.lit 9)
def sX(coh:Bool):IE:= .sel true (.var 25) (r9 coh) (.var 25) (r9 coh)
def oX(coh:Bool):IE:= .add (.var 41) (.rem (.wrap .u32 (.sub (dB coh .u32 27) (.var 41))) (.lit 1002001))
def nX(coh:Bool):IE:= .rem (dB coh .u32 29) (.lit 1002001)
def hE(j:Int):IE:= .fn 0 (.var 0) (.lit j) (.lit 0)
def PD(coh:Bool):IE:= .fn 1 (.fn 1 (vB coh 24) (.lit 3) (hE 3)) (.lit 7) (hE 7)
def inX(coh:Bool)(j:Nat):ab:= .sliceS j (sX coh) (.sub (.var 25) (sX coh)) 1 false
def Uj(coh:Bool)(j:Nat):ab:= .sliceA j (oX coh) 1
def JE(coh:Bool):ab:= .bool (.eq (vB coh 28) (.lit 1))
def KF(coh:Bool):ah:= .arr [.u32] (vB coh 32) (oX coh) true
def U9(coh:Bool):ah:= .arr Df (vB coh 33) (nX coh) true
def evX(coh:Bool)(j:Nat):ab:= .sliceA j (nX coh) 27
def stX(coh:Bool):List ab:=dXL (FB coh).KR xB aW 0
def Gj:List (Nat×Int×Int):=[(3,-1000,1000),(28,0,8),(25,0,8),(41,0,50000000),(26,0,1)]
def Co:Dec:=[(.lt (.var 25) (.var 28),false)]
def Tx:List ab:=[pm,.int .i64 (.var 3)]
def cBQ:Con:={g:=24,args:=Tx,os:=[kH (.iface qPT (.ptr (some (1,0)))) (inS 2) (im 3) dF,dZ 1 (.var 0),inN,gL],bds:=Gj,pre:=Co,res:=evX false 5,os':=[kH (.iface qPT (.ptr (some (1,0)))) (inX false 2) (Uj false 4) (JE false),.ghost 1 [PD false] (aX (stX false) 2),inN,ld,KF false,U9 false]}
def cBK:Con:={g:=24,args:=Tx,os:=[kH (.iface kPT (.ptr (some (1,0)))) (inS 3) (im 4) dF,nH (b9 (.var 90)) 2,dZ 0 (.var 0),inN,gL],bds:=Gj,pre:=Co,res:=evX true 6,os':=[kH (.iface kPT (.ptr (some (1,0)))) (inX true 3) (Uj true 5) (JE true),nH (stX true) 2,.ghost 0 [PD true] .nil,inN,ld,KF true,U9 true]}
def LF:Con:={g:=16,args:=Tx,os:=[fx [.ptr none,.ptr (some (1,0))] (inS 3) (im 4) dF,pj (b9 (.var 90)) 2,dZ 2 (.var 0),inN,gL],bds:=Gj,pre:=Co,res:=evX false 6,os':=[fx [.ptr none,.ptr (some (1,0))] (inX false 3) (Uj false 5) (JE false),pj (stX false) 2,.ghost 2 [PD false] .nil,inN,ld,KF false,U9 false]}
def MM:Con:={g:=16,args:=Tx,os:=[fx [.ptr (some (1,0)),.ptr none] (inS 3) (im 4) dF,nd (b9 (.var 90)) 2,dZ 2 (.var 0),inN,gL],bds:=Gj,pre:=Co,res:=evX true 6,os':=[fx [.ptr (some (1,0)),.ptr none] (inX true 3) (Uj true 5) (JE true),nd (stX true) 2,.ghost 2 [PD true] .nil,inN,ld,KF true,U9 true]}
def obB(coh:Bool):List (Dec×IE×IE):=[([],sX coh,dB coh .u8 25),([],.sub (.var 25) (sX coh),dB coh .i8 26),([],oX coh,dB coh .u32 27),([],nX coh,dB coh .u32 29),([],PD coh,vB coh 24)]
def DZ(c:Con)(l:ba)(coh:Bool):Bool:=(c.tree PR ⟨[],[l]⟩ 20 aG no' 12 []).all (c.leaf (qX (bdL c.bds) 12 (obB coh))) c.pre&&c.wf
theorem nR:(DZ cBQ pY false&&(DZ cBK qn true&&(DZ LF jG false&&DZ MM jM true)))=true:=by kernel_rfl
end
end Go.Proofs.YtbhlmedfhilkbaaGreat
