/- BoardSame: cases. No condition. -/
import Derived.Test.YtbhlmedfhilkbaaGreatVi1
import Derived.Test.YtbhlmedfhilkbaaGreatSm2a
set_option linter.unusedSimpArgs false
set_option linter.unusedVariables false
set_option linter.unusedSectionVars false
namespace Go.Proofs.YtbhlmedfhilkbaaGreat
open Go Go.Sx
set_option maxRecDepth 1000000
noncomputable section
theorem sam_c0:rSam false true 0=true:=by kernel_rfl
theorem sam_c1:rSam false true 1=true:=by kernel_rfl
theorem sam_c2:rSam false true 2=true:=by kernel_rfl
theorem sam_c3:rSam false true 3=true:=by kernel_rfl
theorem sam_c4:rSam false true 4=true:=by kernel_rfl
theorem sam_c5:rSam false true 5=true:=by kernel_rfl
theorem sam_c6:rSam false true 6=true:=by kernel_rfl
end
end Go.Proofs.YtbhlmedfhilkbaaGreat
namespace Go.Proofs.YtbhlmedfhilkbaaGreat
open Go Go.Sx
set_option maxRecDepth 1000000
noncomputable section
theorem sam_d0:rSam false false 0=true:=by kernel_rfl
theorem sam_d1:rSam false false 1=true:=by kernel_rfl
theorem sam_d2:rSam false false 2=true:=by kernel_rfl
theorem sam_d3:rSam false false 3=true:=by kernel_rfl
theorem sam_d4:rSam false false 4=true:=by kernel_rfl
theorem sam_d5:rSam false false 5=true:=by kernel_rfl
theorem sam_d6:rSam false false 6=true:=by kernel_rfl
end
end Go.Proofs.YtbhlmedfhilkbaaGreat
namespace Go.Proofs.YtbhlmedfhilkbaaGreat
open Go Go.Sx
set_option maxRecDepth 1000000
noncomputable section
theorem l1_at(coh l:Bool):((tL1 coh l).all ((cLaid1 coh l).gG (FL1 coh) (hL coh)) (cLaid1 coh l).pre&&(cLaid1 coh l).wf)=true:=
 List.all_eq_true.1 (List.all_eq_true.1 l1_fit coh (by cases coh<;>simp)) l (by cases l<;>simp)
theorem leaf_at{c:Con}{t:Out}{f:Dec}(h:t.all (c.leaf (qP (bdL c.bds) 12)) (f++c.pre)=true){ρ:Env}(h2:ρ.ok (bdL c.bds))(h3:c.pre.holds ρ)(hf:f.holds ρ): ∃e s at' q,t.pick ρ=some (e,s)/\c.ends at' s=some q/\q.hold ρ:=by
 obtain ⟨e,s,dec',hd',p1,p2⟩:=Out.bP (bJ hf h3) h
 unfold Con.leaf at p2
 split at p2
 ·rename_i q hq
  exact ⟨e,s,_,q,p1,hq,f7 (fun a b hab=>uR h2 hd' hab) p2⟩
 ·cases p2
theorem eq_at(prog:Bool){k:Nat}(hk:k∈[1,2,3]):eqOk prog k true=true/\eqOk prog k false=true/\(cEL prog k).wf=true/\fq (cEq prog k) ⟨[],[eqLoop prog (cEL prog k)]⟩ 40 12 12=true/\(cEq prog k).wf=true:=by
 have h:=List.all_eq_true.1 (List.all_eq_true.1 eq_all prog (by cases prog<;>simp)) k hk
 simpa only [eqAll,Bool.and_eq_true] using h
section
variable{G:Nat->Int->Int->Int->Int}
theorem eqL_ok(prog:Bool){k:Nat}(hk:k∈[1,2,3]):(cEL prog k).wf=true/\(eqLoop prog (cEL prog k)).Ok PR G gh:=by
 obtain ⟨t1,t0,wf,_,_⟩:=eq_at prog hk
 have hsl:(eqLoop prog (cEL prog k)).sl.length=(eqLoop prog (cEL prog k)).con.args.length:=by
  simp only [List.mem_cons,List.not_mem_nil,or_false] at hk
  rcases hk with rfl |rfl |rfl<;>cases prog<;>rfl
 refine ⟨wf,ba.OX (L:=40) (pol:=aG) (pure:=no') (d:=12) (μ:=μE k) mixed wf hsl fun ρ h1 h2 h3=> ?_⟩
 have fin: ∀b,eqOk prog k b=true->(eqFac b k).holds ρ-> ∃(K:Know) (facts:Dec),K.Ok PR G gh/\facts.holds ρ/\ ∃e s at' q,((eqLoop prog (cEL prog k)).tree PR K 40 aG no' 12 facts (μE k)).pick ρ=some (e,s)/\(eqLoop prog (cEL prog k)).con.ends at' s=some q/\q.hold ρ:=fun b hb hf=>
  ⟨⟨[],[]⟩,eqFac b k,bc,hf,leaf_at hb h2 h3 hf⟩
 have h2':ρ.ok (bdL (cEL prog k).bds):=h2
 have h3':(cEL prog k).pre.holds ρ:=h3
 simp only [List.mem_cons,List.not_mem_nil,or_false] at hk
 rcases hk with rfl |rfl |rfl
 ·have b25:0<=ρ.i 25/\ρ.i 25<=8:=h2' 25 0 8 rfl
  by_cases hi:ρ.i 26<ρ.i 25-ρ.i 28
  ·exact fin true t1 (ak (decide_eq_true hi) (ak (decide_eq_true (show ρ.i 28+ρ.i 26<ρ.i 25 by omega)) aw))
  ·exact fin false t0 (ak (decide_eq_false hi) aw)
 ·have b25:0<=ρ.i 25/\ρ.i 25<=8:=h2' 25 0 8 rfl
  have b28:0<=ρ.i 28/\ρ.i 28<=8:=h2' 28 0 8 rfl
  have b26:0<=ρ.i 26/\ρ.i 26<=8:=h2' 26 0 8 rfl
  by_cases hi:ρ.i 26<ρ.i 25-ρ.i 28
  ·refine fin true t1 (ak (decide_eq_true hi) (ak (decide_eq_true (show ρ.i 28+ρ.i 26<ρ.i 25 by omega)) (ak (decide_eq_true ?_) aw)))
   show IntKind.u32.wrap (ag (ρ.i 24) (ρ.i 28+ρ.i 26))=IntKind.u32.wrap (ag (aY (ρ.i 24) (ρ.i 28) (ρ.i 25-ρ.i 28)) (ρ.i 26))
   rw [Ft b28.1 (by omega) b26.1 hi]
  ·exact fin false t0 (ak (decide_eq_false hi) aw)
 ·by_cases hi:ρ.i 26<ρ.i 41
  ·exact fin true t1 (ak (decide_eq_true hi) aw)
  ·exact fin false t0 (ak (decide_eq_false hi) aw)
theorem cEq_ok(prog:Bool){k:Nat}(hk:k∈[1,2,3]):(cEq prog k).Ok PR G gh:=by
 obtain ⟨_,_,_,r,_⟩:=eq_at prog hk
 exact bA (ia rfl dj (lpC (eqL_ok (G:=G) prog hk).1 (eqL_ok prog hk).2 lpN)) r
theorem cV1_ok:cV1.Ok PR G gh:=by
 have h:=aa v1_run
 have w:lV1.con.wf=true:=(aa h.2).1
 have hL:cV1L.Leaves G gh tV1:=Con.vG (c:=cV1L) [] (fun _ _ _ _=>aw) _ (fun ρ h1 h2 h3 dec a b hd hab=>uR h2 hd hab) h.1
 unfold tV1 at hL
 have l:lV1.Ok PR G gh:=ba.f6 (c:=lV1) mixed (K:=⟨[],[]⟩) bc w rfl (L:=40) (pol:=aG) (pure:=no') (d:=12) (facts:=[]) (fun _ _ _ _=>aw) hL
 exact bA (ia rfl dj (lpC w l lpN)) (aa (aa h.2).2).1
theorem wrap_ne{x:Int}(h:0<=x/\x<=4294967295):x≠IntKind.u32.wrap (x+1):=by
 rw [dM]
 simp only [rq]
 omega
/-- The digits of two lists of events, of which the last one's R[3] differs. -/
theorem evQ_ev{ρ:Env}{i n:Nat}(hi:ρ.i 2=(i:Int))(hn:ρ.i 43=((n+1:Nat):Int))(hin:i<=n)(j:Nat)(hj:j<27):(evQ j).ev ρ= !(decide (i=n)&&Nat.beq j 7):=by
 have elast:lastP.ev ρ=((n*27+7:Nat):Int):=by
  show (ρ.i 43-1)*27+7=_
  rw [hn]
  omega
 have eq:(vPos j).ev ρ=((i*27+j:Nat):Int):=by
  have:(vPos j).ev ρ=ρ.i 2*27+((j:Nat):Int):=by
   cases j with
   |zero=>show ρ.i 2*27=_; omega
   |succ j=>rfl
  rw [this,hi]
  omega
 have ec:evC.ev ρ=aD (ρ.i 42) ((n*27+7:Nat):Int) (IntKind.u32.wrap (IntKind.u32.wrap (ag (ρ.i 42) ((n*27+7:Nat):Int))+1)):=by
  show aD (ρ.i 42) (lastP.ev ρ) (IntKind.u32.wrap (IntKind.u32.wrap (ag (ρ.i 42) (lastP.ev ρ))+1))=_
  rw [elast]
 have e:(evQ j).ev ρ=decide ((evKd j).wrap (ag (ρ.i 42) ((i*27+j:Nat):Int))=(evKd j).wrap (ag (aD (ρ.i 42) ((n*27+7:Nat):Int) (IntKind.u32.wrap (IntKind.u32.wrap (ag (ρ.i 42) ((n*27+7:Nat):Int))+1))) ((i*27+j:Nat):Int))):=by
  show decide ((evKd j).wrap (ag (ρ.i 42) ((vPos j).ev ρ))=(evKd j).wrap (ag (evC.ev ρ) ((vPos j).ev ρ)))=_
  rw [eq,ec]
 rw [e]
 by_cases h:i*27+j=n*27+7
 ·have h1:i=n:=by omega
  have h2:j=7:=by omega
  subst h1 h2
  have hx:=wrap_mem .u32 (ag (ρ.i 42) ((i*27+7:Nat):Int))
  have hw:=xF .u32 (IntKind.u32.wrap (ag (ρ.i 42) ((i*27+7:Nat):Int))+1)
  have hs:=eW (ρ.i 42) (IntKind.u32.wrap (IntKind.u32.wrap (ag (ρ.i 42) ((i*27+7:Nat):Int))+1)) (i*27+7) (i*27+7) hw.1 hw.2
  rw [if_pos rfl] at hs
  rw [hs]
  have hm:=wrap_mem .u32 (IntKind.u32.wrap (ag (ρ.i 42) ((i*27+7:Nat):Int))+1)
  have e7:evKd 7= .u32:=rfl
  rw [e7,bI .u32 _ hm.1 hm.2,decide_eq_false (wrap_ne ⟨hx.1,hx.2⟩),decide_eq_true rfl]
  rfl
 ·rw [aI _ _ h,decide_eq_true rfl]
  by_cases h1:i=n
  ·subst h1
   have h2:Nat.beq j 7=false:=by
    cases hb:Nat.beq j 7
    ·rfl
    ·exact absurd (Nat.eq_of_beq_eq_true hb) (fun h2=>h (by omega))
   rw [h2,Bool.and_false]
   rfl
  ·rw [decide_eq_false h1]
   rfl
theorem v2_at(prog:Bool):v2Ok prog true=true/\v2Ok prog false=true/\(cV2L prog).wf=true/\fq (cV2 prog) ⟨[],[lV2 prog]⟩ 40 12 12=true/\(cV2 prog).wf=true:=by
 have h:=v2_run
 simp only [v2All,Bool.and_eq_true] at h
 cases prog
 ·exact h.2
 ·exact h.1
theorem cV2_ok(prog:Bool):(cV2 prog).Ok PR G gh:=by
 obtain ⟨t1,t0,wf,r,_⟩:=v2_at prog
 have l:(lV2 prog).Ok PR G gh:=by
  refine ba.OX (L:=40) (pol:=aG) (pure:=no') (d:=12) (μ:= .sub (.var 43) (.var 2)) mixed wf (by cases prog<;>rfl) fun ρ h1 h2 h3=> ?_
  have h2':ρ.ok (bdL evLB):=h2
  have b43:0<=ρ.i 43/\ρ.i 43<=60000000:=h2' 43 _ _ rfl
  have b2:0<=ρ.i 2/\ρ.i 2<=60000000:=h2' 2 _ _ rfl
  have hlt:ρ.i 2<ρ.i 43:=of_decide_eq_true (h3 (.lt (.var 2) (.var 43),true) (List.mem_cons_self ..))
  obtain ⟨i,hi⟩:=Int.eq_ofNat_of_zero_le b2.1
  obtain ⟨m,hm⟩:=Int.eq_ofNat_of_zero_le b43.1
  obtain ⟨n,rfl⟩: ∃n,m=n+1:=⟨m-1,by omega⟩
  have fin: ∀last,v2Ok prog last=true->(last=true ↔ i=n)-> ∃(K:Know) (facts:Dec),K.Ok PR G gh/\facts.holds ρ/\ ∃e s at' q,((lV2 prog).tree PR K 40 aG no' 12 facts (.sub (.var 43) (.var 2))).pick ρ=some (e,s)/\(lV2 prog).con.ends at' s=some q/\q.hold ρ:=fun last ht hl=>by
   have hf:(facV2 last).holds ρ:=by
    refine ak ?_ fun p hp=> ?_
    ·have e:(BE.lt (.add (.var 2) (.lit 1)) (.var 43)).ev ρ=decide (ρ.i 2+1<ρ.i 43):=rfl
     rw [e]
     cases last
     ·have: ¬i=n:=fun h=>by have:=hl.2 h; cases this
      exact decide_eq_true (by omega)
     ·have:=hl.1 rfl
      exact decide_eq_false (by omega)
    ·obtain ⟨j,hj,rfl⟩:=List.mem_map.1 hp
     show (evQ j).ev ρ=_
     rw [evQ_ev hi hm (by omega) j (List.mem_range.1 hj)]
     have:decide (i=n)=last:=by
      cases last
      ·exact decide_eq_false fun h=>by have:=hl.2 h; cases this
      ·exact decide_eq_true (hl.1 rfl)
     rw [this]
   exact ⟨⟨[],[]⟩,facV2 last,bc,hf,leaf_at ht h2 h3 hf⟩
  by_cases h:i=n
  ·exact fin true t1 ⟨fun _=>h,fun _=>rfl⟩
  ·exact fin false t0 ⟨fun e=>(by cases e),fun e=>absurd e h⟩
 exact bA (ia rfl dj (lpC wf l lpN)) r
variable(hG:LawG G)
include hG
theorem cLaid1_ok(coh l:Bool):(cLaid1 coh l).Ok PR G gh:=by
 obtain ⟨h1,_⟩:=aa (l1_at coh l)
 have hk:7<(FL1 coh).KR/\7<(FL1 coh).KV:=by cases coh<;>decide
 have hc:bO PR G gh (lL1 coh):=by
  cases coh
  ·exact bO.cons (Mu hG.made).1 (Mu hG.made).2 bO.nil
  ·exact bO.cons (LW hG.made).1 (LW hG.made).2 bO.nil
 exact via_ok hc (facts:=[]) (fun _ _ _ _=>aw) (Con.lj (c:=cLaid1 coh l) [] (fun _ _ _ _=>aw) hk (t:=hL coh) h1 (Kp hG coh))
omit hG in
theorem kSm_wf:([true,false].all fun coh=>[true,false].all fun l=>(kSm coh l).cons.all Con.wf)=true:=by kernel_rfl
theorem kSm_ok(coh l:Bool):(kSm coh l).Ok PR G gh:=by
 have w:=List.all_eq_true.1 (List.all_eq_true.1 kSm_wf coh (by cases coh<;>simp)) l (by cases l<;>simp)
 have hB:=hG.made.base
 have rest:=aJ (cEq_ok (G:=G) true (k:=1) (by decide)) (aJ (cEq_ok true (k:=2) (by decide)) (aJ (cEq_ok true (k:=3) (by decide)) (aJ (cEq_ok false (k:=1) (by decide)) (aJ (cEq_ok false (k:=2) (by decide)) (aJ (cEq_ok false (k:=3) (by decide)) (aJ cV1_ok (aJ yo.2 (aJ (cV2_ok true) (aJ (cV2_ok false) dj)))))))))
 cases coh
 ·exact bB w (aJ (Fi false) (aJ ZL (aJ (cLaid1_ok hG false l) (aJ (Tv hG.toRunG).2 (aJ (Su hB).2 rest)))))
 ·exact bB w (aJ (Fi true) (aJ ZL (aJ (cLaid1_ok hG true l) (aJ (TN hG.toRunG).2 (aJ (QV hB).2 rest)))))
omit hG in
theorem sam_all: ∀(coh l:Bool) (k:Nat),k<7->rSam coh l k=true
 |true,true,0,_=>sam_a0
 |true,true,1,_=>sam_a1
 |true,true,2,_=>sam_a2
 |true,true,3,_=>sam_a3
 |true,true,4,_=>sam_a4
 |true,true,5,_=>sam_a5
 |true,true,6,_=>sam_a6
 |true,false,0,_=>sam_b0
 |true,false,1,_=>sam_b1
 |true,false,2,_=>sam_b2
 |true,false,3,_=>sam_b3
 |true,false,4,_=>sam_b4
 |true,false,5,_=>sam_b5
 |true,false,6,_=>sam_b6
 |false,true,0,_=>sam_c0
 |false,true,1,_=>sam_c1
 |false,true,2,_=>sam_c2
 |false,true,3,_=>sam_c3
 |false,true,4,_=>sam_c4
 |false,true,5,_=>sam_c5
 |false,true,6,_=>sam_c6
 |false,false,0,_=>sam_d0
 |false,false,1,_=>sam_d1
 |false,false,2,_=>sam_d2
 |false,false,3,_=>sam_d3
 |false,false,4,_=>sam_d4
 |false,false,5,_=>sam_d5
 |false,false,6,_=>sam_d6
 |_,_,k+7,h=>absurd h (by omega)
omit hG in
theorem facIn8_ok{ρ:Env}(h2:ρ.ok (bdL D8)){coh l:Bool}(hl:(many l).1.ev ρ=(many l).2):(facIn8 coh l).holds ρ:=by
 have hT:=lenT_ev h2 hl
 have h9:0<=(r9L coh l).ev ρ/\(r9L coh l).ev ρ<=8:=by
  have h0:0<=(dLaw coh l w30 .u8 25).ev ρ:=(wrap_mem .u8 _).1
  show 0<=((dLaw coh l w30 .u8 25).ev ρ).tmod 9/\((dLaw coh l w30 .u8 25).ev ρ).tmod 9<=8
  rw [Int.tmod_eq_emod_of_nonneg h0]
  omega
 have hs:0<=(sLaw coh l).ev ρ/\(sLaw coh l).ev ρ<=(PG l).ev ρ:=by
  cases l
  ·have e:(sLaw coh false).ev ρ=if ρ.i 27<(r9L coh false).ev ρ then ρ.i 27 else (r9L coh false).ev ρ:=rfl
   have hT:0<=ρ.i 27/\ρ.i 27<=8:=hT
   show 0<=(sLaw coh false).ev ρ/\(sLaw coh false).ev ρ<=ρ.i 27
   rw [e]
   split<;>omega
  ·exact ⟨h9.1,h9.2⟩
 have e:(inLaw coh l).ev ρ=(PG l).ev ρ-(sLaw coh l).ev ρ:=rfl
 refine ak ?_ (ak ?_ (ak ?_ (ak ?_ aw)))
 ·rw [cK h2,bE,e]
  exact decide_eq_false (by omega)
 ·rw [cK h2,e]
  exact decide_eq_false (show ¬_<(0:Int) by omega)
 ·rw [cK h2]
  exact decide_eq_false (show ¬_<(0:Int) by omega)
 ·rw [cK h2,e]
  exact decide_eq_false (show ¬(8:Int)<_ by omega)
theorem sams_ok:(Ti 3).Ok PR G gh:=ac2 hG fun coh l ρ h1 h2 h3=>by
 have h3': ∀p∈is2 coh::many l::(hd6 coh++(hdL coh++[])),p.1.ev ρ=p.2:=h3
 have hl:(many l).1.ev ρ=(many l).2:=h3' _ (List.mem_cons_of_mem _ (List.mem_cons_self ..))
 have hm:0<=mod8E.ev ρ/\mod8E.ev ρ<(8:Nat):=Yu (ρ.i 20) (m:=8) 8 rfl (by decide)
 have hf:=facIn8_ok h2 (coh:=coh) hl
 have go: ∀k,k<7->(caseM k).1.ev ρ=(caseM k).2->(XB 3 coh l []).vb (mw PR 3) ρ:=fun k hk hc=>
  bA (kSm_ok hG coh l) (sam_all coh l k hk) ρ h1 h2 (show ∀p∈is2 coh::many l::(hd6 coh++(hdL coh++(caseM k::facIn8 coh l))),p.1.ev ρ=p.2 from fun p hp=>by
   simp only [List.append_nil,List.mem_cons,List.mem_append] at hp h3'
   rcases hp with rfl |rfl |hp |hp |rfl |hp
   ·exact h3' _ (.inl rfl)
   ·exact h3' _ (.inr (.inl rfl))
   ·exact h3' _ (.inr (.inr (.inl hp)))
   ·exact h3' _ (.inr (.inr (.inr hp)))
   ·exact hc
   ·exact hf p hp)
 obtain ⟨k,hk⟩:=Int.eq_ofNat_of_zero_le hm.1
 by_cases h6:k<6
 ·exact go k (by omega) (match k,hk,h6 with
   |0,hk,_=>decide_eq_true hk
   |1,hk,_=>decide_eq_true hk
   |2,hk,_=>decide_eq_true hk
   |3,hk,_=>decide_eq_true hk
   |4,hk,_=>decide_eq_true hk
   |5,hk,_=>decide_eq_true hk
   |k+6,_,h=>absurd h (by omega))
 ·exact go 6 (by decide) (decide_eq_false (show ¬mod8E.ev ρ<6 by omega))
end
end
end Go.Proofs.YtbhlmedfhilkbaaGreat
