/- Part Uk1. No condition. -/
import Derived.Test.YtpdhneemedlgaaaGreatUe1
import Derived.Test.YtpdhneemedlgaaaGreatUn3
set_option linter.all false
namespace Go.Proofs.YtpdhneemedlgaaaGreat.te
open Go Go.Sx
open Go.RowKit (Below)
set_option maxRecDepth 1000000
noncomputable section
theorem lW{G:Nat->Int->Int->Int->Int}{GH:Nat->bz}{c:Con}(hlen:c.os.length<1000000)(hos:c.os'=c.os)(h: ∀(ρ:Env) (B:Nat->Prop) (W:World) (f:Ren) (w:World) (args':Array Value),ρ.std G GH->au ρ B W f (aF c.os 0 .nil) w->az ρ f c.args args'-> ∃v',ai ρ f c.res v'/\Calls PR c.g args' w fun e w'=>e= .returned v'/\Below w.heap.size w w'):c.Ok PR G GH:=by
 intro ρ h1 _ _ B W f w args' hr ha _;obtain ⟨v',hv,hc⟩:=h ρ B W f w args' h1 hr ha;refine hc.mono fun e w' ⟨he,hb⟩=>⟨v',he,f,Ren.le_refl f,fun _ _=>rfl,?_,hv⟩
 refine (hr.after hb).less fun i o hi=> ?_
 rw [hos] at hi
 rcases R4 _ _ _ _ _ hi with ⟨h0,h2,_⟩ |h0
 ·have:=aU c.os 0 i .nil o (by simpa using h2) (by omega)
  rwa [Nat.zero_add] at this
 ·rw [T.get_nil] at h0; cases h0
theorem au.Dz{ρ:Env}{B:Nat->Prop}{W w w':World}{f:Ren}{h h':T ah}(hr:au ρ B W f h w){i:Nat}{L:Sx.Loc}{o:ah}(hf:f i=none)(hb:Below w.heap.size w w')
 (hL:w.heap.size<=L.blk) (hlt:L.blk<w'.heap.size) (ho:c9 ρ (f.put i L) B w' L o) (hone: ∀b,o.aZ ρ w' L b->b=L.blk) (hh: ∀j x,h'.get j=some x->(j=i/\x=o)\/(j≠i/\h.get j=some x)):au ρ B W (f.put i L) h' w':=by
 have old: ∀k,k<w.heap.size->w'.heap[k]? =w.heap[k]? :=hb.block;have hB:=hr.bsize;have hs:=hr.below.size;have hsz:w.heap.size<=w'.heap.size:=hb.size;have cO:=fun j M ok hj hg=>(hr.obj j M ok hj hg).rP hsz (fun b hb=>old b ((hr.obj j M ok hj hg).lz hb))
 refine ⟨hr.below.trans ⟨hb.os,hb.tape,hb.output,hsz,fun k hk=>old k (by have:=hB k hk; omega)⟩,hr.bsize,?_,?_,?_⟩
 ·intro j M e
  by_cases hj:j=i
  ·subst hj; rw [Ren.cn] at e; cases e; exact hlt
  ·rw [Ren.bM f L hj] at e;have:=hr.lt j M e;omega
 ·intro a b La Lb oa ob ha hb hga hgb hab hown x hx hx';have lt: ∀j M ok,f j=some M->h.get j=some ok->ok.aZ ρ w' M x->x<w.heap.size:=fun j M ok hj hg hf=>(hr.obj j M ok hj hg).lz ((cO j M ok hj hg).2 x hf)
  rcases hh _ _ hga with ⟨ea,eo⟩ | ⟨hai,hga⟩
  ·subst eo;rw [ea,Ren.cn] at ha; cases ha;have:=hone x hx
   rcases hh _ _ hgb with ⟨eb,_⟩ | ⟨hbi,hgb⟩
   ·exact hab (ea.trans eb.symm)
   ·rw [Ren.bM f L hbi] at hb;have:=lt b Lb ob hb hgb hx';omega
  ·rw [Ren.bM f L hai] at ha
   rcases hh _ _ hgb with ⟨eb,eo⟩ | ⟨hbi,hgb⟩
   ·subst eo;rw [eb,Ren.cn] at hb; cases hb;have:=hone x hx';have:=lt a La oa ha hga hx;omega
   ·rw [Ren.bM f L hbi] at hb;exact hr.apart a b La Lb oa ob ha hb hga hgb hab hown x ((cO a La oa ha hga).2 x hx) ((cO b Lb ob hb hgb).2 x hx')
 ·intro j M ok hj hg
  rcases hh _ _ hg with ⟨rfl,rfl⟩ | ⟨hji,hg⟩
  ·rw [Ren.cn] at hj; cases hj; exact ho
  ·rw [Ren.bM f L hji] at hj;exact (cO j M ok hj hg).1.mono (Ren.fv L hf)
theorem cell_of{ρ:Env}{B:Nat->Prop}{W w:World}{f:Ren}{os:List ah}(hlen:os.length<1000000)(hr:au ρ B W f (aF os 0 .nil) w){i:Nat}{L:Sx.Loc}(hf:f i=some L){c:T ab}{e:TypeId}{own:Bool}{top:Nat}(ho:os[i]? =some (.cells c e own top)){j:Nat}{v:ab}(hv:c.get j=some v):L.blk<w.heap.size/\ ∃v',w.cell? ⟨L.blk,L.base+j,none⟩=some v'/\ai ρ f v v':=by
 have hg:=aU os 0 i .nil _ ho (by omega)
 rw [Nat.zero_add] at hg;obtain ⟨cs,fr,h1,_,_,h4⟩:=hr.obj i L _ hf hg;obtain ⟨_,v',h5,h6⟩:=h4 j v hv;exact ⟨hr.lt i L hf,v',by simp [World.cell?,h1,h5],h6⟩
theorem fy{ρ:Env}{f:Ren}{i:Nat}{v:Value}(h:ai ρ f (.ptr (some (i,0))) v): ∃L,f i=some L/\v= .pointer (some ⟨L.blk,L.base,none⟩):=by
 cases h with
 |ptr h=>exact ⟨_,h,rfl⟩
theorem sE{ρ:Env}{f:Ren}{i n c g:Nat}{v:Value}(h:ai ρ f (.slice (some (i,0)) n c g) v)(hn:0<n): ∃L cap,f i=some L/\v= .slice (some ⟨L.blk,L.base,none⟩) n cap:=by
 cases h with
 |slice h=>exact ⟨_,_,h,rfl⟩
 |sliceG h _ _ _=>exact ⟨_,_,h,rfl⟩
 |sliceE h _ _=>exact absurd hn (Nat.lt_irrefl 0)
theorem gm{ρ:Env}{f:Ren}{t:TypeId}{v:ab}{u:Value}(h:ai ρ f (.iface t v) u): ∃v',u= .iface t v'/\ai ρ f v v':=by
 cases h with
 |iface h=>exact ⟨_,rfl,h⟩
theorem se{ρ:Env}{f:Ren}{k:IntKind}{e:IE}{u:Value}(h:ai ρ f (.int k e) u):u= .int k (e.ev ρ):=by
 cases h; rfl
structure cJ (os:List ah) (n:Nat) (lv:Nat->Nat) (kd:Nat->IE) (plT:TypeId) (plI:Nat):Prop where
 len:os.length<1000000
 t0: ∃c e own top,os[0]? =some (.cells c e own top)/\(∃ cc g,c.get 0=some (.slice (some (1,0)) n cc g))/\c.get 1=some (.iface plT (.ptr (some (plI,0))))
 t1: ∃c e own top,os[1]? =some (.cells c e own top)/\ ∀j,j<n->c.get (j*2)=some (.ptr (some (lv j,0)))/\ ∃x,c.get (j*2+1)=some (.int .i64 x)
 tl: ∀j,j<n-> ∃c e own top,os[lv j]? =some (.cells c e own top)/\c.get 0=some (.int .i64 (kd j))/\ ∃t v,c.get 2=some (.iface t v)
theorem cJ.at{ρ:Env}{B:Nat->Prop}{W w:World}{f:Ren}{os:List ah}{n:Nat}{lv:Nat->Nat}{kd:Nat->IE}{plT:TypeId}{plI:Nat}(hp:cJ os n lv kd plT plI)(hn:0<n)(hr:au ρ B W f (aF os 0 .nil) w){L:Sx.Loc}(hf:f 0=some L):
 ∃(la:Nat->Addr) (pa:Addr),fO w w.heap.size L.blk L.base la n (mV (plT,some pa))/\ ∀j,j<n-> ∃M:Sx.Loc,f (lv j)=some M/\la j=⟨M.blk,M.base,none⟩/\M.blk<w.heap.size/\w.cell? ⟨M.blk,M.base,none⟩=some (.int .i64 ((kd j).ev ρ))/\ ∃t v,w.cell? ⟨M.blk,M.base+2,none⟩=some (.iface t v):=by
 obtain ⟨c0,e0,w0,p0,o0,⟨cc,g,s0⟩,i0⟩:=hp.t0;obtain ⟨c1,e1,w1,p1,o1,fl⟩:=hp.t1;obtain ⟨hlt,v0,hv0,r0⟩:=cell_of hp.len hr hf o0 s0;obtain ⟨_,vp,hvp,rp⟩:=cell_of hp.len hr hf o0 i0;obtain ⟨M1,cap,hM1,rfl⟩:=sE r0 hn;obtain ⟨vq,rfl,rq⟩:=gm rp;obtain ⟨Mp,_,rfl⟩:=fy rq
 have hx: ∀j,j<n-> ∃M:Sx.Loc,f (lv j)=some M/\w.cell? ⟨M1.blk,M1.base+j*2,none⟩=some (.pointer (some ⟨M.blk,M.base,none⟩))/\(∃ x,w.cell? ⟨M1.blk,M1.base+j*2+1,none⟩=some (.int .i64 x))/\M.blk<w.heap.size/\w.cell? ⟨M.blk,M.base,none⟩=some (.int .i64 ((kd j).ev ρ))/\ ∃t v,w.cell? ⟨M.blk,M.base+2,none⟩=some (.iface t v):=fun j hj=>by
  obtain ⟨g1,x,g2⟩:=fl j hj;obtain ⟨_,a1,b1,r1⟩:=cell_of hp.len hr hM1 o1 g1;obtain ⟨_,a2,b2,r2⟩:=cell_of hp.len hr hM1 o1 g2;obtain ⟨M,hM,rfl⟩:=fy r1;rw [se r2] at b2;obtain ⟨c2,e2,w2,p2,o2,k0,t,v,k2⟩:=hp.tl j hj;obtain ⟨m1,a3,b3,r3⟩:=cell_of hp.len hr hM o2 k0;obtain ⟨_,a4,b4,r4⟩:=cell_of hp.len hr hM o2 k2;rw [se r3] at b3;obtain ⟨v4,rfl,_⟩:=gm r4;exact ⟨M,hM,b1,⟨_,b2⟩,m1,by simpa using b3,_,_,b4⟩
 have hla: ∃la:Nat->Addr,∀j,j<n-> ∃M:Sx.Loc,f (lv j)=some M/\la j=⟨M.blk,M.base,none⟩/\w.cell? ⟨M1.blk,M1.base+j*2,none⟩=some (.pointer (some (la j)))/\(∃ x,w.cell? ⟨M1.blk,M1.base+j*2+1,none⟩=some (.int .i64 x))/\M.blk<w.heap.size/\w.cell? ⟨M.blk,M.base,none⟩=some (.int .i64 ((kd j).ev ρ))/\ ∃t v,w.cell? ⟨M.blk,M.base+2,none⟩=some (.iface t v):=by
  refine ⟨fun j=>if h:j<n then ⟨(Classical.choose (hx j h)).blk,(Classical.choose (hx j h)).base,none⟩ else ⟨0,0,none⟩,fun j hj=> ?_⟩
  have:=Classical.choose_spec (hx j hj);refine ⟨Classical.choose (hx j hj),this.1,by simp only [dif_pos hj],by simp only [dif_pos hj]; exact this.2.1,this.2.2⟩
 obtain ⟨la,hla⟩:=hla;refine ⟨la,⟨Mp.blk,Mp.base,none⟩,⟨hlt,⟨_,cap,by simpa using hv0,fun _=>⟨M1.blk,M1.base,rfl,hr.lt _ _ hM1,fun j hj=> ?_⟩⟩,by simpa [mV] using hvp⟩,fun j hj=> ?_⟩
 ·obtain ⟨M,_,_,h3,h4,_⟩:=hla j hj;exact ⟨h3,h4⟩
 ·obtain ⟨M,h1,h2,_,_,h5⟩:=hla j hj;exact ⟨M,h1,h2,h5⟩
end
end Go.Proofs.YtpdhneemedlgaaaGreat.te
namespace Go.Proofs.YtpdhneemedlgaaaGreat.te
open Go Go.Sx
open Go.RowKit (Below)
set_option maxRecDepth 1000000
noncomputable section
def cy(n:Nat)(kd:Nat->IE)(kp:Int):List ab:=(List.range n).map (fun j=> .int .i64 (kd j))++[.int .i64 (.lit kp)]
def fk(os:List ah)(n:Nat)(kd:Nat->IE)(kp:Int):Con:={g:=10,args:=[.ptr (some (0,0))],os:=os,res:= .slice (some (os.length,0)) (n+1) (n+1) 1,os':=os++[.cells (aF (cy n kd kp) 0 .nil) 3 true (n+1)]}
def oB(t:TypeId)(k:Int):Prop:=(t=60/\k=1)\/(t=72/\k=2)
theorem gZ{w:World}{n₀:Nat}{l:List (Mac×Int)}(h: ∀x∈l,gL w n₀ x.1 x.2): ∃xs:List (yD w n₀),xs.map (fun x=>x.1.1)=l.map (·.1)/\bg xs=l.map fun x=> .int .i64 x.2:=by
 refine ⟨l.pmap (fun x hx=>⟨x,hx⟩) h,?_,?_⟩
 ·rw [List.map_pmap];exact List.pmap_eq_map _
 ·unfold bg;rw [List.map_pmap];exact List.pmap_eq_map (f:=fun x:Mac×Int=>Value.int .i64 x.2) _
theorem bS{G:Nat->Int->Int->Int->Int}{GH:Nat->bz}{os:List ah}{n:Nat}{lv:Nat->Nat}{kd:Nat->IE}{plT:TypeId}{plI:Nat}{kp:Int}(hp:cJ os n lv kd plT plI)(hn:0<n)(hn':n<=900)(hpl:oB plT kp):(fk os n kd kp).Ok PR G GH:=by
 intro ρ h1 _ _ B W f w args' hr ha hfr;have hl:=hp.len;obtain ⟨v0,hv0,r0⟩:=ha.get (show (fk os n kd kp).args[0]? =some (.ptr (some (0,0))) from rfl)
 obtain ⟨L,hL,rfl⟩:=fy r0
 have harg:args'= #[.pointer (some ⟨L.blk,L.base,none⟩)]:=by
  have hsz:args'.size=1:=ha.1;apply Array.ext
  ·exact hsz
  ·intro i hi _;have:i=0:=by omega
   subst this;rw [Array.getElem?_eq_getElem (by omega)] at hv0
   exact Option.some.inj hv0
 subst harg;obtain ⟨la,pa,hT,hlv⟩:=hp.at hn hr hL
 have hall: ∀x∈(List.range n).map (fun j=>(((44,some (la j)):Mac),(kd j).ev ρ))++[((plT,some pa),kp)],gL w w.heap.size x.1 x.2:=by
  intro x hx
  rcases List.mem_append.1 hx with hx |hx
  ·obtain ⟨j,hj,rfl⟩:=List.mem_map.1 hx;obtain ⟨M,_,h2,h3,h4,h5⟩:=hlv j (List.mem_range.1 hj);exact .inr (.inr ⟨rfl,M.blk,M.base,by simp only [h2],h3,h4,h5⟩)
  ·rcases List.mem_cons.1 hx with rfl |hx
   ·rcases hpl with ⟨e1,e2⟩ | ⟨e1,e2⟩
    ·exact .inl ⟨e1,e2⟩
    ·exact .inr (.inl ⟨e1,e2⟩)
   ·cases hx
 obtain ⟨xs,hx1,hx2⟩:=gZ hall
 have hx1':xs.map (fun x=>x.1.1)=bK la n (plT,some pa):=by
  rw [hx1];simp [bK]
 have hc:=callsIn_wide.1 (mg Fence.wide 5 trivial trivial trivial trivial trivial trivial trivial rfl (Nat.le_refl _) L.blk L.base la n (plT,some pa) (by omega) w hT xs hx1')
 refine hc.mono fun e w' ⟨v,he,hrow,hb⟩=>⟨v,he,?_⟩
 obtain ⟨hsz,hv | ⟨g,cap,cur,rfl,hg,hcell,hcap,hmax,hcur,htake⟩⟩:=hrow
 ·exact absurd hv.2 (by omega)
 have hfn:f os.length=none:=hfr os.length (Nat.le_refl _);have hlt:g<w'.heap.size:=(Array.getElem?_eq_some_iff.1 hcell).1;have hnb: ¬B g:=hr.fresh hg;have hcs:cur.size=cap:=by rw [hcur,Nat.mul_one]
 have hget: ∀(j:Nat) (v:ab),(aF (cy n kd kp) 0 .nil).get j=some v->j<n+1/\ ∃v',cur[j]? =some v'/\ai ρ (f.put os.length ⟨g,0,cap⟩) v v':=by
  intro j v hj
  rcases eK _ _ _ _ _ hj with ⟨_,hj⟩ |hj
  ·rw [Nat.sub_zero] at hj
   have hjl:j<n+1:=by
    have:=(List.getElem?_eq_some_iff.1 hj).1
    simpa [cy] using this
   refine ⟨hjl,?_⟩
   have hc':cur.toList[j]? =(bg xs)[j]? :=by
    rw [<- htake,Nat.mul_one,List.getElem?_take_of_lt hjl]
   have hcj:cur[j]? =(bg xs)[j]? :=by rw [<- hc',Array.getElem?_toList]
   rw [hcj,hx2,List.map_append,List.map_map];unfold cy at hj
   by_cases hjn:j<n
   ·rw [List.getElem?_append_left (by simpa using hjn)] at hj ⊢
    simp only [List.getElem?_map,List.getElem?_range hjn,Option.map_some,Option.some.injEq] at hj ⊢;subst hj;exact ⟨_,rfl,.int .i64 (kd j)⟩
   ·obtain rfl:j=n:=by omega
    rw [List.getElem?_append_right (by simp)] at hj ⊢
    simp only [List.length_map,List.length_range,Nat.sub_self,List.getElem?_cons_zero,Option.some.injEq,List.map_cons] at hj ⊢;subst hj;exact ⟨_,rfl,.int .i64 (.lit kp)⟩
  ·rw [T.get_nil] at hj; cases hj
 refine ⟨f.put os.length ⟨g,0,cap⟩,Ren.fv _ hfn,fun j hj=> ?_,?_,?_⟩
 ·refine Ren.bM f _ (fun e=> ?_)
  subst e
  rcases hj with hj |hj
  ·exact Nat.lt_irrefl _ hj
  ·exact absurd hj (by show ¬(os++[_]).length<=os.length; simp)
 ·refine au.Dz (o:= .cells (aF (cy n kd kp) 0 .nil) 3 true (n+1)) hr hfn hb hg hlt ?_ (fun b hbb=>hbb) fun j x hj=> ?_
  ·exact ⟨cur,(0,0),hcell,hcs,fun _=>⟨hnb,fun j _=>by simp⟩,fun j v hj=>by
    obtain ⟨h1,v',h2,h3⟩:=hget j v hj;exact ⟨h1,v',by simpa using h2,h3⟩⟩
  ·rcases R4 _ _ _ _ _ hj with ⟨_,h2,_⟩ |h0
   ·rw [Nat.sub_zero] at h2
    by_cases hjl:j<os.length
    ·right;refine ⟨by omega,?_⟩
     have h2:(os++[ah.cells (aF (cy n kd kp) 0 .nil) 3 true (n+1)])[j]? =some x:=h2;rw [List.getElem?_append_left hjl] at h2;have:=aU os 0 j .nil x h2 (by omega)
     rwa [Nat.zero_add] at this
    ·left;have h2:(os++[ah.cells (aF (cy n kd kp) 0 .nil) 3 true (n+1)])[j]? =some x:=h2;have hj2:=(List.getElem?_eq_some_iff.1 h2).1;have:j=os.length:=by simp at hj2; omega
     subst this;rw [List.getElem?_append_right (Nat.le_refl _),Nat.sub_self] at h2;exact ⟨rfl,(Option.some.inj h2).symm⟩
   ·rw [T.get_nil] at h0; cases h0
 ·exact .sliceG (i:=os.length) (o:=0) (g:=0) (L:=⟨g,0,cap⟩) (Ren.cn f _ _) (Nat.le_refl _) (by omega) (by simp)
end
end Go.Proofs.YtpdhneemedlgaaaGreat.te
