/- Part Tw1. No condition. -/
import Derived.Test.YtpdhneemedlgaaaGreatCp3
import Derived.Test.YtpdhneemedlgaaaGreatUk1
set_option linter.all false
namespace Go.Proofs.YtpdhneemedlgaaaGreat
open Go Go.Sx
open Go.RowKit (Below)
set_option maxRecDepth 1000000
noncomputable section
theorem tG{G:Nat->Int->Int->Int->Int}{GH:Nat->bz}{os:List ah}{n:Nat}{kd:Nat->IE}{plT:TypeId}{kp:Int}(hl:os.length<1000000)(hn':n<=900)(hpl:te.oB plT kp)
 (hat: ∀(ρ:Env) (B:Nat->Prop) (W w:World) (f:Ren),au ρ B W f (aF os 0 .nil) w-> ∀L,f 0=some L-> ∃(la:Nat->Addr) (pa:Addr),te.fO w w.heap.size L.blk L.base la n (te.mV (plT,some pa))/\ ∀j,j<n-> ∃M:Sx.Loc,la j=⟨M.blk,M.base,none⟩/\M.blk<w.heap.size/\w.cell? ⟨M.blk,M.base,none⟩=some (.int .i64 ((kd j).ev ρ))/\ ∃t v,w.cell? ⟨M.blk,M.base+2,none⟩=some (.iface t v)):(te.fk os n kd kp).Ok PR G GH:=by
 intro ρ h1 _ _ B W f w args' hr ha hfr;obtain ⟨v0,hv0,r0⟩:=ha.get (show (te.fk os n kd kp).args[0]? =some (.ptr (some (0,0))) from rfl)
 obtain ⟨L,hL,rfl⟩:=te.fy r0
 have harg:args'= #[.pointer (some ⟨L.blk,L.base,none⟩)]:=by
  have hsz:args'.size=1:=ha.1;apply Array.ext
  ·exact hsz
  ·intro i hi _;have:i=0:=by omega
   subst this;rw [Array.getElem?_eq_getElem (by omega)] at hv0
   exact Option.some.inj hv0
 subst harg;obtain ⟨la,pa,hT,hlv⟩:=hat ρ B W w f hr L hL
 have hall: ∀x∈(List.range n).map (fun j=>(((44,some (la j)):te.Mac),(kd j).ev ρ))++[((plT,some pa),kp)],te.gL w w.heap.size x.1 x.2:=by
  intro x hx
  rcases List.mem_append.1 hx with hx |hx
  ·obtain ⟨j,hj,rfl⟩:=List.mem_map.1 hx;obtain ⟨M,h2,h3,h4,h5⟩:=hlv j (List.mem_range.1 hj);exact .inr (.inr ⟨rfl,M.blk,M.base,by simp only [h2],h3,h4,h5⟩)
  ·rcases List.mem_cons.1 hx with rfl |hx
   ·rcases hpl with ⟨e1,e2⟩ | ⟨e1,e2⟩
    ·exact .inl ⟨e1,e2⟩
    ·exact .inr (.inl ⟨e1,e2⟩)
   ·cases hx
 obtain ⟨xs,hx1,hx2⟩:=te.gZ hall
 have hx1':xs.map (fun x=>x.1.1)=te.bK la n (plT,some pa):=by
  rw [hx1];simp [te.bK]
 have hc:=callsIn_wide.1 (te.mg Fence.wide 5 trivial trivial trivial trivial trivial trivial trivial rfl (Nat.le_refl _) L.blk L.base la n (plT,some pa) (by omega) w hT xs hx1')
 refine hc.mono fun e w' ⟨v,he,hrow,hb⟩=>⟨v,he,?_⟩
 obtain ⟨hsz,hv | ⟨g,cap,cur,rfl,hg,hcell,hcap,hmax,hcur,htake⟩⟩:=hrow
 ·exact absurd hv.2 (by omega)
 have hfn:f os.length=none:=hfr os.length (Nat.le_refl _);have hlt:g<w'.heap.size:=(Array.getElem?_eq_some_iff.1 hcell).1;have hnb: ¬B g:=hr.fresh hg;have hcs:cur.size=cap:=by rw [hcur,Nat.mul_one]
 have hget: ∀(j:Nat) (v:ab),(aF (te.cy n kd kp) 0 .nil).get j=some v->j<n+1/\ ∃v',cur[j]? =some v'/\ai ρ (f.put os.length ⟨g,0,cap⟩) v v':=by
  intro j v hj
  rcases eK _ _ _ _ _ hj with ⟨_,hj⟩ |hj
  ·rw [Nat.sub_zero] at hj
   have hjl:j<n+1:=by
    have:=(List.getElem?_eq_some_iff.1 hj).1
    simpa [te.cy] using this
   refine ⟨hjl,?_⟩
   have hc':cur.toList[j]? =(te.bg xs)[j]? :=by
    rw [<- htake,Nat.mul_one,List.getElem?_take_of_lt hjl]
   have hcj:cur[j]? =(te.bg xs)[j]? :=by rw [<- hc',Array.getElem?_toList]
   rw [hcj,hx2,List.map_append,List.map_map];unfold te.cy at hj
   by_cases hjn:j<n
   ·rw [List.getElem?_append_left (by simpa using hjn)] at hj ⊢
    simp only [List.getElem?_map,List.getElem?_range hjn,Option.map_some,Option.some.injEq] at hj ⊢;subst hj;exact ⟨_,rfl,.int .i64 (kd j)⟩
   ·obtain rfl:j=n:=by omega
    rw [List.getElem?_append_right (by simp)] at hj ⊢
    simp only [List.length_map,List.length_range,Nat.sub_self,List.getElem?_cons_zero,Option.some.injEq,List.map_cons] at hj ⊢;subst hj;exact ⟨_,rfl,.int .i64 (.lit kp)⟩
  ·rw [T.get_nil] at hj; cases hj
 refine ⟨f.put os.length ⟨g,0,cap⟩,Ren.fv _ hfn,fun j hj=> ?_,?_,?_⟩
 ·refine Ren.bM f _ (fun e=> ?_)
  subst e
  rcases hj with hj |hj
  ·exact Nat.lt_irrefl _ hj
  ·exact absurd hj (by show ¬(os++[_]).length<=os.length; simp)
 ·refine te.au.Dz (o:= .cells (aF (te.cy n kd kp) 0 .nil) 3 true (n+1)) hr hfn hb hg hlt ?_ (fun b hbb=>hbb) fun j x hj=> ?_
  ·exact ⟨cur,(0,0),hcell,hcs,fun _=>⟨hnb,fun j _=>by simp⟩,fun j v hj=>by
    obtain ⟨h1,v',h2,h3⟩:=hget j v hj;exact ⟨h1,v',by simpa using h2,h3⟩⟩
  ·rcases R4 _ _ _ _ _ hj with ⟨_,h2,_⟩ |h0
   ·rw [Nat.sub_zero] at h2
    by_cases hjl:j<os.length
    ·right;refine ⟨by omega,?_⟩
     have h2:(os++[ah.cells (aF (te.cy n kd kp) 0 .nil) 3 true (n+1)])[j]? =some x:=h2;rw [List.getElem?_append_left hjl] at h2;have:=aU os 0 j .nil x h2 (by omega)
     rwa [Nat.zero_add] at this
    ·left;have h2:(os++[ah.cells (aF (te.cy n kd kp) 0 .nil) 3 true (n+1)])[j]? =some x:=h2;have hj2:=(List.getElem?_eq_some_iff.1 h2).1;have:j=os.length:=by simp at hj2; omega
     subst this;rw [List.getElem?_append_right (Nat.le_refl _),Nat.sub_self] at h2;exact ⟨rfl,(Option.some.inj h2).symm⟩
   ·rw [T.get_nil] at h0; cases h0
 ·exact .sliceG (i:=os.length) (o:=0) (g:=0) (L:=⟨g,0,cap⟩) (Ren.cn f _ _) (Nat.le_refl _) (by omega) (by simp)
def plD(kd:Nat):ah:=match kd with
 |1=>ld false
 |_=>dZ 1 (.var 0)
def tw0(plT:TypeId)(kd:Nat):List ah:=[.cells ((T.nil.set 0 (.slice none 0 0 0)).set 1 (.iface plT (.ptr (some (1,0))))) 52 false 2,plD kd]
theorem wP{ρ:Env}{B:Nat->Prop}{W w:World}{f:Ren}{plT:TypeId}{kd:Nat}(hr:au ρ B W f (aF (tw0 plT kd) 0 .nil) w){L:Sx.Loc}(hf:f 0=some L): ∃(M:Sx.Loc),f 1=some M/\te.fO w w.heap.size L.blk L.base (fun _=>⟨0,0,none⟩) 0 (te.mV (plT,some ⟨M.blk,M.base,none⟩)):=by
 obtain ⟨hlt,v0,hv0,r0⟩:=te.cell_of (os:=tw0 plT kd) (show (2:Nat)<1000000 by decide) hr hf (show (tw0 plT kd)[0]? =some _ from rfl) (j:=0) (v:= .slice none 0 0 0) rfl
 obtain ⟨_,vp,hvp,rp⟩:=te.cell_of (os:=tw0 plT kd) (show (2:Nat)<1000000 by decide) hr hf (show (tw0 plT kd)[0]? =some _ from rfl) (j:=1) (v:= .iface plT (.ptr (some (1,0)))) rfl
 obtain ⟨vq,rfl,rq⟩:=te.gm rp;obtain ⟨M,hM,rfl⟩:=te.fy rq;cases r0;exact ⟨M,hM,hlt,⟨none,0,by simpa using hv0,fun h=>absurd h (Nat.lt_irrefl 0)⟩,by simpa [te.mV] using hvp⟩
def yk(os:List ah)(r:ab):Con:={g:=7,args:=[.ptr (some (0,0))],os:=os,res:=r,os':=os}
theorem zK{ρ:Env}{f:Ren}{a:Array Value}(h:az ρ f [.ptr (some (0,0))] a): ∃L,f 0=some L/\a= #[.pointer (some ⟨L.blk,L.base,none⟩)]:=by
 have hs:a.size=1:=h.1;obtain ⟨v,hv,r⟩:=h.get (show ([.ptr (some (0,0))]:List ab)[0]? =some (.ptr (some (0,0))) from rfl)
 obtain ⟨L,hL,rfl⟩:=te.fy r;refine ⟨L,hL,Array.ext hs fun i hi _=> ?_⟩
 have:i=0:=by omega
 subst this;rw [Array.getElem?_eq_getElem (by omega)] at hv
 exact Option.some.inj hv
theorem lF{G:Nat->Int->Int->Int->Int}{GH:Nat->bz}(plT:TypeId)(kd:Nat):(yk (tw0 plT kd) (.iface plT (.ptr (some (1,0))))).Ok PR G GH:=te.lW (show (2:Nat)<1000000 by decide) rfl fun ρ B W f w args' _ hr ha=>by
 obtain ⟨L,hL,rfl⟩:=zK ha;obtain ⟨M,hM,hT⟩:=wP hr hL;exact ⟨_,.iface (.ptr hM),callsIn_wide.1 (te.gO Fence.wide 3 trivial trivial trivial rfl (Nat.le_refl _) L.blk L.base _ 0 _ (by omega) w hT)⟩
theorem da{G:Nat->Int->Int->Int->Int}{GH:Nat->bz}{os:List ah}{n:Nat}{lv:Nat->Nat}{kd:Nat->IE}{plT:TypeId}{plI:Nat}(hp:te.cJ os n lv kd plT plI)(hn:0<n)(hn':n<=900):(yk os (.iface 44 (.ptr (some (lv 0,0))))).Ok PR G GH:=te.lW hp.len rfl fun ρ B W f w args' _ hr ha=>by
 obtain ⟨L,hL,rfl⟩:=zK ha;obtain ⟨la,pa,hT,hlv⟩:=hp.at hn hr hL;obtain ⟨M,hM,e,_⟩:=hlv 0 hn;refine ⟨te.mV ((te.bK la n (plT,some pa)).headD (0,none)),?_,callsIn_wide.1 (te.gO Fence.wide 3 trivial trivial trivial rfl (Nat.le_refl _) L.blk L.base la n _ (by omega) w hT)⟩
 have:(te.bK la n (plT,some pa)).headD (0,none)=(44,some (la 0)):=by
  obtain ⟨m,rfl⟩: ∃m,n=m+1:=⟨n-1,by omega⟩
  unfold te.bK;rw [List.range_succ_eq_map];rfl
 rw [this,e];exact .iface (.ptr hM)
theorem jc{G:Nat->Int->Int->Int->Int}{GH:Nat->bz}{plT:TypeId}{q:Nat}{kd:Nat->IE}{kp:Int}(hpl:te.oB plT kp):(te.fk (tw0 plT q) 0 kd kp).Ok PR G GH:=tG (show (2:Nat)<1000000 by decide) (by decide) hpl fun ρ B W w f hr L hL=>by
 obtain ⟨M,hM,hT⟩:=wP hr hL;exact ⟨_,_,hT,fun j hj=>absurd hj (Nat.not_lt_zero j)⟩
end
end Go.Proofs.YtpdhneemedlgaaaGreat
