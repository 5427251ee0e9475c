/- Part Mw3. No condition. -/
import Derived.Test.YtpdhneemedlgaaaGreatMw1
import Derived.Test.YtpdhneemedlgaaaGreatRm2
set_option linter.all false
namespace Go.Proofs.YtpdhneemedlgaaaGreat
open Go Go.Sx
open Go.RowKit (Below)
set_option maxRecDepth 1000000
noncomputable section
def ya(el:TypeId)(M:Int)(cv:Nat->Option Value)(w:World)(e:Ending)(w':World):Prop:=
 ∃g cs fr Pg,e= .returned (.pointer (some ⟨g,0,none⟩))/\Below w.heap.size w w'/\iz el slT M w' g Pg/\Pg.ho=0/\(∀ b,yl M g Pg b->w.heap.size<=b)/\w'.heap[g]? =some (.cells cs el fr)/\(∀ j,j<cs.size-> ¬(fr.1<=j/\j<fr.2))/\ ∀j v,cv j=some v->cs[j]? =some v
theorem Con.xv{G:Nat->Int->Int->Int->Int}{GH:Nat->bz}{c:Con}{k:Nat}{el:TypeId}{cv:T ab}{Me:IE}(hk:GH k=cW el slT)(h0:c.os=[])(ho:c.os'=[.ghost k [Me] cv])(hres:c.res= .ptr (some (0,0)))
 (hcv: ∀j v,cv.get j=some v->2<=j/\ ∃kk e,v= .int kk e)
 (h: ∀ρ:Env,ρ.std G GH->ρ.ok (bdL c.bds)->c.pre.holds ρ-> ∀(f:Ren) (w:World) (args':Array Value),az ρ f c.args args'->Calls PR c.g args' w (ya el (Me.ev ρ) (fun j=>match cv.get j with |some (.int kk e)=>some (.int kk (e.ev ρ)) |_=>none) w)):c.Ok PR G GH:=by
 intro ρ h1 h2 h3 B W f w args' hr ha hnn;have hgh:ρ.gh k=cW el slT:=by rw [h1.2]; exact hk
 have hnone: ∀j,f j=none:=fun j=>hnn j (by rw [h0]; exact Nat.zero_le j)
 refine Calls.mono (h ρ h1 h2 h3 f w args' ha) fun e w' ⟨g,cs,fr,Pg,e1,hb,hm,hho,hbl,hcs,hfr,hv⟩=> ?_
 let L:Sx.Loc:=⟨g,0,cs.size⟩
 let f'':Ren:=fun j=>if j=0 then some L else f j
 have f0:f'' 0=some L:=if_pos rfl;have fo: ∀j,j≠0->f'' j=none:=fun j hj=>(if_neg hj).trans (hnone j)
 have hg': ∀x o,(je c.os' 0 T.nil).get x=some o->x=0/\o= .ghost k [Me] cv:=by
  intro x o hx;rw [ho] at hx;have:=(ik hx).1
  match x,this with
  |0,this=>simp at this; exact ⟨rfl,this.symm⟩
  |x+1,this=>simp at this
 refine ⟨_,e1,f'',fun j K hj=>(by rw [hnone j] at hj; cases hj),fun j hj=> ?_,⟨hr.below.trans (Go.Sx.Below.kept hb fun b hb=>Nat.lt_of_lt_of_le (hr.bsize b hb) hr.below.size),hr.bsize,fun x K hx=> ?_,fun x y Kx Ky ox oy hx hy gx gy hxy=> ?_,fun x K o hx gx=> ?_⟩,?_⟩
 ·rw [h0,ho] at hj;have hj:j<0\/1<=j:=hj;exact if_neg (by omega)
 ·by_cases h:x=0
  ·subst h;rw [f0] at hx;cases hx;exact (Array.getElem?_eq_some_iff.1 hcs).1
  ·rw [fo x h] at hx; cases hx
 ·exact absurd ((hg' x ox gx).1.trans (hg' y oy gy).1.symm) hxy
 ·obtain ⟨rfl,rfl⟩:=hg' x o gx;rw [f0] at hx;cases hx;refine ⟨⟨by rw [hgh]; exact ⟨_,Pg,rfl,hm,hho⟩,fun b hbb=> ?_⟩,trivial,cs,el,fr,hcs,rfl,hfr,fun j v hj=> ?_⟩
  ·rw [hgh] at hbb;obtain ⟨M2,P2,k1,k2,k3⟩:=hbb;exact hr.fresh (hbl b (hm.same k1 (k2.trans hho.symm) k3))
  ·obtain ⟨q1,kk,e,rfl⟩:=hcv j v hj;refine ⟨by rw [hgh]; exact q1,.int kk (e.ev ρ),?_,.int kk e⟩
   have:=hv j (.int kk (e.ev ρ)) (by dsimp only; rw [hj])
   show cs[0+j]? =_;rw [Nat.zero_add];exact this
 ·rw [hres];exact .ptr f0
theorem gu.mem{coh:Bool}{N:Nat}{W wr w':World}(h:gu coh N W N wr)(hN:N<=4096){g:Nat}{el:TypeId}{cs:Array Value}(hg:g≠W.heap.size/\g≠W.heap.size+2)(hgw:W.heap.size<=g)(hcs:w'.heap[g]? =some (.cells cs el (0,0)))(h0:cs[0]? =some (.slice (some ⟨W.heap.size,0,none⟩) N N))(h1:cs[1]? =some (.bool coh))
 (e0:w'.heap[W.heap.size]? =wr.heap[W.heap.size]?) (e2:w'.heap[W.heap.size+1+1]? =wr.heap[W.heap.size+1+1]?):
 ∃Pg,iz el slT (jT N (b2 coh)) w' g Pg/\Pg.ho=0/\ ∀b,yl (jT N (b2 coh)) g Pg b->W.heap.size<=b:=by
 have n4:(0:Int)<=(N:Int)/\(N:Int)<=4096:=⟨by omega,by omega⟩
 have hb:=O0 coh;have eN:(mN (jT N (b2 coh))).toNat=N:=by rw [sT n4 hb]; exact Int.toNat_natCast N
 have eC:aP (jT N (b2 coh))=coh:=by rw [Ct n4 hb]; exact Iy coh
 obtain ⟨ss,s1,s2,s3⟩:=h.sl
 have page: ∀D:Nat->Int,(∀ j,D j=0)->m0 w' (W.heap.size+1+1) 0 D:=fun D hD=>⟨_,_,_,e2.trans h.pg,fun j _=>by simp,fun j hj=>by
  rw [hD j,Nat.zero_add];exact ⟨by simp [hj],Int.le_refl 0,by decide⟩⟩
 let Pg:Pages:=⟨0,W.heap.size,0,fun _=>W.heap.size+1+1,fun _=>0,fun _=>W.heap.size+1+1,fun _=>0,fun _=>false,fun _=>false⟩
 refine ⟨Pg,⟨by rw [sT n4 hb]; exact n4,⟨cs,(0,0),N,hcs,by rw [eN]; exact h0,by rw [eN]; exact Nat.le_refl N,by rw [eC]; exact h1⟩,⟨ss,(0,0),e0.trans s1,fun j _=>by simp,fun p hp=> ?_⟩,fun p _=>page _ fun j=>(iV n4 hb _).1,fun _ p _=>page _ fun j=>(iV n4 hb _).2.1,hg.1,fun p _=>⟨fun e=>hg.2 e.symm,by show W.heap.size+1+1≠W.heap.size; omega⟩,fun _ p _=>⟨fun e=>hg.2 e.symm,by show W.heap.size+1+1≠W.heap.size; omega⟩,fun p _ ho=>(by cases ho),fun _ p _ ho=>(by cases ho),(A9 n4 hb).k⟩,rfl,?_⟩
 ·rw [eN] at hp;obtain ⟨p0,p1,p2,p3,p6⟩:=s3 p hp;show ss[0+(p*7)]? =_/\ss[0+(p*7+1)]? =_/\ss[0+(p*7+2)]? =_/\ss[0+(p*7+3)]? =_/\ss[0+(p*7+6)]? =_/\_;rw [Nat.zero_add,Nat.zero_add,Nat.zero_add,Nat.zero_add,Nat.zero_add,eC,(iV n4 hb p).2.2];refine ⟨p0,?_,p2,p3,p6,Int.le_refl 0,by decide⟩
  rw [p1];cases coh<;>rfl
 ·rintro b (rfl |rfl | ⟨_,_,rfl⟩ | ⟨_,_,_,rfl⟩)
  ·exact hgw
  ·exact Nat.le_refl _
  ·show W.heap.size<=W.heap.size+1+1; omega
  ·show W.heap.size<=W.heap.size+1+1; omega
def nwE(coh:Bool):IE:=match coh with
 |true=> .fn 1 (.fn 1 (.lit 0) (.lit 7) (.lit 1)) (.lit 3) (.var 1)
 |false=> .fn 1 (.fn 1 (.lit 0) (.lit 7) (.lit 0)) (.lit 3) (.var 1)
def st0:List ab:=aW.map fun k=> .int k (.lit 0)
def Sr(l:List ab):ah:= .cells (aX (.ptr (some (1,0))::l) 0) 100 true 25
def cNw(coh:Bool):Con:={g:=39,args:=[.int .i64 (.var 1),.bool (.lit coh)],bds:=[(1,0,4096)],res:=pm,os':=[.ghost 0 [nwE coh] .nil]}
def xG:Con:={g:=30,args:=[.int .i64 (.var 1)],bds:=[(1,0,4096)],res:=pm,os':=[.ghost 1 [nwE false] (aX st0 2)]}
def wm:Con:={g:=24,args:=[.int .i64 (.var 1)],bds:=[(1,0,4096)],res:=pm,os':=[Sr st0,.ghost 0 [nwE true] .nil]}
theorem yB:(fq wm ⟨[cNw true],[]⟩ 20 12 12&&((cNw true).wf&&((cNw false).wf&&(xG.wf&&wm.wf))))=true:=by kernel_rfl
theorem Z3{ρ:Env}{f:Ren}{k:IntKind}{e:IE}{a:Array Value}(h:az ρ f [.int k e] a):a= #[.int k (e.ev ρ)]:=by
 have hs:a.size=1:=h.1;obtain ⟨v,hv,r⟩:=h.get (show ([.int k e]:List ab)[0]? =some (.int k e) from rfl)
 apply Array.ext
 ·exact hs
 ·intro i hi _;have:i=0:=by omega
  subst this;rw [Array.getElem?_eq_getElem (by omega)] at hv
  cases r;exact Option.some.inj hv
theorem OW{ρ:Env}{f:Ren}{k:IntKind}{e:IE}{b:Bool}{a:Array Value}(h:az ρ f [.int k e,.bool (.lit b)] a):a= #[.int k (e.ev ρ),.bool b]:=by
 have hs:a.size=2:=h.1;obtain ⟨v,hv,r⟩:=h.get (show ([.int k e,.bool (.lit b)]:List ab)[0]? =some (.int k e) from rfl)
 obtain ⟨u,hu,q⟩:=h.get (show ([.int k e,.bool (.lit b)]:List ab)[1]? =some (.bool (.lit b)) from rfl)
 apply Array.ext
 ·exact hs
 ·intro i hi _
  match i,hi with
  |0,_=>
   rw [Array.getElem?_eq_getElem (by omega)] at hv
   cases r;exact Option.some.inj hv
  |1,_=>
   rw [Array.getElem?_eq_getElem (by omega)] at hu
   cases q;exact Option.some.inj hu
  |i+2,h=>omega
theorem dF(d d' v:Int)(i:Nat):ag (aD d i v) i=ag (aD d' i v) i:=by
 rw [bx,gD,K7 _ _ _ _ (nZ v),if_pos rfl,bx,gD,K7 _ _ _ _ (nZ v),if_pos rfl]
theorem jm(n c:Int):aD (aD 0 7 c) 3 n=jT n c:=Vh (lH _ _ _) (lH _ _ _) fun j=>by
 show ag (aD (aD 0 (7:Nat) c) (3:Nat) n) j=ag (aD (aD 0 (3:Nat) n) (7:Nat) c) j
 by_cases h3:j=3
 ·subst h3;rw [aI (aD 0 (3:Nat) n) c (show (3:Nat)≠7 by decide)]
  exact dF _ _ _ _
 ·by_cases h7:j=7
  ·subst h7;rw [aI _ n (show (7:Nat)≠3 by decide)]
   exact dF _ _ _ _
  ·rw [aI _ n h3,aI _ c h7,aI _ c h7,aI _ n h3]
theorem wY(coh:Bool){ρ:Env}:(nwE coh).ev ρ=jT (ρ.i 1) (b2 coh):=by
 cases coh
 ·exact jm _ _
 ·exact jm _ _
section
variable{G:Nat->Int->Int->Int->Int}
theorem BA(coh:Bool):(cNw coh).Ok PR G gh:=by
 refine Con.xv (c:=cNw coh) (k:=0) (el:=gK 0) (cv:= .nil) (Me:=nwE coh) rfl rfl rfl rfl (fun j v hv=>by rw [T.get_nil] at hv; cases hv) fun ρ h1 h2 h3 f w args' ha=> ?_
 rw [OW ha,wY coh];have hb:=h2 1 0 4096 rfl;obtain ⟨N,hN⟩:=Int.eq_ofNat_of_zero_le hb.1;have e1:(IE.var 1).ev ρ=(N:Int):=hN;rw [e1,show ρ.i 1=(N:Int) from hN]
 refine Calls.mono (mA coh N (by omega) w) fun e wr ⟨he,hA⟩=> ?_
 obtain ⟨Pg,m1,m2,m3⟩:=hA.mem (w':=wr) (by omega) (g:=w.heap.size+1) ⟨by omega,by omega⟩ (by omega) hA.hd rfl rfl rfl rfl
 exact ⟨w.heap.size+1,_,(0,0),Pg,he,hA.bl,m1,m2,m3,hA.hd,fun j _=>by simp,fun j v hv=>by
  dsimp only at hv;rw [T.get_nil] at hv;cases hv⟩
theorem pP:xG.Ok PR G gh:=by
 refine Con.xv (c:=xG) (k:=1) (el:=gK 1) (cv:=aX st0 2) (Me:=nwE false) rfl rfl rfl rfl (fun j v hv=> ?_) fun ρ h1 h2 h3 f w args' ha=> ?_
 ·rcases eK _ _ _ _ _ hv with ⟨h2,hv⟩ |hv
  ·refine ⟨h2,?_⟩;have hm:=List.mem_of_getElem? hv;unfold st0 at hm;obtain ⟨k,_,rfl⟩:=List.mem_map.1 hm;exact ⟨_,_,rfl⟩
  ·rw [T.get_nil] at hv; cases hv
 ·rw [Z3 ha,wY false];have hb:=h2 1 0 4096 rfl;obtain ⟨N,hN⟩:=Int.eq_ofNat_of_zero_le hb.1;have e1:(IE.var 1).ev ρ=(N:Int):=hN;rw [e1,show ρ.i 1=(N:Int) from hN]
  refine Calls.mono (ur N (by omega) w) fun e w' ⟨wr,cs,hA,he,hw,hcs⟩=> ?_
  have hsz:=hA.sz;subst hw;have hg:(wr.alloc (.cells cs 136)).heap[wr.heap.size]? =some (.cells cs 136 (0,0)):=fN _ _;have hat: ∀j,cs[j]? =(jv N w.heap.size)[j]? :=fun j=>by rw [hcs]; exact List.getElem?_toArray
  obtain ⟨Pg,m1,m2,m3⟩:=hA.mem (w':=wr.alloc (.cells cs 136)) (by omega) (g:=wr.heap.size) ⟨by omega,by omega⟩ (by omega) hg (by rw [hat]; rfl) (by rw [hat]; rfl) (dC _ _ (by omega)) (dC _ _ (by omega))
  refine ⟨wr.heap.size,cs,(0,0),Pg,he,hA.bl.alloc (by omega) _,m1,m2,m3,hg,fun j _=>by simp,fun j v hv=> ?_⟩
  dsimp only at hv;split at hv
  ·rename_i kk e hj;cases hv
   rcases eK _ _ _ _ _ hj with ⟨h2,hj⟩ |hj
   ·obtain ⟨i,rfl⟩: ∃i,j=2+i:=⟨j-2,by omega⟩
    rw [Nat.add_sub_cancel_left] at hj;rw [hat];unfold st0 at hj;rw [List.getElem?_map] at hj;obtain ⟨k0,hk0,hk1⟩:=Option.map_eq_some_iff.1 hj;cases hk1;show (jv N w.heap.size)[2+i]? =some (.int kk 0);have hl:(List.replicate 22 (Value.int .u32 0)++[.int .i64 0,.int .i64 0])=aW.map fun k=>Value.int k 0:=rfl
    have:(List.replicate 22 (Value.int .u32 0)++[.int .i64 0,.int .i64 0])[i]? =some (.int kk 0):=by rw [hl,List.getElem?_map,hk0]; rfl
    unfold jv;rw [Nat.add_comm];exact this
   ·rw [T.get_nil] at hj; cases hj
  ·cases hv
theorem qI:wm.Ok PR G gh:=by
 have h:=yB;simp only [Bool.and_eq_true] at h;refine bA ⟨fun c hc=> ?_,fun _ h=>by cases h⟩ h.1
 simp only [List.mem_cons,List.not_mem_nil,or_false] at hc;subst hc;exact ⟨h.2.1,BA true⟩
end
end
end Go.Proofs.YtpdhneemedlgaaaGreat
