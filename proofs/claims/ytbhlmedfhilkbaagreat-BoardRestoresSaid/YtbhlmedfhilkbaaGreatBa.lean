/- Part Ba. No condition. -/
import Derived.Test.YtbhlmedfhilkbaaGreatSg
import Derived.Test.YtbhlmedfhilkbaaGreatRows
set_option linter.all false
namespace Go.Proofs.YtbhlmedfhilkbaaGreat
open Go Go.Sx
set_option maxRecDepth 1000000
noncomputable section
noncomputable abbrev PR:Program:=Tryz.prog
theorem mixed:PR.follows .mixedOrders=true:=by kernel_rfl
def aW:List IntKind:= .u32::(List.replicate 16 .u32++(.u32::(List.replicate 4 .u32++[.i64,.i64])))
def sv(x:IE):List IntKind->Nat->List ab
 | [],_=>[]
 |k::l,j=> .int k (.wrap k (.fn 0 x (.lit (.ofNat j)) (.lit 0)))::sv x l (j+1)
def b9(x:IE):List ab:=sv x aW 0
def aX(l:List ab)(j:Nat):T ab:=aF l j .nil
def pm:ab:= .ptr (some (0,0))
def uV(k:IntKind)(i:Nat):ab:= .int k (.var i)
def uF(k:IntKind)(c:Nat)(x y:IE)(z:IE:= .lit 0):ab:= .int k (.wrap k (.fn c x y z))
def tF(c:Nat)(x y:IE)(z:IE:= .lit 0):ab:= .bool (.eq (.fn c x y z) (.lit 1))
def bC(i:Nat):Nat×Int×Int:=(i,0,4294967295)
def u8B(i:Nat):Nat×Int×Int:=(i,0,255)
def eY(i:Nat):Nat×Int×Int:=(i,-9223372036854775808,9223372036854775807)
def aG:FuncId->Nat->Bool:=fun _ _=>false
def no':FuncId->Bool:=fun _=>false
theorem aw{ρ:Env}:Dec.holds ρ []:=fun p hp=>by cases hp
theorem bc{G:Nat->Int->Int->Int->Int}{GH:Nat->bz}:Know.Ok PR G GH ⟨[],[]⟩:=⟨bO.nil,fun _ h=>by cases h⟩
def fq(c:Con)(K:Know)(L d k:Nat):Bool:=(c.tree PR K L aG no' d []).all (c.leaf (qP (bdL c.bds) k)) c.pre
theorem bA{G:Nat->Int->Int->Int->Int}{GH:Nat->bz}{c:Con}{K:Know}{L d k:Nat}(hK:K.Ok PR G GH)(h:fq c K L d k=true):c.Ok PR G GH:=Con.q8 mixed hK L aG no' d k h
def dg(F:Fns)(k:IntKind)(i:Nat):IE:= .wrap k (.fn 0 (.fn F.KR F.x (.lit 0) (.lit 0)) (.lit (.ofNat i)) (.lit 0))
def dgB(F:Fns)(m:Int)(i:Nat):IE:= .rem (dg F .u8 i) (.lit m)
def dgL(F:Fns):List IntKind->Nat->List ab
 | [],_=>[]
 |k::l,j=> .int k (dg F k j)::dgL F l (j+1)
def kvE(F:Fns)(j:Nat):IE:= .fn F.KV F.x (.lit 0) (.lit (.ofNat j))
def aT(f:Int->Out)(c:Con)(F:Fns)(K:Nat)(l:List Int):Bool:=l.all fun n=>(c.rows F (f n)).only (bR F.vars) K
theorem aQ{e:IE}{f:Int->Out}{p:Int->Dec->aM->ASt->Bool}{b:Dec}{l m:List Int}(h1:aj e f p b l=true)(h2:aj e f p b m=true):aj e f p b (l++m)=true:=by
 unfold aj at*;rw [List.all_append,h1,h2];rfl
theorem hZ{e:IE}{f:Int->Out}{c:Con}{F:Fns}{K:Nat}(he:(IE.only (bR F.vars) K e)=true): ∀ {l:List Int},aT f c F K l=true->(c.rows F (cg e f l)).only (bR F.vars) K=true:=by
 intro l
 induction l with
 |nil=>intro _; rfl
 |cons n l ih=>
  intro h;unfold aT at h;rw [List.all_cons,Bool.and_eq_true] at h;cases l with
  |nil=>exact h.1
  |cons m l=>
   show (BE.only (bR F.vars) K (.eq e (.lit n))&&((c.rows F (f n)).only (bR F.vars) K&&(c.rows F (cg e f (m::l))).only (bR F.vars) K))=true;rw [h.1,ih h.2];show (IE.only (bR F.vars) K e&&true&&(true&&true))=true;rw [he]; rfl
theorem dq{ρ:Env}:Dec.holds ρ []:=fun p hp=>by cases hp
theorem nM{G:Nat->Int->Int->Int->Int}{GH:Nat->bz}{c:Con}{K:Int->Know}{l:List Int}{L d:Nat}{pol:FuncId->Nat->Bool}{pure:FuncId->Bool}{e:IE}{F:Fns}(hK: ∀n∈l,(K n).Ok PR G GH)(hk:7<F.KR/\7<F.KV)(f:Int->Out)(hf:c.pf PR K L pol pure d [] e=f)
 (hm: ∀ρ:Env,ρ.std G GH->ρ.ok (bdL c.bds)->c.pre.holds ρ->e.ev ρ∈l) (h:aj e f (fun _=>c.ao F) c.pre l=true) (hF:F.Def G (c.rows F (cg e f l))):c.Ok PR G GH:=
 Con.mS (c:=c) mixed (K:=K) (l:=l) hK (facts:=[]) (fun _ _ _ _=>dq) (e:=e) hm (by rw [hf]; exact Con.RA (facts:=[]) (fun _ _ _ _=>dq) hk hm h hF)
theorem aV{f:Int->Out}{c:Con}{F:Fns}{e:IE}{K:Nat}{l m:List Int}(h1:(aj e f (fun _=>c.ao F) c.pre l&&aT f c F K l)=true)(h2:(aj e f (fun _=>c.ao F) c.pre m&&aT f c F K m)=true):(aj e f (fun _=>c.ao F) c.pre (l++m)&&aT f c F K (l++m))=true:=by
 simp only [Bool.and_eq_true] at h1 h2 ⊢;refine ⟨aQ h1.1 h2.1,?_⟩;unfold aT at*;rw [List.all_append,h1.2,h2.2];rfl
theorem wT{x:Int}{n:Nat}(h0:0<=x)(h1:x<n):x∈(List.range n).map Int.ofNat:=by
 obtain ⟨m,rfl⟩:=Int.eq_ofNat_of_zero_le h0;exact List.mem_map.2 ⟨m,List.mem_range.2 (by omega),rfl⟩
theorem Rl{G:Nat->Int->Int->Int->Int}{GH:Nat->bz}{c:Con}{K:Know}{L d:Nat}{pol:FuncId->Nat->Bool}{pure:FuncId->Bool}{F:Fns}(hK:K.Ok PR G GH)(hk:7<F.KR/\7<F.KV)(t:Out)(ht:c.tree PR K L pol pure d []=t)(h:t.all (c.ao F) c.pre=true)(hF:F.Def G (c.rows F t)):c.Ok PR G GH:=
 Con.f6 mixed hK (facts:=[]) (fun _ _ _ _=>aw) (by rw [ht]; exact Con.jq [] (fun _ _ _ _=>aw) hk h hF)
def prR(q:Prs)(j:Nat):IE:=match q[j]? with
 |some p=>p.2
 |none=> .lit 0
def atL(L:List IE)(j:Nat):IE:=match L[j]? with
 |some e=>e
 |none=> .lit 0
def E6:Prs->List IE->Bool
 |_,[]=>true
 |p::q,e::L=>p.1.eq e&&E6 q L
 | [],_::_=>false
theorem yp: ∀ {q:Prs} {L:List IE},E6 q L=true-> ∀ {ρ:Env},q.hold ρ-> ∀j,j<L.length->(prR q j).ev ρ=(atL L j).ev ρ
 |_,[],_,ρ,_,j,hj=>by cases hj
 | [],_::_,h,_,_,_,_=>by cases h
 |p::q,e::L,h,ρ,hq,j,hj=>by
  obtain ⟨a,b⟩:=Bool.and_eq_true_iff.1 h;cases j with
  |zero=>
   show p.2.ev ρ=e.ev ρ;rw [<- IE.eq_eq a];exact (hq p (List.mem_cons_self ..)).symm
  |succ j=>
   have:=yp b (ρ:=ρ) (fun x hx=>hq x (List.mem_cons_of_mem _ hx)) j (by simpa using hj)
   simpa [prR,atL] using this
def Dh(bd:Bd)(k:Nat)(dec:Dec)(b:BE):Option Bool:=
 match tu bd k dec b with
 |some v=>some v
 |none=>
  match (b.nrm bd dec).choice with
  |none=>none
  |some t=>
   match tu bd k ((t,true)::dec) (b.nrm bd ((t,true)::dec)),tu bd k ((t,false)::dec) (b.nrm bd ((t,false)::dec)) with
   |some u,some v=>match bEq u v with
    |true=>some u
    |false=>none
   |_,_=>none
theorem AI{ρ:Env}{bd:Bd}(hρ:ρ.ok bd)(k:Nat)(dec:Dec)(b:BE)(v:Bool)(hd:dec.holds ρ)(h:Dh bd k dec b=some v):b.ev ρ=v:=by
 unfold Dh at h;split at h
 ·rename_i u hu;cases h;exact nW hρ k dec b _ hd hu
 ·split at h
  ·cases h
  ·rename_i t _;split at h
   ·rename_i u w h1 h2;split at h
    ·rename_i he;cases h;have he:=dt he;subst he;cases ht:t.ev ρ with
     |true=>
      have hd':=aR hd ht;have:=nW hρ k _ _ _ hd' h1;rw [<- this];exact (BE.bX hρ hd' b).symm
     |false=>
      have hd':=aR hd ht;have:=nW hρ k _ _ _ hd' h2;rw [<- this];exact (BE.bX hρ hd' b).symm
    ·cases h
   ·cases h
def prT(q:Prs)(n:Nat)(j:Nat):IE:=match Nat.blt j n with
 |true=>prR q j
 |false=> .lit 0
def m5(c:Con)(L:List IE)(ts:List BE)(k:Nat)(dec:Dec)(_:aM)(s:ASt):Bool:=
 match c.ef s with
 |some q=>E6 q L&&ts.all fun t=>match Dh (bdL c.bds) k dec (t.rep (prT q L.length)) with
  |some v=>v
  |none=>false
 |none=>false
theorem Rm{c:Con}{F:Fns}{o:Out}{dec0:Dec}{L:List IE}{ts:List BE}{k:Nat}(hk:7<F.KR/\7<F.KV)(hd:o.all (c.ao F) dec0=true)(hf:o.all (m5 c L ts k) dec0=true)
 {ρ:Env} (h2:ρ.ok (bdL c.bds)) (h0:dec0.holds ρ) (hF:F.Def ρ.g (c.rows F o)) {t:BE} (ht:t∈ts):(t.rep (atL L)).ev ρ=true:=by
 obtain ⟨e,s,dec',hd',a1,a2⟩:=Out.bP (ρ:=ρ) (o:=o) (dec:=dec0) h0 (p:=fun dec e s=>c.ao F dec e s) hd
 obtain ⟨e2,s2,dec2,hd2,b1,b2⟩:=Out.bP (ρ:=ρ) (o:=o) (dec:=dec0) h0 (p:=m5 c L ts k) hf;rw [a1] at b1;cases b1;obtain ⟨q,c1,c2⟩:=Con.kr (c:=c) (F:=F) (ρ:=ρ) (o:=o) (dec':=dec') hk h2 hF a1 a2;unfold m5 at b2;rw [c1] at b2;obtain ⟨d1,d2⟩:=Bool.and_eq_true_iff.1 b2;have h:=List.all_eq_true.1 d2 t ht;split at h
 ·rename_i v hv;subst h;have:=AI h2 k dec2 _ _ hd2 hv;rw [BE.a9] at this ⊢;rw [<- this]
  congr 1
  show Env.rep ρ (atL L)=Env.rep ρ (prT q L.length);unfold Env.rep
  congr 1
  funext j
  unfold prT;cases hj:Nat.blt j L.length with
  |true=>exact (yp d1 c2 j (by simpa [Nat.blt_eq] using hj)).symm
  |false=>
   have:L[j]? =none:=List.getElem?_eq_none (by
    have: ¬(Nat.blt j L.length=true):=by rw [hj]; decide
    rw [Nat.blt_eq] at this;omega)
   simp [atL,this]
 ·cases h
def EO(c:Con)(n:Nat)(s:ASt):Option Prs:=match c.ef s with
 |some q=>some (q.take n)
 |none=>none
theorem yk{ρ:Env}{c:Con}{n:Nat}{s:ASt}{m q:Prs}(h:c.ef s=some q)(hq:q.hold ρ)(hm:EO c n s=some m):m.hold ρ:=by
 unfold EO at hm;rw [h] at hm;cases hm;exact fun p hp=>hq p (List.mem_of_mem_take hp)
def xr(l:List Nat):List ab:=l.map (uV .i64)
def FM2:Fns:=⟨112,113,[0,1,2,3,4]⟩
def adh:List IntKind:=[.i64,.i64,.i64,.i64,.u32,.i64]
def bK:Con:={g:=92,args:=[.agg (xr [0,1,2,3,4])],bds:=[0,1,2,3,4].map eY,res:= .agg (.int .i64 (dgB FM2 131 0)::dgL FM2 adh 1)}
def gm:IE:= .rem (.bits .and .i64 (.var 0) (.lit 65535)) (.lit 79)
def dm(n:Int):Out:=bK.pf PR (fun _=>⟨[],[]⟩) 40 aG no' 12 [] gm n
def FE2:Fns:=⟨116,117,[0,1,2,3,4,5,6]⟩
def ado:List ab:=xr [0,1,2,3,4]++[uV .u32 5,uV .i64 6]
def adm:List (Nat×Int×Int):=[(0,0,130),eY 1,eY 2,eY 3,eY 4,bC 5,eY 6]
def bg:Con:={g:=52,args:=[.agg ado],bds:=adm,res:= .agg [.strS (kvE FE2 0) (dg FE2 .u8 1),.int .i64 (dg FE2 .i64 2)]}
def cH(n:Int):Out:=bg.pf PR (fun _=>⟨[],[]⟩) 40 aG no' 12 [] (.var 0) n
def Pa:List IntKind:=[.i64,.i64,.i64,.i64,.u32]
def Wu:List ab:=xr [0,1,2,3]++[uV .u32 4]
def FM3:Fns:=⟨120,121,[0,1,2,3,4]⟩
def dI:Con:={g:=27,args:=[.agg (xr [0,1,2,3,4])],bds:=[0,1,2,3,4].map eY,res:= .agg (dgL FM3 Pa 0)}
def lF:IE:= .rem (.add (.rem (.var 0) (.lit 39)) (.lit 39)) (.lit 39)
def gk(n:Int):Out:=dI.pf PR (fun _=>⟨[],[]⟩) 80 aG no' 12 [] lF n
def FT3:Fns:=⟨122,123,[0,1,2,3,4,5]⟩
def ade:List (Nat×Int×Int):=[eY 0,eY 1,eY 2,eY 3,bC 4]
def mQ:Con:={g:=96,args:=[.agg Wu,uV .i64 5],bds:=eY 5::ade,res:= .agg (dgL FT3 Pa 0)}
def BS:Out:=mQ.tree PR ⟨[],[]⟩ 40 aG no' 12 []
def FE3:Fns:=⟨124,125,[0,1,2,3,4]⟩
def dw:Con:={g:=30,args:=[.agg Wu],bds:=[(0,0,63),eY 1,eY 2,eY 3,bC 4],res:= .tuple [.int .u32 (dg FE3 .u32 0),.int .i64 (dg FE3 .i64 1)]}
def fZ(n:Int):Out:=dw.pf PR (fun _=>⟨[],[]⟩) 40 aG no' 12 [] (.var 0) n
def Pd(lo hi:Int):Con:={g:=30,args:=[.agg Wu],bds:=[(0,lo,hi),eY 1,eY 2,eY 3,bC 4],res:= .tuple [.int .u32 (.lit 0),.int .i64 (.lit 12)]}
def IX:Con:=Pd (-9223372036854775808) (-1)
def H6:Con:=Pd 64 9223372036854775807
end
end Go.Proofs.YtbhlmedfhilkbaaGreat
