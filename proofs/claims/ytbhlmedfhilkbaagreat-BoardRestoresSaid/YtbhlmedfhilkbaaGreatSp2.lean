/- Part Sp2. No condition. -/
import Derived.Test.YtbhlmedfhilkbaaGreatSpK
import Derived.Test.YtbhlmedfhilkbaaGreatSpQ
set_option linter.all false
namespace Go.Proofs.YtbhlmedfhilkbaaGreat
open Go Go.Sx
set_option maxRecDepth 1000000
noncomputable section
section
variable{G:Nat->Int->Int->Int->Int}(hP:gg G){F R:Fns}(hFx:F.vars=[0,90])(hRx:R.vars=[0,90,2,3])(hk:7<F.KR/\7<F.KV)(hR:R.Def G (jQ F).rt)
include hP hFx hRx hk hR
end
def keyOf:List (IE×Nat)->IE->Option Nat
 | [],_=>none
 | (k,n)::l,e=>match k.eq e with
   |true=>some n
   |false=>keyOf l e
def aed(l:List (IE×Nat))(e:IE):IE:=
 match keyOf l e with
 |some n=> .var n
 |none=>match e with
  | .lit n=> .lit n
  | .var i=> .var i
  | .add a b=> .add (aed l a) (aed l b)
  | .sub a b=> .sub (aed l a) (aed l b)
  | .mul a b=> .mul (aed l a) (aed l b)
  | .wrap k a=> .wrap k (aed l a)
  | .bits op k a b=> .bits op k (aed l a) (aed l b)
  | .quo a b=> .quo (aed l a) (aed l b)
  | .rem a b=> .rem (aed l a) (aed l b)
  | .shl k a b=> .shl k (aed l a) (aed l b)
  | .shr k a b=> .shr k (aed l a) (aed l b)
  | .fn c x y z=> .fn c (aed l x) (aed l y) (aed l z)
  | .sel s a b x y=> .sel s (aed l a) (aed l b) (aed l x) (aed l y)
def ag2(l:List (IE×Nat)):BE->BE
 | .lit b=> .lit b
 | .var i=> .var i
 | .eq a b=> .eq (aed l a) (aed l b)
 | .lt a b=> .lt (aed l a) (aed l b)
 | .not a=> .not (ag2 l a)
def agp(l:List (IE×Nat)):RT->RT
 | .bad=> .bad
 | .again x=> .again (aed l x)
 | .done es=> .done (es.map (aed l))
 | .split b y n=> .split (ag2 l b) (agp l y) (agp l n)
theorem ag9{l:List (IE×Nat)}{e:IE}{n:Nat}(h:keyOf l e=some n):(e,n)∈l:=by
 induction l with
 |nil=>cases h
 |cons x l ih=>
  obtain ⟨k,m⟩:=x;unfold keyOf at h;split at h
  ·rename_i he;cases h;rw [IE.eq_eq he];exact List.mem_cons_self ..
  ·exact List.mem_cons_of_mem _ (ih h)
def aes(l:List (IE×Nat))(ρ:Env):Env:={ρ with i:=fun v=>match l.find? fun x=>Nat.beq x.2 v with
 |some x=>x.1.ev ρ
 |none=>ρ.i v}
section
variable{l:List (IE×Nat)}{ρ:Env}(hl: ∀x∈l,(aes l ρ).i x.2=x.1.ev ρ){V:Nat->Bool}(hV: ∀i,V i=true->(aes l ρ).i i=ρ.i i)
include hl hV
theorem ae1{K:Nat}(e:IE):e.only V K=true->(aed l e).ev (aes l ρ)=e.ev ρ:=by
 have key: ∀(e:IE),(keyOf l e=none->(aed l e).ev (aes l ρ)=e.ev ρ)->(aed l e).ev (aes l ρ)=e.ev ρ:=fun e h=>by
  cases hk:keyOf l e with
  |none=>exact h hk
  |some n=>
   unfold aed;rw [hk];exact hl _ (ag9 hk)
 induction e with
 |lit n=>intro _; refine key _ fun hk=> ?_; unfold aed; rw [hk]; rfl
 |var i=>intro h; refine key _ fun hk=> ?_; unfold aed; rw [hk]; exact hV i h
 |add a b iha ihb=>intro h; obtain ⟨h1,h2⟩:=aa h; refine key _ fun hk=> ?_; unfold aed; rw [hk]; simp only [IE.ev,iha h1,ihb h2]
 |sub a b iha ihb=>intro h; obtain ⟨h1,h2⟩:=aa h; refine key _ fun hk=> ?_; unfold aed; rw [hk]; simp only [IE.ev,iha h1,ihb h2]
 |mul a b iha ihb=>intro h; obtain ⟨h1,h2⟩:=aa h; refine key _ fun hk=> ?_; unfold aed; rw [hk]; simp only [IE.ev,iha h1,ihb h2]
 |wrap k a iha=>intro h; refine key _ fun hk=> ?_; unfold aed; rw [hk]; simp only [IE.ev,iha h]
 |bits op k a b iha ihb=>intro h; obtain ⟨h1,h2⟩:=aa h; refine key _ fun hk=> ?_; unfold aed; rw [hk]; simp only [IE.ev,iha h1,ihb h2]
 |quo a b iha ihb=>intro h; obtain ⟨h1,h2⟩:=aa h; refine key _ fun hk=> ?_; unfold aed; rw [hk]; simp only [IE.ev,iha h1,ihb h2]
 |rem a b iha ihb=>intro h; obtain ⟨h1,h2⟩:=aa h; refine key _ fun hk=> ?_; unfold aed; rw [hk]; simp only [IE.ev,iha h1,ihb h2]
 |shl k a b iha ihb=>intro h; obtain ⟨h1,h2⟩:=aa h; refine key _ fun hk=> ?_; unfold aed; rw [hk]; simp only [IE.ev,iha h1,ihb h2]
 |shr k a b iha ihb=>intro h; obtain ⟨h1,h2⟩:=aa h; refine key _ fun hk=> ?_; unfold aed; rw [hk]; simp only [IE.ev,iha h1,ihb h2]
 |fn c x y z ihx ihy ihz=>
  intro h;obtain ⟨_,h⟩:=aa h;obtain ⟨h1,h⟩:=aa h;obtain ⟨h2,h3⟩:=aa h;refine key _ fun hk=> ?_
  unfold aed;rw [hk];simp only [IE.ev,ihx h1,ihy h2,ihz h3];rfl
 |sel s a b x y iha ihb ihx ihy=>
  intro h;obtain ⟨h0,h⟩:=aa h;obtain ⟨h1,h⟩:=aa h;obtain ⟨h2,h3⟩:=aa h;refine key _ fun hk=> ?_
  unfold aed;rw [hk];simp only [IE.ev,iha h0,ihb h1,ihx h2,ihy h3]
theorem ahr{K:Nat}(e:BE):e.only V K=true->(ag2 l e).ev (aes l ρ)=e.ev ρ:=by
 induction e with
 |lit b=>intro _; rfl
 |var i=>intro h; cases h
 |eq a b=>intro h; obtain ⟨h1,h2⟩:=aa h; simp only [ag2,BE.ev,ae1 hl hV a h1,ae1 hl hV b h2]
 |lt a b=>intro h; obtain ⟨h1,h2⟩:=aa h; simp only [ag2,BE.ev,ae1 hl hV a h1,ae1 hl hV b h2]
 |not a ih=>intro h; simp only [ag2,BE.ev,ih h]
theorem ag3{K:Nat}(t:RT):t.only V K=true->(agp l t).pick (aes l ρ)=t.pick ρ:=by
 induction t with
 |bad=>intro _; rfl
 |again x=>intro h; simp only [agp,RT.pick,ae1 hl hV x h]
 |done es=>
  intro h;simp only [agp,RT.pick,List.map_map]
  congr 1
  exact List.map_congr_left fun e he=>ae1 hl hV e (List.all_eq_true.1 h e he)
 |split b y n ihy ihn=>
  intro h;obtain ⟨h1,h2⟩:=aa h;obtain ⟨h2,h3⟩:=aa h2;simp only [agp,RT.pick,ahr hl hV b h1,ihy h2,ihn h3]
end
theorem agl{l:List (IE×Nat)}{ρ ρ':Env}{W:List Nat}{t:RT}{K:Nat}(hn:(l.map (·.2)).Nodup)(h1:t.only (fun i=> !(l.any fun x=>Nat.beq x.2 i)) K=true)(h2:(agp l t).only (fun i=>(l.any fun x=>Nat.beq x.2 i)||bR W i) K=true)(hg:ρ.g=ρ'.g)(hk: ∀x∈l,x.1.ev ρ=x.1.ev ρ')(hW: ∀i,bR W i=true->ρ.i i=ρ'.i i):t.pick ρ=t.pick ρ':=by
 have fnd: ∀x∈l,∀ρ:Env,(aes l ρ).i x.2=x.1.ev ρ:=by
  intro x hx ρ
  have:l.find? (fun y=>Nat.beq y.2 x.2)=some x:=by
   clear h1 h2 hk
   induction l with
   |nil=>cases hx
   |cons y l ih=>
    rw [List.map_cons,List.nodup_cons] at hn
    rcases List.mem_cons.1 hx with rfl |hx
    ·rw [List.find?_cons_of_pos];exact Nat.beq_refl _
    ·rw [List.find?_cons_of_neg]
     ·exact ih hn.2 hx
     ·intro h;exact hn.1 (List.mem_map.2 ⟨x,hx,(Nat.eq_of_beq_eq_true h).symm⟩)
  show (match l.find? fun y=>Nat.beq y.2 x.2 with |some x=>x.1.ev ρ |none=>ρ.i x.2)=_
  rw [this]
 have old: ∀(i:Nat),(l.any fun x=>Nat.beq x.2 i)=false-> ∀ρ:Env,(aes l ρ).i i=ρ.i i:=fun i hi ρ=>by
  have:l.find? (fun y=>Nat.beq y.2 i)=none:=List.find?_eq_none.2 fun x hx h=>by
   have:=List.any_eq_true (p:=fun x:IE×Nat=>Nat.beq x.2 i).2 ⟨x,hx,h⟩
   rw [this] at hi;cases hi
  show (match l.find? fun y=>Nat.beq y.2 i with |some x=>x.1.ev ρ |none=>ρ.i i)=_
  rw [this]
 have ev:=fun ρ=>ag3 (l:=l) (ρ:=ρ) (V:=fun i=> !(l.any fun x=>Nat.beq x.2 i)) (K:=K) (fun x hx=>fnd x hx ρ) (fun i hi=>old i (by simpa using hi) ρ) t h1
 rw [<- ev ρ,<-ev ρ'];refine RT.AK (K:=K) (fun i hi=> ?_) (fun c _=>by show ρ.g c=ρ'.g c; rw [hg]) _ h2
 cases ha:l.any fun x=>Nat.beq x.2 i
 ·rw [ha,Bool.false_or] at hi;rw [old i ha ρ,old i ha ρ'];exact hW i hi
 ·obtain ⟨x,hx,hb⟩:=List.any_eq_true.1 ha;have hb:=Nat.eq_of_beq_eq_true hb;subst hb;rw [fnd x hx ρ,fnd x hx ρ'];exact hk x hx
def notKey(l:List (IE×Nat))(t:RT):Bool:=t.only (fun i=> !(l.any fun x=>Nat.beq x.2 i)) 200
def ael(l:List (IE×Nat))(W:List Nat)(t:RT):Bool:=(agp l t).only (fun i=>(l.any fun x=>Nat.beq x.2 i)||bR W i) 200
def aep(coh:Bool):List IE:=zE coh++[fS coh,.var 28,bL,.var 41,.lit 1,up 43,.lit 0,.lit 0,.var 40,nk coh (tiE coh) (.lit 0)]
def aeq(coh:Bool):List IE:=[tkE coh,tiE coh,eR coh 18,jU coh,fO coh]
def ae0:List Rnd:=[.d1,.d2,.d5,.d3,.D]
theorem ae8{b:BE}{y n:HT}{ρ:Env}(h:b.ev ρ=true):(HT.split b y n).rt.pick ρ=y.rt.pick ρ:=by
 show aS (b.ev ρ) _ _=_;rw [h];rfl
theorem agn{b:BE}{y n:HT}{ρ:Env}(h:b.ev ρ=false):(HT.split b y n).rt.pick ρ=n.rt.pick ρ:=by
 show aS (b.ev ρ) _ _=_;rw [h];rfl
section
variable{G:Nat->Int->Int->Int->Int}(hG:RunG G)
include hG
theorem aip{ρ:Env}(h1:ρ.std G gh)(coh:Bool):(FB coh).x.ev ρ=mI [ρ.i 0,ρ.i 90,ρ.i 3,ρ.i 2,ρ.i 24,ρ.i 28,ρ.i 25,ρ.i 40,ρ.i 41,ρ.i 26,ρ.i 42,ρ.i 43]:=by
 have hP:gg ρ.g:=by rw [h1.1]; exact hG.rH
 unfold Fns.x;rw [jl hP];cases coh<;>rfl
theorem afa{ρ ρ':Env}(h1:ρ.std G gh)(h1':ρ'.std G gh)(coh:Bool)(e: ∀v∈[0,90,3,2,24,28,25,40,41,26,42,43],ρ.i v=ρ'.i v):(FB coh).x.ev ρ=(FB coh).x.ev ρ':=by
 rw [aip hG h1,aip hG h1',e 0 (by simp),e 90 (by simp),e 3 (by simp),e 2 (by simp),e 24 (by simp),e 28 (by simp),e 25 (by simp),e 40 (by simp),e 41 (by simp),e 26 (by simp),e 42 (by simp),e 43 (by simp)]
theorem ae9{ρ:Env}(h1:ρ.std G gh)(coh:Bool)(h: ¬(0<ρ.i 3)\/ρ.i 26=1):(FB coh).is G ((FB coh).x.ev ρ) (qm (ρ.i 90) aW 0++[ρ.i 0,ρ.i 28,ρ.i 25-ρ.i 28,ρ.i 41,kG.ev ρ,ρ.i 43,0,0,ρ.i 40,ρ.i 42]):=by
 have hs:=Hp hG coh ρ h1.1
 have e:(fk coh true).rt.pick ρ= .done (qm (ρ.i 90) aW 0++[ρ.i 0,ρ.i 28,ρ.i 25-ρ.i 28,ρ.i 41,kG.ev ρ,ρ.i 43,0,0,ρ.i 40,ρ.i 42]):=by
  have d:JH.rt.pick ρ= .done (qm (ρ.i 90) aW 0++[ρ.i 0,ρ.i 28,ρ.i 25-ρ.i 28,ρ.i 41,kG.ev ρ,ρ.i 43,0,0,ρ.i 40,ρ.i 42]):=by
   show RV.done _=_;rw [List.map_append];unfold stE;rw [Jv];rfl
  unfold fk;cases hg:goB.ev ρ
  ·rw [agn hg]; exact d
  ·rw [ae8 hg]
   rcases h with h |h
   ·exact absurd (of_decide_eq_true hg) h
   ·rw [ae8 (b:=stB) (decide_eq_true h)]; exact d
 rw [e] at hs;exact hs
theorem afj{X:Int}{coh:Bool}{S m s u o t n oc ec:Int}(h:(FB coh).is G X (qm S aW 0++[m,s,u,o,t,n,0,0,oc,ec]))(hs:0<=s/\s<=8)(ho:0<=o/\o<=100000000)(hn:0<=n/\n<=100000000):
 aeg S (G (FB coh).KR X 0 0)/\G (FB coh).KV X 0 24=m/\DX G (FB coh) X .u8 25=s/\DX G (FB coh) X .u32 27=o/\G (FB coh).KV X 0 28=t/\DX G (FB coh) X .u32 29=n/\G (FB coh).KV X 0 32=oc/\G (FB coh).KV X 0 33=ec:=by
 have at': ∀i:Nat,(qm S aW 0++[m,s,u,o,t,n,0,0,oc,ec])[24+i]? =[m,s,u,o,t,n,0,0,oc,ec][i]? :=fun i=>by
  rw [List.getElem?_append_right (by rw [uH]; exact Nat.le_add_right 24 i),uH]
  show _=_
  congr 1
  show 24+i-24=i;omega
 refine ⟨age fun j hj=> ?_,Wb h (at' 0),C6 h (at' 1) (show (0:Int)<=s by omega) (show s<=255 by omega),C6 h (at' 3) (show (0:Int)<=o by omega) (show o<=4294967295 by omega),Wb h (at' 4),C6 h (at' 5) (show (0:Int)<=n by omega) (show n<=4294967295 by omega),Wb h (at' 8),Wb h (at' 9)⟩
 have hm:=wrap_mem (D3 j) (ag S (j:Nat))
 have:=C6 h (j:=j) (k:=D3 j) (v:=dgN (D3 j) S j) (by
  rw [List.getElem?_append_left (by rw [uH]; exact hj),ER (aen j hj),Nat.zero_add]) hm.1 hm.2
 exact this.symm
end
section
variable{G:Nat->Int->Int->Int->Int}(hG:RunG G)
theorem aem{ρ:Env}(coh:Bool):(zE coh).map (·.ev ρ)=qm ((xO coh).ev ρ) aW 0:=by
 refine List.ext_getElem? fun j=> ?_
 rcases Nat.lt_or_ge j 24 with hj |hj
 ·rw [ER (aen j hj),Nat.zero_add,List.getElem?_map,ahl coh hj];rfl
 ·rw [List.getElem?_eq_none (by rw [List.length_map]; unfold zE; simpa using hj),List.getElem?_eq_none (by rw [uH]; exact hj)]
include hG
end
def agh(a k:Nat)(E E':Int):Prop:= ∀q:Nat,q<k*27->ag E ((a*27+q:Nat):Int)=ag E' (q:Nat)
def ahg(a:Nat)(E E0Q:Int):Prop:= ∀q:Nat,q<a*27->ag E (q:Nat)=ag E0Q (q:Nat)
structure Shifted (G:Nat->Int->Int->Int->Int) (coh:Bool) (a:Nat) (E0Q X Y:Int):Prop where
 st:aeg (G (FB coh).KR X 0 0) (G (FB coh).KR Y 0 0)
 m:G (FB coh).KV X 0 24=G (FB coh).KV Y 0 24
 t:G (FB coh).KV X 0 28=G (FB coh).KV Y 0 28
 oc:G (FB coh).KV X 0 32=G (FB coh).KV Y 0 32
 s:DX G (FB coh) X .u8 25=DX G (FB coh) Y .u8 25
 o:DX G (FB coh) X .u32 27=DX G (FB coh) Y .u32 27
 n: ∃k:Nat,DX G (FB coh) Y .u32 29=(k:Int)/\DX G (FB coh) X .u32 29=((a+k:Nat):Int)/\agh a k (G (FB coh).KV X 0 33) (G (FB coh).KV Y 0 33)
 p:ahg a (G (FB coh).KV X 0 33) E0Q
section
variable{G:Nat->Int->Int->Int->Int}(hG:RunG G)
include hG
end
end
end Go.Proofs.YtbhlmedfhilkbaaGreat
