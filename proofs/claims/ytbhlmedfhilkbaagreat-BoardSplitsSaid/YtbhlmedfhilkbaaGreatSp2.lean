/- A machine's run in two parts. No condition. -/
import Derived.Test.YtbhlmedfhilkbaaGreatSpK
import Derived.Test.YtbhlmedfhilkbaaGreatSpQ
import Derived.Test.YtbhlmedfhilkbaaGreatNmK
set_option linter.unusedSimpArgs false
set_option linter.unusedVariables false
set_option linter.unusedSectionVars false
namespace Go.Proofs.YtbhlmedfhilkbaaGreat
open Go Go.Sx
set_option maxRecDepth 1000000
noncomputable section
theorem ahy:aft sM=true:=agy aii (by decide) (aeh ai5 (aeh aiy (aeh ai7 (aeh aiv (aeh aiz (aeh aix ai0))))))
theorem ahw:aft BQ=true:=by
 have h:aee tSt gO FS dD=true:=by
  rw [fp]
  exact aeh ai3 ai1
 exact agy aij (by decide) h
theorem aik{G:Nat->Int->Int->Int->Int}{M S T:Int}(i:Nat)(h:i≠90):(qq G M S).i i=(qq G M T).i i:=by
 show (match (generalizing:=false) i with |0=>M |90=>S |_=>(0:Int))=(match (generalizing:=false) i with |0=>M |90=>T |_=>(0:Int))
 split
 ·rfl
 ·exact absurd rfl h
 ·rfl
theorem Fns.alike_refl{F:Fns}{G:Nat->Int->Int->Int->Int}(X:Int):F.alike G X X:=⟨rfl,fun _=>rfl⟩
theorem aeo{F:Fns}{G:Nat->Int->Int->Int->Int}{X Y:Int}(h:F.alike G X Y):F.alike G Y X:=⟨h.1.symm,fun z=>(h.2 z).symm⟩
theorem aec{F:Fns}{G:Nat->Int->Int->Int->Int}{X Y Z:Int}(h:F.alike G X Y)(k:F.alike G Y Z):F.alike G X Z:=⟨h.1.trans k.1,fun z=>(h.2 z).trans (k.2 z)⟩
theorem af3{G:Nat->Int->Int->Int->Int}(hP:gg G){F:Fns}(hFx:F.vars=[0,90]){t:RT}(ht:aft t=true)(hF:F.Def G t){M S T:Int}(h:aeg S T):F.alike G (pk2 M S) (pk2 M T):=by
 have hx: ∀S,F.x.ev (qq G M S)=pk2 M S:=fun S=>by
  unfold Fns.x
  rw [hFx,jl (ρ:=qq G M S) hP]
  rfl
 obtain ⟨e,l,hl⟩:=ag1 (ρ:=qq G M S) (ρ':=qq G M T) (fun i hi=>aik i hi) rfl h rfl t ht
 have h1:=hF (qq G M S) rfl
 have h2:=hF (qq G M T) rfl
 rw [hl,hx] at h1
 rw [<- e,hl,hx] at h2
 exact OG h1 h2
theorem af8{S T:Int}(h:aeg S T):qm S aW 0=qm T aW 0:=by
 refine List.ext_getElem? fun j=> ?_
 rcases Nat.lt_or_ge j 24 with hj |hj
 ·rw [ER (aen j hj),ER (aen j hj),Nat.zero_add,h.dig hj]
 ·have e: ∀S,(qm S aW 0)[j]? =none:=fun S=>List.getElem?_eq_none (by rw [uH]; exact hj)
  rw [e,e]
section
variable{G:Nat->Int->Int->Int->Int}(hP:gg G){F R:Fns}(hFx:F.vars=[0,90])(hRx:R.vars=[0,90,2,3])(hk:7<F.KR/\7<F.KV)(hR:R.Def G (jQ F).rt)
include hP hFx hRx hk hR
theorem agi(hs: ∀ {M S T:Int},aeg S T->F.alike G (pk2 M S) (pk2 M T)){M S T d w:Int}(h:aeg S T):R.alike G (pk4 M S d w) (pk4 M T d w):=by
 have a:=run_eq hP hFx hRx hk hR M S d w
 have b:=run_eq hP hFx hRx hk hR M T d w
 have e1:N3 S=N3 T:=h.d
 have e2:fN S=fN T:=h.p
 have e3:=hs (M:=M) h
 rw [<- e1,<-e2,<-e3.1,<-e3.2,<-af8 h] at b
 generalize (decide (0<N3 S)&& !decide (fN S<N3 S))=c1 at a b
 generalize decide (d<w)=c2 at a b
 generalize decide (dgN .u8 (G F.KR (pk2 M S) 0 0) 24=0)=c3 at a b
 cases c1
 ·cases c2
  ·exact OG a b
  ·cases c3
   ·exact OG a b
   ·exact aec a (aeo b)
 ·exact OG a b
theorem af1(c:Int): ∀(n:Nat) (M S d w:Int),w-d<=n->R.alike G (pk4 M S d w) (pk4 M S (d+c) (w+c)):=by
 intro n
 induction n with
 |zero=>
  intro M S d w hn
  have a:=run_eq hP hFx hRx hk hR M S d w
  have b:=run_eq hP hFx hRx hk hR M S (d+c) (w+c)
  rw [decide_eq_false (show ¬d<w by omega)] at a
  rw [decide_eq_false (show ¬d+c<w+c by omega)] at b
  generalize (decide (0<N3 S)&& !decide (fN S<N3 S))=c1 at a b
  cases c1
  ·exact OG a b
  ·exact OG a b
 |succ n ih=>
  intro M S d w hn
  have a:=run_eq hP hFx hRx hk hR M S d w
  have b:=run_eq hP hFx hRx hk hR M S (d+c) (w+c)
  have e:decide (d+c<w+c)=decide (d<w):=by
   by_cases h:d<w
   ·rw [decide_eq_true h,decide_eq_true (by omega)]
   ·rw [decide_eq_false h,decide_eq_false (by omega)]
  rw [e] at b
  generalize (decide (0<N3 S)&& !decide (fN S<N3 S))=c1 at a b
  by_cases hd:d<w
  ·rw [decide_eq_true hd] at a b
   generalize decide (dgN .u8 (G F.KR (pk2 M S) 0 0) 24=0)=c3 at a b
   cases c1
   ·cases c3
    ·exact OG a b
    ·have:=ih (G F.KV (pk2 M S) 0 26) (G F.KR (pk2 M S) 0 0) (d+1) w (by omega)
     rw [show d+1+c=d+c+1 by omega] at this
     exact aec a (aec this (aeo b))
   ·exact OG a b
  ·rw [decide_eq_false hd] at a b
   cases c1
   ·exact OG a b
   ·exact OG a b
theorem agm(hc: ∀M S,dgN .u8 (G F.KR (pk2 M S) 0 0) 24=0->fN (G F.KR (pk2 M S) 0 0)=IntKind.i64.wrap (fN S+1))(c:Int)(hc0:0<=c): ∀(n:Nat) (M S d w:Int),w-d<=n->d<=w->0<=fN S->fN S+n<=1000000000000->
 (fN (G R.KR (pk4 M S d w) 0 0)<fN S+(w-d)/\R.alike G (pk4 M S d (w+c)) (pk4 M S d w))\/
 (∃ S':Int,fN S'=fN S+(w-d)/\aeg S' (G R.KR (pk4 M S d w) 0 0)/\R.alike G (pk4 M S d (w+c)) (pk4 (G R.KV (pk4 M S d w) 0 24) S' w (w+c))):=by
 have kvR: ∀ {M S d w m a b:Int},R.is G (pk4 M S d w) (qm S aW 0++[m,a,b])->G R.KV (pk4 M S d w) 0 24=m:=fun h=>by
  rw [h.2]
  rfl
 have same: ∀ {M S d w:Int} {l:List Int},R.is G (pk4 M S d w) (qm S aW 0++l)->aeg S (G R.KR (pk4 M S d w) 0 0):=fun h=>age fun j hj=>(aga hP hFx hRx hk hR h hj).symm
 intro n
 induction n with
 |zero=>
  intro M S d w hn hd h0 h1
  have e:d=w:=by omega
  subst e
  have a:=run_eq hP hFx hRx hk hR M S d d
  rw [decide_eq_false (show ¬d<d by omega)] at a
  right
  cases hc1:decide (0<N3 S)&& !decide (fN S<N3 S)
  ·rw [hc1] at a
   exact ⟨S,by omega,same a,by rw [kvR a]; exact Fns.alike_refl _⟩
  ·rw [hc1] at a
   exact ⟨S,by omega,same a,by rw [kvR a]; exact Fns.alike_refl _⟩
 |succ n ih=>
  intro M S d w hn hd h0 h1
  have a:=run_eq hP hFx hRx hk hR M S d w
  have b:=run_eq hP hFx hRx hk hR M S d (w+c)
  by_cases hdw:d<w
  ·rw [decide_eq_true hdw] at a
   rw [decide_eq_true (show d<w+c by omega)] at b
   cases hc1:decide (0<N3 S)&& !decide (fN S<N3 S)
   ·rw [hc1] at a b
    by_cases h24:dgN .u8 (G F.KR (pk2 M S) 0 0) 24=0
    ·rw [decide_eq_true h24] at a b
     have a:R.alike G (pk4 M S d w) (pk4 (G F.KV (pk2 M S) 0 26) (G F.KR (pk2 M S) 0 0) (d+1) w):=a
     have b:R.alike G (pk4 M S d (w+c)) (pk4 (G F.KV (pk2 M S) 0 26) (G F.KR (pk2 M S) 0 0) (d+1) (w+c)):=b
     have e:=hc M S h24
     rw [wrap64 (by omega) (by omega)] at e
     rcases ih (G F.KV (pk2 M S) 0 26) (G F.KR (pk2 M S) 0 0) (d+1) w (by omega) (by omega) (by omega) (by omega) with ⟨q1,q2⟩ | ⟨S',q1,q2,q3⟩
     ·left
      rw [a.1]
      exact ⟨by omega,aec b (aec q2 (aeo a))⟩
     ·right
      rw [a.1,a.2]
      exact ⟨S',by omega,q2,aec b q3⟩
    ·rw [decide_eq_false h24] at a b
     left
     have e:fN (G R.KR (pk4 M S d w) 0 0)=fN S:=lW hP hFx hRx hk hR a
     exact ⟨by omega,OG b a⟩
   ·rw [hc1] at a b
    left
    have e:fN (G R.KR (pk4 M S d w) 0 0)=fN S:=lW hP hFx hRx hk hR a
    exact ⟨by omega,OG b a⟩
  ·have e:d=w:=by omega
   subst e
   rw [decide_eq_false hdw] at a
   right
   cases hc1:decide (0<N3 S)&& !decide (fN S<N3 S)
   ·rw [hc1] at a
    exact ⟨S,by omega,same a,by rw [kvR a]; exact Fns.alike_refl _⟩
   ·rw [hc1] at a
    exact ⟨S,by omega,same a,by rw [kvR a]; exact Fns.alike_refl _⟩
end
end
end Go.Proofs.YtbhlmedfhilkbaaGreat
namespace Go.Proofs.YtbhlmedfhilkbaaGreat
open Go Go.Sx
set_option maxRecDepth 1000000
noncomputable section
def keyOf:List (IE×Nat)->IE->Option Nat
 | [],_=>none
 | (k,n)::l,e=>match k.eq e with
   |true=>some n
   |false=>keyOf l e
def aed(l:List (IE×Nat))(e:IE):IE:=
 match keyOf l e with
 |some n=> .var n
 |none=>match e with
  | .lit n=> .lit n
  | .var i=> .var i
  | .add a b=> .add (aed l a) (aed l b)
  | .sub a b=> .sub (aed l a) (aed l b)
  | .mul a b=> .mul (aed l a) (aed l b)
  | .wrap k a=> .wrap k (aed l a)
  | .bits op k a b=> .bits op k (aed l a) (aed l b)
  | .quo a b=> .quo (aed l a) (aed l b)
  | .rem a b=> .rem (aed l a) (aed l b)
  | .shl k a b=> .shl k (aed l a) (aed l b)
  | .shr k a b=> .shr k (aed l a) (aed l b)
  | .fn c x y z=> .fn c (aed l x) (aed l y) (aed l z)
  | .sel s a b x y=> .sel s (aed l a) (aed l b) (aed l x) (aed l y)
def ag2(l:List (IE×Nat)):BE->BE
 | .lit b=> .lit b
 | .var i=> .var i
 | .eq a b=> .eq (aed l a) (aed l b)
 | .lt a b=> .lt (aed l a) (aed l b)
 | .not a=> .not (ag2 l a)
def agp(l:List (IE×Nat)):RT->RT
 | .bad=> .bad
 | .again x=> .again (aed l x)
 | .done es=> .done (es.map (aed l))
 | .split b y n=> .split (ag2 l b) (agp l y) (agp l n)
theorem ag9{l:List (IE×Nat)}{e:IE}{n:Nat}(h:keyOf l e=some n):(e,n)∈l:=by
 induction l with
 |nil=>cases h
 |cons x l ih=>
  obtain ⟨k,m⟩:=x
  unfold keyOf at h
  split at h
  ·rename_i he
   cases h
   rw [IE.eq_eq he]
   exact List.mem_cons_self ..
  ·exact List.mem_cons_of_mem _ (ih h)
def aes(l:List (IE×Nat))(ρ:Env):Env:={ρ with i:=fun v=>match l.find? fun x=>Nat.beq x.2 v with
 |some x=>x.1.ev ρ
 |none=>ρ.i v}
section
variable{l:List (IE×Nat)}{ρ:Env}(hl: ∀x∈l,(aes l ρ).i x.2=x.1.ev ρ){V:Nat->Bool}(hV: ∀i,V i=true->(aes l ρ).i i=ρ.i i)
include hl hV
theorem ae1{K:Nat}(e:IE):e.only V K=true->(aed l e).ev (aes l ρ)=e.ev ρ:=by
 have key: ∀(e:IE),(keyOf l e=none->(aed l e).ev (aes l ρ)=e.ev ρ)->(aed l e).ev (aes l ρ)=e.ev ρ:=fun e h=>by
  cases hk:keyOf l e with
  |none=>exact h hk
  |some n=>
   unfold aed
   rw [hk]
   exact hl _ (ag9 hk)
 induction e with
 |lit n=>intro _; refine key _ fun hk=> ?_; unfold aed; rw [hk]; rfl
 |var i=>intro h; refine key _ fun hk=> ?_; unfold aed; rw [hk]; exact hV i h
 |add a b iha ihb=>intro h; obtain ⟨h1,h2⟩:=aa h; refine key _ fun hk=> ?_; unfold aed; rw [hk]; simp only [IE.ev,iha h1,ihb h2]
 |sub a b iha ihb=>intro h; obtain ⟨h1,h2⟩:=aa h; refine key _ fun hk=> ?_; unfold aed; rw [hk]; simp only [IE.ev,iha h1,ihb h2]
 |mul a b iha ihb=>intro h; obtain ⟨h1,h2⟩:=aa h; refine key _ fun hk=> ?_; unfold aed; rw [hk]; simp only [IE.ev,iha h1,ihb h2]
 |wrap k a iha=>intro h; refine key _ fun hk=> ?_; unfold aed; rw [hk]; simp only [IE.ev,iha h]
 |bits op k a b iha ihb=>intro h; obtain ⟨h1,h2⟩:=aa h; refine key _ fun hk=> ?_; unfold aed; rw [hk]; simp only [IE.ev,iha h1,ihb h2]
 |quo a b iha ihb=>intro h; obtain ⟨h1,h2⟩:=aa h; refine key _ fun hk=> ?_; unfold aed; rw [hk]; simp only [IE.ev,iha h1,ihb h2]
 |rem a b iha ihb=>intro h; obtain ⟨h1,h2⟩:=aa h; refine key _ fun hk=> ?_; unfold aed; rw [hk]; simp only [IE.ev,iha h1,ihb h2]
 |shl k a b iha ihb=>intro h; obtain ⟨h1,h2⟩:=aa h; refine key _ fun hk=> ?_; unfold aed; rw [hk]; simp only [IE.ev,iha h1,ihb h2]
 |shr k a b iha ihb=>intro h; obtain ⟨h1,h2⟩:=aa h; refine key _ fun hk=> ?_; unfold aed; rw [hk]; simp only [IE.ev,iha h1,ihb h2]
 |fn c x y z ihx ihy ihz=>
  intro h
  obtain ⟨_,h⟩:=aa h
  obtain ⟨h1,h⟩:=aa h
  obtain ⟨h2,h3⟩:=aa h
  refine key _ fun hk=> ?_
  unfold aed
  rw [hk]
  simp only [IE.ev,ihx h1,ihy h2,ihz h3]
  rfl
 |sel s a b x y iha ihb ihx ihy=>
  intro h
  obtain ⟨h0,h⟩:=aa h
  obtain ⟨h1,h⟩:=aa h
  obtain ⟨h2,h3⟩:=aa h
  refine key _ fun hk=> ?_
  unfold aed
  rw [hk]
  simp only [IE.ev,iha h0,ihb h1,ihx h2,ihy h3]
theorem ahr{K:Nat}(e:BE):e.only V K=true->(ag2 l e).ev (aes l ρ)=e.ev ρ:=by
 induction e with
 |lit b=>intro _; rfl
 |var i=>intro h; cases h
 |eq a b=>intro h; obtain ⟨h1,h2⟩:=aa h; simp only [ag2,BE.ev,ae1 hl hV a h1,ae1 hl hV b h2]
 |lt a b=>intro h; obtain ⟨h1,h2⟩:=aa h; simp only [ag2,BE.ev,ae1 hl hV a h1,ae1 hl hV b h2]
 |not a ih=>intro h; simp only [ag2,BE.ev,ih h]
theorem ag3{K:Nat}(t:RT):t.only V K=true->(agp l t).pick (aes l ρ)=t.pick ρ:=by
 induction t with
 |bad=>intro _; rfl
 |again x=>intro h; simp only [agp,RT.pick,ae1 hl hV x h]
 |done es=>
  intro h
  simp only [agp,RT.pick,List.map_map]
  congr 1
  exact List.map_congr_left fun e he=>ae1 hl hV e (List.all_eq_true.1 h e he)
 |split b y n ihy ihn=>
  intro h
  obtain ⟨h1,h2⟩:=aa h
  obtain ⟨h2,h3⟩:=aa h2
  simp only [agp,RT.pick,ahr hl hV b h1,ihy h2,ihn h3]
end
theorem agl{l:List (IE×Nat)}{ρ ρ':Env}{W:List Nat}{t:RT}{K:Nat}(hn:(l.map (·.2)).Nodup)(h1:t.only (fun i=> !(l.any fun x=>Nat.beq x.2 i)) K=true)(h2:(agp l t).only (fun i=>(l.any fun x=>Nat.beq x.2 i)||bR W i) K=true)(hg:ρ.g=ρ'.g)(hk: ∀x∈l,x.1.ev ρ=x.1.ev ρ')(hW: ∀i,bR W i=true->ρ.i i=ρ'.i i):t.pick ρ=t.pick ρ':=by
 have fnd: ∀x∈l,∀ρ:Env,(aes l ρ).i x.2=x.1.ev ρ:=by
  intro x hx ρ
  have:l.find? (fun y=>Nat.beq y.2 x.2)=some x:=by
   clear h1 h2 hk
   induction l with
   |nil=>cases hx
   |cons y l ih=>
    rw [List.map_cons,List.nodup_cons] at hn
    rcases List.mem_cons.1 hx with rfl |hx
    ·rw [List.find?_cons_of_pos]
     exact Nat.beq_refl _
    ·rw [List.find?_cons_of_neg]
     ·exact ih hn.2 hx
     ·intro h
      exact hn.1 (List.mem_map.2 ⟨x,hx,(Nat.eq_of_beq_eq_true h).symm⟩)
  show (match l.find? fun y=>Nat.beq y.2 x.2 with |some x=>x.1.ev ρ |none=>ρ.i x.2)=_
  rw [this]
 have old: ∀(i:Nat),(l.any fun x=>Nat.beq x.2 i)=false-> ∀ρ:Env,(aes l ρ).i i=ρ.i i:=fun i hi ρ=>by
  have:l.find? (fun y=>Nat.beq y.2 i)=none:=List.find?_eq_none.2 fun x hx h=>by
   have:=List.any_eq_true (p:=fun x:IE×Nat=>Nat.beq x.2 i).2 ⟨x,hx,h⟩
   rw [this] at hi
   cases hi
  show (match l.find? fun y=>Nat.beq y.2 i with |some x=>x.1.ev ρ |none=>ρ.i i)=_
  rw [this]
 have ev:=fun ρ=>ag3 (l:=l) (ρ:=ρ) (V:=fun i=> !(l.any fun x=>Nat.beq x.2 i)) (K:=K) (fun x hx=>fnd x hx ρ) (fun i hi=>old i (by simpa using hi) ρ) t h1
 rw [<- ev ρ,<-ev ρ']
 refine RT.AK (K:=K) (fun i hi=> ?_) (fun c _=>by show ρ.g c=ρ'.g c; rw [hg]) _ h2
 cases ha:l.any fun x=>Nat.beq x.2 i
 ·rw [ha,Bool.false_or] at hi
  rw [old i ha ρ,old i ha ρ']
  exact hW i hi
 ·obtain ⟨x,hx,hb⟩:=List.any_eq_true.1 ha
  have hb:=Nat.eq_of_beq_eq_true hb
  subst hb
  rw [fnd x hx ρ,fnd x hx ρ']
  exact hk x hx
def afe(coh:Bool):HT:= .split (Ma coh) (V6 coh) (.split (.eq (tkE coh) (.lit 4)) (abn coh true) (BA coh true))
def afu(coh:Bool):List (IE×Nat):=[(xO coh,60),(fS coh,61),(cy coh,62),(jU coh,63)]
def aek(coh:Bool):List (IE×Nat):=[(xO coh,60),(fS coh,61)]
def af6:List Nat:=[24,25,28,40,41,26,42,43]
def no3:List Nat:=[0,90,2,24,25,28,40,41,26,42,43]
def notKey(l:List (IE×Nat))(t:RT):Bool:=t.only (fun i=> !(l.any fun x=>Nat.beq x.2 i)) 200
def ael(l:List (IE×Nat))(W:List Nat)(t:RT):Bool:=(agp l t).only (fun i=>(l.any fun x=>Nat.beq x.2 i)||bR W i) 200
def aep(coh:Bool):List IE:=zE coh++[fS coh,.var 28,bL,.var 41,.lit 1,up 43,.lit 0,.lit 0,.var 40,nk coh (tiE coh) (.lit 0)]
def aeq(coh:Bool):List IE:=[tkE coh,tiE coh,eR coh 18,jU coh,fO coh]
def afk(coh:Bool)(r:Rnd):List IE:=match r.next coh with
 |some σ=>no3.map σ
 |none=>[]
def ae0:List Rnd:=[.d1,.d2,.d5,.d3,.D]
theorem aho:([true,false].all fun coh=>notKey (afu coh) (afe coh).rt&&(ael (afu coh) af6 (afe coh).rt&&(notKey (aek coh) (.done (aep coh))&&(ael (aek coh) no3 (.done (aep coh))&&(notKey (aek coh) (.done (aeq coh))&&(ael (aek coh) no3 (.done (aeq coh))&&ae0.all fun r=>notKey (aek coh) (.done (afk coh r))&&ael (aek coh) no3 (.done (afk coh r))))))))=true:=by kernel_rfl
end
end Go.Proofs.YtbhlmedfhilkbaaGreat
namespace Go.Proofs.YtbhlmedfhilkbaaGreat
open Go Go.Sx
set_option maxRecDepth 1000000
noncomputable section
theorem afh(coh:Bool):notKey (afu coh) (afe coh).rt=true/\ael (afu coh) af6 (afe coh).rt=true/\notKey (aek coh) (.done (aep coh))=true/\ael (aek coh) no3 (.done (aep coh))=true/\notKey (aek coh) (.done (aeq coh))=true/\ael (aek coh) no3 (.done (aeq coh))=true/\ ∀r∈ae0,notKey (aek coh) (.done (afk coh r))=true/\ael (aek coh) no3 (.done (afk coh r))=true:=by
 have h:=List.all_eq_true.1 aho coh (by cases coh<;>simp)
 simp only [Bool.and_eq_true,List.all_eq_true] at h
 exact h
theorem ae8{b:BE}{y n:HT}{ρ:Env}(h:b.ev ρ=true):(HT.split b y n).rt.pick ρ=y.rt.pick ρ:=by
 show aS (b.ev ρ) _ _=_
 rw [h]
 rfl
theorem agn{b:BE}{y n:HT}{ρ:Env}(h:b.ev ρ=false):(HT.split b y n).rt.pick ρ=n.rt.pick ρ:=by
 show aS (b.ev ρ) _ _=_
 rw [h]
 rfl
theorem ahz(t:HT)(ρ:Env):t.rt.pick ρ≠ .bad:=by
 induction t with
 |again xs=>exact fun h=>by cases h
 |done rs=>exact fun h=>by cases h
 |split b y n ihy ihn=>
  cases hb:b.ev ρ
  ·rw [agn hb]; exact ihn
  ·rw [ae8 hb]; exact ihy
def σ3c(c:Int):Nat->IE:=fun i=>match i with
 |3=> .add (.var 3) (.lit c)
 |i=> .var i
def σ2c(coh:Bool)(c:Int):Nat->IE:=fun i=>match i with
 |0=>kvE (FB coh) 24
 |90=> .fn (FB coh).KR (FB coh).x (.lit 0) (.lit 0)
 |3=> .lit c
 |2=> .lit 0
 |28=>dg (FB coh) .u8 25
 |40=>kvE (FB coh) 32
 |41=>dg (FB coh) .u32 27
 |26=>kvE (FB coh) 28
 |42=>kvE (FB coh) 33
 |43=>dg (FB coh) .u32 29
 |i=> .var i
theorem Okb.congr{ρ ρ':Env}(h:Okb ρ)(e: ∀v∈[3,2,28,25,41,43,26],ρ'.i v=ρ.i v):Okb ρ':=by
 obtain ⟨l,r,s,t,o,n,z,pn,po⟩:=h
 have e3:=e 3 (by simp)
 have e2:=e 2 (by simp)
 have e28:=e 28 (by simp)
 have e25:=e 25 (by simp)
 have e41:=e 41 (by simp)
 have e43:=e 43 (by simp)
 have e26:=e 26 (by simp)
 have em:muN ρ'=muN ρ:=by unfold muN; rw [e3,e2,e26]
 exact ⟨by rw [e3]; exact l,by rw [e2]; exact r,by rw [e28,e25]; exact s,by rw [e25]; exact t,by rw [e41]; exact o,by rw [e43]; exact n,by rw [e26]; exact z,by rw [e43,em]; exact pn,by rw [e41,em]; exact po⟩
section
variable{G:Nat->Int->Int->Int->Int}(hG:RunG G)
include hG
theorem afx(coh:Bool){M S T d w:Int}(h:aeg S T):(FRc coh).alike G (pk4 M S d w) (pk4 M T d w):=by
 cases coh
 ·exact agi (F:=FS) hG.rH rfl rfl (by decide) hG.r (fun h=>af3 hG.rH rfl ahw hG.s h) h
 ·exact agi (F:=FKS) hG.rH rfl rfl (by decide) hG.rk (fun h=>af3 hG.rH rfl ahy hG.ks h) h
theorem agr(coh:Bool)(c:Int)(n:Nat){M S d w:Int}(h:w-d<=n):(FRc coh).alike G (pk4 M S d w) (pk4 M S (d+c) (w+c)):=by
 cases coh
 ·exact af1 (F:=FS) hG.rH rfl rfl (by decide) hG.r c n _ _ _ _ h
 ·exact af1 (F:=FKS) hG.rH rfl rfl (by decide) hG.rk c n _ _ _ _ h
theorem afz(coh:Bool){c:Int}(hc:0<=c)(n:Nat){M S d w:Int}(h:w-d<=n)(hd:d<=w)(h0:0<=fN S)(h1:fN S+n<=1000000000000):
 (fN (G (FRc coh).KR (pk4 M S d w) 0 0)<fN S+(w-d)/\(FRc coh).alike G (pk4 M S d (w+c)) (pk4 M S d w))\/
 (∃ S':Int,fN S'=fN S+(w-d)/\aeg S' (G (FRc coh).KR (pk4 M S d w) 0 0)/\(FRc coh).alike G (pk4 M S d (w+c)) (pk4 (G (FRc coh).KV (pk4 M S d w) 0 24) S' w (w+c))):=by
 cases coh
 ·exact agm (F:=FS) hG.rH rfl rfl (by decide) hG.r (Zb hG.rH hG.s) c hc n _ _ _ _ h hd h0 h1
 ·exact agm (F:=FKS) hG.rH rfl rfl (by decide) hG.rk (aa2 hG.rH hG.k hG.ks) c hc n _ _ _ _ h hd h0 h1
theorem afo{ρ:Env}(h1:ρ.std G gh)(coh:Bool):(xO coh).ev ρ=G (FRc coh).KR (pk4 (ρ.i 0) (ρ.i 90) 0 (ρ.i 3)) 0 0/\(fS coh).ev ρ=G (FRc coh).KV (pk4 (ρ.i 0) (ρ.i 90) 0 (ρ.i 3)) 0 24:=by
 have hP:gg ρ.g:=by rw [h1.1]; exact hG.rH
 constructor
 ·show fnI ρ (FRc coh).KR (x0.ev ρ) 0 0=_
  rw [Ws hP,bY (by cases coh<;>decide),h1.1]
 ·show fnI ρ (FRc coh).KV (x0.ev ρ) 0 _=_
  rw [Ws hP,bY (by cases coh<;>decide),h1.1]
  rfl
theorem aip{ρ:Env}(h1:ρ.std G gh)(coh:Bool):(FB coh).x.ev ρ=mI [ρ.i 0,ρ.i 90,ρ.i 3,ρ.i 2,ρ.i 24,ρ.i 28,ρ.i 25,ρ.i 40,ρ.i 41,ρ.i 26,ρ.i 42,ρ.i 43]:=by
 have hP:gg ρ.g:=by rw [h1.1]; exact hG.rH
 unfold Fns.x
 rw [jl hP]
 cases coh<;>rfl
theorem afa{ρ ρ':Env}(h1:ρ.std G gh)(h1':ρ'.std G gh)(coh:Bool)(e: ∀v∈[0,90,3,2,24,28,25,40,41,26,42,43],ρ.i v=ρ'.i v):(FB coh).x.ev ρ=(FB coh).x.ev ρ':=by
 rw [aip hG h1,aip hG h1',e 0 (by simp),e 90 (by simp),e 3 (by simp),e 2 (by simp),e 24 (by simp),e 28 (by simp),e 25 (by simp),e 40 (by simp),e 41 (by simp),e 26 (by simp),e 42 (by simp),e 43 (by simp)]
theorem ae9{ρ:Env}(h1:ρ.std G gh)(coh:Bool)(h: ¬(0<ρ.i 3)\/ρ.i 26=1):(FB coh).is G ((FB coh).x.ev ρ) (qm (ρ.i 90) aW 0++[ρ.i 0,ρ.i 28,ρ.i 25-ρ.i 28,ρ.i 41,kG.ev ρ,ρ.i 43,0,0,ρ.i 40,ρ.i 42]):=by
 have hs:=Hp hG coh ρ h1.1
 have e:(fk coh true).rt.pick ρ= .done (qm (ρ.i 90) aW 0++[ρ.i 0,ρ.i 28,ρ.i 25-ρ.i 28,ρ.i 41,kG.ev ρ,ρ.i 43,0,0,ρ.i 40,ρ.i 42]):=by
  have d:JH.rt.pick ρ= .done (qm (ρ.i 90) aW 0++[ρ.i 0,ρ.i 28,ρ.i 25-ρ.i 28,ρ.i 41,kG.ev ρ,ρ.i 43,0,0,ρ.i 40,ρ.i 42]):=by
   show RV.done _=_
   rw [List.map_append]
   unfold stE
   rw [Jv]
   rfl
  unfold fk
  cases hg:goB.ev ρ
  ·rw [agn hg]; exact d
  ·rw [ae8 hg]
   rcases h with h |h
   ·exact absurd (of_decide_eq_true hg) h
   ·rw [ae8 (b:=stB) (decide_eq_true h)]; exact d
 rw [e] at hs
 exact hs
theorem afl{ρ ρ':Env}(h1:ρ.std G gh)(h1':ρ'.std G gh)(coh:Bool)(g:0<ρ.i 3)(g':0<ρ'.i 3)(t:ρ.i 26≠1)(t':ρ'.i 26≠1)(hr:(xO coh).ev ρ=(xO coh).ev ρ')(hm:(fS coh).ev ρ=(fS coh).ev ρ')(hl:(cy coh).ev ρ=(cy coh).ev ρ')(h2:(jU coh).ev ρ=(jU coh).ev ρ')(hv: ∀v∈af6,ρ.i v=ρ'.i v):(FB coh).alike G ((FB coh).x.ev ρ) ((FB coh).x.ev ρ'):=by
 have says: ∀ {ρ:Env},ρ.std G gh->0<ρ.i 3->ρ.i 26≠1->Gs G (FB coh) ((FB coh).x.ev ρ) ((afe coh).rt.pick ρ):=fun {ρ} h1 g t=>by
  have hs:=TP (Hp hG coh) h1.1
  have e:(fk coh true).rt.pick ρ=(afe coh).rt.pick ρ:=by
   unfold fk
   rw [ae8 (b:=goB) (ρ:=ρ) (decide_eq_true g),agn (b:=stB) (ρ:=ρ) (decide_eq_false t)]
   rfl
  rw [e] at hs
  exact hs
 have a:=says h1 g t
 have b:=says h1' g' t'
 obtain ⟨k1,k2,_⟩:=afh coh
 have e:=agl (l:=afu coh) (W:=af6) (ρ:=ρ) (ρ':=ρ') (show ([60,61,62,63]:List Nat).Nodup by decide) k1 k2 (by rw [h1.1,h1'.1]) (fun x hx=>by
  simp only [afu,List.mem_cons,List.not_mem_nil,or_false] at hx
  rcases hx with rfl |rfl |rfl |rfl
  ·exact hr
  ·exact hm
  ·exact hl
  ·exact h2) (fun i hi=>hv i (by unfold bR at hi; simpa using hi))
 rw [<- e] at b
 have hb:=ahz (afe coh) ρ
 generalize (afe coh).rt.pick ρ=v at a b hb
 cases v with
 |bad=>exact absurd rfl hb
 |again X=>exact aec a (aeo b)
 |done l=>exact OG a b
theorem aer{ρ:Env}(h1:ρ.std G gh)(coh:Bool)(g:0<ρ.i 3)(g9Q:ρ.i 3<=10000)(s0:0<=fN (ρ.i 90))(s9Q:fN (ρ.i 90)<=900000000000): ∃kk,0<=kk/\kk<=ρ.i 3/\fN ((xO coh).ev ρ)=fN (ρ.i 90)+kk/\(cy coh).ev ρ=ρ.i 3-kk/\(jU coh).ev ρ=(if kk=0 then ρ.i 2 else 0):=by
 have hk:=FT hG h1 coh g9Q g
 have es:(fO coh).ev ρ=IntKind.i64.wrap (fN ((xO coh).ev ρ)-fN (ρ.i 90)):=rfl
 have e22:fN ((xO coh).ev ρ)=fN (ρ.i 90)+(fO coh).ev ρ:=afi (wrap_mem .i64 _) ⟨s0,by omega⟩ ⟨hk.1,by omega⟩ es.symm
 refine ⟨(fO coh).ev ρ,hk.1,hk.2,e22,?_,?_⟩
 ·show IntKind.i64.wrap (ρ.i 3-(fO coh).ev ρ)=_
  exact wrap64 (by omega) (by omega)
 ·show aA false (fN ((xO coh).ev ρ)) (fN (ρ.i 90)) (ρ.i 2) 0=_
  rw [e22]
  unfold aA
  simp only [Bool.false_eq_true,if_false]
  by_cases h:(fO coh).ev ρ=0
  ·rw [if_pos h,if_pos (by omega)]
  ·rw [if_neg h,if_neg (by omega)]
theorem afj{X:Int}{coh:Bool}{S m s u o t n oc ec:Int}(h:(FB coh).is G X (qm S aW 0++[m,s,u,o,t,n,0,0,oc,ec]))(hs:0<=s/\s<=8)(ho:0<=o/\o<=100000000)(hn:0<=n/\n<=100000000):
 aeg S (G (FB coh).KR X 0 0)/\G (FB coh).KV X 0 24=m/\DX G (FB coh) X .u8 25=s/\DX G (FB coh) X .u32 27=o/\G (FB coh).KV X 0 28=t/\DX G (FB coh) X .u32 29=n/\G (FB coh).KV X 0 32=oc/\G (FB coh).KV X 0 33=ec:=by
 have at': ∀i:Nat,(qm S aW 0++[m,s,u,o,t,n,0,0,oc,ec])[24+i]? =[m,s,u,o,t,n,0,0,oc,ec][i]? :=fun i=>by
  rw [List.getElem?_append_right (by rw [uH]; exact Nat.le_add_right 24 i),uH]
  show _=_
  congr 1
  show 24+i-24=i
  omega
 refine ⟨age fun j hj=> ?_,Wb h (at' 0),C6 h (at' 1) (show (0:Int)<=s by omega) (show s<=255 by omega),C6 h (at' 3) (show (0:Int)<=o by omega) (show o<=4294967295 by omega),Wb h (at' 4),C6 h (at' 5) (show (0:Int)<=n by omega) (show n<=4294967295 by omega),Wb h (at' 8),Wb h (at' 9)⟩
 have hm:=wrap_mem (D3 j) (ag S (j:Nat))
 have:=C6 h (j:=j) (k:=D3 j) (v:=dgN (D3 j) S j) (by
  rw [List.getElem?_append_left (by rw [uH]; exact hj),ER (aen j hj),Nat.zero_add]) hm.1 hm.2
 exact this.symm
end
end
end Go.Proofs.YtbhlmedfhilkbaaGreat
namespace Go.Proofs.YtbhlmedfhilkbaaGreat
open Go Go.Sx
set_option maxRecDepth 1000000
noncomputable section
def ahj(G:Nat->Int->Int->Int->Int)(coh:Bool)(ρ:Env):Prop:= ∀c:Int,0<=c->Okb (ρ.rep (σ3c c))->ρ.i 26=0->0<=ρ.i 3->(ρ.i 3=0->ρ.i 2=0)->0<=fN (ρ.i 90)->fN (ρ.i 90)+ρ.i 3+c<=800000000000->(FB coh).alike G ((FB coh).x.ev (ρ.rep (σ3c c))) ((FB coh).x.ev (ρ.rep (σ2c coh c)))
section
variable{G:Nat->Int->Int->Int->Int}(hG:RunG G)
theorem ae2{ρ:Env}(h:ρ.i 26=0):kG.ev ρ=0:=by
 rw [RG (by omega)]
 exact h
theorem af0{ρ:Env}(h1:ρ.std G gh)(coh:Bool)(c:Int):
 (ρ.rep (σ2c coh c)).i 0=G (FB coh).KV ((FB coh).x.ev ρ) 0 24/\(ρ.rep (σ2c coh c)).i 90=G (FB coh).KR ((FB coh).x.ev ρ) 0 0/\(ρ.rep (σ2c coh c)).i 28=DX G (FB coh) ((FB coh).x.ev ρ) .u8 25/\(ρ.rep (σ2c coh c)).i 40=G (FB coh).KV ((FB coh).x.ev ρ) 0 32/\(ρ.rep (σ2c coh c)).i 41=DX G (FB coh) ((FB coh).x.ev ρ) .u32 27/\(ρ.rep (σ2c coh c)).i 26=G (FB coh).KV ((FB coh).x.ev ρ) 0 28/\(ρ.rep (σ2c coh c)).i 42=G (FB coh).KV ((FB coh).x.ev ρ) 0 33/\(ρ.rep (σ2c coh c)).i 43=DX G (FB coh) ((FB coh).x.ev ρ) .u32 29:=by
 have kvR: ∀j:Nat,(kvE (FB coh) j).ev ρ=G (FB coh).KV ((FB coh).x.ev ρ) 0 (j:Nat):=fun j=>by
  show fnI ρ (FB coh).KV ((FB coh).x.ev ρ) 0 _=_
  rw [bY (by cases coh<;>decide),h1.1]
  rfl
 have krQ:fnI ρ (FB coh).KR ((FB coh).x.ev ρ) 0 0=G (FB coh).KR ((FB coh).x.ev ρ) 0 0:=by
  rw [bY (by cases coh<;>decide),h1.1]
 have d: ∀(k:IntKind) (j:Nat),(dg (FB coh) k j).ev ρ=DX G (FB coh) ((FB coh).x.ev ρ) k j:=fun k j=>by
  show k.wrap (ag (fnI ρ (FB coh).KR ((FB coh).x.ev ρ) 0 0) _)=_
  rw [krQ]
  rfl
 exact ⟨kvR 24,krQ,d .u8 25,kvR 32,d .u32 27,kvR 28,kvR 33,d .u32 29⟩
theorem aem{ρ:Env}(coh:Bool):(zE coh).map (·.ev ρ)=qm ((xO coh).ev ρ) aW 0:=by
 refine List.ext_getElem? fun j=> ?_
 rcases Nat.lt_or_ge j 24 with hj |hj
 ·rw [ER (aen j hj),Nat.zero_add,List.getElem?_map,ahl coh hj]
  rfl
 ·rw [List.getElem?_eq_none (by rw [List.length_map]; unfold zE; simpa using hj),List.getElem?_eq_none (by rw [uH]; exact hj)]
theorem ae7{ρ:Env}(coh:Bool){c:Int}(hr:(xO coh).ev (ρ.rep (σ3c c))=(xO coh).ev ρ)(hm:(fS coh).ev (ρ.rep (σ3c c))=(fS coh).ev ρ)(t:RT)(k1:notKey (aek coh) t=true)(k2:ael (aek coh) no3 t=true):t.pick (ρ.rep (σ3c c))=t.pick ρ:=
 agl (l:=aek coh) (W:=no3) (show ([60,61]:List Nat).Nodup by decide) k1 k2 rfl (fun x hx=>by
  simp only [aek,List.mem_cons,List.not_mem_nil,or_false] at hx
  rcases hx with rfl |rfl
  ·exact hr
  ·exact hm) fun i hi=>by
  have hi:i=0\/i=90\/i=2\/i=24\/i=25\/i=28\/i=40\/i=41\/i=26\/i=42\/i=43:=by
   unfold bR at hi
   simpa [no3] using hi
  rcases hi with rfl |rfl |rfl |rfl |rfl |rfl |rfl |rfl |rfl |rfl |rfl<;>rfl
theorem af4{ρ:Env}(coh:Bool){c:Int}(hr:(xO coh).ev (ρ.rep (σ3c c))=(xO coh).ev ρ)(hm:(fS coh).ev (ρ.rep (σ3c c))=(fS coh).ev ρ)(hle:(cy coh).ev (ρ.rep (σ3c c))=(cy coh).ev ρ+c)(hc:0<=c){r r':Rnd}(hA:r≠ .A)(hL:r≠ .L)(hw:r.when coh ρ)(hw':r'.when coh (ρ.rep (σ3c c))):r'=r:=by
 obtain ⟨_,_,_,_,k1,k2,_⟩:=afh coh
 have e:=RV.done.inj (ae7 coh hr hm (.done (aeq coh)) k1 k2)
 have e:[(tkE coh).ev (ρ.rep (σ3c c)),(tiE coh).ev (ρ.rep (σ3c c)),(eR coh 18).ev (ρ.rep (σ3c c)),(jU coh).ev (ρ.rep (σ3c c)),(fO coh).ev (ρ.rep (σ3c c))]=[(tkE coh).ev ρ,(tiE coh).ev ρ,(eR coh 18).ev ρ,(jU coh).ev ρ,(fO coh).ev ρ]:=e
 injection e with e1 e
 injection e with e2 e
 injection e with e3 e
 injection e with e4 e
 have i3:(ρ.rep (σ3c c)).i 3=ρ.i 3+c:=rfl
 have i26:(ρ.rep (σ3c c)).i 26=ρ.i 26:=rfl
 have i28:(ρ.rep (σ3c c)).i 28=ρ.i 28:=rfl
 have i25:(ρ.rep (σ3c c)).i 25=ρ.i 25:=rfl
 cases r<;>cases r'<;>first
  |rfl
  |exact absurd rfl hA
  |exact absurd rfl hL
  | (exfalso; simp only [Rnd.when,B5,e1,e2,e3,e4,hle,i3,i26,i28,i25] at hw hw'; omega)
include hG
theorem afw{ρ:Env}(h1:ρ.std G gh)(coh:Bool){c:Int}(hc0:0<=c)(hok:Okb (ρ.rep (σ3c c)))(l9Q:ρ.i 3<=10000)(g:0<ρ.i 3)(s0:0<=fN (ρ.i 90))(s9Q:fN (ρ.i 90)<=900000000000)(w: ¬(cy coh).ev ρ<1):(xO coh).ev (ρ.rep (σ3c c))=(xO coh).ev ρ/\(fS coh).ev (ρ.rep (σ3c c))=(fS coh).ev ρ/\(cy coh).ev (ρ.rep (σ3c c))=(cy coh).ev ρ+c:=by
 have h1a:(ρ.rep (σ3c c)).std G gh:=h1
 obtain ⟨k0,k00,k01,k02,k03,_⟩:=aer hG h1 coh g l9Q s0 s9Q
 obtain ⟨rr1,rr2⟩:=afo hG h1 coh
 obtain ⟨ra1,ra2⟩:=afo hG h1a coh
 have a3:(ρ.rep (σ3c c)).i 3=ρ.i 3+c:=rfl
 have hlc:ρ.i 3+c<=10000:=hok.l.2
 have more:=afz hG coh hc0 10000 (M:=ρ.i 0) (S:=ρ.i 90) (d:=0) (w:=ρ.i 3) (by omega) (by omega) s0 (by omega)
 rw [<- rr1,<-rr2] at more
 rcases more with ⟨_,m2⟩ | ⟨S',m1,m2,_⟩
 ·have er:(xO coh).ev (ρ.rep (σ3c c))=(xO coh).ev ρ:=by
   rw [ra1,rr1]
   exact m2.1
  have em:(fS coh).ev (ρ.rep (σ3c c))=(fS coh).ev ρ:=by
   rw [ra2,rr2]
   exact m2.2 24
  obtain ⟨ka,_,_,ka2,ka3,_⟩:=aer hG h1a coh (by rw [a3]; omega) (by rw [a3]; exact hlc) s0 (show fN (ρ.i 90)<=900000000000 from s9Q)
  have:fN ((ρ.rep (σ3c c)).i 90)=fN (ρ.i 90):=rfl
  rw [er] at ka2
  exact ⟨er,em,by rw [ka3,k03,a3]; omega⟩
 ·have:fN S'=fN ((xO coh).ev ρ):=m2.p
  omega
theorem aet{ρ:Env}(h1:ρ.std G gh)(coh:Bool)(c:Int){S m o t n oc ec:Int}(h:(FB coh).is G ((FB coh).x.ev ρ) (qm S aW 0++[m,ρ.i 28,ρ.i 25-ρ.i 28,o,t,n,0,0,oc,ec]))(hs:0<=ρ.i 28/\ρ.i 28<=8)(ho:0<=o/\o<=100000000)(hn:0<=n/\n<=100000000)(hc: ¬(0<c)\/t=1)(ht:t=0\/t=1):(FB coh).alike G ((FB coh).x.ev ρ) ((FB coh).x.ev (ρ.rep (σ2c coh c))):=by
 obtain ⟨e90,e0,e28,e41,e26,e43,e40,e42⟩:=afj hG h hs ho hn
 obtain ⟨q0,q90,q28,q40,q41,q26,q42,q43⟩:=af0 (ρ:=ρ) h1 coh c
 have a:=ae9 hG (ρ:=ρ.rep (σ2c coh c)) h1 coh (hc.imp (fun h=>h) fun h=>by rw [q26,e26]; exact h)
 have st:kG.ev (ρ.rep (σ2c coh c))=t:=by
  rw [RG (by rw [q26,e26]; omega),q26,e26]
 rw [st,q0,q28,q40,q41,q42,q43,e0,e28,e40,e41,e42,e43,q90,<-af8 e90] at a
 exact OG h a
theorem agf(coh:Bool): ∀ρ:Env,ρ.std G gh->Okb ρ->ahj G coh ρ:=by
 refine NL hG (coh:=coh) (P:=fun ρ=>ahj G coh ρ) (fun ρ r h1 h2 h3 hw hn hs=> ?_) fun ρ r σ kk h1 h2 h3 hw hn ha h4 h5 h6 ih=> ?_
 ·intro c hc0 hok z26 zlQ zrQ s0 s9Q
  have hl:=h2.l
  have hs8:0<=ρ.i 28/\ρ.i 28<=8:=⟨h2.s.1,by have:=h2.s.2; have:=h2.t; omega⟩
  have h1a:(ρ.rep (σ3c c)).std G gh:=h1
  have h1b:(ρ.rep (σ2c coh c)).std G gh:=h1
  -- c = 0: nothing further
  by_cases c0:c=0
  ·subst c0
   have e:(FB coh).x.ev (ρ.rep (σ3c 0))=(FB coh).x.ev ρ:=afa hG h1a h1 coh fun v hv=>by
    by_cases h:v=3
    ·subst h
     show ρ.i 3+0=ρ.i 3
     omega
    ·show (σ3c 0 v).ev ρ=ρ.i v
     unfold σ3c
     split
     ·exact absurd rfl h
     ·rfl
   rw [e]
   cases r with
   |A=>exact aet hG h1 coh 0 (ae9 hG h1 coh hw) hs8 h2.o h2.n (.inl (by omega)) (.inl (ae2 z26))
   |L=>
    have hs:(FB coh).is G ((FB coh).x.ev ρ) ((zE coh++[fS coh,.var 28,bL,.var 41,kG,.var 43,.lit 0,.lit 0,.var 40,.var 42]).map (·.ev ρ)):=hs
    rw [List.map_append,aem coh] at hs
    exact aet hG h1 coh 0 hs hs8 h2.o h2.n (.inl (by omega)) (.inl (ae2 z26))
   |S=>
    have hs:(FB coh).is G ((FB coh).x.ev ρ) ((aep coh).map (·.ev ρ)):=hs
    unfold aep at hs
    rw [List.map_append,aem coh] at hs
    have hn2:=h2.n
    have hmu:1<=muN ρ:=by
     obtain ⟨g,t,w,_⟩:=hw
     have:=h2.r
     unfold muN
     omega
    have hpn:=h2.pn
    exact aet hG h1 coh 0 hs hs8 h2.o (n:=ρ.i 43+1) ⟨by omega,by omega⟩ (.inl (by omega)) (.inr rfl)
   |_=>cases hn
  have cp:0<c:=by omega
  cases r with
  |A=>
   have hl0:ρ.i 3=0:=by
    have hw: ¬(0<ρ.i 3)\/ρ.i 26=1:=hw
    omega
   have hlist:=ae9 hG h1 coh (.inl (by omega))
   obtain ⟨e90,e0,e28,e41,e26,e43,e40,e42⟩:=afj hG hlist hs8 h2.o h2.n
   obtain ⟨q0,q90,q28,q40,q41,q26,q42,q43⟩:=af0 (ρ:=ρ) h1 coh c
   have a3:(ρ.rep (σ3c c)).i 3=c:=by show ρ.i 3+c=c; omega
   obtain ⟨ra1,ra2⟩:=afo hG h1a coh
   obtain ⟨rb1,rb2⟩:=afo hG h1b coh
   have same:=afx hG coh (M:=ρ.i 0) (d:=0) (w:=c) e90
   have b90:fN ((ρ.rep (σ2c coh c)).i 90)=fN (ρ.i 90):=by rw [q90]; exact e90.p.symm
   have er:(xO coh).ev (ρ.rep (σ3c c))=(xO coh).ev (ρ.rep (σ2c coh c)):=by
    rw [ra1,rb1,a3,q0,q90,e0]
    exact same.1
   have b3:(ρ.rep (σ2c coh c)).i 3=c:=rfl
   have c9Q:c<=10000:=by have:=hok.l.2; rw [a3] at this; exact this
   obtain ⟨ka,ka0,ka1,ka2,ka3,ka4⟩:=aer hG h1a coh (by rw [a3]; exact cp) (by rw [a3]; exact c9Q) s0 (show fN (ρ.i 90)<=900000000000 by omega)
   obtain ⟨kb,kb0,kb1,kb2,kb3,kb4⟩:=aer hG h1b coh (by rw [b3]; exact cp) (by rw [b3]; exact c9Q) (by rw [b90]; exact s0) (by rw [b90]; omega)
   have ek:ka=kb:=by
    rw [er,kb2,b90] at ka2
    have:fN ((ρ.rep (σ3c c)).i 90)=fN (ρ.i 90):=rfl
    omega
   have maQ:(ρ.rep (σ3c c)).i 2=ρ.i 2:=rfl
   have mbQ:(ρ.rep (σ2c coh c)).i 2=0:=rfl
   refine afl hG h1a h1b coh (by rw [a3]; exact cp) (by rw [b3]; exact cp) (show ρ.i 26≠1 by omega) (by rw [q26,e26,ae2 z26]; omega) er ?_ ?_ ?_ fun v hv=> ?_
   ·rw [ra2,rb2,a3,q0,q90,e0]
    exact same.2 24
   ·rw [ka3,kb3,a3,b3,ek]
   ·rw [ka4,kb4,maQ,mbQ,zrQ hl0,ek]
   ·simp only [af6,List.mem_cons,List.not_mem_nil,or_false] at hv
    rcases hv with rfl |rfl |rfl |rfl |rfl |rfl |rfl |rfl
    ·rfl
    ·rfl
    ·rw [q28,e28]; rfl
    ·rw [q40,e40]; rfl
    ·rw [q41,e41]; rfl
    ·rw [q26,e26,ae2 z26]; exact z26
    ·rw [q42,e42]; rfl
    ·rw [q43,e43]; rfl
  |L=>
   obtain ⟨g,t,w⟩:=hw
   obtain ⟨kk,hk⟩:=h3 g
   have hkl:kk=ρ.i 3:=by have:=hk.k0; rw [hk.left] at w; omega
   have hs:(FB coh).is G ((FB coh).x.ev ρ) ((zE coh++[fS coh,.var 28,bL,.var 41,kG,.var 43,.lit 0,.lit 0,.var 40,.var 42]).map (·.ev ρ)):=hs
   rw [List.map_append,aem coh] at hs
   obtain ⟨e90,e0,e28,e41,e26,e43,e40,e42⟩:=afj hG hs hs8 h2.o h2.n
   obtain ⟨q0,q90,q28,q40,q41,q26,q42,q43⟩:=af0 (ρ:=ρ) h1 coh c
   obtain ⟨k0,k00,k01,k02,k03,_⟩:=aer hG h1 coh g hl.2 s0 (by omega)
   have hk0:k0=ρ.i 3:=by have:=hk.left; omega
   obtain ⟨rr1,rr2⟩:=afo hG h1 coh
   obtain ⟨ra1,ra2⟩:=afo hG h1a coh
   obtain ⟨rb1,rb2⟩:=afo hG h1b coh
   have a3:(ρ.rep (σ3c c)).i 3=ρ.i 3+c:=rfl
   have b3:(ρ.rep (σ2c coh c)).i 3=c:=rfl
   have hlc:ρ.i 3+c<=10000:=hok.l.2
   have more:=afz hG coh hc0 10000 (M:=ρ.i 0) (S:=ρ.i 90) (d:=0) (w:=ρ.i 3) (by omega) zlQ s0 (by omega)
   rw [<- rr1,<-rr2] at more
   rcases more with ⟨m1,_⟩ | ⟨S',m1,m2,m3⟩
   ·omega
   have sh:=agr hG coh (ρ.i 3) 10000 (M:=(fS coh).ev ρ) (S:=S') (d:=0) (w:=c) (by omega)
   rw [Int.zero_add,Int.add_comm c] at sh
   have e90:aeg ((xO coh).ev ρ) (G (FB coh).KR ((FB coh).x.ev ρ) 0 0):=e90
   have e0:G (FB coh).KV ((FB coh).x.ev ρ) 0 24=(fS coh).ev ρ:=e0
   have all:(FRc coh).alike G (pk4 (ρ.i 0) (ρ.i 90) 0 (ρ.i 3+c)) (pk4 ((fS coh).ev ρ) (G (FB coh).KR ((FB coh).x.ev ρ) 0 0) 0 c):=aec m3 (aec (aeo sh) (afx hG coh (m2.trans e90)))
   have er:(xO coh).ev (ρ.rep (σ3c c))=(xO coh).ev (ρ.rep (σ2c coh c)):=by
    rw [ra1,rb1,a3,b3,q0,q90,e0]
    exact all.1
   have b90:fN ((ρ.rep (σ2c coh c)).i 90)=fN (ρ.i 90)+ρ.i 3:=by
    rw [q90]
    have:fN (G (FB coh).KR ((FB coh).x.ev ρ) 0 0)=fN ((xO coh).ev ρ):=e90.p.symm
    rw [this,k02]
    omega
   obtain ⟨ka,ka0,ka1,ka2,ka3,ka4⟩:=aer hG h1a coh (by rw [a3]; omega) (by rw [a3]; exact hlc) s0 (show fN (ρ.i 90)<=900000000000 by omega)
   obtain ⟨kb,kb0,kb1,kb2,kb3,kb4⟩:=aer hG h1b coh (by rw [b3]; exact cp) (by rw [b3]; omega) (by rw [b90]; omega) (by rw [b90]; omega)
   have ek:ka=ρ.i 3+kb:=by
    rw [er,kb2,b90] at ka2
    have:fN ((ρ.rep (σ3c c)).i 90)=fN (ρ.i 90):=rfl
    omega
   have mbQ:(ρ.rep (σ2c coh c)).i 2=0:=rfl
   refine afl hG h1a h1b coh (by rw [a3]; omega) (by rw [b3]; exact cp) (show ρ.i 26≠1 by omega) (by rw [q26,e26]; show kG.ev ρ≠1; rw [ae2 z26]; omega) er ?_ ?_ ?_ fun v hv=> ?_
   ·rw [ra2,rb2,a3,b3,q0,q90,e0]
    exact all.2 24
   ·rw [ka3,kb3,a3,b3]
    omega
   ·rw [ka4,kb4,mbQ,if_neg (show ¬ka=0 by omega)]
    split<;>rfl
   ·simp only [af6,List.mem_cons,List.not_mem_nil,or_false] at hv
    rcases hv with rfl |rfl |rfl |rfl |rfl |rfl |rfl |rfl
    ·rfl
    ·rfl
    ·rw [q28,e28]; rfl
    ·rw [q40,e40]; rfl
    ·rw [q41,e41]; rfl
    ·rw [q26,e26]; show ρ.i 26=kG.ev ρ; rw [ae2 z26]; exact z26
    ·rw [q42,e42]; rfl
    ·rw [q43,e43]; rfl
  |S=>
   have hs:(FB coh).is G ((FB coh).x.ev ρ) ((aep coh).map (·.ev ρ)):=hs
   obtain ⟨hr,hm,hle⟩:=afw hG h1 coh hc0 hok hl.2 hw.1 s0 (by omega) (fun h=>hw.2.2.1 h)
   have e:=ae7 coh hr hm
   obtain ⟨k1,k2,k3,k4,_⟩:=afh coh
   have eL:=RV.done.inj (e (.done (aep coh)) k3 k4)
   have hlen:(FB coh).is G ((FB coh).x.ev (ρ.rep (σ3c c))) ((aep coh).map (·.ev ρ)):=by
    obtain ⟨r',hw',hs'⟩:=Hk hG h1a coh
    have hrr:=af4 coh hr hm hle hc0 (fun h=>by cases h) (fun h=>by cases h) hw hw'
    subst hrr
    have hs':(FB coh).is G ((FB coh).x.ev (ρ.rep (σ3c c))) ((aep coh).map (·.ev (ρ.rep (σ3c c)))):=hs'
    rw [<- eL]
    exact hs'
   have one:(FB coh).alike G ((FB coh).x.ev (ρ.rep (σ3c c))) ((FB coh).x.ev ρ):=OG hlen hs
   unfold aep at hs
   rw [List.map_append,aem coh] at hs
   have hn2:=h2.n
   have hmu:1<=muN ρ:=by
    obtain ⟨g,t,w,_⟩:=hw
    have:=h2.r
    unfold muN
    omega
   have hpn:=h2.pn
   exact aec one (aet hG h1 coh c hs hs8 h2.o (n:=ρ.i 43+1) ⟨by omega,by omega⟩ (.inr rfl) (.inr rfl))
  |_=>cases hn
 ·intro c hc0 hok z26 zlQ zrQ s0 s9Q
  have hl:=h2.l
  have hk0:=h3.k0
  have h1a:(ρ.rep (σ3c c)).std G gh:=h1
  have g:0<ρ.i 3:=by cases r<;>first |exact hw.1 |cases hn
  have w: ¬(cy coh).ev ρ<1:=by cases r<;>first |exact hw.2.2.1 |cases hn
  have hA:r≠ .A:=by rintro rfl; cases hn
  have hL:r≠ .L:=by rintro rfl; cases hn
  have hmem:r∈ae0:=by cases r<;>first |cases hn; done |simp [ae0]
  obtain ⟨hr,hm,hle⟩:=afw hG h1 coh hc0 hok hl.2 g s0 (by omega) w
  obtain ⟨r',hw',hs'⟩:=Hk hG h1a coh
  have hrr:=af4 coh hr hm hle hc0 hA hL hw hw'
  subst hrr
  rw [hn] at hs'
  have hs':(FB coh).alike G ((FB coh).x.ev (ρ.rep (σ3c c))) ((FB coh).x.ev ((ρ.rep (σ3c c)).rep σ)):=hs'
  obtain ⟨_,_,_,_,_,_,kn⟩:=afh coh
  have eL:=RV.done.inj (ae7 coh hr hm (.done (afk coh r')) (kn r' hmem).1 (kn r' hmem).2)
  have enx:afk coh r'=no3.map σ:=by unfold afk; rw [hn]
  rw [enx,List.map_map,List.map_map,List.map_inj_left] at eL
  have a3:(ρ.rep (σ3c c)).i 3=ρ.i 3+c:=rfl
  obtain ⟨ka,hka⟩:=YW hG h1a coh hok (by rw [a3]; omega)
  have e3:((ρ.rep (σ3c c)).rep σ).i 3=(ρ.rep σ).i 3+c:=by
   have q2:(gM coh).ev (ρ.rep (σ3c c))=(gM coh).ev ρ+c:=by
    have l1:=hka.left
    have l2:=hka.gM
    have m1:=h3.left
    have m2:=h3.gM
    omega
   cases r'<;>cases hn
   ·exact q2
   ·exact q2
   ·exact q2
   ·exact q2
   ·exact hle
  have eXQ: ∀v∈[0,90,3,2,24,28,25,40,41,26,42,43],((ρ.rep (σ3c c)).rep σ).i v=((ρ.rep σ).rep (σ3c c)).i v:=fun v hv=>by
   by_cases h:v=3
   ·subst h
    exact e3
   ·have hv':v∈no3:=by
     simp only [no3,List.mem_cons,List.not_mem_nil,or_false] at hv ⊢
     omega
    have q:((ρ.rep σ).rep (σ3c c)).i v=(σ v).ev ρ:=by
     show (σ3c c v).ev (ρ.rep σ)=_
     unfold σ3c
     split
     ·exact absurd rfl h
     ·rfl
    rw [q]
    exact eL v hv'
  have h1c:((ρ.rep (σ3c c)).rep σ).std G gh:=h1
  have h1d:((ρ.rep σ).rep (σ3c c)).std G gh:=h1
  rw [afa hG h1c h1d coh eXQ] at hs'
  obtain ⟨o1,_,_⟩:=Va hok hka hw' hn
  have o2:Okb ((ρ.rep σ).rep (σ3c c)):=o1.congr fun v hv=>by
   have hv':v∈[0,90,3,2,24,28,25,40,41,26,42,43]:=by
    simp only [List.mem_cons,List.not_mem_nil,or_false] at hv ⊢
    omega
   exact (eXQ v hv').symm
  have h1e:((ρ.rep σ).rep (σ2c coh c)).std G gh:=h1
  have h1f:(ρ.rep (σ2c coh c)).std G gh:=h1
  have h1s:(ρ.rep σ).std G gh:=h1
  have last:(FB coh).x.ev ((ρ.rep σ).rep (σ2c coh c))=(FB coh).x.ev (ρ.rep (σ2c coh c)):=by
   obtain ⟨q0,q90,q28,q40,q41,q26,q42,q43⟩:=af0 (ρ:=ρ) h1 coh c
   obtain ⟨p0,p90,p28,p40,p41,p26,p42,p43⟩:=af0 (ρ:=ρ.rep σ) h1s coh c
   refine afa hG h1e h1f coh fun v hv=> ?_
   simp only [List.mem_cons,List.not_mem_nil,or_false] at hv
   rcases hv with rfl |rfl |rfl |rfl |rfl |rfl |rfl |rfl |rfl |rfl |rfl |rfl
   ·rw [q0,p0,Ff ha]
   ·rw [q90,p90]; exact ha.1.symm
   ·rfl
   ·rfl
   ·show (ρ.rep σ).i 24=ρ.i 24
    cases r'<;>cases hn<;>rfl
   ·rw [q28,p28,iM ha]
   ·show (ρ.rep σ).i 25=ρ.i 25
    cases r'<;>cases hn<;>rfl
   ·rw [q40,p40,Ff ha]
   ·rw [q41,p41,iM ha]
   ·rw [q26,p26,Ff ha]
   ·rw [q42,p42,Ff ha]
   ·rw [q43,p43,iM ha]
  have off:(dR coh .i64 22).ev ρ=fN (ρ.i 90)+kk:=afi (wrap_mem .i64 _) ⟨s0,by omega⟩ ⟨hk0.1,by omega⟩ h3.k
  have e26:(ρ.rep σ).i 26=0:=by cases r'<;>cases hn<;>rfl
  have go: ∀s1 l1:Int,fN ((ρ.rep σ).i 90)=s1->(ρ.rep σ).i 3=l1->0<=l1->(l1=0->(ρ.rep σ).i 2=0)->s1+l1=fN (ρ.i 90)+ρ.i 3->fN (ρ.i 90)<=s1->(FB coh).alike G ((FB coh).x.ev (ρ.rep (σ3c c))) ((FB coh).x.ev (ρ.rep (σ2c coh c))):=fun s1 l1 q1 q2 q3 q4 q5 q6=>by
   have:=ih c hc0 o2 e26 (by rw [q2]; exact q3) (by rw [q2]; exact q4) (by rw [q1]; omega) (by rw [q1,q2]; omega)
   rw [last] at this
   exact aec hs' this
  have skip: ∀ {r:Rnd},r∈[Rnd.d1,.d2,.d5,.d3]->fN ((nt coh (zG coh (abr coh r))).ev ρ)=fN (ρ.i 90)+kk+1:=fun {r} hr=>by
   have h:=ac0 (YD coh hr) (Zo coh _) (ρ:=ρ) (j:=22) (by decide)
   have e:(xz coh (zG coh (abr coh r)) 22).ev ρ=max (IntKind.i64.wrap ((dR coh .i64 22).ev ρ+1)) 0:=by
    have:xz coh (zG coh (abr coh r)) 22=mx0 (.wrap .i64 (.add (eR coh 22) (.lit 1))):=by cases coh<;>rfl
    rw [this,adn]
    rfl
   rw [e,off,wrap64 (by omega) (by omega)] at h
   have h:fN _=_:=h
   rw [h]
   omega
  have e2:=h3.gM
  have e1:=h3.left
  rw [e1] at w
  have dvz: ∀ {r:Rnd},r∈[Rnd.d1,.d2,.d5,.d3]->(ρ.rep σ).i 90=(nt coh (zG coh (abr coh r))).ev ρ->(ρ.rep σ).i 3=(gM coh).ev ρ->(ρ.rep σ).i 2=0->(FB coh).alike G ((FB coh).x.ev (ρ.rep (σ3c c))) ((FB coh).x.ev (ρ.rep (σ2c coh c))):=fun hr q1 q2 q3=>
   go (fN (ρ.i 90)+kk+1) (ρ.i 3-kk-1) (by rw [q1]; exact skip hr) (by rw [q2]; exact e2) (by omega) (fun _=>q3) (by omega) (by omega)
  cases r' with
  |d1=>cases hn; exact dvz (r:= .d1) (by simp) rfl rfl rfl
  |d2=>cases hn; exact dvz (r:= .d2) (by simp) rfl rfl rfl
  |d5=>cases hn; exact dvz (r:= .d5) (by simp) rfl rfl rfl
  |d3=>cases hn; exact dvz (r:= .d3) (by simp) rfl rfl rfl
  |D=>
   cases hn
   refine go (fN (ρ.i 90)+kk) (ρ.i 3-kk) ?_ e1 (by omega) (fun h=>by omega) (by omega) (by omega)
   have h:=ac0 (YJ coh) (acz coh) (ρ:=ρ) (j:=22) (by decide)
   have e:(xz coh (N5 coh) 22).ev ρ=max ((dR coh .i64 22).ev ρ) 0:=by
    have:xz coh (N5 coh) 22=mx0 (eR coh 22):=by cases coh<;>rfl
    rw [this,adn]
    rfl
   rw [e,off] at h
   have h:fN ((nt coh (N5 coh)).ev ρ)=_:=h
   show fN ((nt coh (N5 coh)).ev ρ)=_
   rw [h]
   omega
  |_=>cases hn
end
end
end Go.Proofs.YtbhlmedfhilkbaaGreat
namespace Go.Proofs.YtbhlmedfhilkbaaGreat
open Go Go.Sx
set_option maxRecDepth 1000000
noncomputable section
def σev(E n:Int):Nat->IE:=fun i=>match i with
 |42=> .lit E
 |43=> .lit n
 |i=> .var i
def ags:List Nat:=[0,90,3,2,24,28,25,40,41,26]
def aej(coh:Bool):List IE:=cy coh::xO coh::fS coh::aeq coh
def ago(coh:Bool):List IE:=zo coh::(List.range 24).map (eR coh)
def agc(coh:Bool)(r:Rnd):List IE:=match r.next coh with
 |some σ=>ags.map σ
 |none=>[]
def ae5(l:List IE):Bool:=(RT.done l).only (bR ags) 200
theorem ahv:([true,false].all fun coh=>ae5 (aej coh)&&(ae5 (ago coh)&&ae0.all fun r=>ae5 (agc coh r)))=true:=by kernel_rfl
theorem ae4{ρ:Env}{E n:Int}{l:List IE}(h:ae5 l=true): ∀e∈l,e.ev (ρ.rep (σev E n))=e.ev ρ:=by
 have:=RV.done.inj (RT.AK (ρ:=ρ.rep (σev E n)) (ρ':=ρ) (V:=bR ags) (K:=200) (fun i hi=>by
  have hi:i=0\/i=90\/i=3\/i=2\/i=24\/i=28\/i=25\/i=40\/i=41\/i=26:=by
   unfold bR at hi
   simpa [ags] using hi
  rcases hi with rfl |rfl |rfl |rfl |rfl |rfl |rfl |rfl |rfl |rfl<;>rfl) (fun _ _=>rfl) (.done l) h)
 exact List.map_inj_left.1 this
theorem af7(coh:Bool):ae5 (aej coh)=true/\ae5 (ago coh)=true/\ ∀r∈ae0,ae5 (agc coh r)=true:=by
 have h:=List.all_eq_true.1 ahv coh (by cases coh<;>simp)
 simp only [Bool.and_eq_true,List.all_eq_true] at h
 exact h
theorem ahd{ρ:Env}(coh:Bool){E n:Int}{r r':Rnd}(hw:r.when coh ρ)(hw':r'.when coh (ρ.rep (σev E n))):r'=r:=by
 have e:=ae4 (ρ:=ρ) (E:=E) (n:=n) (af7 coh).1
 have e0:=e (cy coh) (by simp [aej])
 have e1:=e (tkE coh) (by simp [aej,aeq])
 have e2:=e (tiE coh) (by simp [aej,aeq])
 have e3:=e (eR coh 18) (by simp [aej,aeq])
 have e4:=e (jU coh) (by simp [aej,aeq])
 have i3:(ρ.rep (σev E n)).i 3=ρ.i 3:=rfl
 have i26:(ρ.rep (σev E n)).i 26=ρ.i 26:=rfl
 have i28:(ρ.rep (σev E n)).i 28=ρ.i 28:=rfl
 have i25:(ρ.rep (σev E n)).i 25=ρ.i 25:=rfl
 cases r<;>cases r'<;>first
  |rfl
  | (exfalso; simp only [Rnd.when,B5,e0,e1,e2,e3,e4,i3,i26,i28,i25] at hw hw'; omega)
def agh(a k:Nat)(E E':Int):Prop:= ∀q:Nat,q<k*27->ag E ((a*27+q:Nat):Int)=ag E' (q:Nat)
def ahg(a:Nat)(E E0Q:Int):Prop:= ∀q:Nat,q<a*27->ag E (q:Nat)=ag E0Q (q:Nat)
theorem af2{ρ ρ':Env}{coh:Bool}{i v:IE}{a k:Nat}(hn:ρ.i 43=((a+k:Nat):Int))(hn':ρ'.i 43=(k:Int))(hr:agh a k (ρ.i 42) (ρ'.i 42))(hi:fE (i.ev ρ))(hv:fE (v.ev ρ))(ei:i.ev ρ'=i.ev ρ)(ev:v.ev ρ'=v.ev ρ)(et:(tkE coh).ev ρ'=(tkE coh).ev ρ)(ee: ∀j,j<24->(eR coh j).ev ρ'=(eR coh j).ev ρ):agh a (k+1) ((nk coh i v).ev ρ) ((nk coh i v).ev ρ')/\ahg a ((nk coh i v).ev ρ) (ρ.i 42):=by
 have hl: ∀e∈tkE coh::i::v::(List.range 24).map (eR coh),fE (e.ev ρ)/\e.ev ρ'=e.ev ρ:=fun e he=>by
  simp only [List.mem_cons,List.mem_map,List.mem_range] at he
  rcases he with rfl |rfl |rfl | ⟨j,hj,rfl⟩
  ·exact ⟨xF _ _,et⟩
  ·exact ⟨hi,ei⟩
  ·exact ⟨hv,ev⟩
  ·exact ⟨xF _ _,ee j hj⟩
 have b1:ρ.i 43*27=(((a+k)*27:Nat):Int):=by rw [hn]; omega
 have b2:ρ'.i 43*27=((k*27:Nat):Int):=by rw [hn']; omega
 constructor
 ·intro q hq
  rcases Nat.lt_or_ge q (k*27) with h |h
  ·have x1:=ae3 b1 (tkE coh::i::v::(List.range 24).map (eR coh)) 0 (.var 42) (a*27+q) (by omega)
   have x2:=ae3 b2 (tkE coh::i::v::(List.range 24).map (eR coh)) 0 (.var 42) q (by omega)
   show ag ((ZU (tkE coh::i::v::(List.range 24).map (eR coh)) 0 (.var 42)).ev ρ) _=ag ((ZU (tkE coh::i::v::(List.range 24).map (eR coh)) 0 (.var 42)).ev ρ') _
   rw [x1,x2]
   exact hr q h
  ·obtain ⟨j,rfl⟩: ∃j,q=k*27+j:=⟨q-k*27,by omega⟩
   have hj:j<27:=by omega
   have hlen:(tkE coh::i::v::(List.range 24).map (eR coh)).length=27:=by simp
   have hg:=List.getElem?_eq_getElem (show j<(tkE coh::i::v::(List.range 24).map (eR coh)).length by rw [hlen]; exact hj)
   have x1:=afv b1 (tkE coh::i::v::(List.range 24).map (eR coh)) 0 (.var 42) (fun e he=>(hl e he).1) j _ hg
   have x2:=afv b2 (tkE coh::i::v::(List.range 24).map (eR coh)) 0 (.var 42) (fun e he=>by rw [(hl e he).2]; exact (hl e he).1) j _ hg
   have e:=(hl _ (List.getElem_mem (show j<(tkE coh::i::v::(List.range 24).map (eR coh)).length by rw [hlen]; exact hj))).2
   show ag ((ZU (tkE coh::i::v::(List.range 24).map (eR coh)) 0 (.var 42)).ev ρ) _=ag ((ZU (tkE coh::i::v::(List.range 24).map (eR coh)) 0 (.var 42)).ev ρ') _
   rw [show a*27+(k*27+j)=(a+k)*27+(0+j) by omega,show k*27+j=k*27+(0+j) by omega,x1,x2,e]
 ·intro q hq
  exact ae3 b1 (tkE coh::i::v::(List.range 24).map (eR coh)) 0 (.var 42) q (by omega)
structure Shifted (G:Nat->Int->Int->Int->Int) (coh:Bool) (a:Nat) (E0Q X Y:Int):Prop where
 st:aeg (G (FB coh).KR X 0 0) (G (FB coh).KR Y 0 0)
 m:G (FB coh).KV X 0 24=G (FB coh).KV Y 0 24
 t:G (FB coh).KV X 0 28=G (FB coh).KV Y 0 28
 oc:G (FB coh).KV X 0 32=G (FB coh).KV Y 0 32
 s:DX G (FB coh) X .u8 25=DX G (FB coh) Y .u8 25
 o:DX G (FB coh) X .u32 27=DX G (FB coh) Y .u32 27
 n: ∃k:Nat,DX G (FB coh) Y .u32 29=(k:Int)/\DX G (FB coh) X .u32 29=((a+k:Nat):Int)/\agh a k (G (FB coh).KV X 0 33) (G (FB coh).KV Y 0 33)
 p:ahg a (G (FB coh).KV X 0 33) E0Q
def ag5(G:Nat->Int->Int->Int->Int)(coh:Bool)(ρ:Env):Prop:= ∀(a k:Nat) (E':Int),ρ.i 43=((a+k:Nat):Int)->agh a k (ρ.i 42) E'->Shifted G coh a (ρ.i 42) ((FB coh).x.ev ρ) ((FB coh).x.ev (ρ.rep (σev E' k)))
section
variable{G:Nat->Int->Int->Int->Int}(hG:RunG G)
include hG
theorem afd{coh:Bool}{X Y S m s u o t oc ec ec' E0Q:Int}{a k:Nat}(h:(FB coh).is G X (qm S aW 0++[m,s,u,o,t,((a+k:Nat):Int),0,0,oc,ec]))(h':(FB coh).is G Y (qm S aW 0++[m,s,u,o,t,(k:Int),0,0,oc,ec']))(hs:0<=s/\s<=8)(ho:0<=o/\o<=100000000)(hn:((a+k:Nat):Int)<=100000000)(hr:agh a k ec ec')(hp:ahg a ec E0Q):Shifted G coh a E0Q X Y:=by
 obtain ⟨e90,e0,e28,e41,e26,e43,e40,e42⟩:=afj hG h hs ho ⟨by omega,hn⟩
 obtain ⟨f90,f0,f28,f41,f26,f43,f40,f42⟩:=afj hG h' hs ho ⟨by omega,by omega⟩
 refine ⟨e90.symm.trans f90,e0.trans f0.symm,e26.trans f26.symm,e40.trans f40.symm,e28.trans f28.symm,e41.trans f41.symm,⟨k,f43,e43,?_⟩,?_⟩
 ·rw [e42,f42]; exact hr
 ·rw [e42]; exact hp
theorem agj(coh:Bool): ∀ρ:Env,ρ.std G gh->Okb ρ->ag5 G coh ρ:=by
 refine NL hG (coh:=coh) (P:=fun ρ=>ag5 G coh ρ) (fun ρ r h1 h2 h3 hw hn hs=> ?_) fun ρ r σ kk h1 h2 h3 hw hn ha h4 h5 h6 ih=> ?_
 ·intro a k E' hk hr
  have h1a:(ρ.rep (σev E' k)).std G gh:=h1
  have hs8:0<=ρ.i 28/\ρ.i 28<=8:=⟨h2.s.1,by have:=h2.s.2; have:=h2.t; omega⟩
  have hn9:=h2.n
  obtain ⟨r',hw',hs'⟩:=Hk hG h1a coh
  have hrr:=ahd coh hw hw'
  subst hrr
  rw [hn] at hs'
  have e:=ae4 (ρ:=ρ) (E:=E') (n:=k) (af7 coh).1
  have er:=e (xO coh) (by simp [aej])
  have em:=e (fS coh) (by simp [aej])
  have i43:(ρ.rep (σev E' k)).i 43=(k:Int):=rfl
  have i42:(ρ.rep (σev E' k)).i 42=E':=rfl
  cases r' with
  |A=>
   have x1:=ae9 hG h1 coh hw
   have x2:=ae9 hG h1a coh hw'
   rw [hk] at x1
   exact afd hG x1 x2 hs8 h2.o (by omega) hr (fun _ _=>rfl)
  |L=>
   have x1:(FB coh).is G ((FB coh).x.ev ρ) ((zE coh++[fS coh,.var 28,bL,.var 41,kG,.var 43,.lit 0,.lit 0,.var 40,.var 42]).map (·.ev ρ)):=hs
   have x2:(FB coh).is G ((FB coh).x.ev (ρ.rep (σev E' k))) ((zE coh++[fS coh,.var 28,bL,.var 41,kG,.var 43,.lit 0,.lit 0,.var 40,.var 42]).map (·.ev (ρ.rep (σev E' k)))):=hs'
   rw [List.map_append,aem coh] at x1 x2
   have x1:(FB coh).is G ((FB coh).x.ev ρ) (qm ((xO coh).ev ρ) aW 0++[(fS coh).ev ρ,ρ.i 28,ρ.i 25-ρ.i 28,ρ.i 41,kG.ev ρ,ρ.i 43,0,0,ρ.i 40,ρ.i 42]):=x1
   have x2:(FB coh).is G ((FB coh).x.ev (ρ.rep (σev E' k))) (qm ((xO coh).ev (ρ.rep (σev E' k))) aW 0++[(fS coh).ev (ρ.rep (σev E' k)),ρ.i 28,ρ.i 25-ρ.i 28,ρ.i 41,kG.ev ρ,(k:Int),0,0,ρ.i 40,E']):=x2
   rw [hk] at x1
   rw [er,em] at x2
   exact afd hG x1 x2 hs8 h2.o (by omega) hr (fun _ _=>rfl)
  |S=>
   have x1:(FB coh).is G ((FB coh).x.ev ρ) ((aep coh).map (·.ev ρ)):=hs
   have x2:(FB coh).is G ((FB coh).x.ev (ρ.rep (σev E' k))) ((aep coh).map (·.ev (ρ.rep (σev E' k)))):=hs'
   unfold aep at x1 x2
   rw [List.map_append,aem coh] at x1 x2
   have x1:(FB coh).is G ((FB coh).x.ev ρ) (qm ((xO coh).ev ρ) aW 0++[(fS coh).ev ρ,ρ.i 28,ρ.i 25-ρ.i 28,ρ.i 41,1,ρ.i 43+1,0,0,ρ.i 40,(nk coh (tiE coh) (.lit 0)).ev ρ]):=x1
   have x2:(FB coh).is G ((FB coh).x.ev (ρ.rep (σev E' k))) (qm ((xO coh).ev (ρ.rep (σev E' k))) aW 0++[(fS coh).ev (ρ.rep (σev E' k)),ρ.i 28,ρ.i 25-ρ.i 28,ρ.i 41,1,(k:Int)+1,0,0,ρ.i 40,(nk coh (tiE coh) (.lit 0)).ev (ρ.rep (σev E' k))]):=x2
   rw [hk,show ((a+k:Nat):Int)+1=((a+(k+1):Nat):Int) by omega] at x1
   rw [er,em,show (k:Int)+1=((k+1:Nat):Int) by omega] at x2
   have hmu:1<=muN ρ:=by
    obtain ⟨g,t,w,_⟩:=hw
    have:=h2.r
    have:=h2.z
    unfold muN
    omega
   have hpn:=h2.pn
   have eq:=ae4 (ρ:=ρ) (E:=E') (n:=k) (af7 coh).2.1
   obtain ⟨q1,q2⟩:=af2 (ρ:=ρ) (ρ':=ρ.rep (σev E' k)) (coh:=coh) (i:=tiE coh) (v:= .lit 0) hk i43 (by rw [i42]; exact hr) (xF _ _) afn (e (tiE coh) (by simp [aej,aeq])) rfl (e (tkE coh) (by simp [aej,aeq])) (fun j hj=>eq _ (by simp only [ago,List.mem_cons,List.mem_map,List.mem_range]; exact .inr ⟨j,hj,rfl⟩))
   exact afd hG x1 x2 hs8 h2.o (by omega) q1 q2
  |_=>cases hn
 ·intro a k E' hk hr
  have h1a:(ρ.rep (σev E' k)).std G gh:=h1
  obtain ⟨r',hw',hs'⟩:=Hk hG h1a coh
  have hrr:=ahd coh hw hw'
  subst hrr
  rw [hn] at hs'
  have hs':(FB coh).alike G ((FB coh).x.ev (ρ.rep (σev E' k))) ((FB coh).x.ev ((ρ.rep (σev E' k)).rep σ)):=hs'
  have hmem:r'∈ae0:=by cases r'<;>first |cases hn; done |simp [ae0]
  have e:=ae4 (ρ:=ρ) (E:=E') (n:=k) (af7 coh).1
  have eq:=ae4 (ρ:=ρ) (E:=E') (n:=k) (af7 coh).2.1
  have ex:=ae4 (ρ:=ρ) (E:=E') (n:=k) ((af7 coh).2.2 r' hmem)
  have enx:agc coh r'=ags.map σ:=by unfold agc; rw [hn]
  rw [enx] at ex
  have i43:(ρ.rep (σev E' k)).i 43=(k:Int):=rfl
  have i42:(ρ.rep (σev E' k)).i 42=E':=rfl
  have h1c:((ρ.rep (σev E' k)).rep σ).std G gh:=h1
  have go: ∀(k2:Nat),(ρ.rep σ).i 43=((a+k2:Nat):Int)->((ρ.rep (σev E' k)).rep σ).i 43=(k2:Int)->agh a k2 ((ρ.rep σ).i 42) (((ρ.rep (σev E' k)).rep σ).i 42)->ahg a ((ρ.rep σ).i 42) (ρ.i 42)->Shifted G coh a (ρ.i 42) ((FB coh).x.ev ρ) ((FB coh).x.ev (ρ.rep (σev E' k))):=fun k2 q1 q2 q3 q4=>by
   have:=ih a k2 (((ρ.rep (σev E' k)).rep σ).i 42) q1 q3
   have h1d:((ρ.rep σ).rep (σev (((ρ.rep (σev E' k)).rep σ).i 42) k2)).std G gh:=h1
   have eXQ:(FB coh).x.ev ((ρ.rep (σev E' k)).rep σ)=(FB coh).x.ev ((ρ.rep σ).rep (σev (((ρ.rep (σev E' k)).rep σ).i 42) k2)):=afa hG h1c h1d coh fun v hv=>by
    by_cases c42:v=42
    ·subst c42; rfl
    by_cases c43:v=43
    ·subst c43; exact q2
    have hv':v∈ags:=by
     simp only [ags,List.mem_cons,List.not_mem_nil,or_false] at hv ⊢
     omega
    have q:((ρ.rep σ).rep (σev (((ρ.rep (σev E' k)).rep σ).i 42) k2)).i v=(σ v).ev ρ:=by
     show (σev _ _ v).ev (ρ.rep σ)=_
     unfold σev
     split
     ·exact absurd rfl c42
     ·exact absurd rfl c43
     ·rfl
    rw [q]
    exact ex _ (List.mem_map.2 ⟨v,hv',rfl⟩)
   rw [<- eXQ] at this
   obtain ⟨s1,s2,s3,s4,s5,s6,⟨kk',s7Q,s8Q,s9Q⟩,s10⟩:=this
   refine ⟨?_,?_,?_,?_,?_,?_,⟨kk',?_,?_,?_⟩,?_⟩
   ·rw [ha.1,hs'.1]; exact s1
   ·rw [Ff ha,Ff hs']; exact s2
   ·rw [Ff ha,Ff hs']; exact s3
   ·rw [Ff ha,Ff hs']; exact s4
   ·rw [iM ha,iM hs']; exact s5
   ·rw [iM ha,iM hs']; exact s6
   ·rw [iM hs']; exact s7Q
   ·rw [iM ha]; exact s8Q
   ·rw [Ff ha,Ff hs']; exact s9Q
   ·rw [Ff ha]
    exact fun q hq=>(s10 q hq).trans (q4 q hq)
  have ee: ∀j,j<24->(eR coh j).ev (ρ.rep (σev E' k))=(eR coh j).ev ρ:=fun j hj=>eq _ (by simp only [ago,List.mem_cons,List.mem_map,List.mem_range]; exact .inr ⟨j,hj,rfl⟩)
  have et:=e (tkE coh) (by simp [aej,aeq])
  have ei:=e (tiE coh) (by simp [aej,aeq])
  have eg:=eq (zo coh) (by simp [ago])
  have ext:=fun (i v:IE)=>af2 (ρ:=ρ) (ρ':=ρ.rep (σev E' k)) (coh:=coh) (i:=i) (v:=v) hk i43 (show agh a k (ρ.i 42) E' from hr)
  cases r' with
  |d1=>
   cases hn
   obtain ⟨q1,q2⟩:=ext (.lit 1) (zo coh) (show fE (1:Int) by unfold fE; omega) (xF _ _) rfl eg et ee
   exact go (k+1) (show ρ.i 43+1=_ by omega) (show (k:Int)+1=_ by omega) q1 q2
  |d2=>cases hn; exact go k hk rfl hr (fun _ _=>rfl)
  |d5=>cases hn; exact go k hk rfl hr (fun _ _=>rfl)
  |d3=>cases hn; exact go k hk rfl hr (fun _ _=>rfl)
  |D=>
   cases hn
   obtain ⟨q1,q2⟩:=ext (tiE coh) (.lit 0) (xF _ _) afn ei rfl et ee
   exact go (k+1) (show ρ.i 43+1=_ by omega) (show (k:Int)+1=_ by omega) q1 q2
  |_=>cases hn
end
end
end Go.Proofs.YtbhlmedfhilkbaaGreat
