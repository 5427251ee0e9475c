/- Part Sg. No condition. -/
import Derived.Test.YtbhlmedfhilkbaaGreatSf
set_option linter.all false
namespace Go.Sx
open Go.RowKit (Below)
noncomputable section
abbrev Prs:=List (IE×IE)
def Prs.hold(ρ:Env)(l:Prs):Prop:= ∀p∈l,p.1.ev ρ=p.2.ev ρ
theorem Prs.qU{ρ:Env}{l m:Prs}(h:(l++m).hold ρ):l.hold ρ/\m.hold ρ:=⟨fun p hp=>h p (by simp [hp]),fun p hp=>h p (by simp [hp])⟩
def both:Option Prs->Option Prs->Option Prs
 |some a,some b=>some (a++b)
 |_,_=>none
theorem fU{a b:Option Prs}{l:Prs}(h:both a b=some l): ∃x y,a=some x/\b=some y/\l=x++y:=by
 unfold both at h;split at h
 ·cases h; exact ⟨_,_,rfl,rfl,rfl⟩
 ·cases h
def Iv(a:IE):List IE->Nat->Prs
 | [],_=>[]
 |e::l,j=>(.fn 0 a (.lit (.ofNat j)) (.lit 0),e)::Iv a l (j+1)
theorem xN{ρ:Env}{a:IE}: ∀ {l:List IE} {j:Nat},Prs.hold ρ (Iv a l j)-> ∀(i:Nat) (e:IE),l[i]? =some e->ag (a.ev ρ) (j+i:Nat)=e.ev ρ
 | [],_,_,i,e,he=>by simp at he
 |x::l,j,h,i,e,he=>by
  cases i with
  |zero=>
   cases he;exact h _ (List.mem_cons_self ..)
  |succ i=>
   have:=xN (l:=l) (j:=j+1) (fun p hp=>h p (List.mem_cons_of_mem _ hp)) i e (by simpa using he)
   rw [<- this]
   congr 1
   omega
def nb:List IE->Nat->IE->IE
 | [],_,acc=>acc
 |e::l,j,acc=>nb l (j+1) (.fn 1 acc (.lit (.ofNat j)) e)
theorem vT{ρ:Env}: ∀(l:List IE) (j:Nat) (acc:IE) (m:Nat),m<j->ag ((nb l j acc).ev ρ) (m:Nat)=ag (acc.ev ρ) (m:Nat)
 | [],_,_,_,_=>rfl
 |e::l,j,acc,m,h=>by
  show ag ((nb l (j+1) (.fn 1 acc (.lit (.ofNat j)) e)).ev ρ) (m:Nat)=_;rw [vT l (j+1) _ m (by omega)]
  exact aI (acc.ev ρ) (e.ev ρ) (by omega)
theorem pS{ρ:Env}: ∀(l:List IE) (j:Nat) (acc:IE),(∀ e∈l,fE (e.ev ρ))-> ∀(i:Nat) (e:IE),l[i]? =some e->ag ((nb l j acc).ev ρ) (j+i:Nat)=e.ev ρ
 | [],_,_,_,i,e,he=>by simp at he
 |x::l,j,acc,hl,i,e,he=>by
  show ag ((nb l (j+1) (.fn 1 acc (.lit (.ofNat j)) x)).ev ρ) (j+i:Nat)=_;cases i with
  |zero=>
   cases he;rw [vT l (j+1) _ _ (by omega)]
   have hx:=hl x (List.mem_cons_self ..);have:=eW (acc.ev ρ) (x.ev ρ) j j hx.1 hx.2;rw [if_pos rfl] at this;exact this
  |succ i=>
   rw [show j+(i+1)=j+1+i by omega]
   exact pS l (j+1) _ (fun e h=>hl e (List.mem_cons_of_mem _ h)) i e (by simpa using he)
def TV:IE->Bool
 | .fn c _ _ (.lit (.ofNat _))=>Nat.ble 100 c&&Nat.beq (Nat.mod c 2) 1
 |_=>false
mutual
def ab.bU:ab->ab->Option Prs
 | .int k a,v=>
   match v with
   | .int j b=>
     match bf k j with
     |true=>some [(a,b)]
     |false=>none
   |_=>none
 | .bool x,v=>
   match v with
   | .bool y=>
     match x.num,y.num with
     |some a,some b=>some [(a,b)]
     |_,_=>none
   |_=>none
 | .agg l,v=>
   match v with
   | .agg m=>pairsL l m
   |_=>none
 | .tuple l,v=>
   match v with
   | .tuple m=>pairsL l m
   |_=>none
 | .iface t a,v=>
   match v with
   | .iface u b=>
     match Nat.beq t u with
     |true=>a.bU b
     |false=>none
   |_=>none
 | .sliceS i a b s nn,v=>
   match v with
   | .sliceS j c d t nn'=>
     match Nat.beq i j&&(Nat.beq s t&&bEq nn nn') with
     |true=>some [(a,c),(b,d)]
     |false=>none
   |_=>none
 | .sliceA i a s,v=>
   match v with
   | .sliceA j b t=>
     match Nat.beq i j&&Nat.beq s t with
     |true=>some [(a,b)]
     |false=>none
   | .slice none 0 0 0=>some [(a,.lit 0)]
   |_=>none
 | .strS a b,v=>
   match v with
   | .strS c d=>some [(a,c),(b,d)]
   | .str l=>match TV a with
     |true=>some [(a,nb l 0 (.lit 0)),(b,.lit (.ofNat l.length))]
     |false=>some ((b,.lit (.ofNat l.length))::Iv a l 0)
   |_=>none
 | .ptrE i a s c,v=>
   match v with
   | .ptrE j b t d=>
     match Nat.beq i j&&(Nat.beq s t&&Nat.beq c d) with
     |true=>some [(a,b)]
     |false=>none
   |_=>none
 |x,v=>
  match x.same v with
  |true=>some []
  |false=>none
def pairsL:List ab->List ab->Option Prs
 | [],m=>
   match m with
   | []=>some []
   |_=>none
 |a::l,m=>
  match m with
  | []=>none
  |b::m=>both (a.bU b) (pairsL l m)
end
theorem H7: ∀ {l m:List ab} {q:Prs},pairsL l m=some q->l.length=m.length/\ ∀(i:Nat) (a:ab),l[i]? =some a-> ∃b r,m[i]? =some b/\a.bU b=some r/\ ∀p∈r,p∈q:=by
 intro l
 induction l with
 |nil=>
  intro m q h;cases m with
  |nil=>exact ⟨rfl,fun i a ha=>by simp at ha⟩
  |cons b m=>simp [pairsL] at h
 |cons x l ih=>
  intro m q h;cases m with
  |nil=>simp [pairsL] at h
  |cons b m=>
   obtain ⟨r1,r2,h1,h2,rfl⟩:=fU (show both (x.bU b) (pairsL l m)=some q from h)
   obtain ⟨q1,q2⟩:=ih h2;refine ⟨by simp [q1],fun i a ha=> ?_⟩
   cases i with
   |zero=>simp at ha; subst ha; exact ⟨b,r1,rfl,h1,fun p hp=>by simp [hp]⟩
   |succ i=>
    obtain ⟨b',r,p1,p2,p3⟩:=q2 i a (by simpa using ha)
    exact ⟨b',r,by simpa using p1,p2,fun p hp=>by simp [p3 p hp]⟩
theorem ab.kv{ρ:Env}{f:Ren}{b:ab}{v:Value}(h:ai ρ f b v): ∀ {a:ab} {l:Prs},a.bU b=some l->l.hold ρ->ai ρ f a v:=by
 have lists: ∀ {m:List ab} {vs:Array Value},vs.size=m.length->(∀ (i:Nat) (b:ab) (v:Value),m[i]? =some b->vs[i]? =some v-> ∀ {a:ab} {l:Prs},a.bU b=some l->l.hold ρ->ai ρ f a v)-> ∀ {l:List ab} {q:Prs},pairsL l m=some q->q.hold ρ->
  vs.size=l.length/\ ∀(i:Nat) (a:ab) (v:Value),l[i]? =some a->vs[i]? =some v->ai ρ f a v:=by
  intro m vs hs ih l q hl hq;obtain ⟨h1,h2⟩:=H7 hl;refine ⟨by omega,fun i a v ha hv=> ?_⟩
  obtain ⟨b,r,hb,hc,hr⟩:=h2 i a ha;exact ih i b v hb hv hc fun p hp=>hq p (hr p hp)
 have other: ∀ {b:ab} {v:Value},ai ρ f b v-> ∀ {a:ab} {l:Prs},(match a.same b with |true=>some ([]:Prs) |false=>none)=some l->ai ρ f a v:=by
  intro b v hb a l h;split at h
  ·rename_i hs;rw [ab.cT hs];exact hb
  ·cases h
 induction h with
 |bool b=>
  intro a l h hl;cases a<;>simp only [ab.bU] at h<;>first |exact other (.bool b) h | (cases h; done) |skip
  rename_i x;split at h
  ·rename_i p q hp hq;cases h;have h1:=BE.s7 (ρ:=ρ) hp;have h2:=BE.s7 (ρ:=ρ) hq;have h3:p.ev ρ=q.ev ρ:=hl (p,q) (by simp)
   rw [h1,h2] at h3;have:x.ev ρ=b.ev ρ:=by cases hx:x.ev ρ<;>cases hb:b.ev ρ<;>simp [hx,hb] at h3 ⊢
   rw [<- this];exact .bool _
  ·cases h
 |int k e=>
  intro a l h hl;cases a<;>simp only [ab.bU] at h<;>first |exact other (.int k e) h | (cases h; done) |skip
  split at h
  ·rename_i hk;cases h;have e:=hl _ (List.mem_cons_self ..);simp only at e;rw [<- aH hk,<-e];exact .int _ _
  ·cases h
 |str hs=>
  intro a l h hl;cases a<;>simp only [ab.bU] at h<;>first |exact other (.str hs) h | (cases h; done) |skip
  rename_i m s c n;split at h
  ·cases h;have e0:c.ev ρ=(nb m 0 (.lit 0)).ev ρ:=hl _ (List.mem_cons_self ..);have e1:n.ev ρ=((m.length:Nat):Int):=hl _ (List.mem_cons_of_mem _ (List.mem_cons_self ..))
   have at': ∀(j:Nat) (b:UInt8),s.data[j]? =some b-> ∃e,m[j]? =some e/\e.ev ρ=(b.toNat:Int):=by
    intro j b hb
    have h2:(m.map (·.ev ρ))[j]? =some (b.toNat:Int):=by
     rw [<- hs,List.getElem?_map,Array.getElem?_toList,hb];rfl
    rw [List.getElem?_map] at h2;cases hm:m[j]? with
    |none=>rw [hm] at h2; cases h2
    |some e=>rw [hm] at h2; exact ⟨e,rfl,by simpa using h2⟩
   have inr: ∀e∈m,fE (e.ev ρ):=by
    intro e he
    have hm:e.ev ρ∈s.data.toList.map (fun b=>(b.toNat:Int)):=by
     rw [hs];exact List.mem_map_of_mem (f:=fun x:IE=>x.ev ρ) he
    obtain ⟨b,_,hb⟩:=List.mem_map.1 hm;rw [<- hb];have:=b.toNat_lt;unfold fE;omega
   refine .strS (by rw [e1,hs.size]) fun j b hb=> ?_
   obtain ⟨e,h1,h2⟩:=at' j b hb;have:=pS (ρ:=ρ) m 0 (.lit 0) inr j e h1;rw [Nat.zero_add] at this;rw [e0,this,h2]
  cases h;have e1:n.ev ρ=((m.length:Nat):Int):=hl _ (List.mem_cons_self ..);refine .strS (by rw [e1,hs.size]) fun j b hb=> ?_
  have h2:(m.map (·.ev ρ))[j]? =some (b.toNat:Int):=by
   rw [<- hs,List.getElem?_map,Array.getElem?_toList,hb];rfl
  rw [List.getElem?_map] at h2;cases hm:m[j]? with
  |none=>rw [hm] at h2; cases h2
  |some e=>
   rw [hm] at h2;have:=xN (ρ:=ρ) (a:=c) (l:=m) (j:=0) (fun p hp=>hl p (List.mem_cons_of_mem _ hp)) j e hm
   rw [Nat.zero_add] at this;rw [this]
   simpa using h2
 |nilPtr=>intro a l h hl; cases a<;>simp only [ab.bU] at h<;>first |exact other .nilPtr h | (cases h; done)
 |ptr hh=>intro a l h hl; cases a<;>simp only [ab.bU] at h<;>first |exact other (.ptr hh) h | (cases h; done)
 |nilSlice=>
  intro a l h hl;cases a<;>simp only [ab.bU] at h<;>first |exact other .nilSlice h | (cases h; done) |skip
  cases h;exact .sliceN (hl _ (List.mem_cons_self ..))
 |slice hh=>intro a l h hl; cases a<;>simp only [ab.bU] at h<;>first |exact other (.slice hh) h | (cases h; done)
 |sliceG hh hn hc hs=>intro a l h hl; cases a<;>simp only [ab.bU] at h<;>first |exact other (.sliceG hh hn hc hs) h | (cases h; done)
 |sliceE hh hg hs=>intro a l h hl; cases a<;>simp only [ab.bU] at h<;>first |exact other (.sliceE hh hg hs) h | (cases h; done)
 |nilMap=>intro a l h hl; cases a<;>simp only [ab.bU] at h<;>first |exact other .nilMap h | (cases h; done)
 |map hh=>intro a l h hl; cases a<;>simp only [ab.bU] at h<;>first |exact other (.map hh) h | (cases h; done)
 |func ha hb ha' hb' iha ihb=>intro a l h hl; cases a<;>simp only [ab.bU] at h<;>first |exact other (.func ha hb ha' hb') h | (cases h; done)
 |nilFunc=>intro a l h hl; cases a<;>simp only [ab.bU] at h<;>first |exact other .nilFunc h | (cases h; done)
 |iface hh ih=>
  intro a l h hl;cases a<;>simp only [ab.bU] at h<;>first |exact other (.iface hh) h | (cases h; done) |skip
  split at h
  ·rename_i hk;rw [Nat.eq_of_beq_eq_true hk];exact .iface (ih h hl)
  ·cases h
 |nilIface=>intro a l h hl; cases a<;>simp only [ab.bU] at h<;>first |exact other .nilIface h | (cases h; done)
 |agg ha ha' ih=>
  intro a l h hl;cases a<;>simp only [ab.bU] at h<;>first |exact other (.agg ha ha') h | (cases h; done) |skip
  have p:=lists ha ih h hl;exact .agg p.1 p.2
 |tuple ha ha' ih=>
  intro a l h hl;cases a<;>simp only [ab.bU] at h<;>first |exact other (.tuple ha ha') h | (cases h; done) |skip
  have p:=lists ha ih h hl;exact .tuple p.1 p.2
 |ptrE hh h0=>
  intro a l h hl;cases a<;>simp only [ab.bU] at h<;>first |exact other (.ptrE hh h0) h | (cases h; done) |skip
  split at h
  ·rename_i hk;cases h;obtain ⟨k1,k2⟩:=aa hk;obtain ⟨k2,k3⟩:=aa k2;have e:=hl _ (List.mem_cons_self ..);simp only at e;rw [Nat.eq_of_beq_eq_true k1,Nat.eq_of_beq_eq_true k2,Nat.eq_of_beq_eq_true k3,<-e];exact .ptrE hh (by rw [e]; exact h0)
  ·cases h
 |sliceS hh h0 h1 h2=>
  intro a l h hl;cases a<;>simp only [ab.bU] at h<;>first |exact other (.sliceS hh h0 h1 h2) h | (cases h; done) |skip
  split at h
  ·rename_i hk;cases h;obtain ⟨k1,k2⟩:=aa hk;obtain ⟨k2,k3⟩:=aa k2;have e1:=hl _ (List.mem_cons_self ..);have e2:=hl _ (List.mem_cons_of_mem _ (List.mem_cons_self ..));simp only at e1 e2;rw [Nat.eq_of_beq_eq_true k1,Nat.eq_of_beq_eq_true k2,dt k3,<-e1,<-e2];exact .sliceS hh (by rw [e1]; exact h0) (by rw [e2]; exact h1) (by rw [e2]; exact h2)
  ·cases h
 |sliceZ h1 h2=>
  intro a l h hl;cases a<;>simp only [ab.bU] at h<;>first |exact other (.sliceZ h1 h2) h | (cases h; done) |skip
  split at h
  ·rename_i hk;cases h;obtain ⟨k1,k2⟩:=aa hk;obtain ⟨k2,k3⟩:=aa k2;have e2:=hl _ (List.mem_cons_of_mem _ (List.mem_cons_self ..));simp only at e2;rw [Nat.eq_of_beq_eq_true k1,Nat.eq_of_beq_eq_true k2,dt k3];exact .sliceZ (by rw [e2]; exact h1) h2
  ·cases h
 |sliceA hh h0 h1 h2=>
  intro a l h hl;cases a<;>simp only [ab.bU] at h<;>first |exact other (.sliceA hh h0 h1 h2) h | (cases h; done) |skip
  split at h
  ·rename_i hk;cases h;obtain ⟨k1,k2⟩:=aa hk;have e1:=hl _ (List.mem_cons_self ..);simp only at e1;rw [Nat.eq_of_beq_eq_true k1,Nat.eq_of_beq_eq_true k2,<-e1];exact .sliceA hh (by rw [e1]; exact h0) (by rw [e1]; exact h1) h2
  ·cases h
 |sliceN h1=>
  intro a l h hl;cases a<;>simp only [ab.bU] at h<;>first |exact other (.sliceN h1) h | (cases h; done) |skip
  split at h
  ·rename_i hk;cases h;have e1:=hl _ (List.mem_cons_self ..);simp only at e1;exact .sliceN (by rw [e1]; exact h1)
  ·cases h
 |strS h1 h2=>
  intro a l h hl;cases a<;>simp only [ab.bU] at h<;>first |exact other (.strS h1 h2) h | (cases h; done) |skip
  cases h;have e1:=hl _ (List.mem_cons_self ..);have e2:=hl _ (List.mem_cons_of_mem _ (List.mem_cons_self ..));simp only at e1 e2;exact .strS (by rw [e2]; exact h1) fun j b hb=>by rw [e1]; exact h2 j b hb
def T.mU{α:Type}(g:Nat->α->Option Prs):T α->Nat->Nat->Option Prs
 | .nil,_,_=>some []
 | .node v l r,a,b=>both (match v with
   |none=>some []
   |some x=>g b x) (both (T.mU g l (2*a) (a+b)) (T.mU g r (2*a) (2*a+b)))
theorem T.IM{α:Type}{g:Nat->α->Option Prs}: ∀(t:T α) (a b:Nat) (q:Prs),T.mU g t a b=some q-> ∀(k:Nat) (x:α),t.cw k=some x-> ∃r,g (a*k+b) x=some r/\ ∀p∈r,p∈q:=by
 intro t
 induction t with
 |nil=>intro a b q _ k x h; simp [T.cw] at h
 |node v l r ihl ihr=>
  intro a b q h k x hx;obtain ⟨q1,q23,h1,h23,rfl⟩:=fU (show both _ _=some q from h)
  obtain ⟨q2,q3,h2,h3,rfl⟩:=fU h23;simp only [T.cw] at hx;cases hk:Nat.beq k 0
  ·simp only [hk] at hx;have hk0:k≠0:=by intro e; simp [e] at hk
   cases ho:Nat.beq (k % 2) 1
   ·simp only [ho] at hx;have ho':k % 2≠1:=by intro e; simp [e] at ho
    obtain ⟨r',p1,p2⟩:=ihr _ _ _ h3 _ _ hx
    have e:2*a*((k-1) / 2)+(2*a+b)=a*k+b:=by
     have e1:k=2*((k-1) / 2)+2:=by omega
     generalize (k-1) / 2=m at*;subst e1;rw [Nat.mul_add,<-Nat.mul_assoc,Nat.mul_comm a 2];omega
    rw [e] at p1;exact ⟨r',p1,fun p hp=>by simp [p2 p hp]⟩
   ·simp only [ho] at hx;have ho':k % 2=1:=Nat.eq_of_beq_eq_true ho;obtain ⟨r',p1,p2⟩:=ihl _ _ _ h2 _ _ hx
    have e:2*a*((k-1) / 2)+(a+b)=a*k+b:=by
     have e1:k=2*((k-1) / 2)+1:=by omega
     generalize (k-1) / 2=m at*;subst e1;rw [Nat.mul_add,<-Nat.mul_assoc,Nat.mul_comm a 2];omega
    rw [e] at p1;exact ⟨r',p1,fun p hp=>by simp [p2 p hp]⟩
  ·simp only [hk] at hx;have hk0:k=0:=Nat.eq_of_beq_eq_true hk;subst hk0 hx;exact ⟨q1,by simpa using h1,fun p hp=>by simp [hp]⟩
theorem T.Il{α:Type}{g:Nat->α->Option Prs}{t:T α}{q:Prs}(h:T.mU g t 1 0=some q){k:Nat}{x:α}(hx:t.get k=some x): ∃r,g k x=some r/\ ∀p∈r,p∈q:=by
 have:=T.IM t 1 0 q h k x (by rw [<- T.get_eq]; exact hx)
 simpa using this
def sA(c:T ab)(k:Nat)(v:ab):Option Prs:=
 match c.get k with
 |some u=>v.bU u
 |none=>none
def ES:List IE->List IE->Option Prs
 | [],m=>
   match m with
   | []=>some []
   |_=>none
 |a::l,m=>
  match m with
  | []=>none
  |b::m=>both (some [(a,b)]) (ES l m)
theorem Oo{ρ:Env}: ∀ {l m:List IE} {q:Prs},ES l m=some q->q.hold ρ->l.map (·.ev ρ)=m.map (·.ev ρ):=by
 intro l
 induction l with
 |nil=>
  intro m q h _;cases m with
  |nil=>rfl
  |cons b m=>simp [ES] at h
 |cons a l ih=>
  intro m q h hq;cases m with
  |nil=>simp [ES] at h
  |cons b m=>
   obtain ⟨r1,r2,h1,h2,rfl⟩:=fU (show both _ _=some q from h)
   cases h1;obtain ⟨k1,k2⟩:=Prs.qU hq;simp only [List.map_cons,ih h2 k2,k1 (a,b) (by simp)]
def ah.bU:ah->ah->Option Prs
 | .cells c e o t,v=>
   match v with
   | .cells c' e' o' t'=>
     match Nat.beq e e'&&(bEq o o'&&Nat.beq t t') with
     |true=>T.mU (sA c') c 1 0
     |false=>none
   |_=>none
 | .arr ks c n o,v=>
   match v with
   | .arr ks' c' n' o'=>
     match eH ks ks'&&bEq o o' with
     |true=>some [(c,c'),(n,n')]
     |false=>none
   |_=>none
 | .ghost k vs c,v=>
   match v with
   | .ghost k' vs' c'=>
     match Nat.beq k k' with
     |true=>both (ES vs vs') (T.mU (sA c') c 1 0)
     |false=>none
   |_=>none
 | .map es,v=>
   match v with
   | .map es'=>
     match C4 es es' with
     |true=>some []
     |false=>none
   |_=>none
 | .win i s c e o,v=>
   match v with
   | .win i' s' c' e' o'=>
     match Nat.beq s s'&&(Nat.beq e e'&&bEq o o') with
     |true=>both (some [(i,i')]) (T.mU (sA c') c 1 0)
     |false=>none
   |_=>none
 | .col s c k code m d n,v=>
   match v with
   | .col s' c' k' code' m' d' n'=>
     match Nat.beq s s'&&(Nat.beq c c'&&(bf k k'&&(Nat.beq m m'&&Nat.beq d d'))) with
     |true=>some [(code,code'),(n,n')]
     |false=>none
   |_=>none
 | .it0,v=>
   match v with
   | .it0=>some []
   |_=>none
section
variable{ρ:Env}{f:Ren}{B:Nat->Prop}{w:World}{L:Loc}
theorem qp{c c':T ab}{q:Prs}(h:T.mU (sA c') c 1 0=some q)(hq:q.hold ρ){k:Nat}{v:ab}(hv:c.get k=some v): ∃u,c'.get k=some u/\ ∀x,ai ρ f u x->ai ρ f v x:=by
 obtain ⟨r,h1,h2⟩:=T.Il h hv;unfold sA at h1;split at h1
 ·rename_i u hu;exact ⟨u,hu,fun x hx=>ab.kv hx h1 fun p hp=>hq p (h2 p hp)⟩
 ·cases h1
theorem ah.kv{o o':ah}{q:Prs}(h:o.bU o'=some q)(hq:q.hold ρ)(ho:c9 ρ f B w L o'):c9 ρ f B w L o/\o.own=o'.own/\ ∀b,o.aZ ρ w L b ↔ o'.aZ ρ w L b:=by
 cases o with
 |cells c e ow t=>
  cases o'<;>simp only [ah.bU] at h<;>first | (cases h; done) |skip
  split at h
  ·rename_i hk;obtain ⟨k1,k2⟩:=aa hk;obtain ⟨k2,k3⟩:=aa k2;have k1:=Nat.eq_of_beq_eq_true k1;have k2:=dt k2;have k3:=Nat.eq_of_beq_eq_true k3;subst k1 k2 k3;obtain ⟨cs,fr,q1,q2,q3,q4⟩:=ho;refine ⟨⟨cs,fr,q1,q2,q3,fun j v hj=> ?_⟩,rfl,fun _=>Iff.rfl⟩
   obtain ⟨u,hu,hk⟩:=qp (f:=f) h hq hj;obtain ⟨p1,v',p2,p3⟩:=q4 _ _ hu;exact ⟨p1,v',p2,hk _ p3⟩
  ·cases h
 |arr ks c n ow=>
  cases o'<;>simp only [ah.bU] at h<;>first | (cases h; done) |skip
  split at h
  ·rename_i hk;cases h;obtain ⟨k1,k2⟩:=aa hk;have k1:=fm k1;have k2:=dt k2;subst k1 k2;have e1:=hq _ (List.mem_cons_self ..);have e2:=hq _ (List.mem_cons_of_mem _ (List.mem_cons_self ..));simp only at e1 e2;obtain ⟨cs,el,fr,q1,q2,q3,q4⟩:=ho;refine ⟨⟨cs,el,fr,q1,q2,q3,fun j c k hj hk=> ?_⟩,rfl,fun _=>Iff.rfl⟩
   rw [e2] at hj;rw [e1];exact q4 j c k hj hk
  ·cases h
 |ghost k vs c=>
  cases o'<;>simp only [ah.bU] at h<;>first | (cases h; done) |skip
  split at h
  ·rename_i hk;have k1:=Nat.eq_of_beq_eq_true hk;subst k1;obtain ⟨r1,r2,h1,h2,rfl⟩:=fU h;obtain ⟨m1,m2⟩:=Prs.qU hq;have e1:=Oo h1 m1;obtain ⟨⟨q0,q1⟩,qb,cs,el,fr,q2,q3,q4,q5⟩:=ho;refine ⟨⟨⟨by rw [e1]; exact q0,q1⟩,qb,cs,el,fr,q2,q3,q4,fun j v hj=> ?_⟩,rfl,fun _=>Iff.rfl⟩
   obtain ⟨u,hu,hk⟩:=qp (f:=f) h2 m2 hj;obtain ⟨p1,v',p2,p3⟩:=q5 _ _ hu;exact ⟨p1,v',p2,hk _ p3⟩
  ·cases h
 |map es=>
  cases o'<;>simp only [ah.bU] at h<;>first | (cases h; done) |skip
  split at h
  ·rename_i hk;rw [Aw hk];exact ⟨ho,rfl,fun _=>Iff.rfl⟩
  ·cases h
 |it0=>
  cases o'<;>simp only [ah.bU] at h<;>first | (cases h; done) |skip
  exact ⟨ho,rfl,fun _=>Iff.rfl⟩
 |col s c k code m d n=>
  cases o'<;>simp only [ah.bU] at h<;>first | (cases h; done) |skip
  split at h
  ·rename_i hk;cases h;obtain ⟨k1,hk⟩:=aa hk;obtain ⟨k2,hk⟩:=aa hk;obtain ⟨k3,hk⟩:=aa hk;obtain ⟨k4,k5⟩:=aa hk;have k1:=Nat.eq_of_beq_eq_true k1;have k2:=Nat.eq_of_beq_eq_true k2;have k3:=aH k3;have k4:=Nat.eq_of_beq_eq_true k4;have k5:=Nat.eq_of_beq_eq_true k5;subst k1 k2 k3 k4 k5;have e1:=hq _ (List.mem_cons_self ..);have e2:=hq _ (List.mem_cons_of_mem _ (List.mem_cons_self ..));simp only at e1 e2;obtain ⟨cs,el,fr,q1,q2⟩:=ho;refine ⟨⟨cs,el,fr,q1,fun j hj=> ?_⟩,rfl,fun _=>Iff.rfl⟩
   rw [e2] at hj;rw [e1];exact q2 j hj
  ·cases h
 |win i s c e ow=>
  cases o'<;>simp only [ah.bU] at h<;>first | (cases h; done) |skip
  split at h
  ·rename_i hk;obtain ⟨k1,k2⟩:=aa hk;obtain ⟨k2,k3⟩:=aa k2;have k1:=Nat.eq_of_beq_eq_true k1;have k2:=Nat.eq_of_beq_eq_true k2;have k3:=dt k3;subst k1 k2 k3;obtain ⟨r1,r2,h1,h2,rfl⟩:=fU h;cases h1;obtain ⟨m1,m2⟩:=Prs.qU hq;have e1:=m1 _ (List.mem_cons_self ..);simp only at e1;obtain ⟨cs,fr,q1,q2,q3,q0,q4⟩:=ho;refine ⟨⟨cs,fr,q1,q2,q3,by rw [e1]; exact q0,fun j v hj=> ?_⟩,rfl,fun _=>Iff.rfl⟩
   obtain ⟨u,hu,hk⟩:=qp (f:=f) h2 m2 hj;obtain ⟨v',p2,p3⟩:=q4 _ _ hu;rw [e1];exact ⟨v',p2,hk _ p3⟩
  ·cases h
end
def zn(n:Nat)(at':List Nat):Nat->Nat:=fun i=>
 match Nat.blt i n with
 |true=>i
 |false=>
  match at'[i-n]? with
  |some j=>j
  |none=>0
def rm(h:T ah)(π:Nat->Nat):Nat->List ah->Option Prs
 |_,[]=>some []
 |i,o::os=>
  match o.dead with
  |true=>rm h π (i+1) os
  |false=>
   match h.get (π i) with
   |some a=>both ((vU .var π o).bU (zM o.own a)) (rm h π (i+1) os)
   |none=>none
def qs(os':List ah)(j:Nat):Bool:=
 match os'[j]? with
 |some o=>o.dead
 |none=>false
def Ts(n nx:Nat)(dd:Nat->Bool):List Nat->Bool
 | []=>true
 |j::l=>
  match Nat.blt j nx&&(Nat.ble n j||dd j),Fg j l with
  |true,false=>Ts n nx dd l
  |_,_=>false
def Con.Si(c:Con)(at':List Nat)(s:ASt):Option Prs:=
 match s.tm.get 0 with
 |none=>none
 |some v=>
  match Ts c.os.length s.nx (qs c.os') at'&&(Nat.beq (Nat.add c.os.length at'.length) c.os'.length&&(withinList (Nat.blt · c.os'.length) [c.res]&&BP (Nat.blt · c.os'.length) c.os')) with
  |true=>both ((c.res.rep .var (zn c.os.length at')).bU v) (rm s.hp (zn c.os.length at') 0 c.os')
  |false=>none
def xq:IE->Option Nat
 | .wrap _ (.fn c0 (.fn c1 _ _ (.lit _)) (.lit (.ofNat i)) _)=>match Nat.beq c0 0&&Nat.ble 100 c1 with
   |true=>some i
   |false=>none
 | .fn c _ _ (.lit (.ofNat i))=>match Nat.ble 100 c with
   |true=>some i
   |false=>none
 |_=>none
def mF:IE->Option Nat
 | .rem a _=>xq a
 | .sel _ a _ _ _=>xq a
 | .fn c x y z=>match Nat.beq c 5 with
   |true=>xq z
   |false=>xq (.fn c x y z)
 |a=>xq a
def tH(i:Nat)(p:IE×IE):List (Nat×IE×IE)->List (Nat×IE×IE)
 | []=>[(i,p)]
 |d::l=>match Nat.blt i d.1 with
  |true=>(i,p)::d::l
  |false=>d::tH i p l
def pL:Prs->List (Nat×IE×IE)
 | []=>[]
 |p::l=>match mF p.1 with
  |none=>pL l
  |some i=>tH i p (pL l)
def mb:Prs->List (Nat×IE×IE)->Prs
 | [],_=>[]
 |p::l,ds=>match mF p.1 with
  |none=>p::mb l ds
  |some _=>match ds with
   | []=>p::mb l []
   |d::ds=>d.2::mb l ds
def OK:Prs->Nat->Bool
 | [],_=>true
 |p::l,n=>match mF p.1 with
  |none=>OK l n
  |some i=>match Nat.ble n i with
   |true=>OK l i
   |false=>false
def B2(q:Prs):Prs:=match OK q 0 with
 |true=>q
 |false=>mb q (pL q)
def tN:Prs->Nat
 | []=>0
 |p::l=>match mF p.1 with
  |none=>tN l
  |some _=>tN l+1
theorem pM{i:Nat}{p:IE×IE}: ∀ {l:List (Nat×IE×IE)},(tH i p l).length=l.length+1/\(i,p)∈tH i p l/\ ∀d∈l,d∈tH i p l:=by
 intro l
 induction l with
 |nil=>exact ⟨rfl,List.mem_singleton.2 rfl,fun d hd=>by cases hd⟩
 |cons d l ih=>
  unfold tH;split
  ·exact ⟨rfl,List.mem_cons_self ..,fun x hx=>List.mem_cons_of_mem _ hx⟩
  ·refine ⟨by simp [ih.1],List.mem_cons_of_mem _ ih.2.1,fun x hx=> ?_⟩
   rcases List.mem_cons.1 hx with rfl |hx
   ·exact List.mem_cons_self ..
   ·exact List.mem_cons_of_mem _ (ih.2.2 x hx)
theorem wR: ∀ {q:Prs},(pL q).length=tN q/\ ∀p∈q,(mF p.1).isSome=true-> ∃i,(i,p)∈pL q:=by
 intro q
 induction q with
 |nil=>exact ⟨rfl,fun p hp=>by cases hp⟩
 |cons p l ih=>
  unfold pL tN;cases h:mF p.1 with
  |none=>
   refine ⟨ih.1,fun x hx hs=> ?_⟩
   rcases List.mem_cons.1 hx with rfl |hx
   ·rw [h] at hs; cases hs
   ·exact ih.2 x hx hs
  |some i=>
   refine ⟨by simp only [pM.1,ih.1],fun x hx hs=> ?_⟩
   rcases List.mem_cons.1 hx with rfl |hx
   ·exact ⟨i,pM.2.1⟩
   ·obtain ⟨j,hj⟩:=ih.2 x hx hs;exact ⟨j,pM.2.2 _ hj⟩
theorem FH: ∀ {q:Prs} {ds:List (Nat×IE×IE)},ds.length=tN q->(∀ d∈ds,d.2∈mb q ds)/\ ∀p∈q,(mF p.1)=none->p∈mb q ds:=by
 intro q
 induction q with
 |nil=>intro ds h; exact ⟨(fun d hd=>by rw [List.length_eq_zero_iff.1 h] at hd; cases hd),(fun p hp=>by cases hp)⟩
 |cons p l ih=>
  intro ds h;unfold tN at h;unfold mb;cases hp:mF p.1 with
  |none=>
   rw [hp] at h;obtain ⟨a,b⟩:=ih h;refine ⟨fun d hd=>List.mem_cons_of_mem _ (a d hd),fun x hx hn=> ?_⟩
   rcases List.mem_cons.1 hx with rfl |hx
   ·exact List.mem_cons_self ..
   ·exact List.mem_cons_of_mem _ (b x hx hn)
  |some i=>
   rw [hp] at h;cases ds with
   |nil=>simp at h
   |cons d ds=>
    obtain ⟨a,b⟩:=ih (ds:=ds) (by simpa using h)
    refine ⟨fun x hx=> ?_,fun x hx hn=> ?_⟩
    ·rcases List.mem_cons.1 hx with rfl |hx
     ·exact List.mem_cons_self ..
     ·exact List.mem_cons_of_mem _ (a x hx)
    ·rcases List.mem_cons.1 hx with rfl |hx
     ·rw [hp] at hn; cases hn
     ·exact List.mem_cons_of_mem _ (b x hx hn)
theorem CM{ρ:Env}{q:Prs}(h:(B2 q).hold ρ):q.hold ρ:=by
 unfold B2 at h;split at h
 ·exact h
 ·intro p hp;obtain ⟨a,b⟩:=FH (q:=q) (ds:=pL q) wR.1;cases hx:mF p.1 with
  |none=>exact h p (b p hp hx)
  |some i=>
   obtain ⟨j,hj⟩:=wR.2 p hp (by rw [hx]; rfl)
   exact h p (a _ hj)
def tQ:List (Nat×IE×IE)->Prs->Prs
 |_,[]=>[]
 |seen,p::l=>match mF p.1 with
  |none=>p::tQ seen l
  |some i=>match seen.any (fun q=>Nat.beq q.1 i&&(p.1.eq q.2.1&&p.2.eq q.2.2)) with
   |true=>tQ seen l
   |false=>p::tQ ((i,p)::seen) l
theorem D7{ρ:Env}: ∀ {l:Prs} {seen:List (Nat×IE×IE)},(∀ d∈seen,d.2.1.ev ρ=d.2.2.ev ρ)->(tQ seen l).hold ρ->l.hold ρ:=by
 intro l
 induction l with
 |nil=>intro _ _ _ p hp; cases hp
 |cons x l ih=>
  intro seen hs h p hp;unfold tQ at h;split at h
  ·rcases List.mem_cons.1 hp with rfl |hp
   ·exact h _ (List.mem_cons_self ..)
   ·exact ih hs (fun y hy=>h y (List.mem_cons_of_mem _ hy)) p hp
  ·split at h
   ·rename_i hd
    rcases List.mem_cons.1 hp with rfl |hp
    ·obtain ⟨d,hd1,hd2⟩:=List.any_eq_true.1 hd;obtain ⟨_,hd2⟩:=aa hd2;obtain ⟨a,b⟩:=aa hd2;rw [IE.eq_eq a,IE.eq_eq b];exact hs d hd1
    ·exact ih hs h p hp
   ·have hx:x.1.ev ρ=x.2.ev ρ:=h x (List.mem_cons_self ..)
    rcases List.mem_cons.1 hp with rfl |hp
    ·exact hx
    ·refine ih (seen:=_) (fun d hd=> ?_) (fun y hy=>h y (List.mem_cons_of_mem _ hy)) p hp
     rcases List.mem_cons.1 hd with rfl |hd
     ·exact hx
     ·exact hs d hd
def Con.ends(c:Con)(at':List Nat)(s:ASt):Option Prs:=match c.Si at' s with
 |some q=>some (B2 (tQ [] q))
 |none=>none
theorem EU{h:T ah}{π:Nat->Nat}: ∀ {os:List ah} {i:Nat} {q:Prs},rm h π i os=some q-> ∀(k:Nat) (o:ah),os[k]? =some o->o.dead=false-> ∃a r,h.get (π (i+k))=some a/\(vU .var π o).bU (zM o.own a)=some r/\ ∀p∈r,p∈q:=by
 intro os
 induction os with
 |nil=>intro i q _ k o hk; simp at hk
 |cons x os ih=>
  intro i q h k o hk hd;simp only [rm] at h;split at h
  ·rename_i hx;cases k with
   |zero=>simp at hk; subst hk; rw [hx] at hd; cases hd
   |succ k=>
    obtain ⟨a',r',p1,p2,p3⟩:=ih h k o (by simpa using hk) hd
    exact ⟨a',r',by rw [show i+(k+1)=i+1+k by omega]; exact p1,p2,p3⟩
  ·split at h
   ·rename_i a ha;obtain ⟨r1,r2,e1,e2,rfl⟩:=fU h;cases k with
    |zero=>simp at hk; subst hk; exact ⟨a,r1,ha,e1,fun p hp=>List.mem_append_left _ hp⟩
    |succ k=>
     obtain ⟨a',r',p1,p2,p3⟩:=ih e2 k o (by simpa using hk) hd
     exact ⟨a',r',by rw [show i+(k+1)=i+1+k by omega]; exact p1,p2,fun p hp=>List.mem_append_right _ (p3 p hp)⟩
   ·cases h
theorem Ru{n nx:Nat}{dd:Nat->Bool}: ∀ {l:List Nat},Ts n nx dd l=true->(∀ (k j:Nat),l[k]? =some j->(n<=j\/dd j=true)/\j<nx)/\ ∀(k k' j:Nat),l[k]? =some j->l[k']? =some j->k=k':=by
 intro l
 induction l with
 |nil=>intro _; exact ⟨fun k j h=>by simp at h,fun k k' j h=>by simp at h⟩
 |cons x l ih=>
  intro h;simp only [Ts] at h;split at h
  ·rename_i h1 h2;obtain ⟨r1,r2⟩:=ih h;obtain ⟨h1a,h1b⟩:=aa h1;have hm:=Dw h2
   have h1b:n<=x\/dd x=true:=by
    cases hb:Nat.ble n x
    ·rw [hb] at h1b;exact .inr (by simpa using h1b)
    ·exact .inl (Nat.le_of_ble_eq_true hb)
   refine ⟨fun k j hk=> ?_,fun k k' j hk hk'=> ?_⟩
   ·cases k with
    |zero=>simp at hk; subst hk; exact ⟨h1b,by simpa [Nat.blt_eq] using h1a⟩
    |succ k=>exact r1 k j (by simpa using hk)
   ·cases k with
    |zero=>
     cases k' with
     |zero=>rfl
     |succ k'=>simp at hk hk'; subst hk; exact absurd hk' (hm k')
    |succ k=>
     cases k' with
     |zero=>simp at hk hk'; subst hk'; exact absurd hk (hm k)
     |succ k'=>rw [r2 k k' j (by simpa using hk) (by simpa using hk')]
  ·cases h
theorem sq(ρ:Env):ρ.rep IE.var=ρ:=rfl
def E7(R:Bf)(ρ:Env)(B:Nat->Prop)(W:World)(args:List ab)(h:T ah)(nx:Nat)(s:ASt):Prop:=nx<=s.nx/\
 ∀f w args',au ρ B W f h w->az ρ f args args'->iF f nx s.nx->
  R args' w fun v' w'=> ∃f',f.le f'/\Outside f f' nx s.nx/\au ρ B W f' s.hp w'/\ ∀v,s.tm.get 0=some v->ai ρ f' v v'
theorem dA.toR{P:Program}{ρ:Env}{B:Nat->Prop}{W:World}{g:FuncId}{args:List ab}{h:T ah}{nx:Nat}{s:ASt}(k:dA P ρ B W g args h nx s):E7 (mw P g) ρ B W args h nx s:=
 ⟨k.1,fun f w args' h1 h2 h3=>(k.2 f w args' h1 h2 h3).mono fun e w' ⟨v',f',e1,e2,e3,e4,e5⟩=>⟨v',e1,f',e2,e3,e4,e5⟩⟩
theorem Con.ig{R:Bf}(hR:Eg R){ρ:Env}{c:Con}{s:ASt}{at':List Nat}{q:Prs}(hgo: ∀B W,E7 R ρ B W c.args (aF c.os 0 .nil) c.os.length s)(hends:c.ends at' s=some q)(hq:q.hold ρ):c.vb R ρ:=by
 obtain ⟨q0,hends,hq⟩: ∃q0,c.Si at' s=some q0/\q0.hold ρ:=by
  unfold Con.ends at hends;split at hends
  ·rename_i q0 h0;cases hends;exact ⟨q0,h0,D7 (fun d hd=>by cases hd) (CM hq)⟩
  ·cases hends
 intro B W f w args' hr ha hn;unfold Con.Si at hends;split at hends
 ·cases hends
 ·rename_i v hv;split at hends
  ·rename_i hck;obtain ⟨k1,hck⟩:=aa hck;obtain ⟨k2,hck⟩:=aa hck;obtain ⟨k3,k4⟩:=aa hck;have k2:=Nat.eq_of_beq_eq_true k2;have k2:c.os.length+at'.length=c.os'.length:=k2;obtain ⟨r1,r2,e1,e2,rfl⟩:=fU hends;obtain ⟨q1,q2⟩:=Prs.qU hq;obtain ⟨a1,a2⟩:=Ru k1;have hw:c.res.within (Nat.blt · c.os'.length)=true:=(aa k3).1;generalize hπ:zn c.os.length at'=π at*
   have dd0: ∀i,qs c.os' i=true-> ∃o,c.os'[i]? =some o/\o.dead=true:=fun i hi=>by
    unfold qs at hi;split at hi
    ·rename_i o ho; exact ⟨o,ho,hi⟩
    ·cases hi
   have pold: ∀i,i<c.os.length->π i=i:=fun i hi=>by
    rw [<- hπ]; unfold zn;rw [show Nat.blt i c.os.length=true by simp [Nat.blt_eq,hi]]
   have pnew: ∀i,c.os.length<=i->i<c.os'.length-> ∃j,at'[i-c.os.length]? =some j/\π i=j:=fun i hi hlt=>by
    have:at'[i-c.os.length]? =some (at'[i-c.os.length]'(by omega)):=List.getElem?_eq_getElem (by omega)
    refine ⟨_,this,?_⟩;rw [<- hπ]; unfold zn;rw [show Nat.blt i c.os.length=false by cases hb:Nat.blt i c.os.length<;>simp [Nat.blt_eq] at hb ⊢; omega,this]
   have pinj: ∀i i',i<c.os'.length->i'<c.os'.length->qs c.os' i=false->qs c.os' i'=false->π i=π i'->i=i':=by
    intro i i' hi hi' hdi hdi' e
    rcases Nat.lt_or_ge i c.os.length with g |g
    ·rcases Nat.lt_or_ge i' c.os.length with g' |g'
     ·rw [pold i g,pold i' g'] at e; exact e
     ·obtain ⟨j,hj,ej⟩:=pnew i' g' hi';have:=a1 _ _ hj;rw [pold i g,ej] at e;subst e
      rcases this.1 with h |h
      ·omega
      ·rw [hdi] at h; cases h
    ·obtain ⟨j,hj,ej⟩:=pnew i g hi
     rcases Nat.lt_or_ge i' c.os.length with g' |g'
     ·have:=a1 _ _ hj;rw [pold i' g',ej] at e;subst e
      rcases this.1 with h |h
      ·omega
      ·rw [hdi'] at h; cases h
     ·obtain ⟨j',hj',ej'⟩:=pnew i' g' hi';rw [ej,ej'] at e;subst e;have:=a2 _ _ _ hj hj';omega
   refine hR _ _ _ _ ((hgo B W).2 f w args' hr ha (fun j hj _=>hn j hj)) fun v' w' ⟨f',b2,b3,b4,b5⟩=> ?_
   let d:Nat->Bool:=(Nat.blt · c.os'.length)
   have hd: ∀i,d i=true ↔ i<c.os'.length:=fun i=>by simp [d,Nat.blt_eq]
   let f'':Ren:=fun i=>if i<c.os'.length then f' (π i) else f i
   have fin: ∀i,i<c.os'.length->f'' i=f' (π i):=fun i hi=>if_pos hi
   have fout: ∀i,¬i<c.os'.length->f'' i=f i:=fun i hi=>if_neg hi
   have fold: ∀i,i<c.os.length->f'' i=f i:=fun i hi=>by
    by_cases hlt:i<c.os'.length
    ·rw [fin i hlt,pold i hi,b3 i (.inl hi)]
    ·exact fout i hlt
   have via:(f'.via d π).le f'':=by
    intro i L hi;unfold Ren.via at hi;split at hi
    ·rename_i hdi;rw [fin i ((hd i).1 hdi)];exact hi
    ·cases hi
   have obj: ∀(i:Nat) (o:ah),c.os'[i]? =some o->o.dead=false-> ∀L,f'' i=some L-> ∃a,s.hp.get (π i)=some a/\f' (π i)=some L/\c9 ρ f'' B w' L o/\(o.own=true->a.own=true)/\ ∀b,o.aZ ρ w' L b->a.aZ ρ w' L b:=by
    intro i o ho hdo L hL;have hi:i<c.os'.length:=(List.getElem?_eq_some_iff.1 ho).1;obtain ⟨a,r,p1,p2,p3⟩:=EU e2 i o ho hdo;rw [Nat.zero_add] at p1;rw [fin i hi] at hL;have ha:=b4.obj _ L a hL p1;obtain ⟨ha1,hf1⟩:=Fc (own:=o.own) ha;obtain ⟨ha2,hown,hf2⟩:=ah.kv p2 (fun p hp=>q2 p (p3 p hp)) ha1
    have hin:=vS k4 i o ho
    have hf3: ∀b,(vU .var π o).aZ ρ w' L b ↔ o.aZ (ρ.rep .var) w' L b:=by
     intro b;cases o<;>exact Iff.rfl
    have hfoot: ∀b,o.aZ ρ w' L b->a.aZ ρ w' L b:=fun b hb=>(hf1 b).1 ((hf2 b).1 ((hf3 b).2 (by rw [sq]; exact hb)))
    have hownA:o.own=true->a.own=true:=fun hob=>by
     rw [hob] at hown;rw [FL,hob] at hown;exact hown.symm
    have:=(Kl (B':=B) hin ha2 (fun hown b hb=>by
     rw [sq] at hb;exact iD ha (hownA hown) b (hfoot b hb))).1
    rw [sq] at this;exact ⟨a,p1,hL,this.mono via,hownA,hfoot⟩
   have live: ∀(i:Nat) (o:ah),c.os'[i]? =some o->o.dead=false->qs c.os' i=false:=fun i o ho hd=>by
    unfold qs;rw [ho];exact hd
   refine ⟨f'',fun i L hi=> ?_,fun i hi=> ?_,⟨b4.below,b4.bsize,fun i L hi=> ?_,fun i i' L L' o o' hi hi' gi gi' hii hown b hb hb'=> ?_,fun i L o hi hg=> ?_⟩,?_⟩
   ·rcases Nat.lt_or_ge i c.os.length with g |g
    ·rw [fold i g]; exact hi
    ·rw [hn i g] at hi; cases hi
   ·rcases Nat.lt_or_ge i c.os.length with g |g
    ·exact fold i g
    ·exact fout i (by omega)
   ·by_cases g:i<c.os'.length
    ·rw [fin i g] at hi; exact b4.lt _ L hi
    ·rw [fout i g,hn i (by omega)] at hi; cases hi
   ·obtain ⟨gi,di⟩:=ik gi;obtain ⟨gi',di'⟩:=ik gi';obtain ⟨a,p1,p2,p3,p4,p5⟩:=obj i o gi di L hi;obtain ⟨a',p1',p2',p3',p4',p5'⟩:=obj i' o' gi' di' L' hi';have g:=(List.getElem?_eq_some_iff.1 gi).1;have g':=(List.getElem?_eq_some_iff.1 gi').1;exact b4.apart _ _ L L' a a' p2 p2' p1 p1' (fun e=>hii (pinj i i' g g' (live i o gi di) (live i' o' gi' di') e)) (p4 hown) b (p5 b hb) (p5' b hb')
   ·obtain ⟨hg,hd⟩:=ik hg;obtain ⟨a,p1,p2,p3,p4,p5⟩:=obj i o hg hd L hi;exact p3
   ·have h5:=ab.kv (b5 v hv) e1 q1;have:=ai.sub_of (σ:= .var) (π:=π) (d:=d) c.res v' hw h5;rw [sq] at this;exact this.mono via
  ·cases hends
theorem Con.Bn{P:Program}{G:Nat->Int->Int->Int->Int}{GH:Nat->bz}{c:Con}(h: ∀ρ:Env,ρ.std G GH->ρ.ok (bdL c.bds)->c.pre.holds ρ->
 ∃s at' q,(∀ B W,dA P ρ B W c.g c.args (aF c.os 0 .nil) c.os.length s)/\c.ends at' s=some q/\q.hold ρ):c.Ok P G GH:=by
 intro ρ h1 h2 h3;obtain ⟨s,at',q,hgo,hends,hq⟩:=h ρ h1 h2 h3;exact Con.ig (dh P c.g) (fun B W=>(hgo B W).toR) hends hq
end
end Go.Sx
namespace Go.Sx
open Go.RowKit (Below)
noncomputable section
structure ba where
 con:Con
 key:Nat
 n:Nat
 sl:List Nat
 e:aM
 sl':List Nat
 pick:ASt->Bool:=fun _=>true
def slotsOf(tm:T ab):List Nat->Option (List ab)
 | []=>some []
 |k::l=>
  match tm.get k with
  |some v=>
   match slotsOf tm l with
   |some m=>some (v::m)
   |none=>none
  |none=>none
def MG:List Nat->List ab->T ab->T ab
 | [],_,t=>t
 |k::l,m,t=>
  match m with
  | []=>t
  |v::m=>MG l m (t.set k v)
theorem Fy{tm:T ab}: ∀ {l:List Nat} {m:List ab},slotsOf tm l=some m->m.length=l.length/\ ∀(i k:Nat),l[i]? =some k-> ∃v,m[i]? =some v/\tm.get k=some v:=by
 intro l
 induction l with
 |nil=>intro m h; cases h; exact ⟨rfl,fun i k h=>by simp at h⟩
 |cons x l ih=>
  intro m h;unfold slotsOf at h;split at h
  ·rename_i v hv;split at h
   ·rename_i m' hm;cases h;obtain ⟨h1,h2⟩:=ih hm;refine ⟨by simp [h1],fun i k hk=> ?_⟩
    cases i with
    |zero=>simp at hk; subst hk; exact ⟨v,rfl,hv⟩
    |succ i=>exact h2 i k (by simpa using hk)
   ·cases h
  ·cases h
theorem EX: ∀ {l:List Nat} {m:List ab} {t:T ab} {k:Nat} {v:ab},(MG l m t).get k=some v->(∃ i:Nat,l[i]? =some k/\m[i]? =some v)\/t.get k=some v:=by
 intro l
 induction l with
 |nil=>intro m t k v h; exact .inr h
 |cons x l ih=>
  intro m t k v h;cases m with
  |nil=>exact .inr h
  |cons y m=>
   rcases ih h with ⟨i,h1,h2⟩ |h1
   ·exact .inl ⟨i+1,by simpa using h1,by simpa using h2⟩
   ·rcases T.aB h1 with ⟨rfl,rfl⟩ | ⟨_,h2⟩
    ·exact .inl ⟨0,rfl,rfl⟩
    ·exact .inr h2
def l0(P:Program)(b:Code)(c:ba)(m:Nat):Bf:=fun args w Q=>
 ∀a:Act,a.tmps.size=c.n->a.defers=[]->(∀ (i s:Nat) (x:Value),c.sl[i]? =some s->args[i]? =some x->a.tmps.getD s Go.undef=x)-> ∀Q0:Exit->Act->World->Prop,
  (∀ (v:Value) (a':Act) (w':World),Q v w'->a'.tmps.size=c.n->a'.defers=[]->(∃ l:Array Value,v= .tuple l/\l.size=c.sl'.length/\ ∀(i s:Nat),c.sl'[i]? =some s->l[i]? =some (a'.tmps.getD s Go.undef))->Q0 c.e.to a' w')->Code.rounds P b Q0 m a w
theorem jj(P:Program)(b:Code)(c:ba)(m:Nat):Eg (l0 P b c m):=
 fun args w Q Q' h hq a h1 h2 h3 Q0 h4=>h a h1 h2 h3 Q0 fun v a' w' k1 k2 k3 k4=>h4 v a' w' (hq v w' k1) k2 k3 k4
def ba.Ok(P:Program)(G:Nat->Int->Int->Int->Int)(GH:Nat->bz)(c:ba):Prop:=
 ∀(fn:Func) (cd b:Code),P.funcs[c.con.g]? =some fn->fn.body=some cd->b∈cS cd->Code.key b=c.key->
  ∀ρ:Env,ρ.std G GH->ρ.ok (bdL c.con.bds)->c.con.pre.holds ρ-> ∃m,c.con.vb (l0 P b c m) ρ
def Av(os:List ah)(k:Nat)(p:ab)(s:ASt):ASt:=
 match p with
 | .sliceA i _ sz=>
   match s.tm.get k with
   |some (.slice none 0 0 0)=>
    match os[i]? with
    |some (.arr ks _ _ _)=>⟨s.tm.set k (.sliceA s.nx (.lit 0) sz),s.hp.set s.nx (.arr ks (.lit 0) (.lit 0) true),s.nx+1⟩
    |_=>s
   |_=>s
 |_=>s
def v9(os:List ah):List Nat->List ab->ASt->ASt
 |k::sl,p::ps,s=>v9 os sl ps (Av os k p s)
 |_,_,s=>s
theorem Oi(os:List ah)(k:Nat)(p:ab)(s:ASt):s.nx<=(Av os k p s).nx:=by
 unfold Av
 repeat' split
 all_goals first
  |exact Nat.le_refl _
  |exact Nat.le_succ _
theorem Gd(os:List ah): ∀(sl:List Nat) (ps:List ab) (s:ASt),s.nx<=(v9 os sl ps s).nx:=by
 intro sl
 induction sl with
 |nil=>intro ps s; exact Nat.le_refl _
 |cons k sl ih=>
  intro ps s;cases ps with
  |nil=>exact Nat.le_refl _
  |cons p ps=>exact Nat.le_trans (Oi os k p s) (ih ps _)
theorem QL{ρ:Env}{B:Nat->Prop}{W w:World}{n N:Nat}{f:Ren}{a:Act}(os:List ah)(k:Nat)(p:ab)(s:ASt)(hN:(Av os k p s).nx<=N)(hs:eh ρ B W n N f s a w):eh ρ B W n N f (Av os k p s) a w:=by
 unfold Av at*;split at hN
 ·rename_i i l sz;split at hN
  ·rename_i hk;split at hN
   ·have hnone:f s.nx=none:=hs.fresh s.nx (Nat.le_refl _) (by have:s.nx+1<=N:=hN; omega)
    refine ⟨hs.size,fun d v hd=> ?_,hs.defers,hs.heap.extra hnone _,hs.fresh.sub (Nat.le_succ _) (Nat.le_refl _)⟩
    rcases T.aB hd with ⟨rfl,rfl⟩ | ⟨_,hd⟩
    ·have:=hs.tm _ _ hk;generalize a.tmps.getD d Go.undef=u at this ⊢;cases this;exact .sliceN rfl
    ·exact hs.tm d v hd
   ·exact hs
  ·exact hs
 ·exact hs
theorem Py{ρ:Env}{B:Nat->Prop}{W w:World}{n N:Nat}{f:Ren}{a:Act}(os:List ah): ∀(sl:List Nat) (ps:List ab) (s:ASt),(v9 os sl ps s).nx<=N->eh ρ B W n N f s a w->eh ρ B W n N f (v9 os sl ps s) a w:=by
 intro sl
 induction sl with
 |nil=>intro ps s _ hs; exact hs
 |cons k sl ih=>
  intro ps s hN hs;cases ps with
  |nil=>exact hs
  |cons p ps=>exact ih ps _ hN (QL os k p s (Nat.le_trans (Gd os sl ps _) hN) hs)
def ba.WN(C:Ctx)(c:ba)(s:ASt):Option (aM×ASt):=
 match slotsOf s.tm c.sl with
 |some args=>
  match c.con.fit C args s.hp s.nx with
  |some (sg,pb)=>
   match c.con.then C s.hp s.nx sg pb with
   | (v,hp',nx')=>
     match v with
     | .tuple vs=>
       match Nat.beq vs.length c.sl'.length with
       |true=>some (c.e,⟨MG c.sl' vs .nil,hp',nx'⟩)
       |false=>none
     |_=>none
  |none=>none
 |none=>none
theorem yM{a:Act}{l:List Nat}{i s:Nat}{x:Value}(hs:l[i]? =some s)(hx:(l.map fun k=>a.tmps.getD k Go.undef).toArray[i]? =some x):a.tmps.getD s Go.undef=x:=by
 have:(l.map fun k=>a.tmps.getD k Go.undef)[i]? =some x:=by simpa using hx
 rw [List.getElem?_map,hs] at this;exact Option.some.inj this
theorem iE.args{ρ:Env}{f:Ren}{tm:T ab}{a:Act}(ht:iE ρ f tm a){l:List Nat}{m:List ab}(h:slotsOf tm l=some m):az ρ f m (l.map fun k=>a.tmps.getD k Go.undef).toArray:=by
 obtain ⟨h1,h2⟩:=Fy h;refine ⟨by simp [h1],fun i v v' hv hv'=> ?_⟩
 have hi:i<l.length:=by rw [<- h1]; exact (List.getElem?_eq_some_iff.1 hv).1
 have hk:l[i]? =some (l[i]'hi):=List.getElem?_eq_getElem hi;obtain ⟨u,k1,k2⟩:=h2 i _ hk;rw [hv] at k1;cases k1;rw [<- yM hk hv'];exact ht _ _ k2
theorem iE.back{ρ:Env}{f:Ren}{a:Act}{l:Array Value}{sl:List Nat}{vs:List ab}(hv:ai ρ f (.tuple vs) (.tuple l))(hl: ∀(i s:Nat),sl[i]? =some s->l[i]? =some (a.tmps.getD s Go.undef)):iE ρ f (MG sl vs .nil) a:=by
 intro d v h
 rcases EX h with ⟨i,h1,h2⟩ |h1
 ·cases hv with
  |tuple ha hb=>exact hb i v _ h2 (hl i d h1)
 ·rw [T.get_nil] at h1; cases h1
theorem ba.U6{C:Ctx}{P:Program}{ρ:Env}(hC:C.Ok P ρ){G:Nat->Int->Int->Int->Int}{GH:Nat->bz}(hρ:ρ.std G GH){c:ba}(hwf:c.con.wf=true)(hc:c.Ok P G GH){fn:Func}{cd b:Code}(hf:P.funcs[c.con.g]? =some fn)(hb:fn.body=some cd)(hm:b∈cS cd)(hk:Code.key b=c.key)
 {s s':ASt} {e:aM} (h:c.WN C s=some (e,s')) {B:Nat->Prop} {W:World}: ∃m,fX P ρ B W c.n b m s e s':=by
 unfold ba.WN at h;split at h
 ·rename_i args hargs;split at h
  ·rename_i sg pb hfit;split at h;rename_i v hp' nx' hthen;split at h
   ·rename_i vs;split at h
    ·cases h;obtain ⟨h1,h2,h3⟩:=Con.tw hC hwf hfit
     have hnx:nx'=s.nx+(c.con.os'.length-c.con.os.length):=by
      have:=congrArg (·.2.2) hthen;exact this.symm
     subst hnx;obtain ⟨m,hat⟩:=hc fn cd b hf hb hm hk (ρ.rep (fY sg)) ⟨hρ.1,hρ.2⟩ h1 h2;refine ⟨m,Nat.le_add_right _ _,fun N f a w Q hN hr hQ=> ?_⟩
     have:=h3 _ (jj P b c m) hat B W f w (c.sl.map fun k=>a.tmps.getD k Go.undef).toArray hr.heap (hr.tm.args hargs) (hr.fresh.sub (Nat.le_refl _) hN)
     refine this a hr.size hr.defers (fun i s x hs hx=>yM hs hx) Q fun v' a' w' ⟨f',k1,k2,k3,k4⟩ k5 k6 ⟨l,k7,k8,k9⟩=> ?_
     rw [hthen] at k3 k4;subst k7;exact hQ f' a' w' k1 k2 ⟨k5,iE.back k4 k9,k6,k3,hr.fresh.step k2 (Nat.le_add_right _ _)⟩
    ·cases h
   ·cases h
  ·cases h
 ·cases h
def yg(bd:Bd)(dec:Dec)(os:List ah)(k:Nat)(p:ab)(s:ASt):ASt:=
 match p with
 | .sliceA i _ sz=>
   match s.tm.get k with
   |some (.slice (some (b,0)) n _ (g+1))=>
    match os[i]?,s.hp.get b with
    |some (.arr ks _ _ _),some (.cells cs t o top)=>
     match Nat.blt 0 n&&(Nat.beq sz (g+1)&&(ah.arr ks (ot (sd cs 0 (Nat.mul n sz))) (.lit (.ofNat n)) o).cov bd dec (.cells cs t o top)) with
     |true=>⟨s.tm.set k (.sliceA b (.lit (.ofNat n)) sz),s.hp.set b (.arr ks (ot (sd cs 0 (Nat.mul n sz))) (.lit (.ofNat n)) o),s.nx⟩
     |false=>s
    |_,_=>s
   |_=>s
 |_=>s
theorem Hx{ρ:Env}{bd:Bd}{dec:Dec}(hρ:ρ.ok bd)(hd:dec.holds ρ)(os:List ah)(k:Nat)(p:ab)(s:ASt):dP ρ s (yg bd dec os k p s)/\(yg bd dec os k p s).nx=s.nx:=by
 unfold yg;split
 ·rename_i i l sz;split
  ·rename_i b n c g hk;split
   ·rename_i ks c2 n2 o2 cs t o top hos hb;split
    ·rename_i hc;obtain ⟨h0,hc⟩:=aa hc;obtain ⟨h1,hc⟩:=aa hc;have h0:0<n:=by simpa [Nat.blt_eq] using h0
     have h1:=Nat.eq_of_beq_eq_true h1;subst h1;refine ⟨⟨fun k' v hv=> ?_,fun j x hx=> ?_,Nat.le_refl _⟩,rfl⟩
     ·rcases T.aB hv with ⟨rfl,rfl⟩ | ⟨_,hv⟩
      ·refine ⟨_,hk,fun f x hx=> ?_⟩
       generalize hu:(ab.slice (some (b,0)) n c (g+1))=u at hx;cases hx with
       |sliceG hf hn hc' hs=>
        cases hu;rename_i c'' L;have:=ai.sliceA (ρ:=ρ) (f:=f) (i:=b) (s:=g+1) (c:=c'') (len:= .lit (.ofNat n)) (L:=L) hf (by show (0:Int)<=(n:Int); omega) (by show ((n:Int)).toNat<=c''; omega) (by rw [Nat.add_zero] at hs; exact hs)
        exact this
       |sliceE hf hg hs=>cases hu; omega
       |_=>cases hu
      ·exact ⟨v,hv,fun _ _ h=>h⟩
     ·rcases T.aB hx with ⟨rfl,rfl⟩ | ⟨_,hx⟩
      ·exact ⟨_,hb,rfl,fun _ _ _=>Iff.rfl,fun f B w L ho=>(ah.xX (ρ:=ρ) hρ hd hc ho).1⟩
      ·exact ⟨x,hx,rfl,fun _ _ _=>Iff.rfl,fun _ _ _ _ h=>h⟩
    ·exact ⟨dP.refl ρ s,rfl⟩
   ·exact ⟨dP.refl ρ s,rfl⟩
  ·exact ⟨dP.refl ρ s,rfl⟩
 ·exact ⟨dP.refl ρ s,rfl⟩
def KX(bd:Bd)(dec:Dec)(os:List ah):List Nat->List ab->ASt->ASt
 |k::sl,p::ps,s=>KX bd dec os sl ps (yg bd dec os k p s)
 |_,_,s=>s
theorem Nz{ρ:Env}{bd:Bd}{dec:Dec}(hρ:ρ.ok bd)(hd:dec.holds ρ)(os:List ah): ∀(sl:List Nat) (ps:List ab) (s:ASt),dP ρ s (KX bd dec os sl ps s)/\(KX bd dec os sl ps s).nx=s.nx:=by
 intro sl
 induction sl with
 |nil=>intro ps s; exact ⟨dP.refl ρ s,rfl⟩
 |cons k sl ih=>
  intro ps s;cases ps with
  |nil=>exact ⟨dP.refl ρ s,rfl⟩
  |cons p ps=>
   obtain ⟨a1,a2⟩:=Hx hρ hd os k p s;obtain ⟨b1,b2⟩:=ih ps (yg bd dec os k p s);exact ⟨a1.trans b1,b2.trans a2⟩
def Aa(c:Con)(sl:List Nat)(s:ASt):ASt:=
 match slotsOf s.tm sl with
 |some args=>
  match c.H9 args s.hp s.nx with
  | (h,nx)=>⟨s.tm,h,nx⟩
 |none=>s
theorem Qq{ρ:Env}(c:Con)(sl:List Nat)(s:ASt):s.nx<=(Aa c sl s).nx/\ ∀ {B:Nat->Prop} {W w:World} {n N:Nat} {f:Ren} {a:Act},(Aa c sl s).nx<=N->eh ρ B W n N f s a w->eh ρ B W n N f (Aa c sl s) a w:=by
 unfold Aa;split
 ·rename_i args _;have hp:=Con.K2 ρ c args s.hp s.nx;generalize c.H9 args s.hp s.nx=hn at hp;obtain ⟨h1,nx1⟩:=hn;refine ⟨hp.1,fun {B W w n N f a} hN hs=> ?_⟩
  have hN:nx1<=N:=hN;exact ⟨hs.size,hs.tm,hs.defers,hp.2 B W f w hs.heap fun j a b=>hs.fresh j a (Nat.lt_of_lt_of_le b hN),hs.fresh.sub hp.1 (Nat.le_refl _)⟩
 ·exact ⟨Nat.le_refl _,fun _ hs=>hs⟩
def ba.ready(C:Ctx)(c:ba)(s:ASt):ASt:=KX C.bd C.dec c.con.os c.sl c.con.args (Aa c.con c.sl (v9 c.con.os c.sl c.con.args s))
def ba.run(C:Ctx)(c:ba)(s:ASt):Option (aM×ASt):=c.WN C (c.ready C s)
theorem ba.WJ{C:Ctx}{P:Program}{ρ:Env}(hC:C.Ok P ρ){G:Nat->Int->Int->Int->Int}{GH:Nat->bz}(hρ:ρ.std G GH){c:ba}(hwf:c.con.wf=true)(hc:c.Ok P G GH){fn:Func}{cd b:Code}(hf:P.funcs[c.con.g]? =some fn)(hb:fn.body=some cd)(hm:b∈cS cd)(hk:Code.key b=c.key)
 {s s':ASt} {e:aM} (h:c.run C s=some (e,s')) {B:Nat->Prop} {W:World}: ∃m,fX P ρ B W c.n b m s e s':=by
 obtain ⟨m,h1,h2⟩:=ba.U6 hC hρ hwf hc hf hb hm hk h (B:=B) (W:=W);have hle:=Gd c.con.os c.sl c.con.args s;obtain ⟨hle2,ho⟩:=Qq (ρ:=ρ) c.con c.sl (v9 c.con.os c.sl c.con.args s);unfold ba.ready at h1 h2;obtain ⟨hcov,hnx⟩:=Nz (ρ:=ρ) hC.bd hC.dec c.con.os c.sl c.con.args (Aa c.con c.sl (v9 c.con.os c.sl c.con.args s));rw [hnx] at h1 h2;refine ⟨m,Nat.le_trans hle (Nat.le_trans hle2 h1),fun N f a w Q hN hs hQ=>h2 N f a w Q hN (hcov.st (ho (Nat.le_trans h1 hN) (Py _ _ _ _ (Nat.le_trans hle2 (Nat.le_trans h1 hN)) hs))) fun f' a' w' q1 q2 q3=>hQ f' a' w' q1 (fun j hj=>q2 j (by omega)) q3⟩
structure Know where
 cons:List Con:=[]
 loops:List ba:=[]
structure Know.Ok (P:Program) (G:Nat->Int->Int->Int->Int) (GH:Nat->bz) (K:Know):Prop where
 cons:bO P G GH K.cons
 loops: ∀c∈K.loops,c.con.wf=true/\c.Ok P G GH
def Ke:List ba->FuncId->Nat->Bool
 | [],_,_=>false
 |c::l,g,k=>
  match Nat.beq g c.con.g&&Nat.beq k c.key with
  |true=>true
  |false=>Ke l g k
def oL(C:Ctx):List ba->FuncId->Nat->Nat->ASt->Option (aM×ASt)
 | [],_,_,_,_=>none
 |c::l,g,n,k,s=>
  match Nat.beq g c.con.g&&(Nat.beq k c.key&&(Nat.beq n c.n&&c.pick s)) with
  |true=>
   match c.run C s with
   |some r=>some r
   |none=>oL C l g n k s
  |false=>oL C l g n k s
def vv(C:Ctx):List ba->FuncId->Nat->ASt->List BE
 | [],_,_,_=>[]
 |c::l,g,k,s=>
  match Nat.beq g c.con.g&&(Nat.beq k c.key&&c.pick s) with
  |true=>
   match c.ready C s with
   |t=>
    match slotsOf t.tm c.sl with
    |some args=>
     match c.con.ask C args t.hp with
     | []=>vv C l g k s
     |bs=>bs
    |none=>vv C l g k s
  |false=>vv C l g k s
def hH(C:Ctx)(K:Know):Sm:=
 {call:=fun dec=>nV (C.with dec) K.cons,ask:=fun dec g args h=>HB (C.with dec) K.cons g args h,
  lps:=fun g=>{has:=Ke K.loops g,run:=fun n k dec s=>oL (C.with dec) K.loops g n k s,ask:=fun k dec s=>vv (C.with dec) K.loops g k s}}
theorem Ao{C:Ctx}{P:Program}{ρ:Env}(hC:C.Ok P ρ){G:Nat->Int->Int->Int->Int}{GH:Nat->bz}(hρ:ρ.std G GH){K:Know}(hl:K.Ok P G GH):SmOk P ρ (hH C K):=by
 refine ⟨fun dec hd B W=>wg (hC.with hd) hρ hl.cons,fun g fn cd hf hb B W n b hm dec hd s e s' h=> ?_⟩
 have h:oL (C.with dec) K.loops g n (Code.key b) s=some (e,s'):=h
 have key: ∀l:List ba,(∀ c∈l,c.con.wf=true/\c.Ok P G GH)->oL (C.with dec) l g n (Code.key b) s=some (e,s')-> ∃m,fX P ρ B W n b m s e s':=by
  intro l
  induction l with
  |nil=>intro _ h; cases h
  |cons c l ih=>
   intro hl h;have hl': ∀c∈l,c.con.wf=true/\c.Ok P G GH:=fun c hc=>hl c (List.mem_cons_of_mem _ hc)
   unfold oL at h;split at h
   ·rename_i hck;obtain ⟨k1,hck⟩:=aa hck;obtain ⟨k2,hck⟩:=aa hck;obtain ⟨k3,_⟩:=aa hck;have k1:=Nat.eq_of_beq_eq_true k1;have k2:=Nat.eq_of_beq_eq_true k2;have k3:=Nat.eq_of_beq_eq_true k3;split at h
    ·rename_i r hr;cases h;obtain ⟨w1,w2⟩:=hl c (List.mem_cons_self ..);subst k3;exact ba.WJ (hC.with hd) hρ w1 w2 (by rw [<- k1]; exact hf) hb hm k2 hr
    ·exact ih hl' h
   ·exact ih hl' h
 exact key K.loops hl.loops h
def EH(C:Ctx)(g:FuncId)(k:Nat):Option Code:=
 match C.fn.get g with
 |some fn=>
  match fn.body with
  |some cd=>
   match (cS cd).filter fun b=>Nat.beq (Code.key b) k with
   | [b]=>some b
   |_=>none
  |none=>none
 |none=>none
def Vg(a b:Int):Int:=match aL a b with
 |true=>b
 |false=>a
def SN(a b:Int):Int:=match aL a b with
 |true=>a
 |false=>b
def isVar(i:Nat):IE->Bool
 | .var j=>Nat.beq j i
 |_=>false
def Bp(bd:Bd)(i:Nat)(a b:IE)(v:Bool)(r:Int×Int):Int×Int:=
 match isVar i a with
 |true=>match rng bd b with
  |some (l,h)=>match v with
   |true=>(r.1,SN r.2 (h-1))
   |false=>(Vg r.1 l,r.2)
  |none=>r
 |false=>r
def PX(bd:Bd)(i:Nat)(a b:IE)(v:Bool)(r:Int×Int):Int×Int:=
 match isVar i b with
 |true=>match rng bd a with
  |some (l,h)=>match v with
   |true=>(Vg r.1 (l+1),r.2)
   |false=>(r.1,SN r.2 h)
  |none=>r
 |false=>r
def ye(bd:Bd)(i:Nat):Dec->Int×Int->Int×Int
 | [],r=>r
 | (t,v)::l,r=>match t with
   | .lt a b=>ye bd i l (PX bd i a b v (Bp bd i a b v r))
   |_=>ye bd i l r
def l9(bd:Bd)(dec:Dec):List (Nat×Int×Int)->List (Nat×Int×Int)
 | []=>[]
 | (i,_,_)::l=>match bd i with
   |some r=>match ye bd i dec r with
    | (lo,hi)=>(i,lo,hi)::l9 bd dec l
   |none=>l9 bd dec l
theorem En{i:Nat}{a:IE}(h:isVar i a=true):a= .var i:=by
 unfold isVar at h;split at h
 ·rw [Nat.eq_of_beq_eq_true h]
 ·cases h
theorem Ln{a b x:Int}(h1:a<=x)(h2:b<=x):Vg a b<=x:=by
 unfold Vg; split<;>assumption
theorem JZ{a b x:Int}(h1:x<=a)(h2:x<=b):x<=SN a b:=by
 unfold SN; split<;>assumption
theorem M0{ρ:Env}{bd:Bd}(hρ:ρ.ok bd){i:Nat}: ∀ {dec:Dec},dec.holds ρ-> ∀ {r:Int×Int},r.1<=ρ.i i/\ρ.i i<=r.2->(ye bd i dec r).1<=ρ.i i/\ρ.i i<=(ye bd i dec r).2:=by
 intro dec
 induction dec with
 |nil=>intro _ r hr; exact hr
 |cons p l ih=>
  intro hd r hr;have hl:Dec.holds ρ l:=fun q hq=>hd q (List.mem_cons_of_mem _ hq)
  obtain ⟨t,v⟩:=p;cases t with
  |lt a b=>
   have hb:decide (a.ev ρ<b.ev ρ)=v:=hd (.lt a b,v) (List.mem_cons_self ..);refine ih hl ?_
   have h1:(Bp bd i a b v r).1<=ρ.i i/\ρ.i i<=(Bp bd i a b v r).2:=by
    unfold Bp;split
    ·rename_i hv;have hv:=En hv;subst hv;split
     ·rename_i lo hi hr';have:=bD hρ b _ _ hr';have e:(IE.var i).ev ρ=ρ.i i:=rfl;rw [e] at hb;split
      ·have hb:=of_decide_eq_true hb;exact ⟨hr.1,JZ hr.2 (by omega)⟩
      ·have hb:=of_decide_eq_false hb;exact ⟨Ln hr.1 (by omega),hr.2⟩
     ·exact hr
    ·exact hr
   unfold PX;split
   ·rename_i hv;have hv:=En hv;subst hv;split
    ·rename_i lo hi hr';have:=bD hρ a _ _ hr';have e:(IE.var i).ev ρ=ρ.i i:=rfl;rw [e] at hb;split
     ·have hb:=of_decide_eq_true hb;exact ⟨Ln h1.1 (by omega),h1.2⟩
     ·have hb:=of_decide_eq_false hb;exact ⟨h1.1,JZ h1.2 (by omega)⟩
    ·exact h1
   ·exact h1
  |_=>exact ih hl hr
theorem MZ{ρ:Env}{bd:Bd}(hρ:ρ.ok bd){dec:Dec}(hd:dec.holds ρ): ∀ {l:List (Nat×Int×Int)} (i:Nat) (lo hi:Int),(i,lo,hi)∈l9 bd dec l->lo<=ρ.i i/\ρ.i i<=hi:=by
 intro l
 induction l with
 |nil=>intro i lo hi h; cases h
 |cons p l ih=>
  intro i lo hi h;obtain ⟨j,a,b⟩:=p;unfold l9 at h;split at h
  ·rename_i r hr;split at h;rename_i lo' hi' he
   rcases List.mem_cons.1 h with h |h
   ·cases h;have:=M0 hρ (i:=i) hd (r:=r) (hρ i r.1 r.2 hr);rw [he] at this;exact this
   ·exact ih i lo hi h
  ·exact ih i lo hi h
def Ctx.sharp(C:Ctx)(l:List (Nat×Int×Int))(dec:Dec):Ctx:={C with bd:=bdL (l9 C.bd dec l),dec:=dec}
theorem Ctx.Ok.sharp{C:Ctx}{P:Program}{ρ:Env}(hC:C.Ok P ρ)(l:List (Nat×Int×Int)){dec:Dec}(hd:dec.holds ρ):(C.sharp l dec).Ok P ρ:=
 ⟨hC.ty,hC.fn,Dg fun i lo hi h=>MZ hC.bd hd i lo hi h,hd,hC.plain,hC.mixed⟩
def ASt.Sn(bd:Bd)(dec:Dec)(s:ASt):ASt:=⟨s.tm.qf (ab.nrmA bd dec),s.hp.qf (zk bd dec IE.var id),s.nx⟩
theorem ASt.FI{ρ:Env}{bd:Bd}{dec:Dec}(hρ:ρ.ok bd)(hd:dec.holds ρ)(s:ASt):dP ρ s (s.Sn bd dec):=by
 refine ⟨fun k v hv=> ?_,fun i o ho=> ?_,Nat.le_refl _⟩
 ·have hv:(s.tm.qf (ab.nrmA bd dec)).get k=some v:=hv;rw [T.iI] at hv;cases hu:s.tm.get k with
  |none=>rw [hu] at hv; cases hv
  |some u=>
   rw [hu] at hv;cases hv;exact ⟨u,rfl,fun f x h=>ab.Ko hρ hd h⟩
 ·have ho:(s.hp.qf (zk bd dec IE.var id)).get i=some o:=ho;rw [T.iI] at ho;cases hu:s.hp.get i with
  |none=>rw [hu] at ho; cases ho
  |some u=>
   rw [hu] at ho;cases ho;refine ⟨u,rfl,R6 u,fun w L c=>by cases u<;>exact Iff.rfl,fun f B w L h=> ?_⟩
   have hr:c9 (ρ.rep IE.var) f B w L u:=by rw [sq]; exact h
   have hle:f.le (f.via (fun _=>true) id):=fun j M hj=>hj
   exact (KJ (σ:=IE.var) (π:=id) (d:=fun _=>true) hρ hd hle (B':=B) (fun ho=>iD hr ho) hr).1
def ba.once(C C':Ctx)(c:ba)(μ:IE)(dec:Dec)(s:ASt)(again:Dec->Out):Out:=
 match slotsOf s.tm c.sl with
 |some args=>
  match c.con.fit C' args s.hp s.nx with
  |some (sg,pb)=>
   match wz C'.bd 6 dec (.lt (μ.rep (fY sg)) μ),wz C'.bd 6 dec (.lt (μ.rep (fY sg)) (.lit 0)) with
   |some true,some false=>
    match c.con.then C' s.hp s.nx sg pb with
    | (v,hp',nx')=> .leaf .normal ⟨T.nil.set 0 v,hp',nx'⟩
   |_,_=> .bad (.num 202)
  |none=>
   match pw C.bd dec (c.con.ask C' args s.hp) with
   | ⟨true,d,_⟩=>again d
   | ⟨false,_,some t⟩=>Out.part t (facts C.bd t dec) again again
   | ⟨false,_,none⟩=> .bad (.num 203)
 |none=> .bad (.num 204)
def ba.back(C:Ctx)(c:ba)(μ:IE):Nat->Dec->aM->ASt->Out
 |0,_,_,_=> .bad (.num 201)
 |k+1,dec,e,s=>
  match e with
  | .normal=>ba.once C (C.sharp c.con.bds dec) c μ dec (s.Sn (bdL (l9 C.bd dec c.con.bds)) dec) (fun d=>ba.back C c μ k d .normal s)
  |e=>
   match kO e c.e with
   |true=>
    match slotsOf s.tm c.sl' with
    |some vs=> .leaf .ret ⟨T.nil.set 0 (.tuple vs),s.hp,s.nx⟩
    |none=> .bad (.num 205)
   |false=> .bad (.num 206)
def ba.tree(c:ba)(P:Program)(K:Know)(L:Nat)(pol:FuncId->Nat->Bool)(pure:FuncId->Bool)(d:Nat)(facts:Dec)(μ:IE):Out:=
 match EH (eF P (bdL c.con.bds)) c.con.g c.key with
 |some b=>
  (uf (eF P (bdL c.con.bds)) (xJ (hH (eF P (bdL c.con.bds)) K) pure (pE (eF P (bdL c.con.bds)) (hH (eF P (bdL c.con.bds)) K) L pol pure d)) (hH (eF P (bdL c.con.bds)) K).call (qM pure (pE (eF P (bdL c.con.bds)) (hH (eF P (bdL c.con.bds)) K) L pol pure d))
   (Qp (eF P (bdL c.con.bds)) (hH (eF P (bdL c.con.bds)) K) pure (pE (eF P (bdL c.con.bds)) (hH (eF P (bdL c.con.bds)) K) L pol pure d)) (HE (eF P (bdL c.con.bds)) (hH (eF P (bdL c.con.bds)) K)) ((hH (eF P (bdL c.con.bds)) K).lps c.con.g) c.n L (pol c.con.g) b (facts++c.con.pre)
   (ASt.Sn (bdL c.con.bds) (facts++c.con.pre) ⟨MG c.sl c.con.args .nil,aF c.con.os 0 .nil,c.con.os.length⟩)).bind (facts++c.con.pre) (c.back (eF P (bdL c.con.bds)) μ 8)
 |none=> .bad (.num 207)
theorem ba.Vy{C:Ctx}{P:Program}{ρ:Env}(hC:C.Ok P ρ){G:Nat->Int->Int->Int->Int}{GH:Nat->bz}(hρ:ρ.std G GH){c:ba}(hwf:c.con.wf=true){μ:IE}{b:Code}{B:Nat->Prop}{W:World}{m:Nat}
 (ih: ∀ρ':Env,ρ'.std G GH->ρ'.ok (bdL c.con.bds)->c.con.pre.holds ρ'->(μ.ev ρ').toNat<(μ.ev ρ).toNat->c.con.vb (l0 P b c m) ρ'): ∀(k:Nat) (dec:Dec),Dec.holds ρ dec-> ∀(e1:aM) (s1:ASt) (e:aM) (s:ASt),(c.back C μ k dec e1 s1).pick ρ=some (e,s)->
  s1.nx<=s.nx/\ ∀N f1 a1 w1 (Q0:Exit->Act->World->Prop),s.nx<=N->eh ρ B W c.n N f1 s1 a1 w1->
   (∀ (v:Value) (a':Act) (w':World),(∃ f',f1.le f'/\Outside f1 f' s1.nx s.nx/\au ρ B W f' s.hp w'/\ ∀u,s.tm.get 0=some u->ai ρ f' u v)->a'.tmps.size=c.n->a'.defers=[]->(∃ l:Array Value,v= .tuple l/\l.size=c.sl'.length/\ ∀(i s:Nat),c.sl'[i]? =some s->l[i]? =some (a'.tmps.getD s Go.undef))->Q0 c.e.to a' w')->
   Exit.then (Code.rounds P b Q0 m) Q0 e1.to a1 w1:=by
 intro k
 induction k with
 |zero=>intro dec _ e1 s1 e s h; cases h
 |succ k ihk=>
  intro dec hd e1 s1 e s h;unfold ba.back at h;split at h
  · -- once more
    have hCs:=hC.sharp c.con.bds hd;have hcov:=ASt.FI (ρ:=ρ) hCs.bd hd s1;have hbd:(C.sharp c.con.bds dec).bd=bdL (l9 C.bd dec c.con.bds):=rfl;rw [hbd] at hcov;have hnx1:(s1.Sn (bdL (l9 C.bd dec c.con.bds)) dec).nx=s1.nx:=rfl;generalize s1.Sn (bdL (l9 C.bd dec c.con.bds)) dec=s2 at h hcov hnx1;generalize C.sharp c.con.bds dec=Cs at h hCs;unfold ba.once at h;split at h
    ·rename_i args hargs;split at h
     ·rename_i sg pb hfit;split at h
      ·rename_i m1 m2;split at h;rename_i v hp' nx' hthen;cases h;obtain ⟨h1,h2,h3⟩:=Con.tw hCs hwf hfit;have hnx:nx'=s2.nx+(c.con.os'.length-c.con.os.length):=(congrArg (·.2.2) hthen).symm;subst hnx;rw [hnx1] at h3 ⊢;refine ⟨Nat.le_add_right _ _,fun N f1 a1 w1 Q0 hN hr0 hQ=> ?_⟩
       have hr:=hcov.st hr0;have q1:=tf hCs.bd 6 dec _ _ hd m1;have q2:=tf hCs.bd 6 dec _ _ hd m2;have q1:(μ.rep (fY sg)).ev ρ<μ.ev ρ:=of_decide_eq_true q1;have q2: ¬(μ.rep (fY sg)).ev ρ<0:=of_decide_eq_false q2;rw [IE.a9] at q1 q2;have hat:=ih (ρ.rep (fY sg)) ⟨hρ.1,hρ.2⟩ h1 h2 (by omega)
       refine h3 _ (jj P b c m) hat B W f1 w1 (c.sl.map fun k=>a1.tmps.getD k Go.undef).toArray hr.heap (hr.tm.args hargs) (hr0.fresh.sub (Nat.le_refl _) hN) a1 hr.size hr.defers (fun i s x hs hx=>yM hs hx) Q0 fun v' a' w' ⟨f',k1,k2,k3,k4⟩ k5 k6 k7=> ?_
       rw [hnx1] at hthen;rw [hthen] at k3 k4;refine hQ v' a' w' ⟨f',k1,k2,k3,fun u hu=> ?_⟩ k5 k6 k7
       have hu:(T.nil.set 0 v).get 0=some u:=hu
       rcases T.aB hu with ⟨_,rfl⟩ | ⟨h0,_⟩
       ·exact k4
       ·exact absurd rfl h0
      ·cases h
     ·have hl:=ni hC.bd hd (c.con.ask Cs args s2.hp);split at h
      ·rename_i d q hq;rw [hq] at hl;exact ihk d hl .normal s1 e s h
      ·rename_i t _;obtain ⟨d,h1,h2⟩:=Out.jr (jz hC.bd t hd) t (fun d=>ba.back C c μ k d .normal s1) (fun d=>ba.back C c μ k d .normal s1)
       rw [h2] at h;cases ht:t.ev ρ
       ·rw [ht] at h; exact ihk d h1 .normal s1 e s h
       ·rw [ht] at h; exact ihk d h1 .normal s1 e s h
      ·cases h
    ·cases h
  · -- the end
    rename_i hne;split at h
    ·rename_i hex;have hex:=j5 hex;split at h
     ·rename_i vs hvs;cases h;refine ⟨Nat.le_refl _,fun N f1 a1 w1 Q0 hN hr hQ=> ?_⟩
      have hq:Q0 e1.to a1 w1:=by
       rw [hex];refine hQ (.tuple (c.sl'.map fun k=>a1.tmps.getD k Go.undef).toArray) a1 w1 ⟨f1,Ren.le_refl _,fun _ _=>rfl,hr.heap,fun u hu=> ?_⟩ hr.size hr.defers ⟨_,rfl,by simp,fun i s hs=>by simp [hs]⟩
       have hu:(T.nil.set 0 (ab.tuple vs)).get 0=some u:=hu
       rcases T.aB hu with ⟨_,rfl⟩ | ⟨h0,_⟩
       ·have:=hr.tm.args hvs;exact .tuple this.1 this.2
       ·exact absurd rfl h0
      cases e1 with
      |normal=>exact absurd rfl hne
      |exit i=>exact hq
      |ret=>exact hq
     ·cases h
    ·cases h
theorem ba.dJ{P:Program}(mixed:P.follows .mixedOrders=true){G:Nat->Int->Int->Int->Int}{GH:Nat->bz}{K:Know}(hK:K.Ok P G GH){c:ba}(hwf:c.con.wf=true)(hsl:c.sl.length=c.con.args.length){L:Nat}{pol:FuncId->Nat->Bool}{pure:FuncId->Bool}{d:Nat}{facts:Dec}{μ:IE}{ρ:Env}(h1:ρ.std G GH)(h2:ρ.ok (bdL c.con.bds))(h3:c.con.pre.holds ρ)(hf:facts.holds ρ)
 {fn:Func} {cd b:Code} (hfn:P.funcs[c.con.g]? =some fn) (hb:fn.body=some cd) (hm:b∈cS cd) (hk:Code.key b=c.key) {m:Nat} (ih: ∀ρ':Env,ρ'.std G GH->ρ'.ok (bdL c.con.bds)->c.con.pre.holds ρ'->(μ.ev ρ').toNat<(μ.ev ρ).toNat->c.con.vb (l0 P b c m) ρ')
 {e:aM} {s:ASt} (hs:(c.tree P K L pol pure d facts μ).pick ρ=some (e,s)): ∀B W,E7 (l0 P b c (m+1)) ρ B W c.con.args (aF c.con.os 0 .nil) c.con.os.length s:=by
 intro B W;have hC:(eF P (bdL c.con.bds)).Ok P ρ:=xg mixed h2
 have hd:Dec.holds ρ (facts++c.con.pre):=fun p hp=>by
  rcases List.mem_append.1 hp with hp |hp
  ·exact hf p hp
  ·exact h3 p hp
 unfold ba.tree at hs;split at hs
 ·rename_i b' hb'
  have e0:b'=b:=by
   unfold EH at hb';split at hb'
   ·rename_i fn' hfn';have:=hC.fn _ _ hfn';rw [hfn] at this;cases this;rw [hb] at hb';simp only at hb';split at hb'
    ·rename_i b1 hl;cases hb';have:b∈(cS cd).filter fun b=>Nat.beq (Code.key b) c.key:=List.mem_filter.2 ⟨hm,by rw [hk]; exact Nat.beq_refl _⟩
     rw [hl] at this;exact (List.mem_singleton.1 this).symm
    ·cases hb'
   ·cases hb'
  subst e0;obtain ⟨e1,s1,d1,hd1,p1,p2⟩:=Out.hJ hd hs;have hsm:=Ao hC h1 hK;have htr:=DI hC hsm L pol pure d;have q:=(Eb (B:=B) (W:=W) (n:=c.n) (ask:=Qp (eF P (bdL c.con.bds)) (hH (eF P (bdL c.con.bds)) K) pure (pE (eF P (bdL c.con.bds)) (hH (eF P (bdL c.con.bds)) K) L pol pure d)) (asko:=HE (eF P (bdL c.con.bds)) (hH (eF P (bdL c.con.bds)) K)) hC (zO hsm htr) (fun dec hd=>hsm.call dec hd B W) (uJ htr) L (pol c.con.g) b' (fun x hx=>hsm.lps _ fn cd hfn hb B W c.n x (loops_in hm hx)) (facts++c.con.pre) hd _ _ _ p1).1
  obtain ⟨r1,r2⟩:=ba.Vy (B:=B) (W:=W) hC h1 hwf ih 8 d1 hd1 e1 s1 e s p2;refine ⟨Nat.le_trans q.1 r1,fun f w args' hr ha hfr a k1 k2 k3 Q0 hQ=> ?_⟩
  refine q.2 s.nx f a w _ r1 ((ASt.FI h2 hd ⟨MG c.sl c.con.args .nil,aF c.con.os 0 .nil,c.con.os.length⟩).st ⟨k1,fun dd v hv=> ?_,k2,hr,hfr⟩) fun f1 a1 w1 l1 o1 r=> ?_
  ·rcases EX hv with ⟨i,i1,i2⟩ |h
   ·obtain ⟨x,x1,x2⟩:=az.get ha i2;rw [k3 i dd x i1 x1];exact x2
   ·rw [T.get_nil] at h; cases h
  ·refine r2 s.nx f1 a1 w1 Q0 (Nat.le_refl _) r fun v a' w' ⟨f',y1,y2,y3,y4⟩ y5 y6 y7=>hQ v a' w' ⟨f',Ren.le_trans l1 y1,o1.trans y2 q.1 r1,y3,y4⟩ y5 y6 y7
 ·cases hs
where
 loops_in: ∀ {cd b x:Code},b∈cS cd->x∈cS b->x∈cS cd:=by
  intro cd
  induction cd with
  |seq a b iha ihb=>
   intro b' x h1 h2
   rcases List.mem_append.1 h1 with h |h
   ·exact List.mem_append.2 (.inl (iha h h2))
   ·exact List.mem_append.2 (.inr (ihb h h2))
  |cond c a b iha ihb=>
   intro b' x h1 h2
   rcases List.mem_append.1 h1 with h |h
   ·exact List.mem_append.2 (.inl (iha h h2))
   ·exact List.mem_append.2 (.inr (ihb h h2))
  |block id c ih=>intro b' x h1 h2; exact ih h1 h2
  |scope c ih=>intro b' x h1 h2; exact ih h1 h2
  |loop c ih=>
   intro b' x h1 h2
   rcases List.mem_cons.1 h1 with rfl |h
   ·exact List.mem_cons_of_mem _ h2
   ·exact List.mem_cons_of_mem _ (ih h h2)
  |_=>intro b' x h1; cases h1
def Con.Leaves(c:Con)(G:Nat->Int->Int->Int->Int)(GH:Nat->bz)(o:Out):Prop:=
 ∀ρ:Env,ρ.std G GH->ρ.ok (bdL c.bds)->c.pre.holds ρ-> ∃e s at' q,o.pick ρ=some (e,s)/\c.ends at' s=some q/\q.hold ρ
theorem ba.f6{P:Program}(mixed:P.follows .mixedOrders=true){G:Nat->Int->Int->Int->Int}{GH:Nat->bz}{K:Know}(hK:K.Ok P G GH){c:ba}(hwf:c.con.wf=true)(hsl:c.sl.length=c.con.args.length){L:Nat}{pol:FuncId->Nat->Bool}{pure:FuncId->Bool}{d:Nat}{facts:Dec}{μ:IE}
 (hf: ∀ρ:Env,ρ.std G GH->ρ.ok (bdL c.con.bds)->c.con.pre.holds ρ->facts.holds ρ) (h:c.con.Leaves G GH (c.tree P K L pol pure d facts μ)):c.Ok P G GH:=by
 intro fn cd b hfn hb hm hk
 have key: ∀m,∀ρ:Env,ρ.std G GH->ρ.ok (bdL c.con.bds)->c.con.pre.holds ρ->(μ.ev ρ).toNat<m->c.con.vb (l0 P b c m) ρ:=by
  intro m
  induction m with
  |zero=>intro ρ _ _ _ h; omega
  |succ m ih=>
   intro ρ h1 h2 h3 hlt;obtain ⟨e,s,at',q,p1,p2,p3⟩:=h ρ h1 h2 h3;exact Con.ig (jj P b c (m+1)) (ba.dJ mixed hK hwf hsl h1 h2 h3 (hf ρ h1 h2 h3) hfn hb hm hk (fun ρ' k1 k2 k3 k4=>ih ρ' k1 k2 k3 (by omega)) p1) p2 p3
 intro ρ h1 h2 h3;exact ⟨_,key _ ρ h1 h2 h3 (Nat.lt_succ_self _)⟩
def CT(q:IE->IE->Bool):Prs->Bool
 | []=>true
 |p::l=>
  match q p.1 p.2 with
  |true=>CT q l
  |false=>false
theorem f7{ρ:Env}{q:IE->IE->Bool}(hq: ∀a b,q a b=true->a.ev ρ=b.ev ρ): ∀ {l:Prs},CT q l=true->l.hold ρ:=by
 intro l
 induction l with
 |nil=>intro _ p hp; cases hp
 |cons x l ih=>
  intro h p hp;simp only [CT] at h;split at h
  ·rename_i hx
   rcases List.mem_cons.1 hp with rfl |hp
   ·exact hq _ _ hx
   ·exact ih h p hp
  ·cases h
def Ep:List ah->Nat->T Nat->T Nat
 | [],_,t=>t
 |o::l,i,t=>Ep l (i+1) (match o.dead with
  |true=>t
  |false=>t.set i i)
def SH(h:T ah):Nat->List ah->Mt->Mt
 |_,[],m=>m
 |i,o::os,m=>
  match m.bl.get i with
  |none=>SH h (i+1) os m
  |some j=>
   match h.get j with
   |some a=>SH h (i+1) os (mAO o a m)
   |none=>SH h (i+1) os m
def Con.ad4(c:Con)(s:ASt):List Nat:=
 match s.tm.get 0 with
 |none=>[]
 |some v=>
  match SH s.hp 0 c.os' (mAV c.res v ⟨.nil,Ep (c.os'.take c.os.length) 0 .nil⟩) with
  |m=>
   match blocks m c.os.length (c.os'.length-c.os.length) with
   |some l=>l
   |none=>[]
def Con.ef(c:Con)(s:ASt):Option Prs:=c.ends (c.ad4 s) s
def Con.leaf(c:Con)(q:Dec->IE->IE->Bool)(dec:Dec)(_:aM)(s:ASt):Bool:=
 match c.ef s with
 |some l=>CT (q dec) l
 |none=>false
def Con.ctx(c:Con)(P:Program):Ctx:=eF P (bdL c.bds)
def Con.tree(c:Con)(P:Program)(K:Know)(L:Nat)(pol:FuncId->Nat->Bool)(pure:FuncId->Bool)(d:Nat)(facts:Dec):Out:=
 pE (c.ctx P) (hH (c.ctx P) K) L pol pure d (facts++c.pre) c.g c.args (aF c.os 0 .nil) c.os.length
def qN(bd:Bd)(obs:List (Dec×IE×IE))(dec:Dec)(a b:IE):Bool:=
 match a.eqN bd dec b with
 |true=>true
 |false=>obs.any fun o=>a.eq o.2.1&&(b.eq o.2.2&&o.1.all fun p=>match settle dec p.1 with
  |some v=>bEq v p.2
  |none=>false)
def fC(ρ:Env)(obs:List (Dec×IE×IE)):Prop:= ∀o∈obs,Dec.holds ρ o.1->o.2.1.ev ρ=o.2.2.ev ρ
theorem Sl{ρ:Env}{bd:Bd}(hρ:ρ.ok bd){dec:Dec}(hd:dec.holds ρ){obs:List (Dec×IE×IE)}(ho:fC ρ obs){a b:IE}(h:qN bd obs dec a b=true):a.ev ρ=b.ev ρ:=by
 unfold qN at h;split at h
 ·rename_i h1;exact IE.cf hρ hd h1
 ·obtain ⟨o,h1,h2⟩:=List.any_eq_true.1 h;obtain ⟨h3,h4⟩:=aa h2;obtain ⟨h4,h5⟩:=aa h4;rw [IE.eq_eq h3,IE.eq_eq h4];refine ho o h1 fun p hp=> ?_
  have:=List.all_eq_true.1 h5 p hp;split at this
  ·rename_i v hv;rw [aq hd _ _ hv,dt this]
  ·cases this
def qP(bd:Bd)(k:Nat)(dec:Dec)(a b:IE):Bool:=
 match a.eqN bd dec b with
 |true=>true
 |false=>
  match prove bd k dec (mkEq bd a b) with
  |some v=>v
  |none=>false
theorem uR{ρ:Env}{bd:Bd}(hρ:ρ.ok bd){k:Nat}{dec:Dec}(hd:dec.holds ρ){a b:IE}(h:qP bd k dec a b=true):a.ev ρ=b.ev ρ:=by
 unfold qP at h;split at h
 ·rename_i h1;exact IE.cf hρ hd h1
 ·split at h
  ·rename_i v hv;subst h;have:=cU hρ k dec _ _ hd hv;rw [dU hρ] at this;exact of_decide_eq_true this
  ·cases h
theorem bJ{ρ:Env}{a b:Dec}(h:a.holds ρ)(k:b.holds ρ):Dec.holds ρ (a++b):=by
 intro p hp
 rcases List.mem_append.1 hp with h1 |h1
 ·exact h p h1
 ·exact k p h1
section
variable{P:Program}{G:Nat->Int->Int->Int->Int}{GH:Nat->bz}{c:Con}{K:Know}
theorem Con.dJ(mixed:P.follows .mixedOrders=true)(hK:K.Ok P G GH){L:Nat}{pol:FuncId->Nat->Bool}{pure:FuncId->Bool}{d:Nat}{facts:Dec}{ρ:Env}(h1:ρ.std G GH)(h2:ρ.ok (bdL c.bds))(h3:c.pre.holds ρ)(hf:facts.holds ρ){e:aM}{s:ASt}
 (hs:(c.tree P K L pol pure d facts).pick ρ=some (e,s)): ∀B W,dA P ρ B W c.g c.args (aF c.os 0 .nil) c.os.length s:=by
 intro B W;have hC:(c.ctx P).Ok P ρ:=xg mixed h2;exact DI hC (Ao hC h1 hK) L pol pure d B W _ (bJ hf h3) _ _ _ _ _ _ hs
theorem Con.f6(mixed:P.follows .mixedOrders=true)(hK:K.Ok P G GH){L:Nat}{pol:FuncId->Nat->Bool}{pure:FuncId->Bool}{d:Nat}{facts:Dec}(hf: ∀ρ:Env,ρ.std G GH->ρ.ok (bdL c.bds)->c.pre.holds ρ->facts.holds ρ)(h:c.Leaves G GH (c.tree P K L pol pure d facts)):c.Ok P G GH:=by
 refine Con.Bn fun ρ h1 h2 h3=> ?_
 obtain ⟨e,s,at',q,p1,p2,p3⟩:=h ρ h1 h2 h3;exact ⟨s,at',q,Con.dJ mixed hK h1 h2 h3 (hf ρ h1 h2 h3) p1,p2,p3⟩
theorem Con.leaves(facts:Dec)(hf: ∀ρ:Env,ρ.std G GH->ρ.ok (bdL c.bds)->c.pre.holds ρ->facts.holds ρ)(obs:List (Dec×IE×IE))(ho: ∀ρ:Env,ρ.std G GH->ρ.ok (bdL c.bds)->c.pre.holds ρ->fC ρ obs){o:Out}(h:o.all (c.leaf (qN (bdL c.bds) obs)) (facts++c.pre)=true):c.Leaves G GH o:=by
 intro ρ h1 h2 h3;obtain ⟨e,s,dec',hd',p1,p2⟩:=Out.bP (bJ (hf ρ h1 h2 h3) h3) h;unfold Con.leaf at p2;split at p2
 ·rename_i q hq;exact ⟨e,s,_,q,p1,hq,f7 (fun a b hab=>Sl h2 hd' (ho ρ h1 h2 h3) hab) p2⟩
 ·cases p2
theorem Con.vh(mixed:P.follows .mixedOrders=true)(hK:K.Ok P G GH)(L:Nat)(pol:FuncId->Nat->Bool)(pure:FuncId->Bool)(d:Nat)(facts:Dec)(hf: ∀ρ:Env,ρ.std G GH->ρ.ok (bdL c.bds)->c.pre.holds ρ->facts.holds ρ)
 (obs:List (Dec×IE×IE)) (ho: ∀ρ:Env,ρ.std G GH->ρ.ok (bdL c.bds)->c.pre.holds ρ->fC ρ obs) (h:(c.tree P K L pol pure d facts).all (c.leaf (qN (bdL c.bds) obs)) (facts++c.pre)=true):c.Ok P G GH:=
 Con.f6 mixed hK hf (Con.leaves facts hf obs ho h)
def Con.runs(c:Con)(P:Program)(l:List Con)(L d:Nat):Bool:=
 match yi ((c.ctx P).with c.pre) (xp ((c.ctx P).with c.pre)) ⟨nV ((c.ctx P).with c.pre) l,fun _ _ _ _=>none⟩ L d c.g c.args (aF c.os 0 .nil) c.os.length with
 |some (v,h,nx)=>c.leaf (qN (bdL c.bds) []) c.pre .ret ⟨T.nil.set 0 v,h,nx⟩
 |none=>false
theorem Con.tz(mixed:P.follows .mixedOrders=true){l:List Con}(hl:bO P G GH l)(L d:Nat)(h:c.runs P l L d=true):c.Ok P G GH:=by
 refine Con.Bn fun ρ h1 h2 h3=> ?_
 unfold Con.runs at h;split at h
 ·rename_i v hp nx hr;have hC:((c.ctx P).with c.pre).Ok P ρ:=(xg mixed h2:(c.ctx P).Ok P ρ).with h3
  unfold Con.leaf at h;split at h
  ·rename_i q hq;refine ⟨_,_,q,fun B W=> ?_,hq,f7 (fun a b hab=>Sl h2 h3 (fun o ho=>by cases ho) hab) h⟩
   have hsm:SumsOk P ρ B W ⟨nV ((c.ctx P).with c.pre) l,fun _ _ _ _=>none⟩:=⟨wg hC h1 hl,fun _ _ _ _ _ _ _ _=>qo.none⟩
   obtain ⟨q1,q2⟩:=LR hC (Es hC) hsm L d _ _ _ _ _ _ _ hr;refine ⟨q1,fun f w args' hr ha hf=>(q2 f w args' hr ha hf).mono fun e w' ⟨v',f',a1,a2,a3,a4,a5⟩=>⟨v',f',a1,a2,a3,a4,fun u hu=> ?_⟩⟩
   have hu:(T.nil.set 0 v).get 0=some u:=hu
   rcases T.aB hu with ⟨_,rfl⟩ | ⟨h0,_⟩
   ·exact a5
   ·exact absurd rfl h0
  ·cases h
 ·cases h
end
def IE.only(V:Nat->Bool)(K:Nat):IE->Bool
 | .lit _=>true
 | .var i=>V i
 | .add a b=>a.only V K&&b.only V K
 | .sub a b=>a.only V K&&b.only V K
 | .mul a b=>a.only V K&&b.only V K
 | .wrap _ a=>a.only V K
 | .bits _ _ a b=>a.only V K&&b.only V K
 | .quo a b=>a.only V K&&b.only V K
 | .rem a b=>a.only V K&&b.only V K
 | .shl _ a b=>a.only V K&&b.only V K
 | .shr _ a b=>a.only V K&&b.only V K
 | .fn c x y z=>Nat.blt c K&&(x.only V K&&(y.only V K&&z.only V K))
 | .sel _ a b x y=>a.only V K&&(b.only V K&&(x.only V K&&y.only V K))
def BE.only(V:Nat->Bool)(K:Nat):BE->Bool
 | .lit _=>true
 | .var _=>false
 | .eq a b=>a.only V K&&b.only V K
 | .lt a b=>a.only V K&&b.only V K
 | .not a=>a.only V K
section
variable{ρ ρ':Env}{V:Nat->Bool}{K:Nat}(hi: ∀i,V i=true->ρ.i i=ρ'.i i)(hg: ∀c,c<K->ρ.g c=ρ'.g c)
include hi hg
theorem IE.j3(e:IE):e.only V K=true->e.ev ρ=e.ev ρ':=by
 induction e with
 |lit n=>intro _; rfl
 |var i=>intro h; exact hi i h
 |add a b iha ihb=>intro h; obtain ⟨h1,h2⟩:=aa h; simp only [IE.ev,iha h1,ihb h2]
 |sub a b iha ihb=>intro h; obtain ⟨h1,h2⟩:=aa h; simp only [IE.ev,iha h1,ihb h2]
 |mul a b iha ihb=>intro h; obtain ⟨h1,h2⟩:=aa h; simp only [IE.ev,iha h1,ihb h2]
 |wrap k a iha=>intro h; simp only [IE.ev,iha h]
 |bits op k a b iha ihb=>intro h; obtain ⟨h1,h2⟩:=aa h; simp only [IE.ev,iha h1,ihb h2]
 |quo a b iha ihb=>intro h; obtain ⟨h1,h2⟩:=aa h; simp only [IE.ev,iha h1,ihb h2]
 |rem a b iha ihb=>intro h; obtain ⟨h1,h2⟩:=aa h; simp only [IE.ev,iha h1,ihb h2]
 |shl k a b iha ihb=>intro h; obtain ⟨h1,h2⟩:=aa h; simp only [IE.ev,iha h1,ihb h2]
 |shr k a b iha ihb=>intro h; obtain ⟨h1,h2⟩:=aa h; simp only [IE.ev,iha h1,ihb h2]
 |fn c x y z ihx ihy ihz=>
  intro h;obtain ⟨h0,h⟩:=aa h;obtain ⟨h1,h⟩:=aa h;obtain ⟨h2,h3⟩:=aa h;have h0:c<K:=by simpa [Nat.blt_eq] using h0
  simp only [IE.ev,ihx h1,ihy h2,ihz h3,fnI,hg c h0]
 |sel s a b x y iha ihb ihx ihy=>
  intro h;obtain ⟨h0,h⟩:=aa h;obtain ⟨h1,h⟩:=aa h;obtain ⟨h2,h3⟩:=aa h;simp only [IE.ev,iha h0,ihb h1,ihx h2,ihy h3]
theorem BE.j3(e:BE):e.only V K=true->e.ev ρ=e.ev ρ':=by
 induction e with
 |lit b=>intro _; rfl
 |var i=>intro h; cases h
 |eq a b=>intro h; obtain ⟨h1,h2⟩:=aa h; simp only [BE.ev,IE.j3 hi hg a h1,IE.j3 hi hg b h2]
 |lt a b=>intro h; obtain ⟨h1,h2⟩:=aa h; simp only [BE.ev,IE.j3 hi hg a h1,IE.j3 hi hg b h2]
 |not a ih=>intro h; simp only [BE.ev,ih h]
end
inductive RT where
 |bad
 |again (x:IE)
 |done (l:List IE)
 |split (b:BE) (y n:RT)
inductive RV where
 |bad
 |again (x:Int)
 |done (l:List Int)
def RT.pick(ρ:Env):RT->RV
 | .bad=> .bad
 | .again x=> .again (x.ev ρ)
 | .done l=> .done (l.map (·.ev ρ))
 | .split b y n=>aS (b.ev ρ) (y.pick ρ) (n.pick ρ)
def RT.only(V:Nat->Bool)(K:Nat):RT->Bool
 | .bad=>true
 | .again x=>x.only V K
 | .done l=>l.all (IE.only V K)
 | .split b y n=>b.only V K&&(y.only V K&&n.only V K)
theorem RT.AK{ρ ρ':Env}{V:Nat->Bool}{K:Nat}(hi: ∀i,V i=true->ρ.i i=ρ'.i i)(hg: ∀c,c<K->ρ.g c=ρ'.g c)(t:RT):t.only V K=true->t.pick ρ=t.pick ρ':=by
 induction t with
 |bad=>intro _; rfl
 |again x=>intro h; simp only [RT.pick,IE.j3 hi hg x h]
 |done l=>
  intro h;simp only [RT.only,List.all_eq_true] at h;simp only [RT.pick]
  congr 1
  exact List.map_congr_left fun e he=>IE.j3 hi hg e (h e he)
 |split b y n ihy ihn=>
  intro h;obtain ⟨h1,h2⟩:=aa h;obtain ⟨h2,h3⟩:=aa h2;simp only [RT.pick,BE.j3 hi hg b h1,ihy h2,ihn h3]
def zz:Int->Nat
 | .ofNat n=>2*n
 | .negSucc n=>2*n+1
def cG(a b:Int):Int:=(2^zz a*(2*zz b+1):Nat)
theorem O7{a b:Int}(h:zz a=zz b):a=b:=by
 cases a<;>cases b<;>simp only [zz] at h<;>first | (congr 1; omega) |omega
theorem Uk: ∀(a c x y:Nat),2^a*(2*x+1)=2^c*(2*y+1)->a=c/\x=y:=by
 intro a
 induction a with
 |zero=>
  intro c x y h;cases c with
  |zero=>simp at h; exact ⟨rfl,by omega⟩
  |succ c=>rw [Nat.pow_succ] at h; have:2^c*2*(2*y+1)=2*(2^c*(2*y+1)):=by rw [Nat.mul_comm (2^c) 2,Nat.mul_assoc]
           omega
 |succ a ih=>
  intro c x y h;have e1:2^(a+1)*(2*x+1)=2*(2^a*(2*x+1)):=by rw [Nat.pow_succ,Nat.mul_comm (2^a) 2,Nat.mul_assoc]
  cases c with
  |zero=>omega
  |succ c=>
   have e2:2^(c+1)*(2*y+1)=2*(2^c*(2*y+1)):=by rw [Nat.pow_succ,Nat.mul_comm (2^c) 2,Nat.mul_assoc]
   obtain ⟨h1,h2⟩:=ih c x y (by omega)
   exact ⟨by omega,h2⟩
theorem L4{a b c d:Int}(h:cG a b=cG c d):a=c/\b=d:=by
 obtain ⟨h1,h2⟩:=Uk _ _ _ _ (Int.ofNat.inj h);exact ⟨O7 h1,O7 h2⟩
open Classical in
def unpI(x:Int):Int×Int:=if h: ∃p:Int×Int,cG p.1 p.2=x then Classical.choose h else (0,0)
theorem dK(a b:Int):unpI (cG a b)=(a,b):=by
 have h: ∃p:Int×Int,cG p.1 p.2=cG a b:=⟨(a,b),rfl⟩;unfold unpI;rw [dif_pos h];obtain ⟨h1,h2⟩:=L4 (Classical.choose_spec h);exact Prod.ext h1 h2
def L5(x:Int):Nat->Int
 |0=>(unpI x).1
 |n+1=>L5 (unpI x).2 n
def mI:List Int->Int
 | []=>0
 |a::l=>cG a (mI l)
theorem LZ: ∀(l:List Int) (j:Nat) (a:Int),l[j]? =some a->L5 (mI l) j=a:=by
 intro l
 induction l with
 |nil=>intro j a h; simp at h
 |cons x l ih=>
  intro j a h;cases j with
  |zero=>simp at h; subst h; unfold L5 mI; rw [dK]
  |succ j=>unfold L5 mI; rw [dK]; exact ih j a (by simpa using h)
def KP:Nat:=9
def CN:List Nat->IE
 | []=> .lit 0
 |v::l=> .fn KP (.var v) (CN l) (.lit 0)
def gg(G:Nat->Int->Int->Int->Int):Prop:= ∀x y z,G KP x y z=cG x y
theorem jl{ρ:Env}(hG:gg ρ.g): ∀l:List Nat,(CN l).ev ρ=mI (l.map ρ.i):=by
 intro l
 induction l with
 |nil=>rfl
 |cons v l ih=>
  show fnI ρ KP (ρ.i v) ((CN l).ev ρ) 0=_;rw [ih];have:fnI ρ KP (ρ.i v) (mI (l.map ρ.i)) 0=ρ.g KP (ρ.i v) (mI (l.map ρ.i)) 0:=rfl;rw [this,hG];rfl
structure Fns where
 KR:Nat
 KV:Nat
 vars:List Nat
def Fns.x(F:Fns):IE:=CN F.vars
def Fns.is(F:Fns)(G:Nat->Int->Int->Int->Int)(X:Int)(l:List Int):Prop:=G F.KR X 0 0=(rowOf l:Nat)/\ ∀z:Int,G F.KV X 0 z=l.getD z.toNat 0
def Fns.alike(F:Fns)(G:Nat->Int->Int->Int->Int)(X Y:Int):Prop:=G F.KR X 0 0=G F.KR Y 0 0/\ ∀z:Int,G F.KV X 0 z=G F.KV Y 0 z
def Fns.Def(F:Fns)(G:Nat->Int->Int->Int->Int)(t:RT):Prop:=
 ∀ρ:Env,ρ.g=G->match t.pick ρ with
  | .bad=>True
  | .again X=>F.alike G (F.x.ev ρ) X
  | .done l=>F.is G (F.x.ev ρ) l
def P4(F:Fns):IE->IE->Option IE
 | .wrap k (.fn c0 (.fn c1 x y (.lit z)) (.lit (.ofNat i)) _),e=>
   match e with
   | .wrap k' (.fn d0 (.fn d1 x' y' (.lit z')) (.lit (.ofNat i')) _)=>
     match Nat.beq c0 0&&(Nat.beq d0 0&&(Nat.beq c1 F.KR&&(Nat.beq d1 F.KR&&(bf k k'&&(x.eq F.x&&(y.eq (.lit 0)&&(y'.eq (.lit 0)&&(aK z 0&&(aK z' 0&&Nat.beq i i'))))))))) with
     |true=>some x'
     |false=>none
   |_=>none
 | .fn c x y (.lit (.ofNat i)),e=>
   match e with
   | .fn d x' y' (.lit (.ofNat i'))=>
     match Nat.beq c F.KV&&(Nat.beq d F.KV&&(x.eq F.x&&(y.eq (.lit 0)&&(y'.eq (.lit 0)&&Nat.beq i i')))) with
     |true=>some x'
     |false=>none
   |_=>none
 | .sel false (.fn c x y (.lit (.ofNat i))) (.lit a) (.lit b) (.lit d),e=>
   match e with
   | .sel false (.fn c' x' y' (.lit (.ofNat i'))) (.lit a') (.lit b') (.lit d')=>
     match Nat.beq c F.KV&&(Nat.beq c' F.KV&&(x.eq F.x&&(y.eq (.lit 0)&&(y'.eq (.lit 0)&&(Nat.beq i i'&&(aK a a'&&(aK b b'&&aK d d'))))))) with
     |true=>some x'
     |false=>none
   |_=>none
 |_,_=>none
theorem bY{ρ:Env}{c:Nat}(h:7<c)(x y z:Int):fnI ρ c x y z=ρ.g c x y z:=by
 unfold fnI fnL
 match c,h with
 |n+8,_=>rfl
theorem CC{F:Fns}(hk:7<F.KR/\7<F.KV){ρ:Env}{p e X:IE}(h:P4 F p e=some X)(ha:F.alike ρ.g (F.x.ev ρ) (X.ev ρ)):p.ev ρ=e.ev ρ:=by
 obtain ⟨a1,a2⟩:=ha;unfold P4 at h;split at h
 ·rename_i k c0 c1 x y z i q0;split at h
  ·rename_i k' d0 d1 x' y' z' i' q1;split at h
   ·rename_i hck;cases h;obtain ⟨k1,hck⟩:=aa hck;obtain ⟨k2,hck⟩:=aa hck;obtain ⟨k3,hck⟩:=aa hck;obtain ⟨k4,hck⟩:=aa hck;obtain ⟨k5,hck⟩:=aa hck;obtain ⟨k6,hck⟩:=aa hck;obtain ⟨k7,hck⟩:=aa hck;obtain ⟨k8,hck⟩:=aa hck;obtain ⟨k9,hck⟩:=aa hck;obtain ⟨k10,k11⟩:=aa hck;have k1:=Nat.eq_of_beq_eq_true k1; have k2:=Nat.eq_of_beq_eq_true k2; have k3:=Nat.eq_of_beq_eq_true k3; have k4:=Nat.eq_of_beq_eq_true k4;have k5:=aH k5; have k6:=IE.eq_eq k6; have k7:=IE.eq_eq k7; have k8:=IE.eq_eq k8; have k9:=ar k9; have k10:=ar k10; have k11:=Nat.eq_of_beq_eq_true k11;subst k1; subst k2; subst k3; subst k4; subst k5; subst k6; subst k7; subst k8; subst k9; subst k10; subst k11;show k.wrap (ag (fnI ρ F.KR (F.x.ev ρ) 0 0) _)=k.wrap (ag (fnI ρ F.KR (X.ev ρ) 0 0) _);rw [bY hk.1,bY hk.1,a1]
   ·cases h
  ·cases h
 ·split at h
  ·split at h
   ·rename_i hck;cases h;obtain ⟨k1,hck⟩:=aa hck;obtain ⟨k2,hck⟩:=aa hck;obtain ⟨k3,hck⟩:=aa hck;obtain ⟨k4,hck⟩:=aa hck;obtain ⟨k5,k6⟩:=aa hck;have k1:=Nat.eq_of_beq_eq_true k1; have k2:=Nat.eq_of_beq_eq_true k2; have k3:=IE.eq_eq k3; have k4:=IE.eq_eq k4; have k5:=IE.eq_eq k5; have k6:=Nat.eq_of_beq_eq_true k6;subst k1; subst k2; subst k3; subst k4; subst k5; subst k6;show fnI ρ F.KV (F.x.ev ρ) 0 _=fnI ρ F.KV (X.ev ρ) 0 _;rw [bY hk.2,bY hk.2,a2]
   ·cases h
  ·cases h
 ·split at h
  ·split at h
   ·rename_i hck;cases h;obtain ⟨k1,hck⟩:=aa hck;obtain ⟨k2,hck⟩:=aa hck;obtain ⟨k3,hck⟩:=aa hck;obtain ⟨k4,hck⟩:=aa hck;obtain ⟨k5,hck⟩:=aa hck;obtain ⟨k6,hck⟩:=aa hck;obtain ⟨k7,hck⟩:=aa hck;obtain ⟨k8,k9⟩:=aa hck;have k1:=Nat.eq_of_beq_eq_true k1; have k2:=Nat.eq_of_beq_eq_true k2; have k3:=IE.eq_eq k3; have k4:=IE.eq_eq k4; have k5:=IE.eq_eq k5; have k6:=Nat.eq_of_beq_eq_true k6;have k7:=ar k7; have k8:=ar k8; have k9:=ar k9;subst k1; subst k2; subst k3; subst k4; subst k5; subst k6; subst k7; subst k8; subst k9;show aA false (fnI ρ F.KV (F.x.ev ρ) 0 _) _ _ _=aA false (fnI ρ F.KV (X.ev ρ) 0 _) _ _ _;rw [bY hk.2,bY hk.2,a2]
   ·cases h
  ·cases h
 ·cases h
def Hw:IE->Option (IE×Nat×IE)
 | .fn c d (.lit (.ofNat n)) q=>
   match Nat.beq c 5 with
   |true=>some (d,n,q)
   |false=>none
 |_=>none
theorem B8{e d q:IE}{n:Nat}(h:Hw e=some (d,n,q)):e= .fn 5 d (.lit (.ofNat n)) q:=by
 unfold Hw at h;split at h
 ·split at h
  ·rename_i hc;cases h;rw [Nat.eq_of_beq_eq_true hc]
  ·cases h
 ·cases h
def mY(bd:Bd)(v n:Nat):IE->Bool
 | .var w=>Nat.beq w v
 | .fn c d j _=>
   match Nat.beq c 1,rng bd j with
   |true,some (l,_)=>
    match aL (.ofNat n) l with
    |true=>mY bd v n d
    |false=>false
   |_,_=>false
 |_=>false
theorem uo{ρ:Env}{bd:Bd}(hρ:ρ.ok bd){v n:Nat}: ∀ {e:IE},mY bd v n e=true->aY (ρ.i v) 0 n=aY (e.ev ρ) 0 n:=by
 intro e
 induction e with
 |var w=>intro h; rw [Nat.eq_of_beq_eq_true h]; rfl
 |fn c d j x ih _ _=>
  intro h;unfold mY at h;split at h
  ·rename_i l hi hc hr;split at h
   ·rename_i hl;have hc:=Nat.eq_of_beq_eq_true hc;subst hc;rw [ay] at hl;have hl:=of_decide_eq_true hl;obtain ⟨r1,r2⟩:=bD hρ j _ _ hr;have hl:(n:Int)<=l:=hl;obtain ⟨m,hm⟩:=Int.eq_ofNat_of_zero_le (show 0<=j.ev ρ by omega)
    rw [ih h];show _=aY (aD (d.ev ρ) (j.ev ρ) (x.ev ρ)) 0 n;rw [hm,HZ _ _ _ _ (by omega)]
   ·cases h
  ·cases h
 |_=>intro h; cases h
def Ow(F:Fns):IE->IE->Option IE
 | .rem a (.lit m),e=>match e with
   | .rem b (.lit m')=>match aK m m' with
     |true=>P4 F a b
     |false=>none
   |_=>none
 |p,e=>P4 F p e
theorem PN{F:Fns}(hk:7<F.KR/\7<F.KV){ρ:Env}{p e X:IE}(h:Ow F p e=some X)(ha:F.alike ρ.g (F.x.ev ρ) (X.ev ρ)):p.ev ρ=e.ev ρ:=by
 unfold Ow at h;split at h
 ·split at h
  ·split at h
   ·rename_i hm;have hm:=ar hm;subst hm;show Int.tmod _ _=Int.tmod _ _;rw [CC hk h ha]
   ·cases h
  ·cases h
 ·exact CC hk h ha
def Lr(F:Fns)(p e:IE):Option IE:=
 match Hw p,Hw e with
 |some (_,_,q),some (_,_,q')=>P4 F q q'
 |_,_=>Ow F p e
def QG(bd:Bd)(p e:IE):Bool:=
 match Hw p,Hw e with
 |some (d,n,_),some (d',n',_)=>
  match d with
  | .var v=>Nat.beq n n'&&mY bd v n d'
  |_=>false
 |_,_=>true
theorem Rt{F:Fns}(hk:7<F.KR/\7<F.KV){ρ:Env}{bd:Bd}(hρ:ρ.ok bd){p e X:IE}(h:Lr F p e=some X)(h5:QG bd p e=true)(ha:F.alike ρ.g (F.x.ev ρ) (X.ev ρ)):p.ev ρ=e.ev ρ:=by
 unfold Lr at h;unfold QG at h5;split at h
 ·rename_i d n q d' n' q' hp he;rw [hp,he] at h5;simp only at h5;split at h5
  ·rename_i v;obtain ⟨k1,k2⟩:=aa h5;have k1:=Nat.eq_of_beq_eq_true k1;subst k1;rw [B8 hp,B8 he];show jL (ρ.i v) (n:Nat) (q.ev ρ)=jL (d'.ev ρ) (n:Nat) (q'.ev ρ);rw [CC hk h ha,Cn (uo hρ k2)]
  ·cases h5
 ·exact PN hk h ha
def zY(bd:Bd)(F:Fns)(X:IE):Prs->Bool
 | []=>true
 |p::l=>
  match p.1.eq p.2 with
  |true=>zY bd F X l
  |false=>
   match Lr F p.1 p.2 with
   |some Y=>
    match Y.eq X&&QG bd p.1 p.2 with
    |true=>zY bd F X l
    |false=>false
   |none=>false
theorem wO{F:Fns}(hk:7<F.KR/\7<F.KV){ρ:Env}{bd:Bd}(hρ:ρ.ok bd){X:IE}(ha:F.alike ρ.g (F.x.ev ρ) (X.ev ρ)): ∀ {l:Prs},zY bd F X l=true->l.hold ρ:=by
 intro l
 induction l with
 |nil=>intro _ p hp; cases hp
 |cons x l ih=>
  intro h p hp;unfold zY at h;split at h
  ·rename_i hx
   rcases List.mem_cons.1 hp with rfl |hp
   ·rw [IE.eq_eq hx]
   ·exact ih h p hp
  ·split at h
   ·rename_i Y hY;split at h
    ·rename_i he;obtain ⟨he,h5⟩:=aa he;rw [IE.eq_eq he] at hY
     rcases List.mem_cons.1 hp with rfl |hp
     ·exact Rt hk hρ hY h5 ha
     ·exact ih h p hp
    ·cases h
   ·cases h
def JW(m:Int):Option (Int×Int)->Bool
 |some (l,h)=>aL 0 l&&cC h m
 |none=>false
def nP(bd:Bd)(F:Fns)(j:Nat)(p e:IE):Bool:=
 match p with
 | .wrap k (.fn c0 (.fn c1 x y (.lit z)) (.lit (.ofNat i)) _)=>Nat.beq c0 0&&(Nat.beq c1 F.KR&&(x.eq F.x&&(y.eq (.lit 0)&&(aK z 0&&(Nat.beq i j&&fits k (rng bd e))))))
 | .fn c x y (.lit (.ofNat i))=>Nat.beq c F.KV&&(x.eq F.x&&(y.eq (.lit 0)&&Nat.beq i j))
 | .sel false (.fn c x y (.lit (.ofNat i))) (.lit a) (.lit b) (.lit d)=>Nat.beq c F.KV&&(x.eq F.x&&(y.eq (.lit 0)&&(Nat.beq i j&&(aK a 1&&(aK b 1&&(aK d 0&&in01 (rng bd e)))))))
 | .rem (.wrap k (.fn c0 (.fn c1 x y (.lit z)) (.lit (.ofNat i)) _)) (.lit m)=>Nat.beq c0 0&&(Nat.beq c1 F.KR&&(x.eq F.x&&(y.eq (.lit 0)&&(aK z 0&&(Nat.beq i j&&(fits k (rng bd e)&&JW m (rng bd e)))))))
 |_=>false
where in01:Option (Int×Int)->Bool
 |some (l,h)=>aL 0 l&&aL h 1
 |none=>false
def yx(bd:Bd)(F:Fns)(j:Nat)(p e:IE):Bool:=
 match Hw p with
 |some (d,n,q)=>
  match d with
  | .var v=>nP bd F j q e&&mY bd v n e
  |_=>false
 |none=>nP bd F j p e
def kN(bd:Bd)(F:Fns):Nat->Prs->Bool
 |_,[]=>true
 |j,p::l=>
  match p.1.eq p.2 with
  |true=>kN bd F (j+1) l
  |false=>yx bd F j p.1 p.2&&kN bd F (j+1) l
theorem pU{ρ:Env}{bd:Bd}(hρ:ρ.ok bd){F:Fns}(hk:7<F.KR/\7<F.KV){t:List Int}(hF:F.is ρ.g (F.x.ev ρ) t){j:Nat}{p e:IE}(ht:t[j]? =some (e.ev ρ))(h:nP bd F j p e=true):p.ev ρ=e.ev ρ:=by
 obtain ⟨hR,hV⟩:=hF;unfold nP at h;split at h
 ·rename_i k c0 c1 x y z i q;obtain ⟨k1,h⟩:=aa h;obtain ⟨k2,h⟩:=aa h;obtain ⟨k3,h⟩:=aa h;obtain ⟨k4,h⟩:=aa h;obtain ⟨k5,h⟩:=aa h;obtain ⟨k6,k7⟩:=aa h;have k1:=Nat.eq_of_beq_eq_true k1; have k2:=Nat.eq_of_beq_eq_true k2; have k3:=IE.eq_eq k3; have k4:=IE.eq_eq k4; have k5:=ar k5; have k6:=Nat.eq_of_beq_eq_true k6;subst k1; subst k2; subst k3; subst k4; subst k5; subst k6;have hf:=ep hρ k7;show k.wrap (ag (fnI ρ F.KR (F.x.ev ρ) 0 0) (i:Nat))=e.ev ρ;rw [bY hk.1,hR,cP t i _ ht (ez hf.1 hf.2)];exact bI k _ hf.1 hf.2
 ·rename_i c x y i;obtain ⟨k1,h⟩:=aa h;obtain ⟨k2,h⟩:=aa h;obtain ⟨k3,k4⟩:=aa h;have k1:=Nat.eq_of_beq_eq_true k1; have k2:=IE.eq_eq k2; have k3:=IE.eq_eq k3; have k4:=Nat.eq_of_beq_eq_true k4;subst k1; subst k2; subst k3; subst k4;show fnI ρ F.KV (F.x.ev ρ) 0 (i:Nat)=e.ev ρ;rw [bY hk.2,hV];simp [List.getD_eq_getElem?_getD,ht]
 ·rename_i c x y i a b d;obtain ⟨k1,h⟩:=aa h;obtain ⟨k2,h⟩:=aa h;obtain ⟨k3,h⟩:=aa h;obtain ⟨k4,h⟩:=aa h;obtain ⟨k5,h⟩:=aa h;obtain ⟨k6,h⟩:=aa h;obtain ⟨k7,k8⟩:=aa h;have k1:=Nat.eq_of_beq_eq_true k1; have k2:=IE.eq_eq k2; have k3:=IE.eq_eq k3; have k4:=Nat.eq_of_beq_eq_true k4; have k5:=ar k5; have k6:=ar k6; have k7:=ar k7;subst k1; subst k2; subst k3; subst k4; subst k5; subst k6; subst k7;show aA false (fnI ρ F.KV (F.x.ev ρ) 0 (i:Nat)) 1 1 0=e.ev ρ
  have e1:fnI ρ F.KV (F.x.ev ρ) 0 (i:Nat)=e.ev ρ:=by
   rw [bY hk.2,hV];simp [List.getD_eq_getElem?_getD,ht]
  rw [e1];unfold nP.in01 at k8;split at k8
  ·rename_i l h hr;obtain ⟨r1,r2⟩:=bD hρ e _ _ hr;obtain ⟨b1,b2⟩:=aa k8;rw [ay] at b1 b2;have b1:=of_decide_eq_true b1;have b2:=of_decide_eq_true b2;unfold aA;simp only [Bool.false_eq_true,if_false];split
   ·omega
   ·omega
  ·cases k8
 ·rename_i k c0 c1 x y z i q m;obtain ⟨k1,h⟩:=aa h;obtain ⟨k2,h⟩:=aa h;obtain ⟨k3,h⟩:=aa h;obtain ⟨k4,h⟩:=aa h;obtain ⟨k5,h⟩:=aa h;obtain ⟨k6,h⟩:=aa h;obtain ⟨k7,k8⟩:=aa h;have k1:=Nat.eq_of_beq_eq_true k1; have k2:=Nat.eq_of_beq_eq_true k2; have k3:=IE.eq_eq k3; have k4:=IE.eq_eq k4; have k5:=ar k5; have k6:=Nat.eq_of_beq_eq_true k6;subst k1; subst k2; subst k3; subst k4; subst k5; subst k6;have hf:=ep hρ k7
  have e1:k.wrap (ag (fnI ρ F.KR (F.x.ev ρ) 0 0) (i:Nat))=e.ev ρ:=by
   rw [bY hk.1,hR,cP t i _ ht (ez hf.1 hf.2)];exact bI k _ hf.1 hf.2
  show (k.wrap (ag (fnI ρ F.KR (F.x.ev ρ) 0 0) (i:Nat))).tmod m=e.ev ρ;rw [e1];unfold JW at k8;split at k8
  ·rename_i l h hr;obtain ⟨r1,r2⟩:=bD hρ e _ _ hr;obtain ⟨b1,b2⟩:=aa k8;rw [ay] at b1;rw [bj] at b2;have b1:=of_decide_eq_true b1;have b2:=of_decide_eq_true b2;rw [Int.tmod_eq_emod_of_nonneg (by omega)]
   exact Int.emod_eq_of_lt (by omega) (by omega)
  ·cases k8
 ·cases h
theorem Fm{ρ:Env}{bd:Bd}(hρ:ρ.ok bd){F:Fns}(hk:7<F.KR/\7<F.KV){t:List Int}(hF:F.is ρ.g (F.x.ev ρ) t){j:Nat}{p e:IE}(ht:t[j]? =some (e.ev ρ))(h:yx bd F j p e=true):p.ev ρ=e.ev ρ:=by
 unfold yx at h;split at h
 ·rename_i d n q hp;split at h
  ·rename_i v;obtain ⟨h1,h2⟩:=aa h;rw [B8 hp];show jL (ρ.i v) (n:Nat) (q.ev ρ)=_;rw [pU hρ hk hF ht h1];exact N8 (uo hρ h2)
  ·cases h
 ·exact pU hρ hk hF ht h
theorem jV{ρ:Env}{bd:Bd}(hρ:ρ.ok bd){F:Fns}(hk:7<F.KR/\7<F.KV){t:List Int}(hF:F.is ρ.g (F.x.ev ρ) t):
 ∀ {l:Prs} {j:Nat},(∀ (i:Nat) (p:IE×IE),l[i]? =some p->p.1.eq p.2=false->t[j+i]? =some (p.2.ev ρ))->kN bd F j l=true->l.hold ρ:=by
 intro l
 induction l with
 |nil=>intro j _ _ p hp; cases hp
 |cons x l ih=>
  intro j ht h p hp;have rest:kN bd F (j+1) l=true->p∈l->p.1.ev ρ=p.2.ev ρ:=fun h2 hp=>ih (fun i p hi hne=>by have:=ht (i+1) p (by simpa using hi) hne; rw [show j+1+i=j+(i+1) by omega]; exact this) h2 p hp
  unfold kN at h;split at h
  ·rename_i hx
   rcases List.mem_cons.1 hp with rfl |hp
   ·rw [IE.eq_eq hx]
   ·exact rest h hp
  ·rename_i hx;obtain ⟨h1,h2⟩:=aa h
   rcases List.mem_cons.1 hp with rfl |hp
   ·exact Fm hρ hk hF (by have:=ht 0 p (by simp) hx; simpa using this) h1
   ·exact rest h2 hp
def Hf(p:IE×IE):IE:=
 match p.1.eq p.2 with
 |true=> .lit 0
 |false=>p.2
theorem n5{ρ:Env}{q:Prs}{i:Nat}{p:IE×IE}(h:q[i]? =some p)(hp:p.1.eq p.2=false):((q.map Hf).map (·.ev ρ))[i]? =some (p.2.ev ρ):=by
 simp only [List.getElem?_map,h,Option.map_some];unfold Hf;rw [hp]
def JC(F:Fns):Prs->Option IE
 | []=>none
 |p::l=>
  match p.1.eq p.2 with
  |true=>JC F l
  |false=>Lr F p.1 p.2
def Con.rows(c:Con)(F:Fns):Out->RT
 | .bad _=> .bad
 | .leaf e s=>
   match c.ef s with
   |some q=>
    match e with
    | .normal=>
      match JC F q with
      |some X=> .again X
      |none=> .bad
    |_=> .done (q.map Hf)
   |none=> .bad
 | .split b y n=> .split b (c.rows F y) (c.rows F n)
def Con.ao(c:Con)(F:Fns)(_:Dec)(e:aM)(s:ASt):Bool:=
 match c.ef s with
 |some q=>
  match e with
  | .normal=>
    match JC F q with
    |some X=>zY (bdL c.bds) F X q
    |none=>false
  |_=>kN (bdL c.bds) F 0 q
 |none=>false
theorem Con.zR{c:Con}{F:Fns}{ρ:Env}: ∀ {o:Out} {e:aM} {s:ASt},o.pick ρ=some (e,s)->(c.rows F o).pick ρ=(c.rows F (.leaf e s)).pick ρ:=by
 intro o
 induction o with
 |bad w=>intro e s h; cases h
 |leaf e s=>intro e' s' h; cases h; rfl
 |split b y n ihy ihn=>
  intro e s h;simp only [Out.pick] at h;have:(c.rows F (.split b y n)).pick ρ=aS (b.ev ρ) ((c.rows F y).pick ρ) ((c.rows F n).pick ρ):=rfl;rw [this];cases hb:b.ev ρ
  ·rw [hb] at h; exact ihn h
  ·rw [hb] at h; exact ihy h
section
variable{P:Program}{G:Nat->Int->Int->Int->Int}{GH:Nat->bz}{c:Con}{K:Know}
theorem Con.uc{o:Out}{dec:Dec}{F:Fns}(h:o.all (c.ao F) dec=true)(hk:7<F.KR/\7<F.KV){ρ:Env}(h2:ρ.ok (bdL c.bds))(hd:dec.holds ρ)(hF:F.Def ρ.g (c.rows F o)):
 ∃e s q,o.pick ρ=some (e,s)/\c.ef s=some q/\q.hold ρ:=by
 obtain ⟨e,s,dec',hd',p1,p2⟩:=Out.bP hd h;have hF:=hF ρ rfl;rw [Con.zR p1] at hF;unfold Con.ao at p2;split at p2
 ·rename_i q hq;refine ⟨e,s,q,p1,hq,?_⟩;unfold Con.rows at hF;rw [hq] at hF;cases e with
  |normal=>
   simp only at p2 hF;split at p2
   ·rename_i X hX;rw [hX] at hF;exact wO hk h2 hF p2
   ·cases p2
  |exit i=>exact jV h2 hk hF (fun i p hp hne=>by rw [Nat.zero_add]; exact n5 hp hne) p2
  |ret=>exact jV h2 hk hF (fun i p hp hne=>by rw [Nat.zero_add]; exact n5 hp hne) p2
 ·cases p2
theorem Con.jq(facts:Dec)(hf: ∀ρ:Env,ρ.std G GH->ρ.ok (bdL c.bds)->c.pre.holds ρ->facts.holds ρ){F:Fns}(hk:7<F.KR/\7<F.KV){o:Out}(h:o.all (c.ao F) (facts++c.pre)=true)(hG:F.Def G (c.rows F o)):c.Leaves G GH o:=by
 intro ρ h1 h2 h3;obtain ⟨e,s,q,p1,p2,p3⟩:=Con.uc h hk h2 (bJ (hf ρ h1 h2 h3) h3) (by rw [h1.1]; exact hG)
 exact ⟨e,s,_,q,p1,p2,p3⟩
end
def Js(G:Nat->Int->Int->Int->Int)(vars:List Nat)(X:Int):Env:={i:=fun v=>L5 X (vars.idxOf v),b:=fun _=>false,g:=G}
def jA(G:Nat->Int->Int->Int->Int)(vars:List Nat)(t:RT):Nat->Int->Option (List Int)
 |0,_=>none
 |n+1,X=>
  match t.pick (Js G vars X) with
  | .bad=>none
  | .again Y=>jA G vars t n Y
  | .done l=>some l
theorem wh{G:Nat->Int->Int->Int->Int}{vars:List Nat}{t:RT}: ∀(n m:Nat) (X:Int) (l:List Int),n<=m->jA G vars t n X=some l->jA G vars t m X=some l:=by
 intro n
 induction n with
 |zero=>intro m X l _ h; cases h
 |succ n ih=>
  intro m X l hm h;obtain ⟨m,rfl⟩: ∃k,m=k+1:=⟨m-1,by omega⟩
  unfold jA at h ⊢;cases hp:t.pick (Js G vars X) with
  |bad=>rw [hp] at h; cases h
  |again Y=>rw [hp] at h; exact ih m Y l (by omega) h
  |done l'=>rw [hp] at h; exact h
open Classical in
def loopF(G:Nat->Int->Int->Int->Int)(vars:List Nat)(t:RT)(X:Int):List Int:=if h: ∃(n:Nat) (l:List Int),jA G vars t n X=some l then Classical.choose (Classical.choose_spec h) else []
theorem v8{G:Nat->Int->Int->Int->Int}{vars:List Nat}{t:RT}{X:Int}{n:Nat}{l:List Int}(h:jA G vars t n X=some l):loopF G vars t X=l:=by
 have hx: ∃(n:Nat) (l:List Int),jA G vars t n X=some l:=⟨n,l,h⟩;unfold loopF;rw [dif_pos hx];have h1:=Classical.choose_spec (Classical.choose_spec hx);have h2:=wh _ (max (Classical.choose hx) n) X _ (Nat.le_max_left _ _) h1;have h3:=wh _ (max (Classical.choose hx) n) X _ (Nat.le_max_right _ _) h;rw [h2] at h3;exact Option.some.inj h3
theorem yH{G:Nat->Int->Int->Int->Int}{vars:List Nat}{t:RT}{X:Int}(h: ∀n,jA G vars t n X=none):loopF G vars t X=[]:=by
 unfold loopF;rw [dif_neg]
 rintro ⟨n,l,hl⟩
 rw [h n] at hl;cases hl
theorem QW{G:Nat->Int->Int->Int->Int}{vars:List Nat}{t:RT}{X:Int}:match t.pick (Js G vars X) with
 | .bad=>True
 | .again Y=>loopF G vars t X=loopF G vars t Y
 | .done l=>loopF G vars t X=l:=by
 split
 ·trivial
 ·rename_i Y hp
  have step: ∀n,jA G vars t (n+1) X=jA G vars t n Y:=fun n=>by
   show (match t.pick (Js G vars X) with
    | .bad=>none
    | .again Y=>jA G vars t n Y
    | .done l=>some l)=_
   rw [hp]
  by_cases h: ∃(n:Nat) (l:List Int),jA G vars t n Y=some l
  ·obtain ⟨n,l,hl⟩:=h;rw [v8 hl,v8 ((step n).trans hl)]
  ·have hY: ∀n,jA G vars t n Y=none:=fun n=>by
    cases hn:jA G vars t n Y with
    |none=>rfl
    |some l=>exact absurd ⟨n,l,hn⟩ h
   rw [yH hY,yH fun n=> ?_]
   cases n with
   |zero=>rfl
   |succ n=>rw [step n,hY n]
 ·rename_i l hp;refine v8 (n:=1) ?_
  show (match t.pick (Js G vars X) with
   | .bad=>none
   | .again Y=>jA G vars t 0 Y
   | .done l=>some l)=_
  rw [hp]
def bR(vars:List Nat)(i:Nat):Bool:=vars.any (Nat.beq i)
def withFn(G:Nat->Int->Int->Int->Int)(F:Fns)(f:Int->List Int):Nat->Int->Int->Int->Int:=fun c x y z=>
 if c=F.KR then (rowOf (f x):Nat) else if c=F.KV then (f x).getD z.toNat 0 else G c x y z
theorem Fns.H8(F:Fns)(G:Nat->Int->Int->Int->Int)(hP:gg G)(t:RT)(K:Nat)(hK:KP<K/\K<=F.KR/\K<=F.KV/\F.KR≠F.KV)(ht:t.only (bR F.vars) K=true): ∃G',(∀ c,c≠F.KR->c≠F.KV->G' c=G c)/\F.Def G' t:=by
 obtain ⟨k0,k1,k2,k3⟩:=hK;refine ⟨withFn G F (loopF G F.vars t),fun c h1 h2=> ?_,fun ρ hρ=> ?_⟩
 ·funext x y z
  unfold withFn;rw [if_neg h1,if_neg h2]
 ·have low: ∀c,c<K->(withFn G F (loopF G F.vars t)) c=G c:=fun c hc=>by
   funext x y z
   unfold withFn;rw [if_neg (by omega),if_neg (by omega)]
  have hx:F.x.ev ρ=mI (F.vars.map ρ.i):=jl (by rw [hρ]; intro x y z; rw [low KP k0]; exact hP x y z) F.vars
  have hpick:t.pick ρ=t.pick (Js G F.vars (F.x.ev ρ)):=by
   refine RT.AK (fun i hi=> ?_) (fun c hc=>by rw [hρ]; exact low c hc) t ht
   have hm:i∈F.vars:=by
    obtain ⟨j,h1,h2⟩:=List.any_eq_true.1 hi;rw [Nat.eq_of_beq_eq_true h2];exact h1
   show ρ.i i=L5 (F.x.ev ρ) (F.vars.idxOf i);rw [hx];refine (LZ _ _ _ ?_).symm;have hlt:F.vars.idxOf i<F.vars.length:=List.idxOf_lt_length_iff.2 hm;rw [List.getElem?_map,List.getElem?_eq_getElem hlt];simp
  rw [hpick];have h:=QW (G:=G) (vars:=F.vars) (t:=t) (X:=F.x.ev ρ);cases hp:t.pick (Js G F.vars (F.x.ev ρ)) with
  |bad=>trivial
  |again Y=>
   rw [hp] at h;refine ⟨?_,fun z=> ?_⟩
   ·unfold withFn;rw [if_pos rfl,if_pos rfl,h]
   ·unfold withFn;rw [if_neg (Ne.symm k3),if_neg (Ne.symm k3),if_pos rfl,if_pos rfl,h]
  |done l=>
   rw [hp] at h;refine ⟨?_,fun z=> ?_⟩
   ·unfold withFn;rw [if_pos rfl,h]
   ·unfold withFn;rw [if_neg (Ne.symm k3),if_pos rfl,h]
theorem Fns.Def.mono{F:Fns}{G G':Nat->Int->Int->Int->Int}{t:RT}{K:Nat}(hP:gg G)(h:F.Def G t)(ht:t.only (bR F.vars) K=true)(hK:KP<K)(he: ∀c,c<K->G' c=G c)(h1:G' F.KR=G F.KR)(h2:G' F.KV=G F.KV):F.Def G' t:=by
 intro ρ hρ;have hx: ∀ρ':Env,(∀ c,c<K->ρ'.g c=G c)->F.x.ev ρ'=mI (F.vars.map ρ'.i):=fun ρ' h'=>jl (by intro x y z; rw [h' KP hK]; exact hP x y z) F.vars
 have hp:t.pick ρ=t.pick {ρ with g:=G}:=RT.AK (ρ:=ρ) (ρ':={ρ with g:=G}) (fun i _=>rfl) (fun c hc=>by rw [hρ]; exact he c hc) t ht
 have e1:F.x.ev ρ=F.x.ev {ρ with g:=G}:=by rw [hx ρ (fun c hc=>by rw [hρ]; exact he c hc),hx {ρ with g:=G} (fun c _=>rfl)]
 have:=h {ρ with g:=G} rfl
 rw [hp,e1]
 revert this
 split
 ·exact id
 ·rintro ⟨a1,a2⟩; exact ⟨by rw [h1]; exact a1,fun z=>by rw [h2]; exact a2 z⟩
 ·rintro ⟨a1,a2⟩; exact ⟨by rw [h1]; exact a1,fun z=>by rw [h2]; exact a2 z⟩
def sx(bd:Bd)(dec:Dec):Prs->Prs->Bool
 | [],m=>
   match m with
   | []=>true
   |_=>false
 |p::l,m=>
  match m with
  | []=>false
  |q::m=>
   match p.1.eqF q.1&&qP bd 30 dec p.2 q.2 with
   |true=>sx bd dec l m
   |false=>false
theorem Je{ρ:Env}{bd:Bd}(hρ:ρ.ok bd){dec:Dec}(hd:dec.holds ρ): ∀ {l m:Prs},sx bd dec l m=true->m.hold ρ->l.hold ρ:=by
 intro l
 induction l with
 |nil=>intro m _ _ p hp; cases hp
 |cons a l ih=>
  intro m h hm p hp;cases m with
  |nil=>simp [sx] at h
  |cons b m=>
   simp only [sx] at h;split at h
   ·rename_i hk;obtain ⟨k1,k2⟩:=aa hk
    rcases List.mem_cons.1 hp with rfl |hp
    ·rw [IE.tP k1,uR hρ hd k2];exact hm b (by simp)
    ·exact ih h (fun q hq=>hm q (by simp [hq])) p hp
   ·cases h
def uh(bd:Bd)(ends:ASt->Option Prs)(q:Prs):Out->Dec->Bool
 | .bad _,_=>false
 | .leaf _ s,dec=>
   match ends s with
   |some m=>sx bd dec q m
   |none=>false
 | .split b y n,dec=>
   match prove bd 4 dec b with
   |some true=>uh bd ends q y dec
   |some false=>uh bd ends q n dec
   |none=>
    match uh bd ends q y ((b,true)::dec) with
    |true=>uh bd ends q n ((b,false)::dec)
    |false=>false
theorem nq{bd:Bd}{ρ:Env}(hρ:ρ.ok bd){ends:ASt->Option Prs}{q:Prs}: ∀ {o:Out} {dec:Dec},dec.holds ρ->uh bd ends q o dec=true->(∀ e s m,o.pick ρ=some (e,s)->ends s=some m->m.hold ρ)->q.hold ρ:=by
 intro o
 induction o with
 |bad w=>intro dec _ h; cases h
 |leaf e s=>
  intro dec hd h hm;unfold uh at h;split at h
  ·rename_i m hs;exact Je hρ hd h (hm e s m rfl hs)
  ·cases h
 |split b y n ihy ihn=>
  intro dec hd h hm;have py:b.ev ρ=true-> ∀e s m,y.pick ρ=some (e,s)->ends s=some m->m.hold ρ:=fun hb e s m h1 h2=>hm e s m (by simp only [Out.pick,hb]; exact h1) h2
  have pn:b.ev ρ=false-> ∀e s m,n.pick ρ=some (e,s)->ends s=some m->m.hold ρ:=fun hb e s m h1 h2=>hm e s m (by simp only [Out.pick,hb]; exact h1) h2
  unfold uh at h;split at h
  ·rename_i hb;exact ihy hd h (py (cU hρ _ _ _ _ hd hb))
  ·rename_i hb;exact ihn hd h (pn (cU hρ _ _ _ _ hd hb))
  ·split at h
   ·rename_i h1;cases hb:b.ev ρ
    ·exact ihn (aR hd hb) h (pn hb)
    ·exact ihy (aR hd hb) h1 (py hb)
   ·cases h
def Con.cQ(c:Con)(ends:ASt->Option Prs)(o:Out)(dec:Dec)(_:aM)(s:ASt):Bool:=
 match c.ef s with
 |some q=>uh (bdL c.bds) ends q o dec
 |none=>false
theorem Con.Gr{G:Nat->Int->Int->Int->Int}{GH:Nat->bz}{c:Con}(facts:Dec)(hf: ∀ρ:Env,ρ.std G GH->ρ.ok (bdL c.bds)->c.pre.holds ρ->facts.holds ρ)
 {o o':Out} {ends:ASt->Option Prs} (ho: ∀ρ:Env,ρ.std G GH->ρ.ok (bdL c.bds)->c.pre.holds ρ-> ∀e s m,o.pick ρ=some (e,s)->ends s=some m->m.hold ρ)
 (h:o'.all (c.cQ ends o) (facts++c.pre)=true):c.Leaves G GH o':=by
 intro ρ h1 h2 h3;obtain ⟨e,s,dec',hd',p1,p2⟩:=Out.bP (bJ (hf ρ h1 h2 h3) h3) h;unfold Con.cQ at p2;split at p2
 ·rename_i q hq;exact ⟨e,s,_,q,p1,hq,nq h2 hd' p2 (ho ρ h1 h2 h3)⟩
 ·cases p2
end
end Go.Sx
namespace Go.Sx
open Go.RowKit (Below)
noncomputable section
def mN(M:Int):Int:=ag M (3:Nat)
def aP(M:Int):Bool:=decide (ag M (7:Nat)=1)
def mD(M:Int)(a:Nat):Int:=ag M (4*a:Nat)
def mC(M:Int)(a:Nat):Int:=ag M (4*a+1:Nat)
def mR(M:Int)(p:Nat):Int:=ag M (4*p+2:Nat)
def pgD(M:Int)(p:Nat):Int:=(rowOf ((List.range 256).map fun j=>mD M (256*p+j)):Nat)
def pgC(M:Int)(p:Nat):Int:=(rowOf ((List.range 256).map fun j=>mC M (256*p+j)):Nat)
def isByte(v:Int):Prop:=0<=v/\v<=255
def qu(M:Int)(j:Nat):Prop:=j=3\/j=7\/(∃ a,a<256*(mN M).toNat/\(j=4*a\/(aP M=false/\j=4*a+1)))\/ ∃p,p<(mN M).toNat/\j=4*p+2
structure l6 (M:Int):Prop where
 pos:0<=M
 coh:ag M (7:Nat)=0\/ag M (7:Nat)=1
 out: ∀j:Nat,¬qu M j->ag M j=0
theorem Sw{M:Int}{p j:Nat}(hj:j<256)(h:isByte (mD M (256*p+j))):ag (pgD M p) j=mD M (256*p+j):=
 cP _ j _ (by simp [hj]) (by unfold fE; obtain ⟨h1,h2⟩:=h; omega)
theorem TX{M:Int}{p j:Nat}(hj:j<256)(h:isByte (mC M (256*p+j))):ag (pgC M p) j=mC M (256*p+j):=
 cP _ j _ (by simp [hj]) (by unfold fE; obtain ⟨h1,h2⟩:=h; omega)
def m0(w:World)(b o:Nat)(D:Nat->Int):Prop:= ∃cs el fr,w.heap[b]? =some (.cells cs el fr)/\(∀ j,j<cs.size-> ¬(fr.1<=j/\j<fr.2))/\ ∀j,j<256->cs[o+j]? =some (.int .u8 (D j))/\isByte (D j)
structure Pages where
 ho:Nat
 sb:Nat
 so:Nat
 dp:Nat->Nat
 db:Nat->Nat
 cp:Nat->Nat
 cb:Nat->Nat
 od:Nat->Bool
 oc:Nat->Bool
structure iz (el sl:TypeId) (M:Int) (w:World) (g:Nat) (P:Pages):Prop where
 nle:0<=mN M/\mN M<=4096
 head: ∃cs fr cap,w.heap[g]? =some (.cells cs el fr)/\cs[P.ho+0]? =some (.slice (some ⟨P.sb,P.so,none⟩) (mN M).toNat cap)/\(mN M).toNat<=cap/\cs[P.ho+1]? =some (.bool (aP M))
 slots: ∃cs fr,w.heap[P.sb]? =some (.cells cs sl fr)/\(∀ j,j<cs.size-> ¬(fr.1<=j/\j<fr.2))/\ ∀p,p<(mN M).toNat->
  cs[P.so+(p*7)]? =some (.pointer (some ⟨P.dp p,P.db p,none⟩))/\cs[P.so+(p*7+1)]? =some (.pointer (match aP M with |true=>none |false=>some ⟨P.cp p,P.cb p,none⟩))/\
  cs[P.so+(p*7+2)]? =some (.bool (P.od p))/\cs[P.so+(p*7+3)]? =some (.bool (P.oc p))/\cs[P.so+(p*7+6)]? =some (.int .i64 (mR M p))/\0<=mR M p/\mR M p<=7
 data: ∀p,p<(mN M).toNat->m0 w (P.dp p) (P.db p) fun j=>mD M (256*p+j)
 code:aP M=false-> ∀p,p<(mN M).toNat->m0 w (P.cp p) (P.cb p) fun j=>mC M (256*p+j)
 gs:g≠P.sb
 gd: ∀p,p<(mN M).toNat->P.dp p≠g/\P.dp p≠P.sb
 gc:aP M=false-> ∀p,p<(mN M).toNat->P.cp p≠g/\P.cp p≠P.sb
 exD: ∀p,p<(mN M).toNat->P.od p=true->(∀ q,q<(mN M).toNat->q≠p->P.dp q≠P.dp p)/\(aP M=false-> ∀q,q<(mN M).toNat->P.cp q≠P.dp p)
 exC:aP M=false-> ∀p,p<(mN M).toNat->P.oc p=true->(∀ q,q<(mN M).toNat->q≠p->P.cp q≠P.cp p)/\ ∀q,q<(mN M).toNat->P.dp q≠P.cp p
 can:l6 M
def yl(M:Int)(g:Nat)(P:Pages)(b:Nat):Prop:=b=g\/b=P.sb\/(∃ p,p<(mN M).toNat/\b=P.dp p)\/(aP M=false/\ ∃p,p<(mN M).toNat/\b=P.cp p)
section
variable{el sl:TypeId}{M M':Int}{w w':World}{g:Nat}{P P':Pages}
theorem iz.inb(h:iz el sl M w g P){b:Nat}(hb:yl M g P b):b<w.heap.size:=by
 have lt: ∀ {b:Nat} {O:Obj},w.heap[b]? =some O->b<w.heap.size:=fun h=>(Array.getElem?_eq_some_iff.1 h).1
 rcases hb with rfl |rfl | ⟨p,hp,rfl⟩ | ⟨hc,p,hp,rfl⟩
 ·obtain ⟨_,_,_,h1,_⟩:=h.head; exact lt h1
 ·obtain ⟨_,_,h1,_⟩:=h.slots; exact lt h1
 ·obtain ⟨_,_,_,h1,_⟩:=h.data p hp; exact lt h1
 ·obtain ⟨_,_,_,h1,_⟩:=h.code hc p hp; exact lt h1
theorem m0.cO{b o:Nat}{D:Nat->Int}(h:m0 w b o D)(he:w'.heap[b]? =w.heap[b]?):m0 w' b o D:=by
 obtain ⟨cs,el,fr,h1,h2⟩:=h;exact ⟨cs,el,fr,he.trans h1,h2⟩
theorem iz.cO(h:iz el sl M w g P)(he: ∀b,yl M g P b->w'.heap[b]? =w.heap[b]?):iz el sl M w' g P:=by
 refine ⟨h.nle,?_,?_,fun p hp=>(h.data p hp).cO (he _ (.inr (.inr (.inl ⟨p,hp,rfl⟩)))),fun hc p hp=>(h.code hc p hp).cO (he _ (.inr (.inr (.inr ⟨hc,p,hp,rfl⟩)))),h.gs,h.gd,h.gc,h.exD,h.exC,h.can⟩
 ·obtain ⟨cs,fr,cap,h1,h2⟩:=h.head;exact ⟨cs,fr,cap,(he g (.inl rfl)).trans h1,h2⟩
 ·obtain ⟨cs,fr,h1,h2⟩:=h.slots;exact ⟨cs,fr,(he P.sb (.inr (.inl rfl))).trans h1,h2⟩
theorem iz.same(h:iz el sl M w g P)(k:iz el sl M' w g P')(ho:P'.ho=P.ho){b:Nat}(hb:yl M' g P' b):yl M g P b:=by
 obtain ⟨cs,fr,cap,h1,h2,_,h3⟩:=h.head;obtain ⟨cs',fr',cap',k1,k2,_,k3⟩:=k.head;rw [h1] at k1;cases k1;rw [ho,h2] at k2;rw [ho] at k3;simp only [Option.some.injEq,Value.slice.injEq,Addr.mk.injEq] at k2;obtain ⟨⟨esb,eso,_⟩,en,_⟩:=k2;rw [h3] at k3;simp only [Option.some.injEq,Value.bool.injEq] at k3;obtain ⟨ss,sf,s1,_,s2⟩:=h.slots;obtain ⟨ss',sf',t1,_,t2⟩:=k.slots;rw [<- esb,s1] at t1;cases t1;rw [<- eso] at t2
 rcases hb with rfl |rfl | ⟨p,hp,rfl⟩ | ⟨hc,p,hp,rfl⟩
 ·exact .inl rfl
 ·exact .inr (.inl esb.symm)
 ·rw [<- en] at hp;have a:=(s2 p hp).1;have b:=(t2 p (by rw [<- en]; exact hp)).1
  rw [a] at b;simp only [Option.some.injEq,Value.pointer.injEq,Addr.mk.injEq] at b;exact .inr (.inr (.inl ⟨p,hp,b.1.symm⟩))
 ·rw [<- en] at hp;have hc0:aP M=false:=by rw [k3]; exact hc
  have a:=(s2 p hp).2.1;have b:=(t2 p (by rw [<- en]; exact hp)).2.1
  rw [a,hc0,hc] at b;simp only [Option.some.injEq,Value.pointer.injEq,Addr.mk.injEq] at b;exact .inr (.inr (.inr ⟨hc0,p,hp,b.1.symm⟩))
end
def cW(el sl:TypeId):bz where
 rel vs w g o:= ∃M P,vs=[M]/\iz el sl M w g P/\P.ho=o
 aZ w g o b:= ∃M P,iz el sl M w g P/\P.ho=o/\yl M g P b
 hd:=2
 self:=fun ⟨M,P,_,h,ho⟩=>⟨M,P,h,ho,.inl rfl⟩
 inb:=fun _ ⟨M,P,h,_,hb⟩=>h.inb hb
 frame:=fun ⟨M,P,e,h,ho⟩ hs he=>by
  have h':=h.cO fun b hb=>he b ⟨M,P,h,ho,hb⟩
  exact ⟨⟨M,P,e,h',ho⟩,fun b ⟨M',P',k,ko,hb⟩=>⟨M,P,h,ho,h'.same k (ko.trans ho.symm) hb⟩⟩
 stay:=by
  intro vs w g o cs e fr j v ⟨M,P,ev,h,ho⟩ hg hj;have other: ∀b,b≠g->(w.setCell ⟨g,j,none⟩ v).heap[b]? =w.heap[b]? :=fun b hb=>Below.heap_setCell _ _ _ _ hb
  have h':iz el sl M (w.setCell ⟨g,j,none⟩ v) g P:=by
   refine ⟨h.nle,?_,?_,fun p hp=>(h.data p hp).cO (other _ (h.gd p hp).1),fun hc p hp=>(h.code hc p hp).cO (other _ (h.gc hc p hp).1),h.gs,h.gd,h.gc,h.exD,h.exC,h.can⟩
   ·obtain ⟨cs',fr',cap,h1,h2,h3,h4⟩:=h.head;rw [h1] at hg;cases hg;refine ⟨_,fr,cap,bQ w g j cs _ fr v h1,?_,h3,?_⟩
    ·rw [Array.getElem?_setIfInBounds_ne (by omega)]; exact h2
    ·rw [Array.getElem?_setIfInBounds_ne (by omega)]; exact h4
   ·obtain ⟨cs',fr',h1,h2⟩:=h.slots;exact ⟨cs',fr',(other _ (Ne.symm h.gs)).trans h1,h2⟩
  exact ⟨⟨M,P,ev,h',ho⟩,fun b ⟨M',P',k,ko,hb⟩=>⟨M,P,h,ho,h'.same k (ko.trans ho.symm) hb⟩⟩
theorem IE.Ge(ρ:Env)(a:Array Value)(e:IE):e.ev {ρ with sn:=a}=e.ev ρ:=by
 induction e with
 |lit n=>rfl
 |var i=>rfl
 |add a b iha ihb=>simp only [IE.ev,iha,ihb]
 |sub a b iha ihb=>simp only [IE.ev,iha,ihb]
 |mul a b iha ihb=>simp only [IE.ev,iha,ihb]
 |wrap k a iha=>simp only [IE.ev,iha]
 |bits op k a b iha ihb=>simp only [IE.ev,iha,ihb]
 |quo a b iha ihb=>simp only [IE.ev,iha,ihb]
 |rem a b iha ihb=>simp only [IE.ev,iha,ihb]
 |shl k a b iha ihb=>simp only [IE.ev,iha,ihb]
 |shr k a b iha ihb=>simp only [IE.ev,iha,ihb]
 |fn c x y z ihx ihy ihz=>simp only [IE.ev,ihx,ihy,ihz]; rfl
 |sel s a b x y iha ihb ihx ihy=>simp only [IE.ev,iha,ihb,ihx,ihy]
theorem BE.Ge(ρ:Env)(a:Array Value)(e:BE):e.ev {ρ with sn:=a}=e.ev ρ:=by
 induction e with
 |lit n=>rfl
 |var i=>rfl
 |eq a b=>simp only [BE.ev,IE.Ge]
 |lt a b=>simp only [BE.ev,IE.Ge]
 |not a ih=>simp only [BE.ev,ih]
theorem ai.env{ρ ρ':Env}(he: ∀e:IE,e.ev ρ=e.ev ρ')(hb: ∀e:BE,e.ev ρ=e.ev ρ'){f:Ren}{v:ab}{x:Value}(h:ai ρ f v x):ai ρ' f v x:=by
 induction h with
 |bool b=>rw [hb]; exact .bool b
 |int k e=>rw [he]; exact .int k e
 |str hs=>
  refine .str ?_;unfold eu at hs ⊢;rw [hs];exact List.map_congr_left fun e _=>he e
 |nilPtr=>exact .nilPtr
 |ptr hh=>exact .ptr hh
 |nilSlice=>exact .nilSlice
 |slice hh=>exact .slice hh
 |sliceG hh hn hc hs=>exact .sliceG hh hn hc hs
 |sliceE hh hg hs=>exact .sliceE hh hg hs
 |nilMap=>exact .nilMap
 |map hh=>exact .map hh
 |func ha hb _ _ iha ihb=>exact .func ha hb iha ihb
 |nilFunc=>exact .nilFunc
 |iface _ ih=>exact .iface ih
 |nilIface=>exact .nilIface
 |agg ha _ ih=>exact .agg ha ih
 |tuple ha _ ih=>exact .tuple ha ih
 |ptrE hh h0=>rw [he] at h0 ⊢; exact .ptrE hh h0
 |sliceS hh h0 hl hc=>rw [he] at h0 hl hc ⊢; rw [he]; exact .sliceS hh h0 hl hc
 |sliceZ hl ha=>rw [he] at hl; exact .sliceZ hl ha
 |sliceA hh hl hc hs=>rw [he] at hl hc ⊢; exact .sliceA hh hl hc hs
 |sliceN hl=>rw [he] at hl; exact .sliceN hl
 |strS hl hs=>exact .strS (by rw [<- he]; exact hl) (fun j b hj=>by rw [<- he]; exact hs j b hj)
theorem az.env{ρ ρ':Env}(he: ∀e:IE,e.ev ρ=e.ev ρ')(hb: ∀e:BE,e.ev ρ=e.ev ρ'){f:Ren}{l:List ab}{x:Array Value}(h:az ρ f l x):az ρ' f l x:=
 ⟨h.1,fun i v v' h1 h2=>(h.2 i v v' h1 h2).env he hb⟩
def jy(coh:Bool):T ab:=(T.nil.set 0 (.sliceS 1 (.lit 0) (.fn 0 (.var 0) (.lit 3) (.lit 0)) 7 true)).set 1 (.bool (.lit coh))
def lP(coh:Bool)(j:Nat):ab:=
 match coh with
 |true=> .ptr none
 |false=> .ptr (some (j,0))
def bu(i j:Nat)(coh od oc:Bool)(R:IE):T ab:=
 ((((T.nil.set 0 (.ptr (some (i,0)))).set 1 (lP coh j)).set 2 (.bool (.lit od))).set 3 (.bool (.lit oc))).set 6 (.int .i64 R)
def rE(pe:IE):IE:= .wrap .i64 (.fn 0 (.var 0) (.add (.mul pe (.lit 4)) (.lit 2)) (.lit 0))
def vm(coh oc:Bool)(x:IE):List ah:=
 match coh with
 |true=>[]
 |false=>[.arr [.u8] x (.lit 256) oc]
def lT(el sl:TypeId)(coh od oc:Bool)(pe:IE):List ah:=
 .cells (jy coh) el false 2:: .win pe 7 (bu 2 3 coh od oc (rE pe)) sl true:: .arr [.u8] (.fn 10 (.var 0) pe (.lit 0)) (.lit 256) od::vm coh oc (.fn 11 (.var 0) pe (.lit 0))
structure bn (M:Int):Prop where
 n:0<=mN M/\mN M<=4096
 d: ∀p j,p<(mN M).toNat->j<256->isByte (mD M (256*p+j))
 c:aP M=false-> ∀p j,p<(mN M).toNat->j<256->isByte (mC M (256*p+j))
 r: ∀p,p<(mN M).toNat->0<=mR M p/\mR M p<=7
 k:l6 M
theorem iz.ok{el sl:TypeId}{M:Int}{w:World}{g:Nat}{P:Pages}(h:iz el sl M w g P):bn M:=by
 refine ⟨h.nle,fun p j hp hj=> ?_,fun hc p j hp hj=> ?_,fun p hp=> ?_,h.can⟩
 ·obtain ⟨_,_,_,_,_,h2⟩:=h.data p hp;exact (h2 j hj).2
 ·obtain ⟨_,_,_,_,_,h2⟩:=h.code hc p hp;exact (h2 j hj).2
 ·obtain ⟨_,_,_,_,h2⟩:=h.slots;exact (h2 p hp).2.2.2.2.2
theorem oY{ρ:Env}{pe:IE}{p:Nat}(hp:pe.ev ρ=p)(h:0<=mR (ρ.i 0) p/\mR (ρ.i 0) p<=7):(rE pe).ev ρ=mR (ρ.i 0) p:=by
 have:((rE pe).ev ρ)=IntKind.i64.wrap (ag (ρ.i 0) (pe.ev ρ*4+2)):=rfl;rw [this,hp];have e:((p:Int)*4+2)=((4*p+2:Nat):Int):=by omega
 rw [e];obtain ⟨h1,h2⟩:=h;exact bI .i64 _ (by simp only [kLo]; unfold mR at h1; omega) (by simp only [kHi]; unfold mR at h2; omega)
structure b8 (M M':Int) (p:Nat) (De Ce R:Int):Prop where
 n:mN M'=mN M
 coh:aP M'=aP M
 other: ∀q j,q<(mN M).toNat->q≠p->j<256->mD M' (256*q+j)=mD M (256*q+j)/\(aP M=false->mC M' (256*q+j)=mC M (256*q+j))
 rights: ∀q,q<(mN M).toNat->q≠p->mR M' q=mR M q
 d: ∀j,j<256->mD M' (256*p+j)=ag De j
 c:aP M=false-> ∀j,j<256->mC M' (256*p+j)=ag Ce j
 r:mR M' p=R/\0<=R/\R<=7
 k:l6 M'
section
variable{P:Program}{G:Nat->Int->Int->Int->Int}{GH:Nat->bz}
theorem ai.eQ{ρ:Env}{f:Ren}{i o:Nat}{v:Value}(h:ai ρ f (.ptr (some (i,o))) v): ∃L,f i=some L/\v= .pointer (some ⟨L.blk,L.base+o,none⟩):=by
 cases h; exact ⟨_,by assumption,rfl⟩
theorem ai.Lg{ρ:Env}{f:Ren}{v:Value}(h:ai ρ f (.ptr none) v):v= .pointer none:=by
 cases h; rfl
theorem ai.Dc{ρ:Env}{f:Ren}{k:IntKind}{e:IE}{v:Value}(h:ai ρ f (.int k e) v):v= .int k (e.ev ρ):=by
 cases h; rfl
theorem zi{i j:Nat}{coh od oc:Bool}{R:IE}:(bu i j coh od oc R).get 0=some (.ptr (some (i,0)))/\(bu i j coh od oc R).get 1=some (lP coh j)/\(bu i j coh od oc R).get 2=some (.bool (.lit od))/\(bu i j coh od oc R).get 3=some (.bool (.lit oc))/\(bu i j coh od oc R).get 6=some (.int .i64 R):=by
 unfold bu;refine ⟨?_,?_,?_,?_,?_⟩
 ·rw [T.bp (by decide) (by decide),T.bp (by decide) (by decide),T.bp (by decide) (by decide),T.bp (by decide) (by decide),T.cu (by decide)]
 ·rw [T.bp (by decide) (by decide),T.bp (by decide) (by decide),T.bp (by decide) (by decide),T.cu (by decide)]
 ·rw [T.bp (by decide) (by decide),T.bp (by decide) (by decide),T.cu (by decide)]
 ·rw [T.bp (by decide) (by decide),T.cu (by decide)]
 ·rw [T.cu (by decide)]
theorem za{i j:Nat}{coh od oc:Bool}{R:IE}{k:Nat}{v:ab}(h:(bu i j coh od oc R).get k=some v):(k=0/\v= .ptr (some (i,0)))\/(k=1/\v=lP coh j)\/(k=2/\v= .bool (.lit od))\/(k=3/\v= .bool (.lit oc))\/(k=6/\v= .int .i64 R):=by
 unfold bu at h
 rcases T.aB h with ⟨e,h⟩ | ⟨_,h⟩
 ·exact .inr (.inr (.inr (.inr ⟨e,h.symm⟩)))
 rcases T.aB h with ⟨e,h⟩ | ⟨_,h⟩
 ·exact .inr (.inr (.inr (.inl ⟨e,h.symm⟩)))
 rcases T.aB h with ⟨e,h⟩ | ⟨_,h⟩
 ·exact .inr (.inr (.inl ⟨e,h.symm⟩))
 rcases T.aB h with ⟨e,h⟩ | ⟨_,h⟩
 ·exact .inr (.inl ⟨e,h.symm⟩)
 rcases T.aB h with ⟨e,h⟩ | ⟨_,h⟩
 ·exact .inl ⟨e,h.symm⟩
 ·rw [T.get_nil] at h; cases h
end
theorem HM{el sl:TypeId}{coh od oc:Bool}{pe:IE}{x:Nat}{o:ah}(h:(lT el sl coh od oc pe)[x]? =some o):
 (x=0/\o= .cells (jy coh) el false 2)\/(x=1/\o= .win pe 7 (bu 2 3 coh od oc (rE pe)) sl true)\/(x=2/\o= .arr [.u8] (.fn 10 (.var 0) pe (.lit 0)) (.lit 256) od)\/(x=3/\coh=false/\o= .arr [.u8] (.fn 11 (.var 0) pe (.lit 0)) (.lit 256) oc):=by
 unfold lT at h
 match x with
 |0=>simp at h; exact .inl ⟨rfl,h.symm⟩
 |1=>simp at h; exact .inr (.inl ⟨rfl,h.symm⟩)
 |2=>simp at h; exact .inr (.inr (.inl ⟨rfl,h.symm⟩))
 |3=>
  cases coh with
  |true=>simp [vm] at h
  |false=>simp [vm] at h; exact .inr (.inr (.inr ⟨rfl,rfl,h.symm⟩))
 |x+4=>cases coh<;>simp [vm] at h
theorem pq{el sl:TypeId}{coh od oc:Bool}{pe:IE}:(lT el sl coh od oc pe).length=match coh with
 |true=>3
 |false=>4:=by
 cases coh<;>rfl
theorem Ag{coh:Bool}{k:Nat}{v:ab}(h:(jy coh).get k=some v):(k=0/\v= .sliceS 1 (.lit 0) (.fn 0 (.var 0) (.lit 3) (.lit 0)) 7 true)\/(k=1/\v= .bool (.lit coh)):=by
 unfold jy at h
 rcases T.aB h with ⟨e,h⟩ | ⟨_,h⟩
 ·exact .inr ⟨e,h.symm⟩
 rcases T.aB h with ⟨e,h⟩ | ⟨_,h⟩
 ·exact .inl ⟨e,h.symm⟩
 ·rw [T.get_nil] at h; cases h
section
variable{P:Program}{G:Nat->Int->Int->Int->Int}{GH:Nat->bz}
set_option maxHeartbeats 2000000 in
theorem MN{el sl:TypeId}{k:Nat}{c co:Con}{cv:T ab}{Me' pe De Ce Re:IE}{coh od oc od' oc':Bool}{i j:Nat}
 (hk:GH k=cW el sl) (hG: ∀M p z,G 10 M p z=pgD M p.toNat/\G 11 M p z=pgC M p.toNat)
 (c0:c.os=[.ghost k [.var 0] cv]) (c1:c.os'=[.ghost k [Me'] cv]) (cr:c.res.free=true)
 (g1:co.g=c.g) (g2:co.args=c.args) (g3:co.res=c.res) (hco:co.Ok P G GH) (o0:co.os=lT el sl coh od oc pe)
 (o1:co.os'[1]? =some (.win pe 7 (bu i j coh od' oc' Re) sl true)) (o2:co.os'[i]? =some (.arr [.u8] De (.lit 256) od')) (o3:coh=false->co.os'[j]? =some (.arr [.u8] Ce (.lit 256) oc'))
 (ol:co.os'.length<=1000) (hi:od'=true\/(i=2/\od=false)) (hj:coh=false->oc'=true\/(j=3/\oc=false)) (hij:coh=false->i≠j)
 {ρ:Env} (h1:ρ.std G GH) (hb:ρ.ok (bdL co.bds)) (hp:co.pre.holds ρ) {B:Nat->Prop} {W w:World} {f:Ren} {args':Array Value} (hr:au ρ B W f (aF c.os 0 .nil) w) (ha:az ρ f c.args args') (hn: ∀j,c.os.length<=j->f j=none)
 {L:Loc} (hL:f 0=some L) {Pg:Pages} (hm:iz el sl (ρ.i 0) w L.blk Pg) (hho:Pg.ho=L.base) {p:Nat} (hpe:pe.ev ρ=p) (hpn:p<(mN (ρ.i 0)).toNat) (hcoh:aP (ρ.i 0)=coh) (hod:Pg.od p=od) (hoc:Pg.oc p=oc)
 (hnext:b8 (ρ.i 0) (Me'.ev ρ) p (De.ev ρ) (Ce.ev ρ) (Re.ev ρ)):
 mw P c.g args' w fun v' w'=> ∃f',f.le f'/\Outside f f' c.os.length c.os'.length/\au ρ B W f' (je c.os' 0 .nil) w'/\ai ρ f' c.res v':=by
 have hgh:ρ.gh k=cW el sl:=by rw [h1.2]; exact hk
 have hlen:c.os.length=1:=by rw [c0]; rfl
 have hf1: ∀x,1<=x->f x=none:=fun x hx=>hn x (by omega)
 have hg:(aF c.os 0 T.nil).get 0=some (.ghost k [.var 0] cv):=by
  rw [c0];exact aU [ah.ghost k [IE.var 0] cv] 0 0 .nil _ rfl (by simp)
 obtain ⟨⟨hrel,hfB⟩,hb0,cs0,el0,fr0,q1,q2,q3,q4⟩:=hr.obj 0 L _ hL hg;have hfoot: ∀b,yl (ρ.i 0) L.blk Pg b-> ¬B b:=fun b hb=>hfB b (by rw [hgh]; exact ⟨_,Pg,hm,hho,hb⟩)
 obtain ⟨cs,fr,cap,u1,u2,u3,u4⟩:=hm.head;obtain ⟨ss,sf,v1,v2,v3⟩:=hm.slots;obtain ⟨ds,de,df,x1,x2,x3⟩:=hm.data p hpn
 have hcl: ∃cl:Option Loc,(coh=true->cl=none)/\(coh=false-> ∃xs xe xf,cl=some ⟨Pg.cp p,Pg.cb p,xs.size⟩/\w.heap[Pg.cp p]? =some (.cells xs xe xf)/\(∀ j,j<xs.size-> ¬(xf.1<=j/\j<xf.2))/\ ∀j,j<256->xs[Pg.cb p+j]? =some (.int .u8 (mC (ρ.i 0) (256*p+j)))/\isByte (mC (ρ.i 0) (256*p+j))):=by
  cases coh with
  |true=>exact ⟨none,fun _=>rfl,(fun h=>(by cases h))⟩
  |false=>
   obtain ⟨xs,xe,xf,y1,y2,y3⟩:=hm.code hcoh p hpn;exact ⟨some ⟨Pg.cp p,Pg.cb p,xs.size⟩,(fun h=>(by cases h)),fun _=>⟨xs,xe,xf,rfl,y1,y2,y3⟩⟩
 obtain ⟨cl,cl1,cl2⟩:=hcl;have lt: ∀ {b:Nat} {O:Obj},w.heap[b]? =some O->b<w.heap.size:=fun h=>(Array.getElem?_eq_some_iff.1 h).1
 have dlt: ∀q,q<(mN (ρ.i 0)).toNat->Pg.dp q<w.heap.size:=fun q hq=>hm.inb (.inr (.inr (.inl ⟨q,hq,rfl⟩)))
 have clt:coh=false-> ∀q,q<(mN (ρ.i 0)).toNat->Pg.cp q<w.heap.size:=fun hc q hq=>hm.inb (.inr (.inr (.inr ⟨by rw [hcoh]; exact hc,q,hq,rfl⟩)))
 -- the blocks that stay
 let B':Nat->Prop:=fun b=>b<w.heap.size/\(B b\/b=L.blk\/ ∃q,q<(mN (ρ.i 0)).toNat/\((b=Pg.dp q/\ ¬(q=p/\od=true))\/(coh=false/\b=Pg.cp q/\ ¬(q=p/\oc=true))))
 have hBB: ∀b,B b->B' b:=fun b hb=>⟨Nat.lt_of_lt_of_le (hr.bsize b hb) hr.below.size,.inl hb⟩
 have hBg:B' L.blk:=⟨lt u1,.inr (.inl rfl)⟩;have hBd: ∀q,q<(mN (ρ.i 0)).toNat-> ¬(q=p/\od=true)->B' (Pg.dp q):=fun q hq h=>⟨dlt q hq,.inr (.inr ⟨q,hq,.inl ⟨rfl,h⟩⟩)⟩
 have hBc:coh=false-> ∀q,q<(mN (ρ.i 0)).toNat-> ¬(q=p/\oc=true)->B' (Pg.cp q):=fun hc q hq h=>⟨clt hc q hq,.inr (.inr ⟨q,hq,.inr ⟨hc,rfl,h⟩⟩)⟩
 have nsb: ¬B' Pg.sb:=by
  rintro ⟨_,h |h | ⟨q,hq,⟨h,_⟩ | ⟨hc,h,_⟩⟩⟩
  ·exact hfoot _ (.inr (.inl rfl)) h
  ·exact hm.gs h.symm
  ·exact (hm.gd q hq).2 h.symm
  ·exact (hm.gc (by rw [hcoh]; exact hc) q hq).2 h.symm
 have ndp:od=true-> ¬B' (Pg.dp p):=by
  rintro ho ⟨_,h |h | ⟨q,hq,⟨h,h'⟩ | ⟨hc,h,_⟩⟩⟩
  ·exact hfoot _ (.inr (.inr (.inl ⟨p,hpn,rfl⟩))) h
  ·exact (hm.gd p hpn).1 h
  ·by_cases hqp:q=p
   ·exact h' ⟨hqp,ho⟩
   ·exact (hm.exD p hpn (by rw [hod]; exact ho)).1 q hq hqp h.symm
  ·exact (hm.exD p hpn (by rw [hod]; exact ho)).2 (by rw [hcoh]; exact hc) q hq h.symm
 have ncp:coh=false->oc=true-> ¬B' (Pg.cp p):=by
  rintro hc ho ⟨_,h |h | ⟨q,hq,⟨h,_⟩ | ⟨_,h,h'⟩⟩⟩
  ·exact hfoot _ (.inr (.inr (.inr ⟨by rw [hcoh]; exact hc,p,hpn,rfl⟩))) h
  ·exact (hm.gc (by rw [hcoh]; exact hc) p hpn).1 h
  ·exact (hm.exC (by rw [hcoh]; exact hc) p hpn (by rw [hoc]; exact ho)).2 q hq h.symm
  ·by_cases hqp:q=p
   ·exact h' ⟨hqp,ho⟩
   ·exact (hm.exC (by rw [hcoh]; exact hc) p hpn (by rw [hoc]; exact ho)).1 q hq hqp h.symm
 let ρ2:Env:={ρ with sn:=ss}
 have evI: ∀e:IE,e.ev ρ2=e.ev ρ:=IE.Ge ρ ss;have evB: ∀e:BE,e.ev ρ2=e.ev ρ:=BE.Ge ρ ss
 let f2:Ren:=fun x=>match x with
  |0=>some L
  |1=>some ⟨Pg.sb,Pg.so,ss.size⟩
  |2=>some ⟨Pg.dp p,Pg.db p,ds.size⟩
  |3=>cl
  |_=>none
 have hle:f.le f2:=by
  intro x M hx;cases x with
  |zero=>rw [hL] at hx; exact hx
  |succ x=>rw [hf1 _ (by omega)] at hx; cases hx
 have i0: ∀x:Nat,(x:Int).toNat=x:=fun x=>Int.toNat_natCast x
 have hpe2:(pe.ev ρ2).toNat=p:=by rw [evI,hpe]; exact i0 p
 have hR:=oY hpe (hm.ok.r p hpn)
 have H2:au ρ2 B' w f2 (aF co.os 0 .nil) w:=by
  have get: ∀ {x:Nat} {o:ah},(aF co.os 0 T.nil).get x=some o->_:=fun {x o} h=>HM (x:=x) (o:=o) (by rw [<- o0]; exact iG h)
  have feet: ∀ {x:Nat} {o:ah} {M:Loc},(aF co.os 0 T.nil).get x=some o-> ∀b,o.aZ ρ2 w M b->b=M.blk:=by
   intro x o M h b hb
   rcases get h with ⟨_,rfl⟩ | ⟨_,rfl⟩ | ⟨_,rfl⟩ | ⟨_,_,rfl⟩<;>exact hb
  refine ⟨Kept.refl _ _,fun b hb=>hb.1,fun x M hx=> ?_,fun x y Mx My ox oy hx hy gx gy hxy hown b hbx hby=> ?_,fun x M o hx gx=> ?_⟩
  ·match x,hx with
   |0,hx=>cases hx; exact lt u1
   |1,hx=>cases hx; exact lt v1
   |2,hx=>cases hx; exact lt x1
   |3,hx=>
    have hx:cl=some M:=hx;cases hc:coh with
    |true=>rw [cl1 hc] at hx; cases hx
    |false=>
     obtain ⟨xs,xe,xf,y0,y1,_⟩:=cl2 hc;rw [y0] at hx;cases hx;exact lt y1
  ·have ex:=feet gx b hbx;have ey:=feet gy b hby;subst ex
   have lc: ∀ {M:Loc},coh=false->f2 3=some M->M.blk=Pg.cp p:=by
    intro M hc hx;have hx:cl=some M:=hx;obtain ⟨xs,xe,xf,y0,y1,_⟩:=cl2 hc;rw [y0] at hx;cases hx;rfl
   rcases get gx with ⟨rfl,rfl⟩ | ⟨rfl,rfl⟩ | ⟨rfl,rfl⟩ | ⟨rfl,hc,rfl⟩
   ·cases hown
   ·cases hx
    rcases get gy with ⟨rfl,rfl⟩ | ⟨rfl,rfl⟩ | ⟨rfl,rfl⟩ | ⟨rfl,hc,rfl⟩
    ·cases hy; exact hm.gs ey.symm
    ·exact hxy rfl
    ·cases hy; exact (hm.gd p hpn).2 ey.symm
    ·rw [lc hc hy] at ey; exact (hm.gc (by rw [hcoh]; exact hc) p hpn).2 ey.symm
   ·cases hx
    rcases get gy with ⟨rfl,rfl⟩ | ⟨rfl,rfl⟩ | ⟨rfl,rfl⟩ | ⟨rfl,hc,rfl⟩
    ·cases hy; exact (hm.gd p hpn).1 ey
    ·cases hy; exact (hm.gd p hpn).2 ey
    ·exact hxy rfl
    ·rw [lc hc hy] at ey; exact (hm.exD p hpn (by rw [hod]; exact hown)).2 (by rw [hcoh]; exact hc) p hpn ey.symm
   ·rw [lc hc hx] at ey
    rcases get gy with ⟨rfl,rfl⟩ | ⟨rfl,rfl⟩ | ⟨rfl,rfl⟩ | ⟨rfl,hc,rfl⟩
    ·cases hy; exact (hm.gc (by rw [hcoh]; exact hc) p hpn).1 ey
    ·cases hy; exact (hm.gc (by rw [hcoh]; exact hc) p hpn).2 ey
    ·cases hy; exact (hm.exC (by rw [hcoh]; exact hc) p hpn (by rw [hoc]; exact hown)).2 p hpn ey.symm
    ·exact hxy rfl
  ·rcases get gx with ⟨rfl,rfl⟩ | ⟨rfl,rfl⟩ | ⟨rfl,rfl⟩ | ⟨rfl,hc,rfl⟩
   ·cases hx
    have hsz:cs.size=L.sz:=by
     rw [u1] at q1;cases q1;exact q2
    refine ⟨cs,fr,u1,hsz,(fun h=>(by cases h)),fun y v hv=> ?_⟩
    rcases Ag hv with ⟨rfl,rfl⟩ | ⟨rfl,rfl⟩
    ·refine ⟨by decide,_,by rw [<- hho]; exact u2,?_⟩
     have hlenE:(IE.fn 0 (.var 0) (.lit 3) (.lit 0)).ev ρ2=mN (ρ.i 0):=rfl;have:=ai.sliceS (ρ:=ρ2) (f:=f2) (i:=1) (s:=7) (st:= .lit 0) (len:= .fn 0 (.var 0) (.lit 3) (.lit 0)) (nn:=true) (L:=⟨Pg.sb,Pg.so,ss.size⟩) (c:=cap) rfl (Int.le_refl 0) (by rw [hlenE]; exact hm.nle.1) (by rw [hlenE]; exact u3)
     rw [hlenE] at this;exact this
    ·refine ⟨by decide,_,by rw [<- hho]; exact u4,?_⟩
     rw [hcoh];exact .bool (.lit coh)
   ·cases hx;refine ⟨ss,sf,v1,rfl,fun _=>⟨nsb,v2⟩,fun y _=>rfl,fun y v hv=> ?_⟩
    obtain ⟨a1,a2,a3,a4,a5,_⟩:=v3 p hpn;show ∃v',ss[Pg.so+((pe.ev ρ2).toNat*7+y)]? =some v'/\_;rw [hpe2]
    rcases za hv with ⟨rfl,rfl⟩ | ⟨rfl,rfl⟩ | ⟨rfl,rfl⟩ | ⟨rfl,rfl⟩ | ⟨rfl,rfl⟩
    ·exact ⟨_,a1,.ptr (ρ:=ρ2) (f:=f2) (i:=2) (o:=0) (L:=⟨Pg.dp p,Pg.db p,ds.size⟩) rfl⟩
    ·refine ⟨_,a2,?_⟩;rw [hcoh];cases hc:coh with
     |true=>exact .nilPtr
     |false=>
      obtain ⟨xs,xe,xf,y0,_⟩:=cl2 hc;exact .ptr (ρ:=ρ2) (f:=f2) (i:=3) (o:=0) (L:=⟨Pg.cp p,Pg.cb p,xs.size⟩) y0
    ·exact ⟨_,a3,by rw [hod]; exact .bool (.lit od)⟩
    ·exact ⟨_,a4,by rw [hoc]; exact .bool (.lit oc)⟩
    ·refine ⟨_,a5,?_⟩;rw [<- hR,<-evI];exact .int .i64 _
   ·cases hx;refine ⟨ds,de,df,x1,rfl,fun ho=>⟨ndp ho,x2⟩,fun y d kd hy hd=> ?_⟩
    have hd0:d=0/\kd= .u8:=by
     match d,hd with
     |0,hd=>cases hd; exact ⟨rfl,rfl⟩
    obtain ⟨rfl,rfl⟩:=hd0
    have hy:y<256:=by
     have:(y:Int)<256:=hy;omega
    obtain ⟨b1,b2⟩:=x3 y hy
    have ec:(IE.fn 10 (.var 0) pe (.lit 0)).ev ρ2=pgD (ρ.i 0) p:=by
     show ρ.g 10 (ρ.i 0) (pe.ev ρ2) 0=_;rw [h1.1,evI,hpe,(hG _ _ _).1,i0]
    have e1:y*[IntKind.u8].length+0=y:=by simp
    rw [ec,e1,Sw hy b2];exact ⟨b1,by simp [kLo]; exact b2.1,by simp [kHi]; exact b2.2⟩
   ·obtain ⟨xs,xe,xf,y0,y1,y2,y3⟩:=cl2 hc;have hx:cl=some M:=hx;rw [y0] at hx;cases hx;refine ⟨xs,xe,xf,y1,rfl,fun ho=>⟨ncp hc ho,y2⟩,fun y d kd hy hd=> ?_⟩
    have hd0:d=0/\kd= .u8:=by
     match d,hd with
     |0,hd=>cases hd; exact ⟨rfl,rfl⟩
    obtain ⟨rfl,rfl⟩:=hd0
    have hy:y<256:=by
     have:(y:Int)<256:=hy;omega
    obtain ⟨b1,b2⟩:=y3 y hy
    have ec:(IE.fn 11 (.var 0) pe (.lit 0)).ev ρ2=pgC (ρ.i 0) p:=by
     show ρ.g 11 (ρ.i 0) (pe.ev ρ2) 0=_;rw [h1.1,evI,hpe,(hG _ _ _).2,i0]
    have e1:y*[IntKind.u8].length+0=y:=by simp
    rw [ec,e1,TX hy b2];exact ⟨b1,by simp [kLo]; exact b2.1,by simp [kHi]; exact b2.2⟩
 have ha2:az ρ2 f2 co.args args':=by
  rw [g2];exact (ha.mono hle).env (fun e=>(evI e).symm) (fun e=>(evB e).symm)
 have hn2: ∀x,co.os.length<=x->f2 x=none:=by
  intro x hx;rw [o0,pq] at hx
  match x,hx with
  |x+4,_=>rfl
  |3,hx=>
   cases hc:coh with
   |true=>exact cl1 hc
   |false=>rw [hc] at hx; exact absurd hx (by decide)
  |0,hx=>cases coh<;>exact absurd hx (by decide)
  |1,hx=>cases coh<;>exact absurd hx (by decide)
  |2,hx=>cases coh<;>exact absurd hx (by decide)
 have hp2:Dec.holds ρ2 co.pre:=fun q hq=>by rw [evB]; exact hp q hq
 rw [<- g1];refine Calls.mono (hco ρ2 h1 hb hp2 B' w f2 w args' H2 ha2 hn2) fun e w3 ⟨v',e1,f3,e2,e3,e4,e5⟩=> ?_
 have cO: ∀b,B' b->w3.heap[b]? =w.heap[b]? :=e4.below.block
 have tree: ∀(x:Nat) (o:ah),co.os'[x]? =some o->o.dead=false->(je co.os' 0 T.nil).get x=some o:=by
  intro x o hx hd;have:=f9 co.os' 0 x .nil o hx hd (by omega)
  rwa [Nat.zero_add] at this
 obtain ⟨s0,s1,s2,s3,s6⟩:=zi (i:=i) (j:=j) (coh:=coh) (od:=od') (oc:=oc') (R:=Re);have fb1:f3 1=some ⟨Pg.sb,Pg.so,ss.size⟩:=e2 1 _ rfl;obtain ⟨ss3,sf3,r1,r2,r3,r0,r4⟩:=e4.obj 1 _ _ fb1 (tree 1 _ o1 rfl);rw [hpe2] at r0
 have cell: ∀(y:Nat) (v:ab),(bu i j coh od' oc' Re).get y=some v-> ∃u,ss3[Pg.so+(p*7+y)]? =some u/\ai ρ2 f3 v u:=by
  intro y v hy;obtain ⟨u,a1,a2⟩:=r4 y v hy;rw [hpe2] at a1;exact ⟨u,a1,a2⟩
 obtain ⟨z0,zc0,zr0⟩:=cell 0 _ s0;obtain ⟨Li,fi,rfl⟩:=zr0.eQ;obtain ⟨ds3,de3,df3,t1,t2,t3,t4⟩:=e4.obj i Li _ fi (tree i _ o2 rfl)
 have page: ∀ {xs3:Array Value} {Lx:Loc} {C:IE} {D:Nat->Int},(∀ (y d:Nat) (kd:IntKind),(y:Int)<(IE.lit 256).ev ρ2->[IntKind.u8][d]? =some kd->xs3[Lx.base+(y*[IntKind.u8].length+d)]? =some (.int kd (ag (C.ev ρ2) (y*[IntKind.u8].length+d:Nat)))/\kLo kd<=ag (C.ev ρ2) (y*[IntKind.u8].length+d:Nat)/\ag (C.ev ρ2) (y*[IntKind.u8].length+d:Nat)<=kHi kd)->
  (∀ y,y<256->D y=ag (C.ev ρ) y)-> ∀y,y<256->xs3[Lx.base+y]? =some (.int .u8 (D y))/\isByte (D y):=by
  intro xs3 Lx C D ht hD y hy;obtain ⟨a1,a2,a3⟩:=ht y 0 .u8 (show (y:Int)<256 by omega) rfl
  have e1:y*[IntKind.u8].length+0=y:=by simp
  rw [e1,evI,<-hD y hy] at a1 a2 a3;exact ⟨a1,by simpa [kLo] using a2,by simpa [kHi] using a3⟩
 -- the page's blocks
 have iold:od'=false->Li=⟨Pg.dp p,Pg.db p,ds.size⟩/\od=false:=by
  intro ho
  rcases hi with h | ⟨h,h'⟩
  ·rw [h] at ho; cases ho
  ·subst h;have:f3 2=some ⟨Pg.dp p,Pg.db p,ds.size⟩:=e2 2 _ rfl;rw [this] at fi;cases fi;exact ⟨rfl,h'⟩
 have inew:od'=true-> ¬B' Li.blk:=fun ho=>(t3 ho).1
 have isb:Li.blk≠Pg.sb:=by
  intro h
  have i1:(1:Nat)≠i:=by
   intro h;subst h;rw [o1] at o2;cases o2
  exact e4.apart 1 i _ Li _ _ fb1 fi (tree 1 _ o1 rfl) (tree i _ o2 rfl) i1 rfl Pg.sb rfl h.symm
 have iother: ∀q,q<(mN (ρ.i 0)).toNat->q≠p->Pg.od q=true\/od'=true->Li.blk≠Pg.dp q:=by
  intro q hq hqp ho h;cases ho':od' with
  |true=>exact inew ho' (by rw [h]; exact hBd q hq (fun h'=>hqp h'.1))
  |false=>
   obtain ⟨a1,a2⟩:=iold ho';rw [a1] at h;rw [ho'] at ho
   rcases ho with ho |ho
   ·exact (hm.exD q hq ho).1 p hpn (Ne.symm hqp) h
   ·cases ho
 have iotherc:coh=false-> ∀q,q<(mN (ρ.i 0)).toNat->q≠p->Pg.oc q=true\/od'=true->Li.blk≠Pg.cp q:=by
  intro hc q hq hqp ho h;cases ho':od' with
  |true=>exact inew ho' (by rw [h]; exact hBc hc q hq (fun h'=>hqp h'.1))
  |false=>
   obtain ⟨a1,a2⟩:=iold ho';rw [a1] at h;rw [ho'] at ho
   rcases ho with ho |ho
   ·exact (hm.exC (by rw [hcoh]; exact hc) q hq ho).2 p hpn h
   ·cases ho
 have dataP:m0 w3 Li.blk Li.base fun y=>mD (Me'.ev ρ) (256*p+y):=by
  refine ⟨ds3,de3,df3,t1,?_,page t4 hnext.d⟩;cases ho':od' with
  |true=>rw [t2]; exact (t3 ho').2
  |false=>
   obtain ⟨a1,a2⟩:=iold ho';have:=cO _ (hBd p hpn (fun h'=>by rw [a2] at h'; cases h'.2))
   rw [a1] at t1;have t1:w3.heap[Pg.dp p]? =some (.cells ds3 de3 df3):=t1;rw [this,x1] at t1;cases t1;exact x2
 have hcode: ∃Lj:Loc,(coh=false->f3 j=some Lj/\ss3[Pg.so+(p*7+1)]? =some (.pointer (some ⟨Lj.blk,Lj.base+0,none⟩))/\(m0 w3 Lj.blk Lj.base fun y=>mC (Me'.ev ρ) (256*p+y))/\(oc'=false->Lj.blk=Pg.cp p/\oc=false)/\(oc'=true-> ¬B' Lj.blk)/\Lj.blk≠Pg.sb/\Lj.blk≠L.blk/\(od'=true\/oc'=true->Li.blk≠Lj.blk)):=by
  cases hc:coh with
  |true=>exact ⟨⟨0,0,0⟩,fun h=>by cases h⟩
  |false=>
   obtain ⟨xs,xe,xf,y0,y1,y2,y3⟩:=cl2 hc;have o3:=o3 hc;have hj:=hj hc;have hij:=hij hc;obtain ⟨z1,zc1,zr1⟩:=cell 1 _ s1;rw [hc] at zr1;obtain ⟨Lj,fj,rfl⟩:=zr1.eQ;obtain ⟨xs3,xe3,xf3,m1,m2,m3,m4⟩:=e4.obj j Lj _ fj (tree j _ o3 rfl)
   have jold:oc'=false->Lj=⟨Pg.cp p,Pg.cb p,xs.size⟩/\oc=false:=by
    intro ho
    rcases hj with h | ⟨h,h'⟩
    ·rw [h] at ho; cases ho
    ·subst h;have:f3 3=some ⟨Pg.cp p,Pg.cb p,xs.size⟩:=e2 3 _ y0;rw [this] at fj;cases fj;exact ⟨rfl,h'⟩
   have jnew:oc'=true-> ¬B' Lj.blk:=fun ho=>(m3 ho).1
   refine ⟨Lj,fun _=>⟨fj,zc1,⟨xs3,xe3,xf3,m1,?_,page m4 (hnext.c (by rw [hcoh]; exact hc))⟩,fun ho=>⟨by rw [(jold ho).1],(jold ho).2⟩,jnew,?_,?_,?_⟩⟩
   ·cases ho':oc' with
    |true=>rw [m2]; exact (m3 ho').2
    |false=>
     obtain ⟨a1,a2⟩:=jold ho';have:=cO _ (hBc hc p hpn (fun h'=>by rw [a2] at h'; cases h'.2))
     rw [a1] at m1;have m1:w3.heap[Pg.cp p]? =some (.cells xs3 xe3 xf3):=m1;rw [this,y1] at m1;cases m1;exact y2
   ·intro h
    have j1:(1:Nat)≠j:=by
     intro h;subst h;rw [o1] at o3;cases o3
    exact e4.apart 1 j _ Lj _ _ fb1 fj (tree 1 _ o1 rfl) (tree j _ o3 rfl) j1 rfl Pg.sb rfl h.symm
   ·intro h;cases ho':oc' with
    |true=>exact jnew ho' (by rw [h]; exact hBg)
    |false=>
     rw [(jold ho').1] at h;exact (hm.gc (by rw [hcoh]; exact hc) p hpn).1 h
   ·intro ho h
    rcases ho with ho |ho
    ·exact e4.apart i j Li Lj _ _ fi fj (tree i _ o2 rfl) (tree j _ o3 rfl) hij ho Li.blk rfl h
    ·exact e4.apart j i Lj Li _ _ fj fi (tree j _ o3 rfl) (tree i _ o2 rfl) (Ne.symm hij) ho Lj.blk rfl h.symm
 obtain ⟨Lj,hcode⟩:=hcode;obtain ⟨z2,zc2,zr2⟩:=cell 2 _ s2;obtain ⟨z3,zc3,zr3⟩:=cell 3 _ s3;obtain ⟨z6,zc6,zr6⟩:=cell 6 _ s6;have zr2:=zr2.lE;have zr3:=zr3.lE;have zr6:=zr6.Dc;rw [evI] at zr6;subst zr2 zr3 zr6;have ne:(mN (Me'.ev ρ)).toNat=(mN (ρ.i 0)).toNat:=by rw [hnext.n]
 have ce:aP (Me'.ev ρ)=coh:=by rw [hnext.coh,hcoh]
 let Pg':Pages:=⟨Pg.ho,Pg.sb,Pg.so,fun q=>if q=p then Li.blk else Pg.dp q,fun q=>if q=p then Li.base else Pg.db q,fun q=>if q=p then Lj.blk else Pg.cp q,fun q=>if q=p then Lj.base else Pg.cb q,fun q=>if q=p then od' else Pg.od q,fun q=>if q=p then oc' else Pg.oc q⟩
 have P1: ∀q,q=p->Pg'.dp q=Li.blk/\Pg'.db q=Li.base/\Pg'.cp q=Lj.blk/\Pg'.cb q=Lj.base/\Pg'.od q=od'/\Pg'.oc q=oc':=fun q h=>⟨if_pos h,if_pos h,if_pos h,if_pos h,if_pos h,if_pos h⟩
 have P2: ∀q,q≠p->Pg'.dp q=Pg.dp q/\Pg'.db q=Pg.db q/\Pg'.cp q=Pg.cp q/\Pg'.cb q=Pg.cb q/\Pg'.od q=Pg.od q/\Pg'.oc q=Pg.oc q:=fun q h=>⟨if_neg h,if_neg h,if_neg h,if_neg h,if_neg h,if_neg h⟩
 have hm':iz el sl (Me'.ev ρ) w3 L.blk Pg':=by
  refine ⟨by rw [hnext.n]; exact hm.nle,⟨cs,fr,cap,(cO _ hBg).trans u1,by rw [ne]; exact u2,by rw [ne]; exact u3,by rw [hnext.coh]; exact u4⟩,⟨ss3,sf3,r1,by rw [r2]; exact (r3 rfl).2,fun q hq=> ?_⟩,fun q hq=> ?_,fun hc q hq=> ?_,hm.gs,fun q hq=> ?_,fun hc q hq=> ?_,fun q hq ho=> ?_,fun hc q hq ho=> ?_,hnext.k⟩
  ·rw [ne] at hq;rw [ce]
   by_cases hqp:q=p
   ·obtain ⟨p1,p2,p3,p4,p5,p6⟩:=P1 q hqp;rw [p1,p2,p3,p4,p5,p6];subst hqp;refine ⟨zc0,?_,zc2,zc3,by rw [hnext.r.1]; exact zc6,by rw [hnext.r.1]; exact hnext.r.2⟩
    cases hc:coh with
    |true=>
     obtain ⟨z1,zc1,zr1⟩:=cell 1 _ s1;rw [hc] at zr1;rw [zr1.Lg] at zc1;exact zc1
    |false=>exact (hcode hc).2.1
   ·obtain ⟨p1,p2,p3,p4,p5,p6⟩:=P2 q hqp;rw [p1,p2,p3,p4,p5,p6];obtain ⟨a1,a2,a3,a4,a5,a6,a7⟩:=v3 q hq;rw [hcoh] at a2
    have same: ∀y,y<7->ss3[Pg.so+(q*7+y)]? =ss[Pg.so+(q*7+y)]? :=by
     intro y hy;have h0:Pg.so+(q*7+y)<Pg.so+p*7\/Pg.so+p*7+7<=Pg.so+(q*7+y):=by omega
     exact r0 _ h0
    have hr7:=hnext.rights q hq hqp;refine ⟨by rw [<- a1]; exact same 0 (by decide),by rw [<- a2]; exact same 1 (by decide),by rw [<- a3]; exact same 2 (by decide),by rw [<- a4]; exact same 3 (by decide),by rw [hr7,<-a5]; exact same 6 (by decide),by rw [hr7]; exact a6,by rw [hr7]; exact a7⟩
  ·rw [ne] at hq
   by_cases hqp:q=p
   ·obtain ⟨p1,p2,_⟩:=P1 q hqp;rw [p1,p2,hqp];exact dataP
   ·obtain ⟨p1,p2,_⟩:=P2 q hqp;rw [p1,p2];obtain ⟨as,ae,af,a1,a2,a3⟩:=hm.data q hq;refine ⟨as,ae,af,(cO _ (hBd q hq (fun h=>hqp h.1))).trans a1,a2,fun y hy=> ?_⟩
    show as[Pg.db q+y]? =some (.int .u8 (mD (Me'.ev ρ) (256*q+y)))/\isByte (mD (Me'.ev ρ) (256*q+y));rw [(hnext.other q y hq hqp hy).1];exact a3 y hy
  ·rw [ne] at hq;rw [ce] at hc
   by_cases hqp:q=p
   ·obtain ⟨p1,p2,p3,p4,_⟩:=P1 q hqp;rw [p3,p4,hqp];exact (hcode hc).2.2.1
   ·obtain ⟨p1,p2,p3,p4,_⟩:=P2 q hqp;rw [p3,p4];obtain ⟨as,ae,af,a1,a2,a3⟩:=hm.code (by rw [hcoh]; exact hc) q hq
    refine ⟨as,ae,af,(cO _ (hBc hc q hq (fun h=>hqp h.1))).trans a1,a2,fun y hy=> ?_⟩
    show as[Pg.cb q+y]? =some (.int .u8 (mC (Me'.ev ρ) (256*q+y)))/\isByte (mC (Me'.ev ρ) (256*q+y));rw [(hnext.other q y hq hqp hy).2 (by rw [hcoh]; exact hc)]
    exact a3 y hy
  ·rw [ne] at hq
   by_cases hqp:q=p
   ·rw [(P1 q hqp).1];refine ⟨fun h=> ?_,isb⟩
    cases ho':od' with
    |true=>exact inew ho' (by rw [h]; exact hBg)
    |false=>rw [(iold ho').1] at h; exact (hm.gd p hpn).1 h
   ·rw [(P2 q hqp).1];exact hm.gd q hq
  ·rw [ne] at hq;rw [ce] at hc
   by_cases hqp:q=p
   ·rw [(P1 q hqp).2.2.1];exact ⟨(hcode hc).2.2.2.2.2.2.1,(hcode hc).2.2.2.2.2.1⟩
   ·rw [(P2 q hqp).2.2.1];exact hm.gc (by rw [hcoh]; exact hc) q hq
  ·rw [ne] at hq ⊢;rw [ce]
   by_cases hqp:q=p
   ·obtain ⟨p1,p2,p3,p4,p5,p6⟩:=P1 q hqp;rw [p5] at ho;rw [p1];refine ⟨fun r hr hrq=> ?_,fun hc r hr=> ?_⟩
    ·have hrp:r≠p:=by rw [<- hqp]; exact hrq
     rw [(P2 r hrp).1];exact Ne.symm (iother r hr hrp (.inr ho))
    ·by_cases hrp:r=p
     ·rw [(P1 r hrp).2.2.1];exact Ne.symm ((hcode hc).2.2.2.2.2.2.2 (.inl ho))
     ·rw [(P2 r hrp).2.2.1];exact Ne.symm (iotherc hc r hr hrp (.inr ho))
   ·obtain ⟨p1,p2,p3,p4,p5,p6⟩:=P2 q hqp;rw [p5] at ho;rw [p1];refine ⟨fun r hr hrq=> ?_,fun hc r hr=> ?_⟩
    ·by_cases hrp:r=p
     ·rw [(P1 r hrp).1];exact iother q hq hqp (.inl ho)
     ·rw [(P2 r hrp).1];exact (hm.exD q hq ho).1 r hr hrq
    ·by_cases hrp:r=p
     ·rw [(P1 r hrp).2.2.1];intro h;cases ho':oc' with
      |true=>exact (hcode hc).2.2.2.2.1 ho' (by rw [h]; exact hBd q hq (fun h'=>hqp h'.1))
      |false=>
       rw [((hcode hc).2.2.2.1 ho').1] at h;exact (hm.exD q hq ho).2 (by rw [hcoh]; exact hc) p hpn h
     ·rw [(P2 r hrp).2.2.1];exact (hm.exD q hq ho).2 (by rw [hcoh]; exact hc) r hr
  ·rw [ne] at hq ⊢;rw [ce] at hc
   by_cases hqp:q=p
   ·obtain ⟨p1,p2,p3,p4,p5,p6⟩:=P1 q hqp;rw [p6] at ho;rw [p3];refine ⟨fun r hr hrq=> ?_,fun r hr=> ?_⟩
    ·have hrp:r≠p:=by rw [<- hqp]; exact hrq
     rw [(P2 r hrp).2.2.1];intro h;exact (hcode hc).2.2.2.2.1 ho (by rw [<- h]; exact hBc hc r hr (fun h'=>hrp h'.1))
    ·by_cases hrp:r=p
     ·rw [(P1 r hrp).1];exact (hcode hc).2.2.2.2.2.2.2 (.inr ho)
     ·rw [(P2 r hrp).1];intro h;exact (hcode hc).2.2.2.2.1 ho (by rw [<- h]; exact hBd r hr (fun h'=>hrp h'.1))
   ·obtain ⟨p1,p2,p3,p4,p5,p6⟩:=P2 q hqp;rw [p6] at ho;rw [p3];have hcM:aP (ρ.i 0)=false:=by rw [hcoh]; exact hc
    refine ⟨fun r hr hrq=> ?_,fun r hr=> ?_⟩
    ·by_cases hrp:r=p
     ·rw [(P1 r hrp).2.2.1];intro h;cases ho':oc' with
      |true=>exact (hcode hc).2.2.2.2.1 ho' (by rw [h]; exact hBc hc q hq (fun h'=>hqp h'.1))
      |false=>
       rw [((hcode hc).2.2.2.1 ho').1] at h;exact (hm.exC hcM q hq ho).1 p hpn (Ne.symm hqp) h
     ·rw [(P2 r hrp).2.2.1];exact (hm.exC hcM q hq ho).1 r hr hrq
    ·by_cases hrp:r=p
     ·rw [(P1 r hrp).1];exact iotherc hc q hq hqp (.inl ho)
     ·rw [(P2 r hrp).1];exact (hm.exC hcM q hq ho).2 r hr
 have hg': ∀x o,(je c.os' 0 T.nil).get x=some o->x=0/\o= .ghost k [Me'] cv:=by
  intro x o hx;rw [c1] at hx;have:=(ik hx).1
  match x,this with
  |0,this=>simp at this; exact ⟨rfl,this.symm⟩
  |x+1,this=>simp at this
 have nB: ∀b,yl (Me'.ev ρ) L.blk Pg' b-> ¬B b:=by
  intro b hb hB
  rcases hb with rfl |rfl | ⟨q,hq,rfl⟩ | ⟨hc,q,hq,rfl⟩
  ·exact hfoot _ (.inl rfl) hB
  ·exact hfoot _ (.inr (.inl rfl)) hB
  ·rw [ne] at hq
   by_cases hqp:q=p
   ·rw [(P1 q hqp).1] at hB;cases ho':od' with
    |true=>exact inew ho' (hBB _ hB)
    |false=>
     rw [(iold ho').1] at hB;exact hfoot _ (.inr (.inr (.inl ⟨p,hpn,rfl⟩))) hB
   ·rw [(P2 q hqp).1] at hB;exact hfoot _ (.inr (.inr (.inl ⟨q,hq,rfl⟩))) hB
  ·rw [ne] at hq;rw [ce] at hc
   by_cases hqp:q=p
   ·rw [(P1 q hqp).2.2.1] at hB;cases ho':oc' with
    |true=>exact (hcode hc).2.2.2.2.1 ho' (hBB _ hB)
    |false=>
     rw [((hcode hc).2.2.2.1 ho').1] at hB;exact hfoot _ (.inr (.inr (.inr ⟨by rw [hcoh]; exact hc,p,hpn,rfl⟩))) hB
   ·rw [(P2 q hqp).2.2.1] at hB;exact hfoot _ (.inr (.inr (.inr ⟨by rw [hcoh]; exact hc,q,hq,rfl⟩))) hB
 refine ⟨v',e1,f,Ren.le_refl f,fun _ _=>rfl,⟨hr.below.trans (e4.below.mono hBB),hr.bsize,fun x M hx=>Nat.lt_of_lt_of_le (hr.lt x M hx) e4.below.size,fun x y Mx My ox oy hx hy gx gy hxy=> ?_,fun x M o hx gx=> ?_⟩,?_⟩
 ·exact absurd ((hg' x ox gx).1.trans (hg' y oy gy).1.symm) hxy
 ·obtain ⟨rfl,rfl⟩:=hg' x o gx;rw [hL] at hx;cases hx;refine ⟨⟨by rw [hgh]; exact ⟨_,Pg',rfl,hm',hho⟩,fun b hb=> ?_⟩,hb0,cs0,el0,fr0,(cO _ hBg).trans q1,q2,q3,q4⟩
  rw [hgh] at hb;obtain ⟨M2,P2',h2,ho2,h3⟩:=hb;exact nB b (hm'.same h2 (ho2.trans hho.symm) h3)
 ·rw [g3] at e5;exact (e5.zx cr).env evI evB
def zh(el sl:TypeId)(coh:Bool):List ah:=[.cells (jy coh) el false 2,.col 7 6 .i64 (.var 0) 4 2 (.fn 0 (.var 0) (.lit 3) (.lit 0))]
theorem AG{el sl:TypeId}{k:Nat}{c co:Con}{cv:T ab}{Me':IE}{coh:Bool}
 (hk:GH k=cW el sl) (c0:c.os=[.ghost k [.var 0] cv]) (c1:c.os'=[.ghost k [Me'] cv]) (cr:c.res.free=true)
 (g1:co.g=c.g) (g2:co.args=c.args) (g3:co.res=c.res) (hco:co.Ok P G GH) (o0:co.os=zh el sl coh)
 {ρ:Env} (h1:ρ.std G GH) (hb:ρ.ok (bdL co.bds)) (hp:co.pre.holds ρ) {B:Nat->Prop} {W w:World} {f:Ren} {args':Array Value} (hr:au ρ B W f (aF c.os 0 .nil) w) (ha:az ρ f c.args args') (hn: ∀j,c.os.length<=j->f j=none)
 {L:Loc} (hL:f 0=some L) {Pg:Pages} (hm:iz el sl (ρ.i 0) w L.blk Pg) (hho:Pg.ho=L.base) (hcoh:aP (ρ.i 0)=coh) (hsame:Me'.ev ρ=ρ.i 0):
 mw P c.g args' w fun v' w'=> ∃f',f.le f'/\Outside f f' c.os.length c.os'.length/\au ρ B W f' (je c.os' 0 .nil) w'/\ai ρ f' c.res v':=by
 have hlen:c.os.length=1:=by rw [c0]; rfl
 have hf1: ∀x,1<=x->f x=none:=fun x hx=>hn x (by omega)
 have hg:(aF c.os 0 T.nil).get 0=some (.ghost k [.var 0] cv):=by
  rw [c0];exact aU [ah.ghost k [IE.var 0] cv] 0 0 .nil _ rfl (by simp)
 have hobj:=hr.obj 0 L _ hL hg;obtain ⟨⟨hrel,hfB⟩,hb0,cs0,el0,fr0,q1,q2,q3,q4⟩:=hobj;obtain ⟨cs,fr,cap,u1,u2,u3,u4⟩:=hm.head;obtain ⟨ss,sf,v1,v2,v3⟩:=hm.slots;have lt: ∀ {b:Nat} {O:Obj},w.heap[b]? =some O->b<w.heap.size:=fun h=>(Array.getElem?_eq_some_iff.1 h).1
 let f2:Ren:=fun x=>match x with
  |0=>some L
  |1=>some ⟨Pg.sb,Pg.so,ss.size⟩
  |_=>none
 have hle:f.le f2:=by
  intro x M hx;cases x with
  |zero=>rw [hL] at hx; exact hx
  |succ x=>rw [hf1 _ (by omega)] at hx; cases hx
 have get: ∀ {x:Nat} {o:ah},(aF co.os 0 T.nil).get x=some o->(x=0/\o= .cells (jy coh) el false 2)\/(x=1/\o= .col 7 6 .i64 (.var 0) 4 2 (.fn 0 (.var 0) (.lit 3) (.lit 0))):=by
  intro x o h;rw [o0] at h;have:=iG h
  match x,this with
  |0,h=>simp [zh] at h; exact .inl ⟨rfl,h.symm⟩
  |1,h=>simp [zh] at h; exact .inr ⟨rfl,h.symm⟩
  |x+2,h=>simp [zh] at h
 have H2:au ρ (· <w.heap.size) w f2 (aF co.os 0 .nil) w:=by
  refine ⟨Kept.refl _ _,fun b hb=>hb,fun x M hx=> ?_,fun x y Mx My ox oy hx hy gx gy hxy hown=> ?_,fun x M o hx gx=> ?_⟩
  ·match x,hx with
   |0,hx=>cases hx; exact lt u1
   |1,hx=>cases hx; exact lt v1
  ·rcases get gx with ⟨rfl,rfl⟩ | ⟨rfl,rfl⟩<;>cases hown
  ·rcases get gx with ⟨rfl,rfl⟩ | ⟨rfl,rfl⟩
   ·cases hx
    have hsz:cs.size=L.sz:=by
     rw [u1] at q1;cases q1;exact q2
    refine ⟨cs,fr,u1,hsz,(fun h=>(by cases h)),fun y v hv=> ?_⟩
    rcases Ag hv with ⟨rfl,rfl⟩ | ⟨rfl,rfl⟩
    ·refine ⟨by decide,_,by rw [<- hho]; exact u2,?_⟩
     have hlenE:(IE.fn 0 (.var 0) (.lit 3) (.lit 0)).ev ρ=mN (ρ.i 0):=rfl;have:=ai.sliceS (ρ:=ρ) (f:=f2) (i:=1) (s:=7) (st:= .lit 0) (len:= .fn 0 (.var 0) (.lit 3) (.lit 0)) (nn:=true) (L:=⟨Pg.sb,Pg.so,ss.size⟩) (c:=cap) rfl (Int.le_refl 0) (by rw [hlenE]; exact hm.nle.1) (by rw [hlenE]; exact u3)
     rw [hlenE] at this;exact this
    ·refine ⟨by decide,_,by rw [<- hho]; exact u4,?_⟩
     rw [hcoh];exact .bool (.lit coh)
   ·cases hx;refine ⟨ss,sl,sf,v1,fun j hj=> ?_⟩
    have hj:(j:Int)<mN (ρ.i 0):=hj;obtain ⟨a1,a2,a3,a4,a5,a6,a7⟩:=v3 j (by omega)
    have e:j*4+2=4*j+2:=by omega
    have ev0:(IE.var 0).ev ρ=ρ.i 0:=rfl;rw [e,ev0];refine ⟨a5,?_,?_⟩
    ·unfold mR at a6; simp only [kLo]; omega
    ·unfold mR at a7; simp only [kHi]; omega
 rw [<- g1];refine Calls.mono (hco ρ h1 hb hp (· <w.heap.size) w f2 w args' H2 (by rw [g2]; exact ha.mono hle) (fun x hx=> ?_)) fun e w3 ⟨v',e1,f3,e2,e3,e4,e5⟩=> ?_
 ·rw [o0] at hx
  match x,hx with
  |x+2,_=>rfl
  |0,hx=>exact absurd hx (by simp [zh])
  |1,hx=>exact absurd hx (by simp [zh])
 have hB:Kept B W w3:=hr.below.trans (e4.below.mono fun b hb=>Nat.lt_of_lt_of_le (hr.bsize b hb) hr.below.size)
 have H3:au ρ B W f (aF c.os 0 .nil) w3:=hr.of_same hB e4.below.size fun x M o hx gx b hb=>e4.below.block b ((hr.obj x M o hx gx).lz hb)
 have hg0: ∀x o,(je c.os' 0 T.nil).get x=some o->x=0/\o= .ghost k [Me'] cv:=by
  intro x o hx;rw [c1] at hx;have:=(ik hx).1
  match x,this with
  |0,this=>simp at this; exact ⟨rfl,this.symm⟩
  |x+1,this=>simp at this
 refine ⟨v',e1,f,Ren.le_refl f,fun _ _=>rfl,⟨H3.below,H3.bsize,H3.lt,fun x y Mx My ox oy hx hy gx gy hxy=> ?_,fun x M o hx gx=> ?_⟩,?_⟩
 ·exact absurd ((hg0 x ox gx).1.trans (hg0 y oy gy).1.symm) hxy
 ·obtain ⟨rfl,rfl⟩:=hg0 x o gx;obtain ⟨⟨a1,a2⟩,a3⟩:=H3.obj 0 M _ hx hg;refine ⟨⟨?_,a2⟩,a3⟩;have:[Me'].map (·.ev ρ)=[IE.var 0].map (·.ev ρ):=by simp [hsame,IE.ev]
  rw [this];exact a1
 ·rw [g3] at e5;exact e5.zx cr
def nE:IE:= .fn 0 (.var 0) (.lit 3) (.lit 0)
def iQ:BE:= .eq (.fn 0 (.var 0) (.lit 7) (.lit 0)) (.lit 1)
def uP(pe:IE)(inside coh:Bool):Dec:=[(.lt pe nE,inside),(.lt nE (.lit 0),false),(.lt (.lit 4096) nE,false),(.lt pe (.lit 0),false),(iQ,coh)]
theorem D4{ρ:Env}{pe:IE}{p:Nat}(hp:pe.ev ρ=p)(hn:0<=mN (ρ.i 0)/\mN (ρ.i 0)<=4096){v:Bool}(hv:decide ((p:Int)<mN (ρ.i 0))=v){coh:Bool}(hc:aP (ρ.i 0)=coh):Dec.holds ρ (uP pe v coh):=by
 have e:nE.ev ρ=mN (ρ.i 0):=rfl;intro q hq;simp only [uP,List.mem_cons,List.not_mem_nil,or_false] at hq
 rcases hq with rfl |rfl |rfl |rfl |rfl
 ·show decide (pe.ev ρ<nE.ev ρ)=v;rw [hp,e];exact hv
 ·show decide (nE.ev ρ<0)=false;rw [e];simp;omega
 ·show decide (4096<nE.ev ρ)=false;rw [e];simp;omega
 ·show decide (pe.ev ρ<0)=false;rw [hp];simp
 ·exact hc
def KH(c:Con)(el sl:TypeId)(pe:IE)(coh od oc:Bool)(os':List ah):Con:=
 {c with os:=lT el sl coh od oc pe,pre:=uP pe true coh++c.pre,os':=os'}
def Ls(c:Con)(el sl:TypeId)(pe:IE)(inside coh:Bool):Con:=
 {c with os:=zh el sl coh,pre:=uP pe inside coh++c.pre,os':=zh el sl coh}
def tV(c:Con)(el sl:TypeId)(coh:Bool):Con:=
 {c with os:=zh el sl coh,pre:=[(.lt nE (.lit 0),false),(.lt (.lit 4096) nE,false)]++c.pre,os':=zh el sl coh}
structure Behind where
 i:Nat:=2
 j:Nat:=3
 od:Bool
 oc:Bool
 d:IE
 c:IE
 r:IE
theorem gU(d:Int)(j:Nat):fE (ag d j):=by
 rw [bx];unfold ff fE;have h:dig d.toNat j<2^80:=by unfold dig; exact Nat.mod_lt _ (Nat.two_pow_pos _)
 have e:(2:Nat)^80=1208925819614629174706176:=by decide
 rw [e] at h;split
 ·rename_i hb;have:dig d.toNat j<604462909807314587353088:=by simpa [Nat.blt_eq] using hb
  omega
 ·rename_i hb;have: ¬dig d.toNat j<604462909807314587353088:=fun hlt=>hb (by simpa [Nat.blt_eq] using hlt)
  omega
theorem fe(M:Int)(p j:Nat)(hj:j<256):ag (pgD M p) j=mD M (256*p+j):=
 cP _ j _ (by simp [hj]) (gU M _)
theorem sF(M:Int)(p j:Nat)(hj:j<256):ag (pgC M p) j=mC M (256*p+j):=
 cP _ j _ (by simp [hj]) (gU M _)
theorem b8.refl{M:Int}{p:Nat}(h:bn M)(hp:p<(mN M).toNat):b8 M M p (pgD M p) (pgC M p) (mR M p):=
 ⟨rfl,rfl,fun _ _ _ _ _=>⟨rfl,fun _=>rfl⟩,fun _ _ _=>rfl,fun j hj=>(fe M p j hj).symm,fun _ j hj=>(sF M p j hj).symm,⟨rfl,h.r p hp⟩,h.k⟩
theorem X4{el sl:TypeId}{k:Nat}{c:Con}{cv:T ab}{Me' pe:IE}(hk:GH k=cW el sl)(hG: ∀M p z,G 10 M p z=pgD M p.toNat/\G 11 M p z=pgC M p.toNat)
 (c0:c.os=[.ghost k [.var 0] cv]) (c1:c.os'=[.ghost k [Me'] cv]) (cr:c.res.free=true) (ca:c.args.head? =some (.ptr (some (0,0))))
 (hpos: ∀ρ:Env,ρ.ok (bdL c.bds)->c.pre.holds ρ->0<=pe.ev ρ)
 (hout: ∀coh,(Ls c el sl pe false coh).Ok P G GH) (hsame: ∀ρ:Env,ρ.std G GH->ρ.ok (bdL c.bds)->c.pre.holds ρ->bn (ρ.i 0)->mN (ρ.i 0)<=pe.ev ρ->Me'.ev ρ=ρ.i 0)
 (hin: ∀coh od oc,∃(b:Behind) (os':List ah),(KH c el sl pe coh od oc os').Ok P G GH/\os'[1]? =some (.win pe 7 (bu b.i b.j coh b.od b.oc b.r) sl true)/\os'[b.i]? =some (.arr [.u8] b.d (.lit 256) b.od)/\(coh=false->os'[b.j]? =some (.arr [.u8] b.c (.lit 256) b.oc))/\os'.length<=1000/\
  (b.od=true\/(b.i=2/\od=false))/\(coh=false->b.oc=true\/(b.j=3/\oc=false))/\(coh=false->b.i≠b.j)/\
  ∀ρ:Env,ρ.std G GH->ρ.ok (bdL c.bds)->c.pre.holds ρ->bn (ρ.i 0)->aP (ρ.i 0)=coh-> ∀p:Nat,pe.ev ρ=p->p<(mN (ρ.i 0)).toNat->b8 (ρ.i 0) (Me'.ev ρ) p (b.d.ev ρ) (b.c.ev ρ) (b.r.ev ρ)):c.Ok P G GH:=by
 intro ρ h1 h2 h3 B W f w args' hr ha hn;have hlen:c.os.length=1:=by rw [c0]; rfl
 have hg:(aF c.os 0 T.nil).get 0=some (.ghost k [.var 0] cv):=by
  rw [c0];exact aU [ah.ghost k [IE.var 0] cv] 0 0 .nil _ rfl (by simp)
 have hL: ∃L,f 0=some L:=by
  have h0:c.args[0]? =some (.ptr (some (0,0))):=by rw [<- List.head?_eq_getElem?]; exact ca
  obtain ⟨v',q1,q2⟩:=ha.get h0;obtain ⟨L,hL,_⟩:=q2.eQ;exact ⟨L,hL⟩
 obtain ⟨L,hL⟩:=hL;obtain ⟨⟨hrel,hfB⟩,_⟩:=hr.obj 0 L _ hL hg;rw [show ρ.gh k=cW el sl by rw [h1.2]; exact hk] at hrel
 obtain ⟨M,Pg,hv,hm,hho⟩:=hrel
 have hM:M=ρ.i 0:=by
  simp [IE.ev] at hv;exact hv.symm
 subst hM;obtain ⟨p,hp⟩:=Int.eq_ofNat_of_zero_le (hpos ρ h2 h3)
 by_cases hlt:(p:Int)<mN (ρ.i 0)
 ·obtain ⟨b,os',hok,o1,o2,o3,ol,hi,hj,hij,hnx⟩:=hin (aP (ρ.i 0)) (Pg.od p) (Pg.oc p);exact MN (co:=KH c el sl pe (aP (ρ.i 0)) (Pg.od p) (Pg.oc p) os') hk hG c0 c1 cr rfl rfl rfl hok rfl o1 o2 o3 ol hi hj hij h1 h2 (bJ (D4 hp hm.nle (by simp [hlt]) rfl) h3) hr ha hn hL hm hho hp (by omega) rfl rfl rfl (hnx ρ h1 h2 h3 hm.ok rfl p hp (by omega))
 ·exact AG (co:=Ls c el sl pe false (aP (ρ.i 0))) hk c0 c1 cr rfl rfl rfl (hout _) rfl h1 h2 (bJ (D4 hp hm.nle (by simp [hlt]) rfl) h3) hr ha hn hL hm hho rfl (hsame ρ h1 h2 h3 hm.ok (by omega))
theorem Lo{el sl:TypeId}{k:Nat}{c:Con}{cv:T ab}(hk:GH k=cW el sl)(c0:c.os=[.ghost k [.var 0] cv])(c1:c.os'=[.ghost k [.var 0] cv])(cr:c.res.free=true)(ca:c.args.head? =some (.ptr (some (0,0))))
 (hro: ∀coh,(tV c el sl coh).Ok P G GH):c.Ok P G GH:=by
 intro ρ h1 h2 h3 B W f w args' hr ha hn;have hlen:c.os.length=1:=by rw [c0]; rfl
 have hg:(aF c.os 0 T.nil).get 0=some (.ghost k [.var 0] cv):=by
  rw [c0];exact aU [ah.ghost k [IE.var 0] cv] 0 0 .nil _ rfl (by simp)
 have hL: ∃L,f 0=some L:=by
  have h0:c.args[0]? =some (.ptr (some (0,0))):=by rw [<- List.head?_eq_getElem?]; exact ca
  obtain ⟨v',q1,q2⟩:=ha.get h0;obtain ⟨L,hL,_⟩:=q2.eQ;exact ⟨L,hL⟩
 obtain ⟨L,hL⟩:=hL;obtain ⟨⟨hrel,hfB⟩,_⟩:=hr.obj 0 L _ hL hg;rw [show ρ.gh k=cW el sl by rw [h1.2]; exact hk] at hrel
 obtain ⟨M,Pg,hv,hm,hho⟩:=hrel
 have hM:M=ρ.i 0:=by
  simp [IE.ev] at hv;exact hv.symm
 subst hM
 have hp:Dec.holds ρ ([(.lt nE (.lit 0),false),(.lt (.lit 4096) nE,false)]++c.pre):=by
  have e:nE.ev ρ=mN (ρ.i 0):=rfl;have hn:=hm.nle;refine bJ (fun q hq=> ?_) h3
  simp only [List.mem_cons,List.not_mem_nil,or_false] at hq
  rcases hq with rfl |rfl
  ·show decide (nE.ev ρ<0)=false;rw [e]; simp; omega
  ·show decide (4096<nE.ev ρ)=false;rw [e]; simp; omega
 exact AG (co:=tV c el sl (aP (ρ.i 0))) hk c0 c1 cr rfl rfl rfl (hro _) rfl h1 h2 hp hr ha hn hL hm hho rfl rfl
end
theorem lH(d j v:Int):0<=aD d j v:=Int.natCast_nonneg _
theorem Gz(n j:Nat):dig n j<2^80:=Nat.mod_lt _ (Nat.two_pow_pos _)
theorem kg{u:Nat}(h:u<2^80):gz (ff u)=u:=by
 unfold gz ff;split
 ·have:((u:Int) % 1208925819614629174706176).toNat=u:=by omega
  exact this
 ·have:(((u:Int)-1208925819614629174706176) % 1208925819614629174706176).toNat=u:=by omega
  exact this
theorem iq{d:Int}(h:0<=d)(i:Nat):aD d i (ag d i)=d:=by
 have h1:=gD d (ag d i) i;rw [bx,kg (Gz _ _)] at h1
 have h2:put d.toNat i (dig d.toNat i)=d.toNat:=by
  unfold put
  have:dig d.toNat i*2^(80*i)<=d.toNat:=by
   unfold dig;exact Nat.le_trans (Nat.mul_le_mul_right _ (Nat.mod_le _ _)) (Nat.div_mul_le_self _ _)
  omega
 rw [h2] at h1;have:=lH d i (ag d i);rw [bx] at this;rw [bx];omega
theorem vQ(n j:Nat):dig n (j+1)=dig (n / 2^80) j:=by
 unfold dig;rw [show 80*(j+1)=80+80*j by omega,Nat.pow_add,Nat.div_div_eq_div_mul]
theorem UQ: ∀(a b:Nat),(∀ j,dig a j=dig b j)->a=b:=by
 intro a
 induction a using Nat.strongRecOn with
 |_ a ih=>
  intro b h;have h0:a % 2^80=b % 2^80:=by have:=h 0; unfold dig at this; simpa using this
  have hs: ∀j,dig (a / 2^80) j=dig (b / 2^80) j:=fun j=>by rw [<- vQ,<-vQ]; exact h _
  have e:a / 2^80=b / 2^80:=by
   by_cases ha:a=0
   ·subst ha
    have z: ∀n:Nat,(∀ j,dig n j=0)->n=0:=by
     intro n
     induction n using Nat.strongRecOn with
     |_ n ih=>
      intro hz
      by_cases hn:n=0
      ·exact hn
      ·have h1:n % 2^80=0:=by have:=hz 0; unfold dig at this; simpa using this
       have h2:=ih (n / 2^80) (Nat.div_lt_self (by omega) (by decide)) (fun j=>by rw [<- vQ]; exact hz _)
       omega
    have hz: ∀j,dig 0 j=0:=fun j=>by unfold dig; simp
    have:=z b fun j=>by rw [<- h j]; exact hz j
    rw [this]
   ·exact ih (a / 2^80) (Nat.div_lt_self (by omega) (by decide)) _ hs
  omega
theorem Vh{a b:Int}(ha:0<=a)(hb:0<=b)(h: ∀j:Nat,ag a j=ag b j):a=b:=by
 have:a.toNat=b.toNat:=UQ _ _ fun j=>by
  have:=h j;rw [bx,bx] at this;have:=congrArg gz this
  rwa [kg (Gz _ _),kg (Gz _ _)] at this
 omega
theorem cF{d v:Int}{i j:Nat}(hv:isByte v):ag (aD d i v) j=if j=i then v else ag d j:=
 eW d v i j (by obtain ⟨h1,h2⟩:=hv; omega) (by obtain ⟨h1,h2⟩:=hv; omega)
theorem cZ{v:Int}(h:isByte v):IntKind.u8.wrap v=v:=bI .u8 _ (by simp only [kLo]; exact h.1) (by simp only [kHi]; exact h.2)
theorem eJ(v:Int):isByte (IntKind.u8.wrap v):=by
 have:=wrap_mem .u8 v;simp only [kLo,kHi] at this;exact this
def fP(M:Int)(ix:Nat->Nat)(g:Nat->Int):Nat->Int
 |0=>M
 |n+1=>aD (fP M ix g n) (ix n) (g n)
theorem VB{M:Int}{ix:Nat->Nat}{g:Nat->Int}(hi: ∀i j,ix i=ix j->i=j)(hg: ∀j,fE (g j)): ∀(n j:Nat),j<n->ag (fP M ix g n) (ix j)=g j:=by
 intro n
 induction n with
 |zero=>intro j h; omega
 |succ n ih=>
  intro j h;show ag (aD (fP M ix g n) (ix n) (g n)) (ix j)=g j;rw [eW _ _ _ _ (hg n).1 (hg n).2]
  by_cases e:ix j=ix n
  ·rw [if_pos e,hi _ _ e]
  ·rw [if_neg e];exact ih j (by have:j≠n:=fun h=>e (by rw [h]); omega)
theorem Oc{M:Int}{ix:Nat->Nat}{g:Nat->Int}: ∀(n i:Nat),(∀ j,j<n->i≠ix j)->ag (fP M ix g n) i=ag M i:=by
 intro n
 induction n with
 |zero=>intro i _; rfl
 |succ n ih=>
  intro i h;show ag (aD (fP M ix g n) (ix n) (g n)) i=_;rw [aI _ _ (h n (by omega))]
  exact ih i fun j hj=>h j (by omega)
def inM(M a:Int):Bool:=decide (a / 256<mN M)
def ad(a i:Int):Int:=IntKind.u32.wrap (a+i)
def pkS(M a:Int):Int:=if inM M a then IntKind.u8.wrap (ag M (a*4)) else 0
def cdS(M a:Int):Int:=if inM M a then IntKind.u8.wrap (if aP M then ag M (a*4) else ag M (a*4+1)) else 0
def rtS(M p:Int):Int:=if 0<=p/\p<mN M then IntKind.i64.wrap (ag M (p*4+2)) else 0
def okS(M a r:Int):Bool:=inM M a&&decide (aN .and .i64 (IntKind.i64.wrap (ag M (a / 256*4+2))) r≠0)
def chS(M a r:Int):Nat->Int->Option Int
 |0,_=>none
 |n+1,i=>if okS M (ad a i) r then chS M a r n (i+1) else some (ad a i)
def adp(M a z:Int):Int:=match chS M a (z % 8) (z / 8).toNat 0 with
 |none=>1
 |some _=>0
def ac7(M a z:Int):Int:=match chS M a (z % 8) (z / 8).toNat 0 with
 |none=>0
 |some x=>x
def stS(M a b:Int):Int:=if inM M a then aD M (a*4) b else M
def prS(M p r:Int):Int:=if 0<=p/\p<mN M then aD M (p*4+2) (aN .and .i64 r 7) else M
def ixC(p j:Nat):Nat:=4*(256*p+j)+1
def syS(M a:Int):Int:=if inM M a&& !aP M then fP M (ixC (a / 256).toNat) (fun j=>mD M (256*(a / 256).toNat+j)) 256 else M
def scS(M p d n:Int):Int:=if (0<=p/\p<mN M)/\aP M=false then fP M (ixC p.toNat) (fun j=>IntKind.u8.wrap (ag d j)) (min n.toNat 256) else M
def poS(M a d:Int):Nat->Int
 |0=>M
 |n+1=>stS (poS M a d n) (ad a n) (IntKind.u8.wrap (ag d n))
def poF(M a d:Int)(i:Nat):Nat->Int
 |0=>M
 |k+1=>poF (stS M (ad a i) (IntKind.u8.wrap (ag d i))) a d (i+1) k
def poD(D a d N:Int)(i:Nat):Nat->Int
 |0=>D
 |k+1=>poD (if ad a i<N then aD D (ad a i) (IntKind.u8.wrap (ag d i)) else D) a d N (i+1) k
def eqF(x y:Int)(i:Nat):Nat->Int
 |0=>1
 |k+1=>if ag x (i:Nat)=ag y (i:Nat) then eqF x y (i+1) k else 0
def b2(b:Bool):Int:=if b then 1 else 0
def gN(M:Int):Int:=(rowOf ((List.range (256*(mN M).toNat)).map fun i=>mD M i):Nat)
def ql(M:Int):Int:=(rowOf ((List.range (256*(mN M).toNat)).map fun i=>mC M i):Nat)
def qe(M:Int):Int:=(rowOf ((List.range (mN M).toNat).map fun i=>mR M i):Nat)
def cpR(C D:Int)(i:Nat):Nat->Int
 |0=>C
 |n+1=>aD (cpR C D i n) ((i+n:Nat):Int) (IntKind.u8.wrap (ag D ((i+n:Nat):Int)))
def nw(r:Int)(c v:Bool):Int:=(if 2147483648<=r then 8 else 0)+(if r=0 then 4 else 0)+(if c then 2 else 0)+(if v then 1 else 0)
def jS(a:Int):Int:=if a<2147483648 then a else a-4294967296
def oO(t:Int):Bool:=decide (t< -2147483648\/2147483648<=t)
def wE(k a b:Int):Int:=
 if k=0 then a % 16
 else if k=1 then nw ((a+b) % 4294967296) (decide (4294967296<=a+b)) (oO (jS a+jS b))
 else if k=2 then nw ((a+b+1) % 4294967296) (decide (4294967296<=a+b+1)) (oO (jS a+jS b+1))
 else if k=3 then nw ((a-b) % 4294967296) (decide (b<=a)) (oO (jS a-jS b))
 else if k=4 then nw ((a-b-1) % 4294967296) (decide (b+1<=a)) (oO (jS a-jS b-1))
 else if k=5 then nw a false false
 else 0
def jT(n:Int)(coh:Int):Int:=aD (aD 0 (3:Nat) n) (7:Nat) coh
def gA(c:Nat)(x y z:Int):Int:=
 match c with
 |9=>cG x y
 |10=>pgD x y.toNat
 |11=>pgC x y.toNat
 |14=>gN x
 |15=>ql x
 |16=>qe x
 |20=>pkS x y
 |21=>cdS x y
 |22=>b2 (okS x y z)
 |23=>rtS x y
 |24=>adp x y z
 |25=>ac7 x y z
 |30=>stS x y z
 |31=>prS x y z
 |33=>syS x y
 |34=>scS x y (unpI z).1 (unpI z).2
 |35=>poS x y (unpI z).1 (unpI z).2.toNat
 |36=>cpR x y (unpI z).1.toNat ((unpI z).2.toNat-(unpI z).1.toNat)
 |37=>jT x y
 |38=>poF x (unpI y).1 (unpI y).2 (unpI z).1.toNat ((unpI z).2.toNat-(unpI z).1.toNat)
 |39=>poD x (unpI y).1 (unpI (unpI y).2).1 (unpI (unpI y).2).2 (unpI z).1.toNat ((unpI z).2.toNat-(unpI z).1.toNat)
 |40=>wE x y z
 |41=>eqF x y (unpI z).1.toNat ((unpI z).2.toNat-(unpI z).1.toNat)
 |_=>0
def cX(G:Nat->Int->Int->Int->Int):Prop:= ∀c,c<100-> ∀x y z,G c x y z=gA c x y z
theorem cX.pg{G:Nat->Int->Int->Int->Int}(h:cX G): ∀M p z,G 10 M p z=pgD M p.toNat/\G 11 M p z=pgC M p.toNat:=fun M p z=>⟨h 10 (by decide) M p z,h 11 (by decide) M p z⟩
theorem cj{G:Nat->Int->Int->Int->Int}(hG:cX G){GH:Nat->bz}{ρ:Env}(h:ρ.std G GH){c:Nat}(h1:7<c)(h2:c<100)(x y z:Int):fnI ρ c x y z=gA c x y z:=by
 rw [bY h1,h.1,hG c h2]
theorem tU{M M':Int}(hn:mN M'=mN M)(hc:aP M'=aP M)(j:Nat):qu M' j ↔ qu M j:=by
 unfold qu;rw [hn,hc]
theorem iy{M v:Int}{i:Nat}(h3:i≠3)(h7:i≠7):mN (aD M (i:Nat) v)=mN M/\aP (aD M (i:Nat) v)=aP M:=by
 refine ⟨aI M v (by omega),?_⟩
 unfold aP;rw [aI M v (by omega)]
theorem l6.set{M v:Int}{i:Nat}(h:l6 M)(hi:qu M i)(h3:i≠3)(h7:i≠7):l6 (aD M (i:Nat) v):=by
 obtain ⟨a,b⟩:=iy (M:=M) (v:=v) h3 h7;refine ⟨lH _ _ _,?_,fun j hj=> ?_⟩
 ·rw [aI M v (by omega)]
  exact h.coh
 ·rw [tU a b] at hj;rw [aI M v (fun e=>hj (by subst e; exact hi))]
  exact h.out j hj
theorem l6.fP{M:Int}{ix:Nat->Nat}{g:Nat->Int}(h:l6 M): ∀n:Nat,(∀ j,j<n->qu M (ix j)/\ix j≠3/\ix j≠7)->l6 (Go.Sx.fP M ix g n)/\mN (Go.Sx.fP M ix g n)=mN M/\aP (Go.Sx.fP M ix g n)=aP M:=by
 intro n
 induction n with
 |zero=>intro _; exact ⟨h,rfl,rfl⟩
 |succ n ih=>
  intro hj;obtain ⟨a,b,c⟩:=ih fun j h=>hj j (by omega)
  obtain ⟨p1,p2,p3⟩:=hj n (by omega)
  obtain ⟨q1,q2⟩:=iy (M:=Go.Sx.fP M ix g n) (v:=g n) p2 p3;exact ⟨a.set ((tU b c _).2 p1) p2 p3,q1.trans b,q2.trans c⟩
theorem bn.ext{M M':Int}(h:bn M)(h':bn M')(hn:mN M'=mN M)(hc:aP M'=aP M)(hd: ∀a,a<256*(mN M).toNat->mD M' a=mD M a)(hi:aP M=false-> ∀a,a<256*(mN M).toNat->mC M' a=mC M a)(hr: ∀p,p<(mN M).toNat->mR M' p=mR M p):M'=M:=by
 refine Vh h'.k.pos h.k.pos fun j=> ?_
 by_cases hj:qu M j
 ·rcases hj with rfl |rfl | ⟨a,ha,rfl | ⟨hf,rfl⟩⟩ | ⟨p,hp,rfl⟩
  ·exact hn
  ·have e1:=h.k.coh;have e2:=h'.k.coh;have e3:decide (ag M' (7:Nat)=1)=decide (ag M (7:Nat)=1):=hc
   rcases e1 with e1 |e1<;>rcases e2 with e2 |e2<;>rw [e1,e2] at e3 ⊢ <;>first |rfl | (simp at e3)
  ·exact hd a ha
  ·exact hi hf a ha
  ·exact hr p hp
 ·rw [h.k.out j hj,h'.k.out j (fun hx=>hj ((tU hn hc j).1 hx))]
theorem Ji{M b:Int}{n:Nat}(hm:bn M)(hin:n / 256<(mN M).toNat)(hb:isByte b):b8 M (aD M ((4*n:Nat):Int) b) (n / 256) (aD (pgD M (n / 256)) ((n % 256:Nat):Int) b) (pgC M (n / 256)) (mR M (n / 256)):=by
 have hn:=Nat.div_add_mod n 256;have hlt:=Nat.mod_lt n (show 0<256 by decide)
 refine ⟨?_,?_,fun q j hq hqp hj=>⟨?_,fun _=> ?_⟩,fun q hq hqp=> ?_,fun j hj=> ?_,fun _ j hj=> ?_,⟨?_,hm.r _ hin⟩,hm.k.set (.inr (.inr (.inl ⟨n,by omega,.inl rfl⟩))) (by omega) (by omega)⟩
 ·exact aI M b (by omega)
 ·unfold aP; rw [aI M b (by omega)]
 ·exact aI M b (by omega)
 ·exact aI M b (by omega)
 ·exact aI M b (by omega)
 ·unfold mD;rw [cF hb,cF hb,fe M _ j hj]
  by_cases e:j=n % 256
  ·rw [if_pos (by omega),if_pos e]
  ·rw [if_neg (by omega),if_neg e]
   rfl
 ·unfold mC;rw [aI M b (by omega),sF M _ j hj]
  rfl
 ·exact aI M b (by omega)
theorem I2{M r:Int}{p:Nat}(hm:bn M)(hin:p<(mN M).toNat)(hr:0<=r/\r<=7):b8 M (aD M ((4*p+2:Nat):Int) r) p (pgD M p) (pgC M p) r:=by
 have hb:isByte r:=⟨hr.1,by omega⟩
 refine ⟨?_,?_,fun q j hq hqp hj=>⟨?_,fun _=> ?_⟩,fun q hq hqp=> ?_,fun j hj=> ?_,fun _ j hj=> ?_,⟨?_,hr⟩,hm.k.set (.inr (.inr (.inr ⟨p,hin,rfl⟩))) (by omega) (by omega)⟩
 ·exact aI M r (by omega)
 ·unfold aP; rw [aI M r (by omega)]
 ·exact aI M r (by omega)
 ·exact aI M r (by omega)
 ·exact aI M r (by omega)
 ·unfold mD;rw [aI M r (by omega),fe M _ j hj]
  rfl
 ·unfold mC;rw [aI M r (by omega),sF M _ j hj]
  rfl
 ·unfold mR;rw [cF hb,if_pos rfl]
theorem VK{p i j:Nat}(h:ixC p i=ixC p j):i=j:=by unfold ixC at h; omega
theorem lJ{M:Int}{p n:Nat}{g:Nat->Int}(hm:bn M)(hc:aP M=false)(hin:p<(mN M).toNat)(hg': ∀j,fE (g j))(hn:n<=256){C:Int}(hC: ∀j:Nat,j<256->ag C j=if j<n then g j else mC M (256*p+j)):b8 M (fP M (ixC p) g n) p (pgD M p) C (mR M p):=by
 have out: ∀i,(∀ j,j<n->i≠ixC p j)->ag (fP M (ixC p) g n) i=ag M i:=Oc n;refine ⟨?_,?_,fun q j hq hqp hj=>⟨?_,fun _=> ?_⟩,fun q hq hqp=> ?_,fun j hj=> ?_,fun _ j hj=> ?_,⟨?_,hm.r p hin⟩,(hm.k.fP n fun j hj=>⟨.inr (.inr (.inl ⟨256*p+j,by omega,.inr ⟨hc,rfl⟩⟩)),(by show 4*(256*p+j)+1≠3; omega),(by show 4*(256*p+j)+1≠7; omega)⟩).1⟩
 ·exact out 3 fun j _=>by unfold ixC; omega
 ·unfold aP; rw [out 7 fun j _=>by unfold ixC; omega]
 ·exact out _ fun j' _=>by unfold ixC; omega
 ·exact out _ fun j' h=>by unfold ixC; omega
 ·exact out _ fun j' _=>by unfold ixC; omega
 ·unfold mD;rw [out _ fun j' _=>by unfold ixC; omega,fe M _ j hj]
  rfl
 ·rw [hC j hj]
  by_cases e:j<n
  ·rw [if_pos e];exact VB (fun _ _=>VK) hg' n j e
  ·rw [if_neg e];exact out _ fun j' h=>by unfold ixC; omega
 ·exact out _ fun j' _=>by unfold ixC; omega
end
end Go.Sx
namespace Go.Sx
noncomputable section
section
variable{P:Program}{G:Nat->Int->Int->Int->Int}{GH:Nat->bz}{c:Con}{K:Know}
theorem Con.vG(facts:Dec)(hf: ∀ρ:Env,ρ.std G GH->ρ.ok (bdL c.bds)->c.pre.holds ρ->facts.holds ρ)(q:Dec->IE->IE->Bool)
 (hq: ∀ρ:Env,ρ.std G GH->ρ.ok (bdL c.bds)->c.pre.holds ρ-> ∀(dec:Dec) (a b:IE),dec.holds ρ->q dec a b=true->a.ev ρ=b.ev ρ) {o:Out} (h:o.all (c.leaf q) (facts++c.pre)=true):c.Leaves G GH o:=by
 intro ρ h1 h2 h3;obtain ⟨e,s,dec',hd',p1,p2⟩:=Out.bP (bJ (hf ρ h1 h2 h3) h3) h;unfold Con.leaf at p2;split at p2
 ·rename_i l hl;exact ⟨e,s,_,l,p1,hl,f7 (fun a b hab=>hq ρ h1 h2 h3 dec' a b hd' hab) p2⟩
 ·cases p2
def qX(bd:Bd)(k:Nat)(obs:List (Dec×IE×IE))(dec:Dec)(a b:IE):Bool:=
 match qP bd k dec a b with
 |true=>true
 |false=>qN bd obs dec a b
theorem uv{ρ:Env}{bd:Bd}(hρ:ρ.ok bd){k:Nat}{dec:Dec}(hd:dec.holds ρ){obs:List (Dec×IE×IE)}(ho:fC ρ obs){a b:IE}(h:qX bd k obs dec a b=true):a.ev ρ=b.ev ρ:=by
 unfold qX at h;split at h
 ·rename_i h1;exact uR hρ hd h1
 ·exact Sl hρ hd ho h
theorem Con.Ca(facts:Dec)(hf: ∀ρ:Env,ρ.std G GH->ρ.ok (bdL c.bds)->c.pre.holds ρ->facts.holds ρ)(k:Nat)(obs:List (Dec×IE×IE))(ho: ∀ρ:Env,ρ.std G GH->ρ.ok (bdL c.bds)->c.pre.holds ρ->fC ρ obs){o:Out}(h:o.all (c.leaf (qX (bdL c.bds) k obs)) (facts++c.pre)=true):c.Leaves G GH o:=
 Con.vG facts hf _ (fun ρ h1 h2 h3 _ _ _ hd hab=>uv h2 hd (ho ρ h1 h2 h3) hab) h
theorem Con.q8(mixed:P.follows .mixedOrders=true)(hK:K.Ok P G GH)(L:Nat)(pol:FuncId->Nat->Bool)(pure:FuncId->Bool)(d k:Nat)(h:(c.tree P K L pol pure d []).all (c.leaf (qP (bdL c.bds) k)) c.pre=true):c.Ok P G GH:=
 Con.f6 mixed hK (facts:=[]) (fun ρ _ _ _ p hp=>by cases hp) (Con.vG [] (fun ρ _ _ _ p hp=>by cases hp) _ (fun ρ h1 h2 h3 dec a b hd hab=>uR h2 hd hab) h)
theorem Con.split{b:BE}(h1:Con.Ok P G GH {c with pre:=(b,true)::c.pre})(h0:Con.Ok P G GH {c with pre:=(b,false)::c.pre}):c.Ok P G GH:=by
 intro ρ q1 q2 q3;cases hb:b.ev ρ
 ·exact h0 ρ q1 q2 (aR q3 hb)
 ·exact h1 ρ q1 q2 (aR q3 hb)
theorem Con.q9{r:ab}{q:Prs}(hc:c.Ok P G GH)(hq:r.bU c.res=some q)(he: ∀ρ:Env,ρ.std G GH->ρ.ok (bdL c.bds)->c.pre.holds ρ->q.hold ρ):Con.Ok P G GH {c with res:=r}:=by
 intro ρ h1 h2 h3 B W f w args' hr ha hn;refine dh P c.g _ _ _ _ (hc ρ h1 h2 h3 B W f w args' hr ha hn) fun v' w' ⟨f',a1,a2,a3,a4⟩=>⟨f',a1,a2,a3,?_⟩
 exact ab.kv a4 hq (he ρ h1 h2 h3)
def cg(e:IE)(f:Int->Out):List Int->Out
 | []=> .bad (.num 300)
 |n::l=>
  match l with
  | []=>f n
  |m::l=> .split (.eq e (.lit n)) (f n) (cg e f (m::l))
theorem iA{ρ:Env}{e:IE}{f:Int->Out}: ∀ {l:List Int},e.ev ρ∈l->(cg e f l).pick ρ=(f (e.ev ρ)).pick ρ:=by
 intro l
 induction l with
 |nil=>intro h; cases h
 |cons n l ih=>
  intro h;cases l with
  |nil=>
   have:e.ev ρ=n:=by simpa using h
   rw [this];rfl
  |cons m l=>
   show aS (decide (e.ev ρ=n)) ((f n).pick ρ) ((cg e f (m::l)).pick ρ)=_
   by_cases hn:e.ev ρ=n
   ·rw [decide_eq_true hn,hn]; rfl
   ·rw [decide_eq_false hn]
    rcases List.mem_cons.1 h with h |h
    ·exact absurd h hn
    ·exact ih h
def aj(e:IE)(f:Int->Out)(p:Int->Dec->aM->ASt->Bool)(base:Dec)(l:List Int):Bool:=l.all fun n=>(f n).all (p n) ((.eq e (.lit n),true)::base)
theorem bW{ρ:Env}{e:IE}{f:Int->Out}{p:Int->Dec->aM->ASt->Bool}{base:Dec}{l:List Int}(h:aj e f p base l=true)(hm:e.ev ρ∈l)(hb:base.holds ρ): ∃x s dec',Dec.holds ρ dec'/\(cg e f l).pick ρ=some (x,s)/\p (e.ev ρ) dec' x s=true:=by
 have:=List.all_eq_true.1 h _ hm;obtain ⟨x,s,dec',h1,h2,h3⟩:=Out.bP (aR hb (t:= .eq e (.lit (e.ev ρ))) (v:=true) (decide_eq_true rfl)) this;exact ⟨x,s,dec',h1,(iA hm).trans h2,h3⟩
def Con.pf(c:Con)(P:Program)(K:Int->Know)(L:Nat)(pol:FuncId->Nat->Bool)(pure:FuncId->Bool)(d:Nat)(facts:Dec)(e:IE)(n:Int):Out:=c.tree P (K n) L pol pure d ((.eq e (.lit n),true)::facts)
theorem Con.mS(mixed:P.follows .mixedOrders=true){K:Int->Know}{l:List Int}(hK: ∀n∈l,(K n).Ok P G GH){L:Nat}{pol:FuncId->Nat->Bool}{pure:FuncId->Bool}{d:Nat}{facts:Dec}(hf: ∀ρ:Env,ρ.std G GH->ρ.ok (bdL c.bds)->c.pre.holds ρ->facts.holds ρ){e:IE}
 (hm: ∀ρ:Env,ρ.std G GH->ρ.ok (bdL c.bds)->c.pre.holds ρ->e.ev ρ∈l) (h:c.Leaves G GH (cg e (c.pf P K L pol pure d facts e) l)):c.Ok P G GH:=by
 refine Con.Bn fun ρ h1 h2 h3=> ?_
 obtain ⟨x,s,at',q,p1,p2,p3⟩:=h ρ h1 h2 h3;rw [iA (hm ρ h1 h2 h3)] at p1;exact ⟨s,at',q,Con.dJ mixed (hK _ (hm ρ h1 h2 h3)) h1 h2 h3 (facts:=(.eq e (.lit (e.ev ρ)),true)::facts) (aR (hf ρ h1 h2 h3) (decide_eq_true rfl)) p1,p2,p3⟩
theorem Con.kr{F:Fns}(hk:7<F.KR/\7<F.KV){ρ:Env}(h2:ρ.ok (bdL c.bds)){o:Out}(hF:F.Def ρ.g (c.rows F o)){e:aM}{s:ASt}{dec':Dec}(p1:o.pick ρ=some (e,s))(p2:c.ao F dec' e s=true): ∃q,c.ef s=some q/\q.hold ρ:=by
 have hF:=hF ρ rfl;rw [Con.zR p1] at hF;unfold Con.ao at p2;split at p2
 ·rename_i q hq;refine ⟨q,hq,?_⟩;unfold Con.rows at hF;rw [hq] at hF;cases e with
  |normal=>
   simp only at p2 hF;split at p2
   ·rename_i X hX;rw [hX] at hF;exact wO hk h2 hF p2
   ·cases p2
  |exit i=>exact jV h2 hk hF (fun i p hp hne=>by rw [Nat.zero_add]; exact n5 hp hne) p2
  |ret=>exact jV h2 hk hF (fun i p hp hne=>by rw [Nat.zero_add]; exact n5 hp hne) p2
 ·cases p2
theorem Con.RA{facts:Dec}(hf: ∀ρ:Env,ρ.std G GH->ρ.ok (bdL c.bds)->c.pre.holds ρ->facts.holds ρ){F:Fns}(hk:7<F.KR/\7<F.KV){e:IE}{l:List Int}(hm: ∀ρ:Env,ρ.std G GH->ρ.ok (bdL c.bds)->c.pre.holds ρ->e.ev ρ∈l){f:Int->Out}
 (h:aj e f (fun _=>c.ao F) (facts++c.pre) l=true) (hG:F.Def G (c.rows F (cg e f l))):c.Leaves G GH (cg e f l):=by
 intro ρ h1 h2 h3;obtain ⟨x,s,dec',hd',p1,p2⟩:=bW h (hm ρ h1 h2 h3) (bJ (hf ρ h1 h2 h3) h3);obtain ⟨q,q1,q2⟩:=Con.kr hk h2 (by rw [h1.1]; exact hG) p1 p2
 exact ⟨x,s,_,q,p1,q1,q2⟩
theorem Con.IZ{c':Con}{facts:Dec}(hf: ∀ρ:Env,ρ.std G GH->ρ.ok (bdL c.bds)->c.pre.holds ρ->facts.holds ρ){e:IE}{l:List Int}(hm: ∀ρ:Env,ρ.std G GH->ρ.ok (bdL c.bds)->c.pre.holds ρ->e.ev ρ∈l){e':IE}(he: ∀ρ:Env,ρ.std G GH->ρ.ok (bdL c.bds)->c.pre.holds ρ->e'.ev ρ=e.ev ρ){f f':Int->Out}
 (ho: ∀ρ:Env,ρ.std G GH->ρ.ok (bdL c.bds)->c.pre.holds ρ-> ∃x s q,(cg e f l).pick ρ=some (x,s)/\c'.ef s=some q/\q.hold ρ)
 (h:aj e' f' (fun n=>c.cQ c'.ef (f n)) (facts++c.pre) l=true):c.Leaves G GH (cg e' f' l):=by
 intro ρ h1 h2 h3;obtain ⟨x,s,dec',hd',p1,p2⟩:=bW h (by rw [he ρ h1 h2 h3]; exact hm ρ h1 h2 h3) (bJ (hf ρ h1 h2 h3) h3)
 unfold Con.cQ at p2;split at p2
 ·rename_i q hq;refine ⟨x,s,_,q,p1,hq,nq h2 hd' p2 fun x' s' m hp hs'=> ?_⟩
  rw [he ρ h1 h2 h3] at hp;obtain ⟨x2,s2,q2,a1,a2,a3⟩:=ho ρ h1 h2 h3;rw [iA (hm ρ h1 h2 h3),hp] at a1;cases a1;rw [hs'] at a2;cases a2;exact a3
 ·cases p2
end
def rn:Nat->List (Fns×Nat)->Bool
 |_,[]=>true
 |lo,(F,K)::l=>Nat.ble lo K&&(Nat.blt KP K&&(Nat.ble K F.KR&&(Nat.ble K F.KV&&(!(Nat.beq F.KR F.KV)&&rn (Nat.succ (Nat.max F.KR F.KV)) l))))
theorem uA: ∀(l:List (Fns×RT×Nat)) (lo:Nat) (G:Nat->Int->Int->Int->Int),gg G->rn lo (l.map fun x=>(x.1,x.2.2))=true->(∀ x∈l,x.2.1.only (bR x.1.vars) x.2.2=true)->
 ∃G',(∀ c,(∀ x∈l,c≠x.1.KR/\c≠x.1.KV)->G' c=G c)/\(∀ c,c<lo->G' c=G c)/\gg G'/\ ∀x∈l,x.1.Def G' x.2.1
 | [],_,G,hP,_,_=>⟨G,fun _ _=>rfl,fun _ _=>rfl,hP,fun x hx=>by cases hx⟩
 | (F,t,K)::l,lo,G,hP,hc,ho=>by
   have hc':(Nat.ble lo K&&(Nat.blt KP K&&(Nat.ble K F.KR&&(Nat.ble K F.KV&&(!(Nat.beq F.KR F.KV)&&rn (Nat.succ (Nat.max F.KR F.KV)) (l.map fun x=>(x.1,x.2.2)))))))=true:=hc
   simp only [Bool.and_eq_true,Bool.not_eq_true'] at hc';obtain ⟨c1,c2,c3,c4,c5,c6⟩:=hc';have c1:lo<=K:=Nat.le_of_ble_eq_true c1;have c2:KP<K:=Nat.le_of_ble_eq_true c2;have c3:K<=F.KR:=Nat.le_of_ble_eq_true c3;have c4:K<=F.KV:=Nat.le_of_ble_eq_true c4;have c5:F.KR≠F.KV:=fun h=>by rw [h,Nat.beq_refl] at c5; cases c5
   obtain ⟨G1,a1,d1⟩:=Fns.H8 F G hP t K ⟨c2,c3,c4,c5⟩ (ho (F,t,K) (List.mem_cons_self ..))
   have p1:gg G1:=fun x y z=>by
    rw [a1 KP (by omega) (by omega)]
    exact hP x y z
   obtain ⟨G2,a2,b2,p2,d2⟩:=uA l _ G1 p1 c6 (fun x hx=>ho x (List.mem_cons_of_mem _ hx))
   have e: ∀c,c<=F.KR\/c<=F.KV->G2 c=G1 c:=fun c h=>b2 c (by
    have m1:F.KR<=Nat.max F.KR F.KV:=Nat.le_max_left F.KR F.KV;have m2:F.KV<=Nat.max F.KR F.KV:=Nat.le_max_right F.KR F.KV;omega)
   refine ⟨G2,fun c h=> ?_,fun c h=> ?_,p2,fun x hx=> ?_⟩
   ·rw [a2 c fun x hx=>h x (List.mem_cons_of_mem _ hx)]
    exact a1 c (h (F,t,K) (List.mem_cons_self ..)).1 (h (F,t,K) (List.mem_cons_self ..)).2
   ·rw [e c (by omega)]
    exact a1 c (by omega) (by omega)
   ·rcases List.mem_cons.1 hx with rfl |hx
    ·exact Fns.Def.mono p1 d1 (ho (F,t,K) (List.mem_cons_self ..)) c2 (fun c h=>e c (by have h':c<K:=h; omega)) (e _ (.inl (Nat.le_refl _))) (e _ (.inr (Nat.le_refl _)))
    ·exact d2 x hx
theorem Con.X2{P:Program}{G:Nat->Int->Int->Int->Int}{GH:Nat->bz}{c c':Con}(hg:c.g=c'.g)(ho:c.os=c'.os)(ho':c.os'=c'.os')(h:c.Ok P G GH)
 (hk: ∀ρ:Env,ρ.std G GH->ρ.ok (bdL c'.bds)->c'.pre.holds ρ->ρ.ok (bdL c.bds)/\c.pre.holds ρ/\(∀ f a,az ρ f c'.args a->az ρ f c.args a)/\ ∀f v,ai ρ f c.res v->ai ρ f c'.res v):c'.Ok P G GH:=by
 intro ρ h1 h2 h3 B W f w args' hr ha hn;obtain ⟨k1,k2,k3,k4⟩:=hk ρ h1 h2 h3;have hx:=h ρ h1 k1 k2 B W f w args' (by rw [ho]; exact hr) (k3 f args' ha) (by rw [ho]; exact hn)
 rw [hg] at hx;refine dh P c'.g _ _ _ _ hx fun v w ⟨f',q1,q2,q3,q4⟩=>⟨f',q1,?_,?_,k4 f' v q4⟩
 ·rw [<- ho,<-ho']; exact q2
 ·rw [<- ho']; exact q3
theorem Con.jJ{P:Program}(mixed:P.follows .mixedOrders=true){G:Nat->Int->Int->Int->Int}{GH:Nat->bz}{K:Know}(hK:K.Ok P G GH){c:Con}{L:Nat}{pol:FuncId->Nat->Bool}{pure:FuncId->Bool}{d k:Nat}{facts:Dec}{obs:List (Dec×IE×IE)}{ρ:Env}(h1:ρ.std G GH)(h2:ρ.ok (bdL c.bds))(h3:c.pre.holds ρ)(hf:facts.holds ρ)(ho:fC ρ obs)
 (h:(c.tree P K L pol pure d facts).all (c.leaf (qX (bdL c.bds) k obs)) (facts++c.pre)=true):c.vb (mw P c.g) ρ:=by
 obtain ⟨e,s,dec',hd',p1,p2⟩:=Out.bP (bJ hf h3) h;unfold Con.leaf at p2;split at p2
 ·rename_i q hq;exact Con.ig (dh P c.g) (fun B W=>(Con.dJ mixed hK h1 h2 h3 hf p1 B W).toR) hq (f7 (fun a b hab=>uv h2 hd' ho hab) p2)
 ·cases p2
end
end Go.Sx
namespace Go.Sx
open Go.RowKit (Below)
noncomputable section
def pJ(w:World)(b o:Nat)(k:IntKind)(n:Nat)(D:Nat->Int):Prop:= ∃cs el fr,w.heap[b]? =some (.cells cs el fr)/\(∀ j,j<cs.size-> ¬(fr.1<=j/\j<fr.2))/\ ∀j,j<n->cs[o+j]? =some (.int k (D j))
theorem pJ.cO{w w':World}{b o n:Nat}{k:IntKind}{D:Nat->Int}(h:pJ w b o k n D)(he:w'.heap[b]? =w.heap[b]?):pJ w' b o k n D:=by
 obtain ⟨cs,el,fr,h1,h2⟩:=h;exact ⟨cs,el,fr,he.trans h1,h2⟩
structure Refs where
 ho:Nat
 db:Nat
 dO:Nat
 rb:Nat
 rO:Nat
 ib:Nat
 iO:Nat
structure j4 (el:TypeId) (M:Int) (w:World) (g:Nat) (R:Refs):Prop where
 ok:bn M
 head: ∃cs fr cd cr ci,w.heap[g]? =some (.cells cs el fr)/\cs[R.ho+0]? =some (.slice (some ⟨R.db,R.dO,none⟩) (256*(mN M).toNat) cd)/\256*(mN M).toNat<=cd/\cs[R.ho+4]? =some (.slice (some ⟨R.rb,R.rO,none⟩) (mN M).toNat cr)/\(mN M).toNat<=cr/\cs[R.ho+5]? =some (.bool (aP M))/\
  cs[R.ho+1]? =some (match aP M with |true=> .slice none 0 0 |false=> .slice (some ⟨R.ib,R.iO,none⟩) (256*(mN M).toNat) ci)/\256*(mN M).toNat<=ci
 data:pJ w R.db R.dO .u8 (256*(mN M).toNat) (mD M)
 rights:pJ w R.rb R.rO .i64 (mN M).toNat (mR M)
 image:aP M=false->pJ w R.ib R.iO .u8 (256*(mN M).toNat) (mC M)
 gd:g≠R.db/\g≠R.rb/\R.db≠R.rb
 gi:aP M=false->g≠R.ib/\R.db≠R.ib/\R.rb≠R.ib
def jx(M:Int)(g:Nat)(R:Refs)(b:Nat):Prop:=b=g\/b=R.db\/b=R.rb\/(aP M=false/\b=R.ib)
section
variable{el:TypeId}{M M':Int}{w w':World}{g:Nat}{R R':Refs}
theorem iT{b:Nat}{O:Obj}(h:w.heap[b]? =some O):b<w.heap.size:=(Array.getElem?_eq_some_iff.1 h).1
theorem j4.inb(h:j4 el M w g R){b:Nat}(hb:jx M g R b):b<w.heap.size:=by
 rcases hb with rfl |rfl |rfl | ⟨hc,rfl⟩
 ·obtain ⟨cs,fr,cd,cr,ci,h1,_⟩:=h.head;exact iT h1
 ·obtain ⟨cs,e,fr,h1,_⟩:=h.data;exact iT h1
 ·obtain ⟨cs,e,fr,h1,_⟩:=h.rights;exact iT h1
 ·obtain ⟨cs,e,fr,h1,_⟩:=h.image hc;exact iT h1
theorem j4.cO(h:j4 el M w g R)(he: ∀b,jx M g R b->w'.heap[b]? =w.heap[b]?):j4 el M w' g R:=by
 obtain ⟨cs,fr,cd,cr,ci,h1,h2⟩:=h.head;exact ⟨h.ok,⟨cs,fr,cd,cr,ci,(he _ (.inl rfl)).trans h1,h2⟩,h.data.cO (he _ (.inr (.inl rfl))),h.rights.cO (he _ (.inr (.inr (.inl rfl)))),fun hc=>(h.image hc).cO (he _ (.inr (.inr (.inr ⟨hc,rfl⟩)))),h.gd,h.gi⟩
theorem j4.same(h:j4 el M w g R)(k:j4 el M' w g R')(ho:R'.ho=R.ho){b:Nat}(hb:jx M' g R' b):jx M g R b:=by
 obtain ⟨cs,fr,cd,cr,ci,h1,h2,_,h4,_,h6,h7,_⟩:=h.head;obtain ⟨cs',fr',cd',cr',ci',k1,k2,_,k4,_,k6,k7,_⟩:=k.head;rw [h1] at k1;cases k1;rw [ho] at k2 k4 k6 k7;have ed:R'.db=R.db:=(Addr.mk.inj (Option.some.inj (Value.slice.inj (Option.some.inj (k2.symm.trans h2))).1)).1;have er:R'.rb=R.rb:=(Addr.mk.inj (Option.some.inj (Value.slice.inj (Option.some.inj (k4.symm.trans h4))).1)).1;have ec:aP M'=aP M:=Value.bool.inj (Option.some.inj (k6.symm.trans h6))
 rcases hb with rfl |rfl |rfl | ⟨hc,rfl⟩
 ·exact .inl rfl
 ·exact .inr (.inl ed)
 ·exact .inr (.inr (.inl er))
 ·rw [hc] at k7;rw [ec] at hc;rw [hc] at h7;exact .inr (.inr (.inr ⟨hc,(Addr.mk.inj (Option.some.inj (Value.slice.inj (Option.some.inj (k7.symm.trans h7))).1)).1⟩))
end
def dk(el:TypeId):bz where
 rel vs w g o:= ∃M R,vs=[M]/\j4 el M w g R/\R.ho=o
 aZ w g o b:= ∃M R,j4 el M w g R/\R.ho=o/\jx M g R b
 hd:=6
 self:=fun ⟨M,R,_,h,ho⟩=>⟨M,R,h,ho,.inl rfl⟩
 inb:=fun _ ⟨M,R,h,_,hb⟩=>h.inb hb
 frame:=fun ⟨M,R,e,h,ho⟩ hs he=>by
  have h':=h.cO fun b hb=>he b ⟨M,R,h,ho,hb⟩
  exact ⟨⟨M,R,e,h',ho⟩,fun b ⟨M',R',k,ko,hb⟩=>⟨M,R,h,ho,h'.same k (ko.trans ho.symm) hb⟩⟩
 stay:=by
  intro vs w g o cs e fr j v ⟨M,R,ev,h,ho⟩ hg hj;have other: ∀b,g≠b->(w.setCell ⟨g,j,none⟩ v).heap[b]? =w.heap[b]? :=fun b hb=>Below.heap_setCell _ _ _ _ (Ne.symm hb)
  have h':j4 el M (w.setCell ⟨g,j,none⟩ v) g R:=by
   refine ⟨h.ok,?_,h.data.cO (other _ h.gd.1),h.rights.cO (other _ h.gd.2.1),fun hc=>(h.image hc).cO (other _ (h.gi hc).1),h.gd,h.gi⟩
   obtain ⟨cs',fr',cd,cr,ci,h1,h2,h3,h4,h5,h6,h7,h8⟩:=h.head;rw [h1] at hg;cases hg;have st: ∀i,i<6->(cs.setIfInBounds j v)[R.ho+i]? =cs[R.ho+i]? :=fun i hi=>Array.getElem?_setIfInBounds_ne (by omega)
   exact ⟨_,fr,cd,cr,ci,bQ w g j cs _ fr v h1,(st 0 (by decide)).trans h2,h3,(st 4 (by decide)).trans h4,h5,(st 5 (by decide)).trans h6,(st 1 (by decide)).trans h7,h8⟩
  exact ⟨⟨M,R,ev,h',ho⟩,fun b ⟨M',R',k,ko,hb⟩=>⟨M,R,h,ho,h'.same k (ko.trans ho.symm) hb⟩⟩
def dW:IE:= .mul nE (.lit 256)
def abg(coh:Bool):ab:=match coh with
 |true=> .slice none 0 0 0
 |false=> .sliceS 3 (.lit 0) dW 1 false
def vk(coh:Bool):T ab:=(((T.nil.set 0 (.sliceS 1 (.lit 0) dW 1 false)).set 1 (abg coh)).set 4 (.sliceS 2 (.lit 0) nE 1 false)).set 5 (.bool (.lit coh))
theorem DM{coh:Bool}{k:Nat}{v:ab}(h:(vk coh).get k=some v):(k=0/\v= .sliceS 1 (.lit 0) dW 1 false)\/(k=1/\v=abg coh)\/(k=4/\v= .sliceS 2 (.lit 0) nE 1 false)\/(k=5/\v= .bool (.lit coh)):=by
 unfold vk at h
 rcases T.aB h with ⟨e,h⟩ | ⟨_,h⟩
 ·exact .inr (.inr (.inr ⟨e,h.symm⟩))
 rcases T.aB h with ⟨e,h⟩ | ⟨_,h⟩
 ·exact .inr (.inr (.inl ⟨e,h.symm⟩))
 rcases T.aB h with ⟨e,h⟩ | ⟨_,h⟩
 ·exact .inr (.inl ⟨e,h.symm⟩)
 rcases T.aB h with ⟨e,h⟩ | ⟨_,h⟩
 ·exact .inl ⟨e,h.symm⟩
 ·rw [T.get_nil] at h; cases h
def Yh(coh:Bool)(x:IE):List ah:=match coh with
 |true=>[]
 |false=>[.arr [.u8] x dW true]
def fw(el:TypeId)(coh:Bool)(De Re Ce:IE):List ah:= .cells (vk coh) el false 6:: .arr [.u8] De dW true:: .arr [.i64] Re nE true::Yh coh Ce
def nr(coh:Bool):Dec:=[(.lt nE (.lit 0),false),(.lt (.lit 4096) nE,false),(iQ,coh)]
structure bN (M M' De Re Ce:Int):Prop where
 ok:bn M'
 n:mN M'=mN M
 coh:aP M'=aP M
 d: ∀j:Nat,j<256*(mN M).toNat->mD M' j=ag De j
 r: ∀j:Nat,j<(mN M).toNat->mR M' j=ag Re j
 c:aP M=false-> ∀j:Nat,j<256*(mN M).toNat->mC M' j=ag Ce j
theorem bn.byte{M:Int}(h:bn M){j:Nat}(hj:j<256*(mN M).toNat):isByte (mD M j)/\(aP M=false->isByte (mC M j)):=by
 have e:256*(j / 256)+j % 256=j:=Nat.div_add_mod j 256;have h1:=h.d (j / 256) (j % 256) (by omega) (Nat.mod_lt _ (by decide))
 rw [e] at h1;refine ⟨h1,fun hc=> ?_⟩
 have h2:=h.c hc (j / 256) (j % 256) (by omega) (Nat.mod_lt _ (by decide))
 rwa [e] at h2
theorem dv{M:Int}{j:Nat}(hj:j<256*(mN M).toNat):ag (gN M) j=mD M j:=cP _ j _ (by simp [hj]) (gU _ _)
theorem fg{M:Int}{j:Nat}(hj:j<256*(mN M).toNat):ag (ql M) j=mC M j:=cP _ j _ (by simp [hj]) (gU _ _)
theorem fK{M:Int}{j:Nat}(hj:j<(mN M).toNat):ag (qe M) j=mR M j:=cP _ j _ (by simp [hj]) (gU _ _)
theorem bN.refl{M:Int}(h:bn M):bN M M (gN M) (qe M) (ql M):=⟨h,rfl,rfl,fun _ hj=>(dv hj).symm,fun _ hj=>(fK hj).symm,fun _ _ hj=>(fg hj).symm⟩
theorem GO{el:TypeId}{coh:Bool}{De Re Ce:IE}{x:Nat}{o:ah}(h:(fw el coh De Re Ce)[x]? =some o):(x=0/\o= .cells (vk coh) el false 6)\/(x=1/\o= .arr [.u8] De dW true)\/(x=2/\o= .arr [.i64] Re nE true)\/(x=3/\coh=false/\o= .arr [.u8] Ce dW true):=by
 match x,h with
 |0,h=>cases h; exact .inl ⟨rfl,rfl⟩
 |1,h=>cases h; exact .inr (.inl ⟨rfl,rfl⟩)
 |2,h=>cases h; exact .inr (.inr (.inl ⟨rfl,rfl⟩))
 |x+3,h=>
  cases coh with
  |true=>cases h
  |false=>
   match x,h with
   |0,h=>cases h; exact .inr (.inr (.inr ⟨rfl,rfl,rfl⟩))
   |x+1,h=>cases h
theorem px{el:TypeId}{coh:Bool}{De Re Ce:IE}:(fw el coh De Re Ce).length=match coh with |true=>3 |false=>4:=by cases coh<;>rfl
def d14:IE:= .fn 14 (.var 0) (.lit 0) (.lit 0)
def d15:IE:= .fn 15 (.var 0) (.lit 0) (.lit 0)
def d16:IE:= .fn 16 (.var 0) (.lit 0) (.lit 0)
def sR(c:Con)(el:TypeId)(coh:Bool)(De Re Ce:IE):Con:={c with os:=fw el coh d14 d16 d15,pre:=nr coh++c.pre,os':=fw el coh De Re Ce}
section
variable{P:Program}{G:Nat->Int->Int->Int->Int}{GH:Nat->bz}
set_option maxHeartbeats 2000000 in
theorem ry{el:TypeId}{k:Nat}{c:Con}{Me':IE}(hk:GH k=dk el)(hG: ∀M y z,G 14 M y z=gN M/\G 15 M y z=ql M/\G 16 M y z=qe M)
 (c0:c.os=[.ghost k [.var 0] .nil]) (c1:c.os'=[.ghost k [Me'] .nil]) (cr:c.res.free=true) (ca:c.args.head? =some (.ptr (some (0,0))))
 (hin: ∀(coh:Bool) (ρ:Env),ρ.std G GH->ρ.ok (bdL c.bds)->Dec.holds ρ (nr coh++c.pre)->bn (ρ.i 0)->aP (ρ.i 0)=coh-> ∃De Re Ce:IE,(sR c el coh De Re Ce).vb (mw P c.g) ρ/\bN (ρ.i 0) (Me'.ev ρ) (De.ev ρ) (Re.ev ρ) (Ce.ev ρ)):c.Ok P G GH:=by
 intro ρ h1 hb hpre B W f w args' hr ha hn;have hgh:ρ.gh k=dk el:=by rw [h1.2]; exact hk
 have hlen:c.os.length=1:=by rw [c0]; rfl
 have hf1: ∀x,1<=x->f x=none:=fun x hx=>hn x (by omega)
 obtain ⟨L,hL⟩: ∃L,f 0=some L:=by
  have h0:c.args[0]? =some (.ptr (some (0,0))):=by
   rw [<- List.head?_eq_getElem?];exact ca
  obtain ⟨v,_,hv⟩:=ha.get h0;obtain ⟨L,hL,_⟩:=hv.eQ;exact ⟨L,hL⟩
 have hg:(aF c.os 0 T.nil).get 0=some (.ghost k [.var 0] .nil):=by
  rw [c0];exact aU [ah.ghost k [IE.var 0] .nil] 0 0 .nil _ rfl (by simp)
 obtain ⟨⟨hrel,hfB⟩,hb0,cs0,el0,fr0,q1,q2,q3,q4⟩:=hr.obj 0 L _ hL hg;rw [hgh] at hrel;obtain ⟨M,R,hM,hm,hho⟩:=hrel;have hM:ρ.i 0=M:=(List.cons.inj hM).1;subst hM;have hfoot: ∀b,jx (ρ.i 0) L.blk R b-> ¬B b:=fun b hb=>hfB b (by rw [hgh]; exact ⟨_,R,hm,hho,hb⟩)
 obtain ⟨cs,fr,cd,cr',ci,u1,u2,u3,u4,u5,u6,u7,u8⟩:=hm.head;obtain ⟨ds,de,df,x1,x2,x3⟩:=hm.data;obtain ⟨rs,re,rf,y1,y2,y3⟩:=hm.rights;obtain ⟨coh,hcoh⟩: ∃coh,aP (ρ.i 0)=coh:=⟨_,rfl⟩
 have hcl: ∃cl:Option Loc,(coh=true->cl=none)/\(coh=false-> ∃xs xe xf,cl=some ⟨R.ib,R.iO,xs.size⟩/\w.heap[R.ib]? =some (.cells xs xe xf)/\(∀ j,j<xs.size-> ¬(xf.1<=j/\j<xf.2))/\ ∀j,j<256*(mN (ρ.i 0)).toNat->xs[R.iO+j]? =some (.int .u8 (mC (ρ.i 0) j))):=by
  cases coh with
  |true=>exact ⟨none,fun _=>rfl,(fun h=>(by cases h))⟩
  |false=>
   obtain ⟨xs,xe,xf,z1,z2,z3⟩:=hm.image hcoh;exact ⟨some ⟨R.ib,R.iO,xs.size⟩,(fun h=>(by cases h)),fun _=>⟨xs,xe,xf,rfl,z1,z2,z3⟩⟩
 obtain ⟨cl,cl1,cl2⟩:=hcl;have gi:coh=false->L.blk≠R.ib/\R.db≠R.ib/\R.rb≠R.ib:=fun hc=>hm.gi (by rw [hcoh]; exact hc)
 let B':Nat->Prop:=fun b=>b<w.heap.size/\(B b\/b=L.blk)
 have hBB: ∀b,B b->B' b:=fun b hb=>⟨Nat.lt_of_lt_of_le (hr.bsize b hb) hr.below.size,.inl hb⟩
 have hBg:B' L.blk:=⟨iT u1,.inr rfl⟩;have nB': ∀b,jx (ρ.i 0) L.blk R b->b≠L.blk-> ¬B' b:=fun b hb hne h=>h.2.elim (hfoot b hb) hne
 let f2:Ren:=fun x=>match x with
  |0=>some L
  |1=>some ⟨R.db,R.dO,ds.size⟩
  |2=>some ⟨R.rb,R.rO,rs.size⟩
  |3=>cl
  |_=>none
 have hle:f.le f2:=by
  intro x M hx;cases x with
  |zero=>rw [hL] at hx; exact hx
  |succ x=>rw [hf1 _ (by omega)] at hx; cases hx
 have hN:nE.ev ρ=mN (ρ.i 0):=rfl;have hLn:dW.ev ρ=mN (ρ.i 0)*256:=rfl;have n0:=hm.ok.n.1;have ltE: ∀y:Nat,(y:Int)<dW.ev ρ->y<256*(mN (ρ.i 0)).toNat:=fun y hy=>by rw [hLn] at hy; omega
 have ltN: ∀y:Nat,(y:Int)<nE.ev ρ->y<(mN (ρ.i 0)).toNat:=fun y hy=>by rw [hN] at hy; omega
 have c14:d14.ev ρ=gN (ρ.i 0):=by
  show fnI ρ 14 (ρ.i 0) 0 0=_;rw [bY (by decide),h1.1,(hG _ _ _).1]
 have c15:d15.ev ρ=ql (ρ.i 0):=by
  show fnI ρ 15 (ρ.i 0) 0 0=_;rw [bY (by decide),h1.1,(hG _ _ _).2.1]
 have c16:d16.ev ρ=qe (ρ.i 0):=by
  show fnI ρ 16 (ρ.i 0) 0 0=_;rw [bY (by decide),h1.1,(hG _ _ _).2.2]
 have one: ∀ {k:IntKind} {d:Nat} {kd:IntKind} (y:Nat),[k][d]? =some kd->d=0/\kd=k/\y*[k].length+d=y:=by
  intro k d kd y hd
  match d,hd with
  |0,hd=>cases hd; exact ⟨rfl,rfl,by simp⟩
 have H2:au ρ B' w f2 (aF (fw el coh d14 d16 d15) 0 .nil) w:=by
  have get: ∀ {x:Nat} {o:ah},(aF (fw el coh d14 d16 d15) 0 T.nil).get x=some o->_:=fun {x o} h=>GO (x:=x) (o:=o) (iG h)
  have feet: ∀ {x:Nat} {o:ah} {M:Loc},(aF (fw el coh d14 d16 d15) 0 T.nil).get x=some o-> ∀b,o.aZ ρ w M b->b=M.blk:=by
   intro x o M h b hb
   rcases get h with ⟨_,rfl⟩ | ⟨_,rfl⟩ | ⟨_,rfl⟩ | ⟨_,_,rfl⟩<;>exact hb
  have lc: ∀ {M:Loc},coh=false->f2 3=some M->M.blk=R.ib:=by
   intro M hc hx;have hx:cl=some M:=hx;obtain ⟨xs,xe,xf,z0,_⟩:=cl2 hc;rw [z0] at hx;cases hx;rfl
  refine ⟨Kept.refl _ _,fun b hb=>hb.1,fun x M hx=> ?_,fun x y Mx My ox oy hx hy gx gy hxy hown b hbx hby=> ?_,fun x M o hx gx=> ?_⟩
  ·match x,hx with
   |0,hx=>cases hx; exact iT u1
   |1,hx=>cases hx; exact iT x1
   |2,hx=>cases hx; exact iT y1
   |3,hx=>
    have hx:cl=some M:=hx;cases hc:coh with
    |true=>rw [cl1 hc] at hx; cases hx
    |false=>
     obtain ⟨xs,xe,xf,z0,z1,_⟩:=cl2 hc;rw [z0] at hx;cases hx;exact iT z1
  ·have ex:=feet gx b hbx;have ey:=feet gy b hby;subst ex
   rcases get gx with ⟨rfl,rfl⟩ | ⟨rfl,rfl⟩ | ⟨rfl,rfl⟩ | ⟨rfl,hc,rfl⟩
   ·cases hown
   ·cases hx
    rcases get gy with ⟨rfl,rfl⟩ | ⟨rfl,rfl⟩ | ⟨rfl,rfl⟩ | ⟨rfl,hc,rfl⟩
    ·cases hy; exact hm.gd.1 ey.symm
    ·exact hxy rfl
    ·cases hy; exact hm.gd.2.2 ey
    ·rw [lc hc hy] at ey; exact (gi hc).2.1 ey
   ·cases hx
    rcases get gy with ⟨rfl,rfl⟩ | ⟨rfl,rfl⟩ | ⟨rfl,rfl⟩ | ⟨rfl,hc,rfl⟩
    ·cases hy; exact hm.gd.2.1 ey.symm
    ·cases hy; exact hm.gd.2.2 ey.symm
    ·exact hxy rfl
    ·rw [lc hc hy] at ey; exact (gi hc).2.2 ey
   ·rw [lc hc hx] at ey
    rcases get gy with ⟨rfl,rfl⟩ | ⟨rfl,rfl⟩ | ⟨rfl,rfl⟩ | ⟨rfl,_,rfl⟩
    ·cases hy; exact (gi hc).1 ey.symm
    ·cases hy; exact (gi hc).2.1 ey.symm
    ·cases hy; exact (gi hc).2.2 ey.symm
    ·exact hxy rfl
  ·rcases get gx with ⟨rfl,rfl⟩ | ⟨rfl,rfl⟩ | ⟨rfl,rfl⟩ | ⟨rfl,hc,rfl⟩
   ·cases hx
    have hsz:cs.size=L.sz:=by
     rw [u1] at q1;cases q1;exact q2
    have eD:(dW.ev ρ).toNat=256*(mN (ρ.i 0)).toNat:=by rw [hLn]; omega
    refine ⟨cs,fr,u1,hsz,(fun h=>(by cases h)),fun y v hv=> ?_⟩
    rcases DM hv with ⟨rfl,rfl⟩ | ⟨rfl,rfl⟩ | ⟨rfl,rfl⟩ | ⟨rfl,rfl⟩
    ·refine ⟨by decide,_,by rw [<- hho]; exact u2,?_⟩
     have:=ai.sliceS (ρ:=ρ) (f:=f2) (i:=1) (s:=1) (st:= .lit 0) (len:=dW) (nn:=false) (L:=⟨R.db,R.dO,ds.size⟩) (c:=cd) rfl (Int.le_refl 0) (by rw [hLn]; omega) (by rw [eD]; exact u3)
     rw [eD] at this;exact this
    ·refine ⟨by decide,_,by rw [<- hho]; exact u7,?_⟩
     rw [hcoh];cases hc:coh with
     |true=>exact .nilSlice
     |false=>
      obtain ⟨xs,xe,xf,z0,_⟩:=cl2 hc;have:=ai.sliceS (ρ:=ρ) (f:=f2) (i:=3) (s:=1) (st:= .lit 0) (len:=dW) (nn:=false) (L:=⟨R.ib,R.iO,xs.size⟩) (c:=ci) z0 (Int.le_refl 0) (by rw [hLn]; omega) (by rw [eD]; exact u8)
      rw [eD] at this;exact this
    ·refine ⟨by decide,_,by rw [<- hho]; exact u4,?_⟩
     exact ai.sliceS (ρ:=ρ) (f:=f2) (i:=2) (s:=1) (st:= .lit 0) (len:=nE) (nn:=false) (L:=⟨R.rb,R.rO,rs.size⟩) (c:=cr') rfl (Int.le_refl 0) (by rw [hN]; exact n0) (by rw [hN]; exact u5)
    ·refine ⟨by decide,_,by rw [<- hho]; exact u6,?_⟩
     rw [hcoh];exact .bool (.lit coh)
   ·cases hx;refine ⟨ds,de,df,x1,rfl,fun _=>⟨nB' _ (.inr (.inl rfl)) (Ne.symm hm.gd.1),x2⟩,fun y d kd hy hd=> ?_⟩
    obtain ⟨rfl,rfl,e1⟩:=one y hd;have hy:=ltE y hy;have hby:=(hm.ok.byte hy).1;rw [e1,c14,dv hy];exact ⟨x3 y hy,by show (0:Int)<=_; exact hby.1,by show _<=(255:Int); exact hby.2⟩
   ·cases hx;refine ⟨rs,re,rf,y1,rfl,fun _=>⟨nB' _ (.inr (.inr (.inl rfl))) (Ne.symm hm.gd.2.1),y2⟩,fun y d kd hy hd=> ?_⟩
    obtain ⟨rfl,rfl,e1⟩:=one y hd;have hy:=ltN y hy;have hby:=hm.ok.r y hy;rw [e1,c16,fK hy];exact ⟨y3 y hy,by show (-9223372036854775808:Int)<=_; omega,by show _<=(9223372036854775807:Int); omega⟩
   ·obtain ⟨xs,xe,xf,z0,z1,z2,z3⟩:=cl2 hc;have hx:cl=some M:=hx;rw [z0] at hx;cases hx;refine ⟨xs,xe,xf,z1,rfl,fun _=>⟨nB' _ (.inr (.inr (.inr ⟨by rw [hcoh]; exact hc,rfl⟩))) (Ne.symm (gi hc).1),z2⟩,fun y d kd hy hd=> ?_⟩
    obtain ⟨rfl,rfl,e1⟩:=one y hd;have hy:=ltE y hy;have hby:=(hm.ok.byte hy).2 (by rw [hcoh]; exact hc)
    rw [e1,c15,fg hy];exact ⟨z3 y hy,by show (0:Int)<=_; exact hby.1,by show _<=(255:Int); exact hby.2⟩
 have hn2: ∀x,(fw el coh d14 d16 d15).length<=x->f2 x=none:=by
  intro x hx;rw [px] at hx
  match x,hx with
  |x+4,_=>rfl
  |3,hx=>
   cases hc:coh with
   |true=>exact cl1 hc
   |false=>rw [hc] at hx; exact absurd hx (by decide)
  |0,hx=>cases coh<;>exact absurd hx (by decide)
  |1,hx=>cases coh<;>exact absurd hx (by decide)
  |2,hx=>cases coh<;>exact absurd hx (by decide)
 have hp2:Dec.holds ρ (nr coh++c.pre):=by
  refine bJ (aR (aR (aR (fun p hp=>by cases hp) (t:=iQ) (v:=coh) ?_) (t:= .lt (.lit 4096) nE) (v:=false) ?_) (t:= .lt nE (.lit 0)) (v:=false) ?_) hpre
  ·show decide (ag (ρ.i 0) (7:Nat)=1)=coh;exact hcoh
  ·exact decide_eq_false (by show ¬(4096:Int)<mN (ρ.i 0); have:=hm.ok.n.2; omega)
  ·exact decide_eq_false (by show ¬mN (ρ.i 0)<0; omega)
 obtain ⟨De,Re,Ce,hat,hx⟩:=hin coh ρ h1 hb hp2 hm.ok hcoh;refine Calls.mono (hat B' w f2 w args' H2 (ha.mono hle) hn2) fun e w3 ⟨v',e1,f3,e2,e3,e4,e5⟩=> ?_
 have cO: ∀b,B' b->w3.heap[b]? =w.heap[b]? :=e4.below.block;have ol:(fw el coh De Re Ce).length<=1000:=by rw [px]; cases coh<;>decide
 have tree: ∀(x:Nat) (o:ah),(fw el coh De Re Ce)[x]? =some o->o.dead=false->(je (fw el coh De Re Ce) 0 T.nil).get x=some o:=by
  intro x o hx hd;have:=f9 (fw el coh De Re Ce) 0 x .nil o hx hd (by omega)
  rwa [Nat.zero_add] at this
 obtain ⟨ds3,de3,df3,a1,a2,a3,a4⟩:=e4.obj 1 _ _ (e2 1 _ rfl) (tree 1 _ rfl rfl);obtain ⟨rs3,re3,rf3,b1,b2,b3,b4⟩:=e4.obj 2 _ _ (e2 2 _ rfl) (tree 2 _ rfl rfl);have ne:(mN (Me'.ev ρ)).toNat=(mN (ρ.i 0)).toNat:=by rw [hx.n]
 have hm':j4 el (Me'.ev ρ) w3 L.blk R:=by
  refine ⟨hx.ok,⟨cs,fr,cd,cr',ci,(cO _ hBg).trans u1,by rw [ne]; exact u2,by rw [ne]; exact u3,by rw [ne]; exact u4,by rw [ne]; exact u5,by rw [hx.coh]; exact u6,by rw [hx.coh,ne]; exact u7,by rw [ne]; exact u8⟩,?_,?_,fun hc=> ?_,hm.gd,fun hc=>hm.gi (by rw [<- hx.coh]; exact hc)⟩
  ·refine ⟨ds3,de3,df3,a1,by rw [a2]; exact (a3 rfl).2,fun j hj=> ?_⟩
   rw [ne] at hj;obtain ⟨t1,_⟩:=a4 j 0 .u8 (by rw [hLn]; omega) rfl
   have e:j*[IntKind.u8].length+0=j:=by simp
   rw [e,<-hx.d j hj] at t1;exact t1
  ·refine ⟨rs3,re3,rf3,b1,by rw [b2]; exact (b3 rfl).2,fun j hj=> ?_⟩
   rw [ne] at hj;obtain ⟨t1,_⟩:=b4 j 0 .i64 (by rw [hN]; omega) rfl
   have e:j*[IntKind.i64].length+0=j:=by simp
   rw [e,<-hx.r j hj] at t1;exact t1
  ·rw [hx.coh,hcoh] at hc;obtain ⟨xs,xe,xf,z0,z1,z2,z3⟩:=cl2 hc;obtain ⟨xs3,xe3,xf3,m1,m2,m3,m4⟩:=e4.obj 3 _ (.arr [.u8] Ce dW true) (e2 3 _ z0) (tree 3 _ (by rw [hc]; rfl) rfl)
   refine ⟨xs3,xe3,xf3,m1,by rw [m2]; exact (m3 rfl).2,fun j hj=> ?_⟩
   rw [ne] at hj;obtain ⟨t1,_⟩:=m4 j 0 .u8 (by rw [hLn]; omega) rfl
   have e:j*[IntKind.u8].length+0=j:=by simp
   rw [e,<-hx.c (by rw [hcoh]; exact hc) j hj] at t1
   exact t1
 have hg': ∀x o,(je c.os' 0 T.nil).get x=some o->x=0/\o= .ghost k [Me'] .nil:=by
  intro x o hx;rw [c1] at hx;have:=(ik hx).1
  match x,this with
  |0,this=>simp at this; exact ⟨rfl,this.symm⟩
  |x+1,this=>simp at this
 have nB: ∀b,jx (Me'.ev ρ) L.blk R b-> ¬B b:=by
  intro b hb
  rcases hb with rfl |rfl |rfl | ⟨hc,rfl⟩
  ·exact hfoot _ (.inl rfl)
  ·exact hfoot _ (.inr (.inl rfl))
  ·exact hfoot _ (.inr (.inr (.inl rfl)))
  ·exact hfoot _ (.inr (.inr (.inr ⟨by rw [<- hx.coh]; exact hc,rfl⟩)))
 refine ⟨v',e1,f,Ren.le_refl f,fun _ _=>rfl,⟨hr.below.trans (e4.below.mono hBB),hr.bsize,fun x M hx=>Nat.lt_of_lt_of_le (hr.lt x M hx) e4.below.size,fun x y Mx My ox oy hx hy gx gy hxy=> ?_,fun x M o hx gx=> ?_⟩,?_⟩
 ·exact absurd ((hg' x ox gx).1.trans (hg' y oy gy).1.symm) hxy
 ·obtain ⟨rfl,rfl⟩:=hg' x o gx;rw [hL] at hx;cases hx;refine ⟨⟨by rw [hgh]; exact ⟨_,R,rfl,hm',hho⟩,fun b hb=> ?_⟩,hb0,cs0,el0,fr0,(cO _ hBg).trans q1,q2,q3,q4⟩
  rw [hgh] at hb;obtain ⟨M2,R2,h2,ho2,h3⟩:=hb;exact nB b (hm'.same h2 (ho2.trans hho.symm) h3)
 ·exact e5.zx cr
theorem Hu{el:TypeId}{k:Nat}{c:Con}{Me' De Re Ce:IE}(hk:GH k=dk el)(hG: ∀M y z,G 14 M y z=gN M/\G 15 M y z=ql M/\G 16 M y z=qe M)
 (c0:c.os=[.ghost k [.var 0] .nil]) (c1:c.os'=[.ghost k [Me'] .nil]) (cr:c.res.free=true) (ca:c.args.head? =some (.ptr (some (0,0)))) (hin: ∀(coh:Bool) (ρ:Env),ρ.std G GH->ρ.ok (bdL c.bds)->(sR c el coh De Re Ce).pre.holds ρ->bn (ρ.i 0)->aP (ρ.i 0)=coh->(sR c el coh De Re Ce).vb (mw P c.g) ρ)
 (hnext: ∀ρ:Env,ρ.std G GH->ρ.ok (bdL c.bds)->c.pre.holds ρ->bn (ρ.i 0)->bN (ρ.i 0) (Me'.ev ρ) (De.ev ρ) (Re.ev ρ) (Ce.ev ρ)):c.Ok P G GH:=
 ry hk hG c0 c1 cr ca fun coh ρ h1 h2 h3 hm hc=>⟨De,Re,Ce,hin coh ρ h1 h2 h3 hm hc,hnext ρ h1 h2 (fun p hp=>h3 p (List.mem_append.2 (.inr hp))) hm⟩
end
def T.cO{α:Type}(p:α->Bool):T α->T α
 | .nil=> .nil
 | .node v l r=> .node (match v with
   |none=>none
   |some x=>match p x with
    |true=>some x
    |false=>none) (T.cO p l) (T.cO p r)
theorem T.ND{α:Type}(p:α->Bool): ∀(t:T α) (k:Nat) (y:α),(t.cO p).cw k=some y->t.cw k=some y/\p y=true:=by
 intro t
 induction t with
 |nil=>intro k y h; cases h
 |node v l r ihl ihr=>
  intro k y;simp only [T.cO,T.cw];cases Nat.beq k 0
  ·cases Nat.beq (k % 2) 1
   ·exact ihr _ y
   ·exact ihl _ y
  ·cases v with
   |none=>intro h; cases h
   |some x=>
    cases hp:p x
    ·intro h;simp only [hp] at h;cases h
    ·intro h;simp only [hp] at h;cases h;exact ⟨rfl,hp⟩
theorem T.QD{α:Type}{p:α->Bool}{t:T α}{k:Nat}{y:α}(h:(t.cO p).get k=some y):t.get k=some y/\p y=true:=by
 rw [T.get_eq] at h;have:=T.ND p t k y h;rw [<- T.get_eq] at this;exact this
theorem c9.aag{ρ:Env}{f:Ren}{B B':Nat->Prop}{w:World}{L:Loc}{o:ah}(h:c9 ρ f B w L o)(hB:o.own=true-> ∀b,o.aZ ρ w L b-> ¬B' b):c9 ρ f B' w L o:=by
 cases o with
 |cells c e ow t=>obtain ⟨cs,fr,q1,q2,q3,q4⟩:=h; exact ⟨cs,fr,q1,q2,fun ho=>⟨hB ho _ rfl,(q3 ho).2⟩,q4⟩
 |arr ks c n ow=>obtain ⟨cs,el,fr,q1,q2,q3,q4⟩:=h; exact ⟨cs,el,fr,q1,q2,fun ho=>⟨hB ho _ rfl,(q3 ho).2⟩,q4⟩
 |map es=>obtain ⟨q0,q1⟩:=h; exact ⟨hB rfl _ rfl,q1⟩
 |ghost k vs c=>exact ⟨⟨h.1.1,hB rfl⟩,h.2⟩
 |win i s c e ow=>obtain ⟨cs,fr,q1,q2,q3,q4⟩:=h; exact ⟨cs,fr,q1,q2,fun ho=>⟨hB ho _ rfl,(q3 ho).2⟩,q4⟩
 |col s c k code m d n=>exact h
 |it0=>exact h
def pkN(N:Nat):IE:= .lit (.ofNat N)
def pkL(N:Nat):IE:= .lit (.ofNat (Nat.mul 256 N))
def pkC(M:IE):BE:= .eq (.fn 0 M (.lit 7) (.lit 0)) (.lit 1)
def Wk(N:Nat)(coh:Bool)(b:Nat):ab:=match coh with
 |true=> .slice none 0 0 0
 |false=> .sliceS (b+2) (.lit 0) (pkL N) 1 false
def Cr(N:Nat)(coh:Bool)(b:Nat):T ab:=(((T.nil.set 0 (.sliceS b (.lit 0) (pkL N) 1 false)).set 1 (Wk N coh b)).set 4 (.sliceS (b+1) (.lit 0) (pkN N) 1 false)).set 5 (.bool (.lit coh))
theorem HH{N:Nat}{coh:Bool}{b k:Nat}{v:ab}(h:(Cr N coh b).get k=some v):(k=0/\v= .sliceS b (.lit 0) (pkL N) 1 false)\/(k=1/\v=Wk N coh b)\/(k=4/\v= .sliceS (b+1) (.lit 0) (pkN N) 1 false)\/(k=5/\v= .bool (.lit coh)):=by
 unfold Cr at h
 rcases T.aB h with ⟨e,h⟩ | ⟨_,h⟩
 ·exact .inr (.inr (.inr ⟨e,h.symm⟩))
 rcases T.aB h with ⟨e,h⟩ | ⟨_,h⟩
 ·exact .inr (.inr (.inl ⟨e,h.symm⟩))
 rcases T.aB h with ⟨e,h⟩ | ⟨_,h⟩
 ·exact .inr (.inl ⟨e,h.symm⟩)
 rcases T.aB h with ⟨e,h⟩ | ⟨_,h⟩
 ·exact .inl ⟨e,h.symm⟩
 ·rw [T.get_nil] at h; cases h
def pkF(c:Nat)(M:IE):IE:= .fn c M (.lit 0) (.lit 0)
def ZA(N:Nat)(M:IE)(coh:Bool):List ah:=match coh with
 |true=>[.arr [.u8] (pkF 14 M) (pkL N) false,.arr [.i64] (pkF 16 M) (pkN N) false]
 |false=>[.arr [.u8] (pkF 14 M) (pkL N) false,.arr [.i64] (pkF 16 M) (pkN N) false,.arr [.u8] (pkF 15 M) (pkL N) false]
def qg(N:Nat)(el:TypeId)(os:List ah)(i:Nat)(M:IE)(coh:Bool):List ah:=os.set i (.cells (Cr N coh os.length) el false 6)++ZA N M coh
def Con.zr(c:Con)(N:Nat)(el:TypeId)(i:Nat)(M:IE)(coh:Bool):Con:={c with os:=qg N el c.os i M coh,pre:=(pkC M,coh)::c.pre}
def ASt.xa(i k:Nat)(M:IE)(s:ASt):ASt:=⟨s.tm,(s.hp.cO ah.own).set i (.ghost k [M] .nil),s.nx⟩
theorem O3{N:Nat}{el:TypeId}{os:List ah}{i:Nat}{M:IE}{coh:Bool}{x:Nat}{o:ah}(hi:i<os.length)(h:(qg N el os i M coh)[x]? =some o):
 (x=i/\o= .cells (Cr N coh os.length) el false 6)\/(x<os.length/\x≠i/\os[x]? =some o)\/(x=os.length/\o= .arr [.u8] (pkF 14 M) (pkL N) false)\/(x=os.length+1/\o= .arr [.i64] (pkF 16 M) (pkN N) false)\/(x=os.length+2/\coh=false/\o= .arr [.u8] (pkF 15 M) (pkL N) false):=by
 unfold qg at h
 by_cases hx:x<os.length
 ·rw [List.getElem?_append_left (by simpa using hx),List.getElem?_set] at h
  by_cases e:i=x
  ·rw [if_pos e,if_pos (by omega)] at h
   cases h;exact .inl ⟨e.symm,rfl⟩
  ·rw [if_neg e] at h;exact .inr (.inl ⟨hx,fun h=>e h.symm,h⟩)
 ·rw [List.getElem?_append_right (by simpa using Nat.le_of_not_lt hx),List.length_set] at h
  obtain ⟨y,rfl⟩: ∃y,x=os.length+y:=⟨x-os.length,by omega⟩
  rw [Nat.add_sub_cancel_left] at h;cases coh with
  |true=>
   match y,h with
   |0,h=>cases h; exact .inr (.inr (.inl ⟨rfl,rfl⟩))
   |1,h=>cases h; exact .inr (.inr (.inr (.inl ⟨rfl,rfl⟩)))
   |y+2,h=>cases h
  |false=>
   match y,h with
   |0,h=>cases h; exact .inr (.inr (.inl ⟨rfl,rfl⟩))
   |1,h=>cases h; exact .inr (.inr (.inr (.inl ⟨rfl,rfl⟩)))
   |2,h=>cases h; exact .inr (.inr (.inr (.inr ⟨rfl,rfl,rfl⟩)))
   |y+3,h=>cases h
theorem mZ{N:Nat}{el:TypeId}{os:List ah}{i:Nat}{M:IE}{coh:Bool}:(qg N el os i M coh).length=os.length+match coh with |true=>2 |false=>3:=by
 unfold qg;rw [List.length_append,List.length_set];cases coh<;>rfl
section
variable{P:Program}{G:Nat->Int->Int->Int->Int}{GH:Nat->bz}
set_option maxHeartbeats 2000000 in
theorem L9{R:Bf}(hR:Eg R){ρ:Env}{k N:Nat}{el:TypeId}{os:List ah}{i:Nat}{M:IE}{coh:Bool}{args:List ab}{s:ASt}(hlen:os.length<1000000)
 (hgh:ρ.gh k=dk el) (hg:os[i]? =some (.ghost k [M] .nil)) (c14:(pkF 14 M).ev ρ=gN (M.ev ρ)) (c15:(pkF 15 M).ev ρ=ql (M.ev ρ)) (c16:(pkF 16 M).ev ρ=qe (M.ev ρ)) (hcoh:aP (M.ev ρ)=coh) (hNN:mN (M.ev ρ)=N)
 (hreach: ∀B W f w args',au ρ B W f (aF os 0 .nil) w->az ρ f args args'-> ∃L,f i=some L)
 (hgo: ∀B W,E7 R ρ B W args (aF (qg N el os i M coh) 0 .nil) (qg N el os i M coh).length s):
 ∀B W,E7 R ρ B W args (aF os 0 .nil) os.length (s.xa i k M):=by
 intro B W;have hi:i<os.length:=(List.getElem?_eq_some_iff.1 hg).1;have hnx:(qg N el os i M coh).length<=s.nx:=(hgo B W).1;have hl2:os.length+2<=(qg N el os i M coh).length:=by rw [mZ]; cases coh<;>simp
 refine ⟨by show os.length<=s.nx; omega,fun f w args' hr ha hfr=> ?_⟩
 have hfr: ∀j,os.length<=j->j<s.nx->f j=none:=hfr;obtain ⟨L,hL⟩:=hreach B W f w args' hr ha
 have tget: ∀ {l:List ah} {x:Nat} {o:ah},l[x]? =some o->l.length<1000010->(aF l 0 T.nil).get x=some o:=by
  intro l x o hx hlt;have:=aU l 0 x .nil o hx (by omega)
  rwa [Nat.zero_add] at this
 obtain ⟨⟨hrel,hfB⟩,hb0,cs0,el0,fr0,q1,q2,q3,q4⟩:=hr.obj i L _ hL (tget hg (by omega))
 have hgfoot: ∀b,(ah.ghost k [M] .nil).aZ ρ w L b ↔ (dk el).aZ w L.blk L.base b:=fun b=>by show (ρ.gh k).aZ w L.blk L.base b ↔ _; rw [hgh]
 rw [hgh] at hrel hfB;obtain ⟨Mv,Rf,hM,hm,hho⟩:=hrel;have hM:M.ev ρ=Mv:=(List.cons.inj hM).1;subst hM;have hinf: ∀b,jx (M.ev ρ) L.blk Rf b->(dk el).aZ w L.blk L.base b:=fun b hb=>⟨_,Rf,hm,hho,hb⟩
 have hfoot: ∀b,jx (M.ev ρ) L.blk Rf b-> ¬B b:=fun b hb=>hfB b (hinf b hb)
 obtain ⟨cs,fr,cd,cr',ci,u1,u2,u3,u4,u5,u6,u7,u8⟩:=hm.head;obtain ⟨ds,de,df,x1,x2,x3⟩:=hm.data;obtain ⟨rs,re,rf,y1,y2,y3⟩:=hm.rights
 have hcl: ∃cl:Option Loc,(coh=true->cl=none)/\(coh=false-> ∃xs xe xf,cl=some ⟨Rf.ib,Rf.iO,xs.size⟩/\w.heap[Rf.ib]? =some (.cells xs xe xf)/\ ∀j,j<256*(mN (M.ev ρ)).toNat->xs[Rf.iO+j]? =some (.int .u8 (mC (M.ev ρ) j))):=by
  cases coh with
  |true=>exact ⟨none,fun _=>rfl,(fun h=>(by cases h))⟩
  |false=>
   obtain ⟨xs,xe,xf,z1,z2,z3⟩:=hm.image hcoh;exact ⟨some ⟨Rf.ib,Rf.iO,xs.size⟩,(fun h=>(by cases h)),fun _=>⟨xs,xe,xf,rfl,z1,z3⟩⟩
 obtain ⟨cl,cl1,cl2⟩:=hcl
 let n:=os.length
 let B':Nat->Prop:=fun b=>b<w.heap.size/\(B b\/jx (M.ev ρ) L.blk Rf b)
 have hBB: ∀b,B b->B' b:=fun b hb=>⟨Nat.lt_of_lt_of_le (hr.bsize b hb) hr.below.size,.inl hb⟩
 have hBr: ∀b,jx (M.ev ρ) L.blk Rf b->B' b:=fun b hb=>⟨hm.inb hb,.inr hb⟩
 let f2:Ren:=fun x=>if x=n then some ⟨Rf.db,Rf.dO,ds.size⟩ else if x=n+1 then some ⟨Rf.rb,Rf.rO,rs.size⟩ else if x=n+2 then (match coh with |true=>f x |false=>cl) else f x
 have f2n:f2 n=some ⟨Rf.db,Rf.dO,ds.size⟩:=if_pos rfl;have f2n1:f2 (n+1)=some ⟨Rf.rb,Rf.rO,rs.size⟩:=by show (if n+1=n then _ else _)=_; rw [if_neg (by omega),if_pos rfl]
 have f2n2:coh=false->f2 (n+2)=cl:=fun hc=>by show (if n+2=n then _ else if n+2=n+1 then _ else _)=_; rw [if_neg (by omega),if_neg (by omega),if_pos rfl,hc]
 have f2o: ∀x,x≠n->x≠n+1->(coh=false->x≠n+2)->f2 x=f x:=fun x h1 h2 h3=>by
  show (if x=n then _ else if x=n+1 then _ else if x=n+2 then _ else _)=_
  rw [if_neg h1,if_neg h2]
  by_cases e:x=n+2
  ·rw [if_pos e];cases hc:coh with
   |true=>rfl
   |false=>exact absurd e (h3 hc)
  ·rw [if_neg e]
 have f2lt: ∀x,x<n->f2 x=f x:=fun x hx=>f2o x (by omega) (by omega) (fun _=>by omega)
 have hn2:coh=false->os.length+3<=s.nx:=fun hc=>by
  have h3:=hnx;rw [mZ,hc] at h3;exact h3
 have hle:f.le f2:=by
  intro x L' hx
  by_cases h:n<=x/\x<s.nx
  ·rw [hfr x h.1 h.2] at hx;cases hx
  ·rw [f2o x (by omega) (by omega) (fun hc=>by have:=hn2 hc; omega)]
   exact hx
 have hN:(pkN N).ev ρ=mN (M.ev ρ):=hNN.symm
 have hLn:(pkL N).ev ρ=mN (M.ev ρ)*256:=by
  rw [hNN];show ((256*N:Nat):Int)=(N:Int)*256;omega
 have n0:=hm.ok.n.1;have ltE: ∀y:Nat,(y:Int)<(pkL N).ev ρ->y<256*(mN (M.ev ρ)).toNat:=fun y hy=>by rw [hLn] at hy; omega
 have ltN: ∀y:Nat,(y:Int)<(pkN N).ev ρ->y<(mN (M.ev ρ)).toNat:=fun y hy=>by rw [hN] at hy; omega
 have one: ∀ {k:IntKind} {d:Nat} {kd:IntKind} (y:Nat),[k][d]? =some kd->d=0/\kd=k/\y*[k].length+d=y:=by
  intro k d kd y hd
  match d,hd with
  |0,hd=>cases hd; exact ⟨rfl,rfl,by simp⟩
 have H2:au ρ B' w f2 (aF (qg N el os i M coh) 0 .nil) w:=by
  have get: ∀ {x:Nat} {o:ah},(aF (qg N el os i M coh) 0 T.nil).get x=some o->_:=fun {x o} h=>O3 (x:=x) (o:=o) hi (iG h)
  have feet: ∀ {x:Nat} {o:ah} {K:Loc},(aF (qg N el os i M coh) 0 T.nil).get x=some o->f2 x=some K-> ¬(x<n/\x≠i)-> ∀b,o.aZ ρ w K b->jx (M.ev ρ) L.blk Rf b:=by
   intro x o K h hx hni b hb
   rcases get h with ⟨rfl,rfl⟩ | ⟨a1,a2,_⟩ | ⟨rfl,rfl⟩ | ⟨rfl,rfl⟩ | ⟨rfl,hc,rfl⟩
   ·rw [f2lt x hi,hL] at hx;cases hx;exact .inl hb
   ·exact absurd ⟨a1,a2⟩ hni
   ·rw [f2n] at hx;cases hx;exact .inr (.inl hb)
   ·rw [f2n1] at hx;cases hx;exact .inr (.inr (.inl hb))
   ·obtain ⟨xs,xe,xf,z0,_⟩:=cl2 hc;rw [f2n2 hc,z0] at hx;cases hx;exact .inr (.inr (.inr ⟨by rw [hcoh]; exact hc,hb⟩))
  have old: ∀ {x:Nat} {o:ah},(aF (qg N el os i M coh) 0 T.nil).get x=some o->x<n->x≠i->os[x]? =some o:=by
   intro x o h h1 h2
   rcases get h with ⟨rfl,_⟩ | ⟨_,_,a⟩ | ⟨rfl,_⟩ | ⟨rfl,_⟩ | ⟨rfl,_,_⟩
   ·exact absurd rfl h2
   ·exact a
   ·exact absurd h1 (Nat.lt_irrefl _)
   ·exact absurd h1 (by show ¬os.length+1<os.length; omega)
   ·exact absurd h1 (by show ¬os.length+2<os.length; omega)
  have away: ∀ {x:Nat} {o:ah} {K:Loc},os[x]? =some o->x≠i->f x=some K->o.own=true-> ∀b,o.aZ ρ w K b-> ¬jx (M.ev ρ) L.blk Rf b:=by
   intro x o K h1 h2 h3 h4 b hb hin;exact hr.apart x i K L o _ h3 hL (tget h1 (by omega)) (tget hg (by omega)) h2 h4 b hb ((hgfoot b).2 (hinf b hin))
  have ownOld: ∀ {x:Nat} {o:ah},(aF (qg N el os i M coh) 0 T.nil).get x=some o->o.own=true->x<n/\x≠i:=by
   intro x o h ho
   rcases get h with ⟨rfl,rfl⟩ | ⟨a1,a2,_⟩ | ⟨rfl,rfl⟩ | ⟨rfl,rfl⟩ | ⟨rfl,hc,rfl⟩
   ·cases ho
   ·exact ⟨a1,a2⟩
   ·cases ho
   ·cases ho
   ·cases ho
  refine ⟨Kept.refl _ _,fun b hb=>hb.1,fun x K hx=> ?_,fun x y Kx Ky ox oy hx hy gx gy hxy hown b hbx hby=> ?_,fun x K o hx gx=> ?_⟩
  ·by_cases e0:x=n
   ·subst e0; rw [f2n] at hx; cases hx; exact iT x1
   by_cases e1:x=n+1
   ·subst e1; rw [f2n1] at hx; cases hx; exact iT y1
   by_cases e2:coh=false/\x=n+2
   ·obtain ⟨hc,rfl⟩:=e2;obtain ⟨xs,xe,xf,z0,z1,_⟩:=cl2 hc;rw [f2n2 hc,z0] at hx;cases hx;exact iT z1
   rw [f2o x e0 e1 (fun hc h=>e2 ⟨hc,h⟩)] at hx
   exact hr.lt x K hx
  ·obtain ⟨a1,a2⟩:=ownOld gx hown;rw [f2lt x a1] at hx
   by_cases hy':y<n/\y≠i
   ·rw [f2lt y hy'.1] at hy;exact hr.apart x y Kx Ky ox oy hx hy (tget (old gx a1 a2) (by omega)) (tget (old gy hy'.1 hy'.2) (by omega)) hxy hown b hbx hby
   ·exact away (old gx a1 a2) a2 hx hown b hbx (feet gy hy hy' b hby)
  ·rcases get gx with ⟨rfl,rfl⟩ | ⟨a1,a2,a3⟩ | ⟨rfl,rfl⟩ | ⟨rfl,rfl⟩ | ⟨rfl,hc,rfl⟩
   ·rw [f2lt x hi,hL] at hx;cases hx
    have hsz:cs.size=L.sz:=by
     rw [u1] at q1;cases q1;exact q2
    have eD:((pkL N).ev ρ).toNat=256*(mN (M.ev ρ)).toNat:=by rw [hLn]; omega
    refine ⟨cs,fr,u1,hsz,(fun h=>(by cases h)),fun y v hv=> ?_⟩
    rcases HH hv with ⟨rfl,rfl⟩ | ⟨rfl,rfl⟩ | ⟨rfl,rfl⟩ | ⟨rfl,rfl⟩
    ·refine ⟨by decide,_,by rw [<- hho]; exact u2,?_⟩
     have:=ai.sliceS (ρ:=ρ) (f:=f2) (i:=n) (s:=1) (st:= .lit 0) (len:=pkL N) (nn:=false) (L:=⟨Rf.db,Rf.dO,ds.size⟩) (c:=cd) f2n (Int.le_refl 0) (by rw [hLn]; omega) (by rw [eD]; exact u3)
     rw [eD] at this;exact this
    ·refine ⟨by decide,_,by rw [<- hho]; exact u7,?_⟩
     rw [hcoh];cases hc:coh with
     |true=>exact .nilSlice
     |false=>
      obtain ⟨xs,xe,xf,z0,_⟩:=cl2 hc;have:=ai.sliceS (ρ:=ρ) (f:=f2) (i:=n+2) (s:=1) (st:= .lit 0) (len:=pkL N) (nn:=false) (L:=⟨Rf.ib,Rf.iO,xs.size⟩) (c:=ci) (by rw [f2n2 hc]; exact z0) (Int.le_refl 0) (by rw [hLn]; omega) (by rw [eD]; exact u8)
      rw [eD] at this;exact this
    ·refine ⟨by decide,_,by rw [<- hho]; exact u4,?_⟩
     have:=ai.sliceS (ρ:=ρ) (f:=f2) (i:=n+1) (s:=1) (st:= .lit 0) (len:=pkN N) (nn:=false) (L:=⟨Rf.rb,Rf.rO,rs.size⟩) (c:=cr') f2n1 (Int.le_refl 0) (by rw [hN]; exact n0) (by rw [hN]; exact u5)
     rw [hN] at this;exact this
    ·refine ⟨by decide,_,by rw [<- hho]; exact u6,?_⟩
     rw [hcoh];exact .bool (.lit coh)
   ·rw [f2lt x a1] at hx;refine ((hr.obj x K o hx (tget a3 (by omega))).mono hle).aag fun ho b hb hB=> ?_
    rcases hB.2 with h |h
    ·exact iD (hr.obj x K o hx (tget a3 (by omega))) ho b hb h
    ·exact away a3 a2 hx ho b hb h
   ·have hx:f2 n=some K:=hx;rw [f2n] at hx;cases hx;refine ⟨ds,de,df,x1,rfl,(fun h=>(by cases h)),fun y d kd hy hd=> ?_⟩
    obtain ⟨rfl,rfl,e1⟩:=one y hd;have hy:=ltE y hy;have hby:=(hm.ok.byte hy).1;rw [e1,c14,dv hy];exact ⟨x3 y hy,by show (0:Int)<=_; exact hby.1,by show _<=(255:Int); exact hby.2⟩
   ·have hx:f2 (n+1)=some K:=hx;rw [f2n1] at hx;cases hx;refine ⟨rs,re,rf,y1,rfl,(fun h=>(by cases h)),fun y d kd hy hd=> ?_⟩
    obtain ⟨rfl,rfl,e1⟩:=one y hd;have hy:=ltN y hy;have hby:=hm.ok.r y hy;rw [e1,c16,fK hy];exact ⟨y3 y hy,by show (-9223372036854775808:Int)<=_; omega,by show _<=(9223372036854775807:Int); omega⟩
   ·obtain ⟨xs,xe,xf,z0,z1,z3⟩:=cl2 hc;have hx:f2 (n+2)=some K:=hx;rw [f2n2 hc,z0] at hx;cases hx;refine ⟨xs,xe,xf,z1,rfl,(fun h=>(by cases h)),fun y d kd hy hd=> ?_⟩
    obtain ⟨rfl,rfl,e1⟩:=one y hd;have hy:=ltE y hy;have hby:=(hm.ok.byte hy).2 (by rw [hcoh]; exact hc)
    rw [e1,c15,fg hy];exact ⟨z3 y hy,by show (0:Int)<=_; exact hby.1,by show _<=(255:Int); exact hby.2⟩
 have hfr2:iF f2 (qg N el os i M coh).length s.nx:=by
  intro x hx hlt;have e3:=hx;rw [mZ] at e3;rw [f2o x (by show x≠os.length; omega) (by show x≠os.length+1; cases coh<;>simp at e3<;>omega) (fun hc=>by show x≠os.length+2; rw [hc] at e3; simp at e3; omega)]
  exact hfr x (by omega) hlt
 refine hR _ _ _ _ ((hgo B' w).2 f2 w args' H2 (ha.mono hle) hfr2) fun v' w3 ⟨f3,e2,e3,e4,e5⟩=> ?_
 have cO: ∀b,B' b->w3.heap[b]? =w.heap[b]? :=e4.below.block;have hm3:j4 el (M.ev ρ) w3 L.blk Rf:=hm.cO fun b hb=>cO b (hBr b hb)
 have hback: ∀b,(dk el).aZ w3 L.blk L.base b->jx (M.ev ρ) L.blk Rf b:=fun b ⟨M2,R2,h2,ho2,h3⟩=>hm3.same h2 (ho2.trans hho.symm) h3
 have f3i:f3 i=some L:=e2 i L (by rw [f2lt i hi]; exact hL)
 have cases2: ∀ {x:Nat} {o:ah},(s.xa i k M).hp.get x=some o->(x=i/\o= .ghost k [M] .nil)\/(x≠i/\s.hp.get x=some o/\o.own=true):=by
  intro x o h
  rcases T.aB h with ⟨a,b⟩ | ⟨a,b⟩
  ·exact .inl ⟨a,b.symm⟩
  ·exact .inr ⟨a,T.QD b⟩
 refine ⟨f3,Ren.le_trans hle e2,fun x hx=> ?_,⟨hr.below.trans (e4.below.mono hBB),hr.bsize,e4.lt,fun x y Kx Ky ox oy hx hy gx gy hxy hown b hbx hby=> ?_,fun x K o hx gx=> ?_⟩,e5⟩
 ·have hx:x<os.length\/s.nx<=x:=hx;rw [e3 x (by rcases hx with h |h; exact .inl (by omega); exact .inr h)]
  exact f2o x (by show x≠os.length; omega) (by show x≠os.length+1; omega) (fun hc=>by show x≠os.length+2; have:=hn2 hc; omega)
 ·rcases cases2 gx with ⟨rfl,rfl⟩ | ⟨a1,a2,a3⟩
  ·rcases cases2 gy with ⟨rfl,_⟩ | ⟨b1,b2,b3⟩
   ·exact hxy rfl
   ·rw [f3i] at hx;cases hx;have hbx:(ρ.gh k).aZ w3 L.blk L.base b:=hbx;rw [hgh] at hbx;exact iD (e4.obj y Ky oy hy b2) b3 b hby (hBr b (hback b hbx))
  ·rcases cases2 gy with ⟨rfl,rfl⟩ | ⟨b1,b2,b3⟩
   ·rw [f3i] at hy;cases hy;have hby:(ρ.gh k).aZ w3 L.blk L.base b:=hby;rw [hgh] at hby;exact iD (e4.obj x Kx ox hx a2) a3 b hbx (hBr b (hback b hby))
   ·exact e4.apart x y Kx Ky ox oy hx hy a2 b2 hxy a3 b hbx hby
 ·rcases cases2 gx with ⟨rfl,rfl⟩ | ⟨a1,a2,a3⟩
  ·rw [f3i] at hx;cases hx;refine ⟨⟨by rw [hgh]; exact ⟨_,Rf,rfl,hm3,hho⟩,fun b hb=> ?_⟩,hb0,cs0,el0,fr0,(cO _ (hBr _ (.inl rfl))).trans q1,q2,q3,fun j v hv=>by rw [T.get_nil] at hv; cases hv⟩
   rw [hgh] at hb;exact hfoot b (hback b hb)
  ·exact (e4.obj x K o hx a2).aag fun ho b hb hB=>iD (e4.obj x K o hx a2) ho b hb (hBB b hB)
theorem eG{ρ:Env}{B:Nat->Prop}{W w:World}{f:Ren}{os:List ah}{j i o x:Nat}{c:T ab}{e:TypeId}{ow:Bool}{t:Nat}{L:Loc}(hr:au ρ B W f (aF os 0 .nil) w)(hlen:os.length<1000000)(hj:f j=some L)(ho:os[j]? =some (.cells c e ow t))(hc:c.get x=some (.ptr (some (i,o)))): ∃L',f i=some L':=by
 have:=aU os 0 j .nil _ ho (by omega)
 rw [Nat.zero_add] at this;obtain ⟨cs,fr,_,_,_,q⟩:=hr.obj j L _ hj this;obtain ⟨_,v',_,hv⟩:=q x _ hc;obtain ⟨L',h,_⟩:=hv.eQ;exact ⟨L',h⟩
theorem fM{ρ:Env}{f:Ren}{args:List ab}{args':Array Value}{x i o:Nat}(ha:az ρ f args args')(h:args[x]? =some (.ptr (some (i,o)))): ∃L,f i=some L:=by
 obtain ⟨v,_,hv⟩:=ha.get h;obtain ⟨L,hL,_⟩:=hv.eQ;exact ⟨L,hL⟩
theorem Con.U3{c:Con}{k i N:Nat}{el:TypeId}{M:IE}(hlen:c.os.length<1000000)(hk:GH k=dk el)(hg:c.os[i]? =some (.ghost k [M] .nil))(hG: ∀M y z,G 14 M y z=gN M/\G 15 M y z=ql M/\G 16 M y z=qe M)
 (hN: ∀ρ:Env,ρ.ok (bdL c.bds)->c.pre.holds ρ->mN (M.ev ρ)=N)
 (hreach: ∀(ρ:Env) B W f w args',au ρ B W f (aF c.os 0 .nil) w->az ρ f c.args args'-> ∃L,f i=some L)
 (h: ∀(coh:Bool) (ρ:Env),ρ.std G GH->ρ.ok (bdL c.bds)->(c.zr N el i M coh).pre.holds ρ->bn (M.ev ρ)-> ∃s at' q,(∀ B W,dA P ρ B W c.g c.args (aF (c.zr N el i M coh).os 0 .nil) (c.zr N el i M coh).os.length s)/\c.ends at' (s.xa i k M)=some q/\q.hold ρ):c.Ok P G GH:=by
 intro ρ h1 h2 h3 B W f w args' hr ha hn;have hgh:ρ.gh k=dk el:=by rw [h1.2]; exact hk
 obtain ⟨L,hL⟩:=hreach ρ B W f w args' hr ha
 have hgt:(aF c.os 0 T.nil).get i=some (.ghost k [M] .nil):=by
  have:=aU c.os 0 i .nil _ hg (by omega)
  rwa [Nat.zero_add] at this
 obtain ⟨⟨hrel,_⟩,_⟩:=hr.obj i L _ hL hgt;rw [hgh] at hrel;obtain ⟨Mv,Rf,hM,hm,hho⟩:=hrel;have hM:M.ev ρ=Mv:=(List.cons.inj hM).1;subst hM;obtain ⟨s,at',q,g1,g2,g3⟩:=h (aP (M.ev ρ)) ρ h1 h2 (aR h3 (t:=pkC M) (v:=aP (M.ev ρ)) rfl) hm.ok
 have ev: ∀c,7<c->(pkF c M).ev ρ=G c (M.ev ρ) 0 0:=fun c hc=>by
  show fnI ρ c (M.ev ρ) 0 0=_;rw [bY hc,h1.1]
 exact Con.ig (dh P c.g) (L9 (dh P c.g) hlen hgh hg (by rw [ev 14 (by decide),(hG _ _ _).1]) (by rw [ev 15 (by decide),(hG _ _ _).2.1]) (by rw [ev 16 (by decide),(hG _ _ _).2.2]) rfl (hN ρ h2 h3) (fun B W f w args' a b=>hreach ρ B W f w args' a b) fun B W=>(g1 B W).toR) g2 g3 B W f w args' hr ha hn
theorem Con.qA(mixed:P.follows .mixedOrders=true){K:Know}(hK:K.Ok P G GH){c:Con}{k i N:Nat}{el:TypeId}{M:IE}(hlen:c.os.length<1000000)(hk:GH k=dk el)(hg:c.os[i]? =some (.ghost k [M] .nil))(hG: ∀M y z,G 14 M y z=gN M/\G 15 M y z=ql M/\G 16 M y z=qe M)
 (hN: ∀ρ:Env,ρ.ok (bdL c.bds)->c.pre.holds ρ->mN (M.ev ρ)=N)
 (hreach: ∀(ρ:Env) B W f w args',au ρ B W f (aF c.os 0 .nil) w->az ρ f c.args args'-> ∃L,f i=some L) (L:Nat) (pol:FuncId->Nat->Bool) (pure:FuncId->Bool) (d kk:Nat) (obs:Bool->List (Dec×IE×IE))
 (hobs: ∀(coh:Bool) (ρ:Env),ρ.std G GH->ρ.ok (bdL c.bds)->(c.zr N el i M coh).pre.holds ρ->bn (M.ev ρ)->fC ρ (obs coh))
 (h: ∀coh:Bool,(∀ ρ:Env,ρ.ok (bdL c.bds)-> ¬(c.zr N el i M coh).pre.holds ρ)\/((c.zr N el i M coh).tree P K L pol pure d []).all (fun dec e s=>c.leaf (qX (bdL c.bds) kk (obs coh)) dec e (s.xa i k M)) (c.zr N el i M coh).pre=true):c.Ok P G GH:=by
 refine Con.U3 hlen hk hg hG hN hreach fun coh ρ h1 h2 h3 hm=> ?_
 rcases h coh with hx |hx
 ·exact absurd h3 (hx ρ h2)
 ·obtain ⟨e,s,dec',hd',p1,p2⟩:=Out.bP h3 hx;unfold Con.leaf at p2;split at p2
  ·rename_i l hl;exact ⟨s,_,l,Con.dJ (c:=c.zr N el i M coh) mixed hK (facts:=[]) h1 h2 h3 (fun p hp=>by cases hp) p1,hl,f7 (fun a b hab=>uv h2 hd' (hobs coh ρ h1 h2 h3 hm) hab) p2⟩
  ·cases p2
end
theorem sa{n c:Int}(hn:0<=n/\n<=4096)(hc:c=0\/c=1)(j:Nat):ag (jT n c) (j:Nat)=if j=7 then c else if j=3 then n else 0:=by
 unfold jT;rw [eW _ _ _ _ (by omega) (by omega),eW _ _ _ _ (by omega) (by omega),uw]
theorem sT{n c:Int}(hn:0<=n/\n<=4096)(hc:c=0\/c=1):mN (jT n c)=n:=by
 have:=sa hn hc 3;exact this
theorem Ct{n c:Int}(hn:0<=n/\n<=4096)(hc:c=0\/c=1):aP (jT n c)=decide (c=1):=by
 unfold aP;have:=sa hn hc 7;rw [this];rfl
theorem BO{n c:Int}(hn:0<=n/\n<=4096)(hc:c=0\/c=1){j:Nat}(h3:j≠3)(h7:j≠7):ag (jT n c) (j:Nat)=0:=by
 rw [sa hn hc,if_neg h7,if_neg h3]
theorem iV{n c:Int}(hn:0<=n/\n<=4096)(hc:c=0\/c=1)(a:Nat):mD (jT n c) a=0/\mC (jT n c) a=0/\mR (jT n c) a=0:=
 ⟨BO hn hc (by omega) (by omega),BO hn hc (by omega) (by omega),BO hn hc (by omega) (by omega)⟩
theorem A9{n c:Int}(hn:0<=n/\n<=4096)(hc:c=0\/c=1):bn (jT n c):=by
 have z:isByte 0:=⟨Int.le_refl 0,by decide⟩
 refine ⟨by rw [sT hn hc]; exact hn,fun p j _ _=>by rw [(iV hn hc _).1]; exact z,fun _ p j _ _=>by rw [(iV hn hc _).2.1]; exact z,fun p _=>by rw [(iV hn hc _).2.2]; exact ⟨Int.le_refl 0,by decide⟩,⟨lH _ _ _,?_,fun j hj=> ?_⟩⟩
 ·have:=sa hn hc 7;rw [this];exact hc
 ·exact BO hn hc (fun e=>hj (.inl e)) (fun e=>hj (.inr (.inl e)))
theorem O0(b:Bool):b2 b=0\/b2 b=1:=by cases b<;>simp [b2]
theorem Iy(b:Bool):decide (b2 b=1)=b:=by cases b<;>simp [b2]
def gC(k:IntKind)(n:Nat):T ab:=aF (List.replicate n (.int k (.lit 0))) 0 .nil
section
variable{P:Program}{G:Nat->Int->Int->Int->Int}{GH:Nat->bz}
theorem oD{ρ:Env}{f:Ren}{i n:Nat}{v:Value}(hn:0<n)(h:ai ρ f (.slice (some (i,0)) n n 0) v): ∃L,f i=some L/\v= .slice (some ⟨L.blk,L.base,none⟩) n n:=by
 cases h with
 |slice h=>exact ⟨_,h,rfl⟩
 |sliceE _ _ _=>exact absurd hn (Nat.lt_irrefl 0)
theorem Vr{ρ:Env}{f:Ren}{B:Nat->Prop}{w:World}{L:Loc}{k:IntKind}{n:Nat}{t:TypeId}(hn:n<4611686018427387904)(h:c9 ρ f B w L (.cells (gC k n) t true n)): ¬B L.blk/\ ∃cs el fr,w.heap[L.blk]? =some (.cells cs el fr)/\(∀ j,j<cs.size-> ¬(fr.1<=j/\j<fr.2))/\ ∀j,j<n->cs[L.base+j]? =some (.int k 0):=by
 obtain ⟨cs,fr,h1,h2,h3,h4⟩:=h;refine ⟨(h3 rfl).1,cs,t,fr,h1,by rw [h2]; exact (h3 rfl).2,fun j hj=> ?_⟩
 have g:(gC k n).get j=some (.int k (.lit 0)):=by
  have:=aU (List.replicate n (ab.int k (.lit 0))) 0 j .nil (ab.int k (.lit 0)) (by rw [List.getElem?_replicate,if_pos hj]) (by simpa using hn)
  rwa [Nat.zero_add] at this
 obtain ⟨_,v,a,b⟩:=h4 j _ g;rw [a,b.Dc];rfl
set_option maxHeartbeats 1000000 in
theorem Con.KN{c:Con}{k n tops:Nat}{pt:TypeId}{coh:Bool}{el sl:TypeId}{hc cv sc:T ab}{top:Nat}{Me:IE}(hn:0<n/\n<=4096)(hk:GH k=cW el sl)(h0:c.os=[])(ho:c.os'=[.ghost k [Me] cv])(hres:c.res= .ptr (some (0,0)))
 (hMe: ∀ρ:Env,ρ.std G GH->Me.ev ρ=jT n (b2 coh)) (hc0:hc.get 0=some (.slice (some (1,0)) n n 0)) (hc1:hc.get 1=some (.bool (.lit coh))) (hcv: ∀j v,cv.get j=some v->2<=j/\hc.get j=some v/\v.free=true)
 (hsc: ∀p,p<n->sc.get (p*7)=some (.ptr (some (2,0)))/\sc.get (p*7+1)=some (lP coh 2)/\sc.get (p*7+2)=some (.bool (.lit false))/\sc.get (p*7+3)=some (.bool (.lit false))/\sc.get (p*7+6)=some (.int .i64 (.lit 0)))
 (h:Con.Ok P G GH {c with os':=[.cells hc el true top,.cells sc sl true tops,.cells (gC .u8 256) pt true 256]}):c.Ok P G GH:=by
 intro ρ h1 h2 h3 B W f w args' hr ha hnn;have hgh:ρ.gh k=cW el sl:=by rw [h1.2]; exact hk
 have hnone: ∀j,f j=none:=fun j=>hnn j (by rw [h0]; exact Nat.zero_le j)
 refine Calls.mono (h ρ h1 h2 h3 B W f w args' hr ha hnn) fun e w' ⟨v',e1,f',e2,e3,e4,e5⟩=> ?_
 rw [show ({c with os':=[.cells hc el true top,.cells sc sl true tops,.cells (gC .u8 256) pt true 256]}:Con).res= .ptr (some (0,0)) from hres] at e5
 obtain ⟨L,hL,rfl⟩:=e5.eQ
 have tree: ∀(x:Nat) (o:ah),([.cells hc el true top,.cells sc sl true tops,.cells (gC .u8 256) pt true 256]:List ah)[x]? =some o->o.dead=false->(je [.cells hc el true top,.cells sc sl true tops,.cells (gC .u8 256) pt true 256] 0 T.nil).get x=some o:=by
  intro x o hx hd;have:=f9 _ 0 x .nil o hx hd (by simp)
  rwa [Nat.zero_add] at this
 obtain ⟨cs,fr,a1,a2,a3,a4⟩:=e4.obj 0 L _ hL (tree 0 _ rfl rfl);obtain ⟨_,v0,b1,b2'⟩:=a4 0 _ hc0;obtain ⟨L1,hL1,rfl⟩:=oD hn.1 b2';obtain ⟨_,v1,c1,c2⟩:=a4 1 _ hc1;have c2:=c2.lE;subst c2;obtain ⟨ss,sf,s1,s2,s3,s4⟩:=e4.obj 1 L1 _ hL1 (tree 1 _ rfl rfl);obtain ⟨_,u0,d1,d2⟩:=s4 _ _ (hsc 0 hn.1).1;obtain ⟨L2,hL2,_⟩:=d2.eQ;obtain ⟨zB,zs,ze,zf,z1,z2,z3⟩:=Vr (by decide) (e4.obj 2 L2 _ hL2 (tree 2 _ rfl rfl))
 have n4:(0:Int)<=(n:Int)/\(n:Int)<=4096:=⟨by omega,by omega⟩
 have hb:=O0 coh;have eN:(mN (jT n (b2 coh))).toNat=n:=by rw [sT n4 hb]; exact Int.toNat_natCast n
 have eC:aP (jT n (b2 coh))=coh:=by rw [Ct n4 hb]; exact Iy coh
 have ap01:L.blk≠L1.blk:=fun he=>e4.apart 0 1 L L1 _ _ hL hL1 (tree 0 _ rfl rfl) (tree 1 _ rfl rfl) (by decide) rfl L.blk rfl he
 have ap02:L2.blk≠L.blk:=fun he=>e4.apart 2 0 L2 L _ _ hL2 hL (tree 2 _ rfl rfl) (tree 0 _ rfl rfl) (by decide) rfl L2.blk rfl he
 have ap12:L2.blk≠L1.blk:=fun he=>e4.apart 2 1 L2 L1 _ _ hL2 hL1 (tree 2 _ rfl rfl) (tree 1 _ rfl rfl) (by decide) rfl L2.blk rfl he
 have page: ∀D:Nat->Int,(∀ j,D j=0)->m0 w' L2.blk L2.base D:=fun D hD=>⟨zs,ze,zf,z1,z2,fun j hj=>by rw [hD j]; exact ⟨z3 j hj,Int.le_refl 0,by decide⟩⟩
 let Pg:Pages:=⟨L.base,L1.blk,L1.base,fun _=>L2.blk,fun _=>L2.base,fun _=>L2.blk,fun _=>L2.base,fun _=>false,fun _=>false⟩
 have hm:iz el sl (jT n (b2 coh)) w' L.blk Pg:=by
  refine ⟨by rw [sT n4 hb]; exact n4,⟨cs,fr,n,a1,by rw [eN]; exact b1,by rw [eN]; exact Nat.le_refl n,by rw [eC]; exact c1⟩,⟨ss,sf,s1,by rw [s2]; exact (s3 rfl).2,fun p hp=> ?_⟩,fun p _=>page _ fun j=>(iV n4 hb _).1,fun _ p _=>page _ fun j=>(iV n4 hb _).2.1,ap01,fun p _=>⟨ap02,ap12⟩,fun _ p _=>⟨ap02,ap12⟩,fun p _ ho=>(by cases ho),fun _ p _ ho=>(by cases ho),(A9 n4 hb).k⟩
  rw [eN] at hp;obtain ⟨p0,p1,p2,p3,p6⟩:=hsc p hp;obtain ⟨_,x0,y0,r0⟩:=s4 _ _ p0;obtain ⟨_,x1,y1,r1⟩:=s4 _ _ p1;obtain ⟨_,x2,y2,r2⟩:=s4 _ _ p2;obtain ⟨_,x3,y3,r3⟩:=s4 _ _ p3;obtain ⟨_,x6,y6,r6⟩:=s4 _ _ p6;obtain ⟨K,hK,rfl⟩:=r0.eQ;rw [hL2] at hK;cases hK;have r2:=r2.lE;have r3:=r3.lE;have r6:=r6.Dc;subst r2 r3 r6;refine ⟨y0,?_,y2,y3,?_⟩
  ·rw [eC];cases coh with
   |true=>rw [r1.Lg] at y1; exact y1
   |false=>
    obtain ⟨K,hK,rfl⟩:=r1.eQ;rw [hL2] at hK;cases hK;exact y1
  ·rw [(iV n4 hb p).2.2];exact ⟨y6,Int.le_refl 0,by decide⟩
 let f'':Ren:=fun j=>if j=0 then some L else f j
 have f0:f'' 0=some L:=if_pos rfl;have fo: ∀j,j≠0->f'' j=none:=fun j hj=>(if_neg hj).trans (hnone j)
 have hg': ∀x o,(je c.os' 0 T.nil).get x=some o->x=0/\o= .ghost k [Me] cv:=by
  intro x o hx;rw [ho] at hx;have:=(ik hx).1
  match x,this with
  |0,this=>simp at this; exact ⟨rfl,this.symm⟩
  |x+1,this=>simp at this
 refine ⟨_,e1,f'',fun j K hj=>(by rw [hnone j] at hj; cases hj),fun j hj=> ?_,⟨e4.below,e4.bsize,fun x K hx=> ?_,fun x y Kx Ky ox oy hx hy gx gy hxy=> ?_,fun x K o hx gx=> ?_⟩,?_⟩
 ·rw [h0,ho] at hj;have hj:j<0\/1<=j:=hj;exact if_neg (by omega)
 ·by_cases h:x=0
  ·subst h;rw [f0] at hx;cases hx;exact e4.lt 0 L hL
  ·rw [fo x h] at hx; cases hx
 ·exact absurd ((hg' x ox gx).1.trans (hg' y oy gy).1.symm) hxy
 ·obtain ⟨rfl,rfl⟩:=hg' x o gx;rw [f0] at hx;cases hx;refine ⟨⟨by rw [hgh]; exact ⟨_,Pg,by simp [hMe ρ h1],hm,rfl⟩,fun b hb=> ?_⟩,trivial,cs,el,fr,a1,a2,(a3 rfl).2,fun j v hv=> ?_⟩
  ·rw [hgh] at hb;obtain ⟨M2,P2,k1,k2,k3⟩:=hb
   rcases hm.same k1 k2 k3 with rfl |rfl | ⟨p,_,rfl⟩ | ⟨_,p,_,rfl⟩
   ·exact (a3 rfl).1
   ·exact (s3 rfl).1
   ·exact zB
   ·exact zB
  ·obtain ⟨q1,q2,q3⟩:=hcv j v hv;obtain ⟨_,x,q4,q5⟩:=a4 j v q2;exact ⟨by rw [hgh]; exact q1,x,q4,q5.zx q3⟩
 ·rw [hres];exact .ptr f0
def mT(bt it:TypeId)(n:Nat)(coh:Bool):List ah:=match coh with
 |true=>[.cells (gC .u8 (256*n)) bt true (256*n),.cells (gC .i64 n) it true n]
 |false=>[.cells (gC .u8 (256*n)) bt true (256*n),.cells (gC .i64 n) it true n,.cells (gC .u8 (256*n)) bt true (256*n)]
def acp(n:Nat)(coh:Bool):ab:=match coh with
 |true=> .slice none 0 0 0
 |false=> .slice (some (3,0)) (256*n) (256*n) 0
def aaf(n:Nat)(coh:Bool)(ib iO:Nat):Value:=match coh with
 |true=> .slice none 0 0
 |false=> .slice (some ⟨ib,iO,none⟩) (256*n) (256*n)
set_option maxHeartbeats 1000000 in
theorem Con.SC{c:Con}{k n:Nat}{bt it:TypeId}{coh:Bool}{el:TypeId}{hc:T ab}{top:Nat}{Me:IE}(hn:0<n/\n<=4096)(hk:GH k=dk el)(h0:c.os=[])(ho:c.os'=[.ghost k [Me] .nil])(hres:c.res= .ptr (some (0,0)))
 (hMe: ∀ρ:Env,ρ.std G GH->Me.ev ρ=jT n (b2 coh)) (hc0:hc.get 0=some (.slice (some (1,0)) (256*n) (256*n) 0)) (hc4:hc.get 4=some (.slice (some (2,0)) n n 0)) (hc5:hc.get 5=some (.bool (.lit coh)))
 (hc1:hc.get 1=some (acp n coh))
 (h:Con.Ok P G GH {c with os':= .cells hc el true top::mT bt it n coh}):c.Ok P G GH:=by
 intro ρ h1 h2 h3 B W f w args' hr ha hnn;have hgh:ρ.gh k=dk el:=by rw [h1.2]; exact hk
 have hnone: ∀j,f j=none:=fun j=>hnn j (by rw [h0]; exact Nat.zero_le j)
 refine Calls.mono (h ρ h1 h2 h3 B W f w args' hr ha hnn) fun e w' ⟨v',e1,f',e2,e3,e4,e5⟩=> ?_
 rw [show ({c with os':= .cells hc el true top::mT bt it n coh}:Con).res= .ptr (some (0,0)) from hres] at e5
 obtain ⟨L,hL,rfl⟩:=e5.eQ
 have tree: ∀(x:Nat) (o:ah),(.cells hc el true top::mT bt it n coh:List ah)[x]? =some o->o.dead=false->(je (.cells hc el true top::mT bt it n coh) 0 T.nil).get x=some o:=by
  intro x o hx hd;have:=f9 _ 0 x .nil o hx hd (by cases coh<;>simp [mT])
  rwa [Nat.zero_add] at this
 have g1:(.cells hc el true top::mT bt it n coh:List ah)[1]? =some (.cells (gC .u8 (256*n)) bt true (256*n)):=by cases coh<;>rfl
 have g2:(.cells hc el true top::mT bt it n coh:List ah)[2]? =some (.cells (gC .i64 n) it true n):=by cases coh<;>rfl
 obtain ⟨cs,fr,a1,a2,a3,a4⟩:=e4.obj 0 L _ hL (tree 0 _ rfl rfl);obtain ⟨_,v0,b1,b2'⟩:=a4 0 _ hc0;obtain ⟨L1,hL1,rfl⟩:=oD (by omega) b2'
 obtain ⟨_,v4,c1,c2⟩:=a4 4 _ hc4;obtain ⟨L2,hL2,rfl⟩:=oD hn.1 c2;obtain ⟨_,v5,d1,d2⟩:=a4 5 _ hc5;have d2:=d2.lE;subst d2;obtain ⟨_,v1,i1,i2⟩:=a4 1 _ hc1;obtain ⟨dB,ds,de,df,x1,x2,x3⟩:=Vr (by omega) (e4.obj 1 L1 _ hL1 (tree 1 _ g1 rfl))
 obtain ⟨rB,rs,re,rf,y1,y2,y3⟩:=Vr (by omega) (e4.obj 2 L2 _ hL2 (tree 2 _ g2 rfl))
 have n4:(0:Int)<=(n:Int)/\(n:Int)<=4096:=⟨by omega,by omega⟩
 have hb:=O0 coh;have eN:(mN (jT n (b2 coh))).toNat=n:=by rw [sT n4 hb]; exact Int.toNat_natCast n
 have eC:aP (jT n (b2 coh))=coh:=by rw [Ct n4 hb]; exact Iy coh
 have ap01:L.blk≠L1.blk:=fun he=>e4.apart 0 1 L L1 _ _ hL hL1 (tree 0 _ rfl rfl) (tree 1 _ g1 rfl) (by decide) rfl L.blk rfl he
 have ap02:L.blk≠L2.blk:=fun he=>e4.apart 0 2 L L2 _ _ hL hL2 (tree 0 _ rfl rfl) (tree 2 _ g2 rfl) (by decide) rfl L.blk rfl he
 have ap12:L1.blk≠L2.blk:=fun he=>e4.apart 1 2 L1 L2 _ _ hL1 hL2 (tree 1 _ g1 rfl) (tree 2 _ g2 rfl) (by decide) rfl L1.blk rfl he
 have img: ∃(ib iO:Nat),v1=aaf n coh ib iO/\(coh=false-> ¬B ib/\pJ w' ib iO .u8 (256*n) (fun _=>0)/\L.blk≠ib/\L1.blk≠ib/\L2.blk≠ib):=by
  cases coh with
  |true=>
   cases i2;exact ⟨0,0,rfl,fun h=>(by cases h)⟩
  |false=>
   obtain ⟨L3,hL3,rfl⟩:=oD (by omega) i2
   obtain ⟨zB,zs,ze,zf,z1,z2,z3⟩:=Vr (by omega) (e4.obj 3 L3 _ hL3 (tree 3 (.cells (gC .u8 (256*n)) bt true (256*n)) rfl rfl))
   refine ⟨L3.blk,L3.base,rfl,fun _=>⟨zB,⟨zs,ze,zf,z1,z2,z3⟩,fun he=> ?_,fun he=> ?_,fun he=> ?_⟩⟩
   ·exact e4.apart 0 3 L L3 _ _ hL hL3 (tree 0 _ rfl rfl) (tree 3 (.cells (gC .u8 (256*n)) bt true (256*n)) rfl rfl) (by decide) rfl L.blk rfl he
   ·exact e4.apart 1 3 L1 L3 _ _ hL1 hL3 (tree 1 _ g1 rfl) (tree 3 (.cells (gC .u8 (256*n)) bt true (256*n)) rfl rfl) (by decide) rfl L1.blk rfl he
   ·exact e4.apart 2 3 L2 L3 _ _ hL2 hL3 (tree 2 _ g2 rfl) (tree 3 (.cells (gC .u8 (256*n)) bt true (256*n)) rfl rfl) (by decide) rfl L2.blk rfl he
 obtain ⟨ib,iO,rfl,himg⟩:=img;have lG:256*(mN (jT n (b2 coh))).toNat=256*n:=by rw [eN]
 let R:Refs:=⟨L.base,L1.blk,L1.base,L2.blk,L2.base,ib,iO⟩
 have hm:j4 el (jT n (b2 coh)) w' L.blk R:=by
  refine ⟨A9 n4 hb,⟨cs,fr,256*n,n,256*n,a1,by rw [lG]; exact b1,by rw [lG]; exact Nat.le_refl _,by rw [eN]; exact c1,by rw [eN]; exact Nat.le_refl _,by rw [eC]; exact d1,by rw [eC,lG]; exact i1,by rw [lG]; exact Nat.le_refl _⟩,⟨ds,de,df,x1,x2,fun j hj=> ?_⟩,⟨rs,re,rf,y1,y2,fun j hj=> ?_⟩,fun hc=> ?_,⟨ap01,ap02,ap12⟩,fun hc=> ?_⟩
  ·rw [(iV n4 hb j).1];exact x3 j (by omega)
  ·rw [(iV n4 hb j).2.2];exact y3 j (by omega)
  ·rw [eC] at hc;obtain ⟨_,⟨zs,ze,zf,z1,z2,z3⟩,_⟩:=himg hc;exact ⟨zs,ze,zf,z1,z2,fun j hj=>by rw [(iV n4 hb j).2.1]; exact z3 j (by omega)⟩
  ·rw [eC] at hc;exact (himg hc).2.2
 let f'':Ren:=fun j=>if j=0 then some L else f j
 have f0:f'' 0=some L:=if_pos rfl;have fo: ∀j,j≠0->f'' j=none:=fun j hj=>(if_neg hj).trans (hnone j)
 have hg': ∀x o,(je c.os' 0 T.nil).get x=some o->x=0/\o= .ghost k [Me] .nil:=by
  intro x o hx;rw [ho] at hx;have:=(ik hx).1
  match x,this with
  |0,this=>simp at this; exact ⟨rfl,this.symm⟩
  |x+1,this=>simp at this
 refine ⟨_,e1,f'',fun j K hj=>(by rw [hnone j] at hj; cases hj),fun j hj=> ?_,⟨e4.below,e4.bsize,fun x K hx=> ?_,fun x y Kx Ky ox oy hx hy gx gy hxy=> ?_,fun x K o hx gx=> ?_⟩,?_⟩
 ·rw [h0,ho] at hj;have hj:j<0\/1<=j:=hj;exact if_neg (by omega)
 ·by_cases h:x=0
  ·subst h;rw [f0] at hx;cases hx;exact e4.lt 0 L hL
  ·rw [fo x h] at hx; cases hx
 ·exact absurd ((hg' x ox gx).1.trans (hg' y oy gy).1.symm) hxy
 ·obtain ⟨rfl,rfl⟩:=hg' x o gx;rw [f0] at hx;cases hx;refine ⟨⟨by rw [hgh]; exact ⟨_,R,by simp [hMe ρ h1],hm,rfl⟩,fun b hb=> ?_⟩,trivial,cs,el,fr,a1,a2,(a3 rfl).2,fun j v hv=>by rw [T.get_nil] at hv; cases hv⟩
  rw [hgh] at hb;obtain ⟨M2,R2,k1,k2,k3⟩:=hb
  rcases hm.same k1 k2 k3 with rfl |rfl |rfl | ⟨hc,rfl⟩
  ·exact (a3 rfl).1
  ·exact dB
  ·exact rB
  ·rw [eC] at hc;exact (himg hc).1
 ·rw [hres];exact .ptr f0
end
end
end Go.Sx
namespace Go.Sx
noncomputable section
section
variable{P:Program}{G:Nat->Int->Int->Int->Int}{GH:Nat->bz}
theorem Con.XX{c:Con}{k i:Nat}{el sl:TypeId}{M:IE}{cv:T ab}(hlen:c.os.length<1000000)(hk:GH k=cW el sl)(hg:c.os[i]? =some (.ghost k [M] cv))
 (hreach: ∀(ρ:Env) B W f w args',au ρ B W f (aF c.os 0 .nil) w->az ρ f c.args args'-> ∃L,f i=some L)
 (h: ∀ρ:Env,ρ.std G GH->ρ.ok (bdL c.bds)->c.pre.holds ρ->bn (M.ev ρ)->c.vb (mw P c.g) ρ):c.Ok P G GH:=by
 intro ρ h1 h2 h3 B W f w args' hr ha hn;have hgh:ρ.gh k=cW el sl:=by rw [h1.2]; exact hk
 obtain ⟨L,hL⟩:=hreach ρ B W f w args' hr ha
 have hgt:(aF c.os 0 T.nil).get i=some (.ghost k [M] cv):=by
  have:=aU c.os 0 i .nil _ hg (by omega)
  rwa [Nat.zero_add] at this
 obtain ⟨⟨hrel,_⟩,_⟩:=hr.obj i L _ hL hgt;rw [hgh] at hrel;obtain ⟨Mv,Pg,hM,hm,_⟩:=hrel;have hM:M.ev ρ=Mv:=(List.cons.inj hM).1;subst hM;exact h ρ h1 h2 h3 hm.ok B W f w args' hr ha hn
theorem Con.jX(mixed:P.follows .mixedOrders=true){K:Know}(hK:K.Ok P G GH){c:Con}{k i:Nat}{el sl:TypeId}{M:IE}{cv:T ab}(hlen:c.os.length<1000000)(hk:GH k=cW el sl)(hg:c.os[i]? =some (.ghost k [M] cv))
 (hreach: ∀(ρ:Env) B W f w args',au ρ B W f (aF c.os 0 .nil) w->az ρ f c.args args'-> ∃L,f i=some L) (L:Nat) (pol:FuncId->Nat->Bool) (pure:FuncId->Bool) (d:Nat) (q:Dec->IE->IE->Bool)
 (hq: ∀ρ:Env,ρ.std G GH->ρ.ok (bdL c.bds)->c.pre.holds ρ->bn (M.ev ρ)-> ∀(dec:Dec) (a b:IE),dec.holds ρ->q dec a b=true->a.ev ρ=b.ev ρ)
 (h:(c.tree P K L pol pure d []).all (c.leaf q) c.pre=true):c.Ok P G GH:=by
 refine Con.XX hlen hk hg hreach fun ρ h1 h2 h3 hm=> ?_
 obtain ⟨e,s,dec',hd',p1,p2⟩:=Out.bP h3 h;unfold Con.leaf at p2;split at p2
 ·rename_i l hl;exact Con.ig (dh P c.g) (fun B W=>(Con.dJ (c:=c) mixed hK (facts:=[]) h1 h2 h3 (fun p hp=>by cases hp) p1 B W).toR) hl (f7 (fun a b hab=>hq ρ h1 h2 h3 hm dec' a b hd' hab) p2)
 ·cases p2
end
inductive HT where
 |again (xs:List IE)
 |done (rs:List IE)
 |split (b:BE) (y n:HT)
def uS:List IE->IE
 | []=> .lit 0
 |e::l=> .fn KP e (uS l) (.lit 0)
def HT.rt:HT->RT
 | .again xs=> .again (uS xs)
 | .done rs=> .done rs
 | .split b y n=> .split b y.rt n.rt
def KZ(q:IE->IE->Bool):IE->List IE->Bool
 | .fn c a r z,l=>
   match l with
   | []=>false
   |e::l=>
    match Nat.beq c KP&&(z.eq (.lit 0)&&q a e) with
    |true=>KZ q r l
    |false=>false
 | .lit n,l=>
   match l with
   | []=>aK n 0
   |_::_=>false
 |_,_=>false
theorem RZ{ρ:Env}{q:IE->IE->Bool}(hq: ∀a b,q a b=true->a.ev ρ=b.ev ρ): ∀ {X:IE} {l:List IE},KZ q X l=true->X.ev ρ=(uS l).ev ρ:=by
 intro X
 induction X with
 |lit n=>
  intro l h;cases l with
  |nil=>
   have h:aK n 0=true:=h;rw [ar h]; rfl
  |cons e l=>cases h
 |fn c a r z iha ihr ihz=>
  intro l h;cases l with
  |nil=>cases h
  |cons e l=>
   simp only [KZ] at h;split at h
   ·rename_i hc;obtain ⟨h1,h2⟩:=aa hc;obtain ⟨h2,h3⟩:=aa h2;rw [Nat.eq_of_beq_eq_true h1,IE.eq_eq h2];show fnI ρ KP (a.ev ρ) (r.ev ρ) 0=fnI ρ KP (e.ev ρ) ((uS l).ev ρ) 0;rw [hq _ _ h3,ihr h]
   ·cases h
 |_=>intro l h; cases h
def vd(bd:Bd)(dec:Dec)(F:Fns)(rs:List IE):Prs->Bool
 | []=>true
 |p::l=>
  match (match p.1.eq p.2 with
   |true=>true
   |false=>
    match mF p.1 with
    |some i=>
     match rs[i]? with
     |some r=>nP bd F i p.1 r&&qP bd 30 dec p.2 r
     |none=>false
    |none=>false) with
  |true=>vd bd dec F rs l
  |false=>false
theorem H4{ρ:Env}{bd:Bd}(hρ:ρ.ok bd){dec:Dec}(hd:dec.holds ρ){F:Fns}(hk:7<F.KR/\7<F.KV){rs:List IE}(hF:F.is ρ.g (F.x.ev ρ) (rs.map (·.ev ρ))): ∀ {l:Prs},vd bd dec F rs l=true->l.hold ρ:=by
 intro l
 induction l with
 |nil=>intro _ p hp; cases hp
 |cons x l ih=>
  intro h p hp;simp only [vd] at h;split at h
  ·rename_i hx
   rcases List.mem_cons.1 hp with rfl |hp
   ·split at hx
    ·rename_i he;rw [IE.eq_eq he]
    ·split at hx
     ·rename_i i _;split at hx
      ·rename_i r hr;obtain ⟨h1,h2⟩:=aa hx;rw [uR hρ hd h2];exact pU hρ hk hF (j:=i) (by rw [List.getElem?_map,hr]; rfl) h1
      ·cases hx
     ·cases hx
   ·exact ih h p hp
  ·cases h
def HT.fit(bd:Bd)(F:Fns)(q:Prs):HT->Dec->Bool
 | .again xs,dec=>
   match JC F q with
   |some X=>zY bd F X q&&KZ (qP bd 30 dec) X xs
   |none=>false
 | .done rs,dec=>vd bd dec F rs q
 | .split b y n,dec=>
   match prove bd 4 dec b with
   |some true=>y.fit bd F q dec
   |some false=>n.fit bd F q dec
   |none=>
    match y.fit bd F q ((b,true)::dec) with
    |true=>n.fit bd F q ((b,false)::dec)
    |false=>false
theorem HT.tw{bd:Bd}{ρ:Env}(hρ:ρ.ok bd){F:Fns}(hk:7<F.KR/\7<F.KV){q:Prs}: ∀ {t:HT} {dec:Dec},dec.holds ρ->t.fit bd F q dec=true->(match t.rt.pick ρ with
 | .bad=>True
 | .again X=>F.alike ρ.g (F.x.ev ρ) X
 | .done l=>F.is ρ.g (F.x.ev ρ) l)->q.hold ρ:=by
 intro t
 induction t with
 |again xs=>
  intro dec hd h hF;unfold HT.fit at h;split at h
  ·rename_i X hX;obtain ⟨h1,h2⟩:=aa h;have e:=RZ (ρ:=ρ) (fun a b hab=>uR hρ hd hab) h2
   exact wO hk hρ (by rw [e]; exact hF) h1
  ·cases h
 |done rs=>
  intro dec hd h hF;exact H4 hρ hd hk hF h
 |split b y n ihy ihn=>
  intro dec hd h hF;have e:(HT.split b y n).rt.pick ρ=aS (b.ev ρ) (y.rt.pick ρ) (n.rt.pick ρ):=rfl;rw [e] at hF;unfold HT.fit at h;split at h
  ·rename_i hb;rw [cU hρ _ _ _ _ hd hb] at hF;exact ihy hd h hF
  ·rename_i hb;rw [cU hρ _ _ _ _ hd hb] at hF;exact ihn hd h hF
  ·split at h
   ·rename_i h1;cases hb:b.ev ρ
    ·rw [hb] at hF;exact ihn (aR hd hb) h hF
    ·rw [hb] at hF;exact ihy (aR hd hb) h1 hF
   ·cases h
def Con.gG(c:Con)(F:Fns)(t:HT)(dec:Dec)(_:aM)(s:ASt):Bool:=
 match c.ef s with
 |some q=>t.fit (bdL c.bds) F q dec
 |none=>false
theorem Con.lj{G:Nat->Int->Int->Int->Int}{GH:Nat->bz}{c:Con}(facts:Dec)(hf: ∀ρ:Env,ρ.std G GH->ρ.ok (bdL c.bds)->c.pre.holds ρ->facts.holds ρ){F:Fns}(hk:7<F.KR/\7<F.KV){t:HT}{o:Out}(h:o.all (c.gG F t) (facts++c.pre)=true)(hG:F.Def G t.rt):c.Leaves G GH o:=by
 intro ρ h1 h2 h3;obtain ⟨e,s,dec',hd',p1,p2⟩:=Out.bP (bJ (hf ρ h1 h2 h3) h3) h;unfold Con.gG at p2;split at p2
 ·rename_i q hq;exact ⟨e,s,_,q,p1,hq,HT.tw h2 hk hd' p2 (by have:=hG ρ h1.1; rw [h1.1]; exact this)⟩
 ·cases p2
theorem ba.OX{P:Program}(mixed:P.follows .mixedOrders=true){G:Nat->Int->Int->Int->Int}{GH:Nat->bz}{c:ba}(hwf:c.con.wf=true)(hsl:c.sl.length=c.con.args.length){L:Nat}{pol:FuncId->Nat->Bool}{pure:FuncId->Bool}{d:Nat}{μ:IE}
 (h: ∀ρ:Env,ρ.std G GH->ρ.ok (bdL c.con.bds)->c.con.pre.holds ρ-> ∃(K:Know) (facts:Dec),K.Ok P G GH/\facts.holds ρ/\ ∃e s at' q,(c.tree P K L pol pure d facts μ).pick ρ=some (e,s)/\c.con.ends at' s=some q/\q.hold ρ):c.Ok P G GH:=by
 intro fn cd b hfn hb hm hk
 have key: ∀m,∀ρ:Env,ρ.std G GH->ρ.ok (bdL c.con.bds)->c.con.pre.holds ρ->(μ.ev ρ).toNat<m->c.con.vb (l0 P b c m) ρ:=by
  intro m
  induction m with
  |zero=>intro ρ _ _ _ h; omega
  |succ m ih=>
   intro ρ h1 h2 h3 hlt;obtain ⟨K,facts,hK,hf,e,s,at',q,p1,p2,p3⟩:=h ρ h1 h2 h3;exact Con.ig (jj P b c (m+1)) (ba.dJ mixed hK hwf hsl h1 h2 h3 hf hfn hb hm hk (fun ρ' k1 k2 k3 k4=>ih ρ' k1 k2 k3 (by omega)) p1) p2 p3
 intro ρ h1 h2 h3;exact ⟨_,key _ ρ h1 h2 h3 (Nat.lt_succ_self _)⟩
theorem Con.Yx{c:Con}{F:Fns}(hk:7<F.KR/\7<F.KV){t:HT}{o:Out}{dec:Dec}(h:o.all (c.gG F t) dec=true){ρ:Env}(h2:ρ.ok (bdL c.bds))(hd:dec.holds ρ)(hF:F.Def ρ.g t.rt): ∃e s at' q,o.pick ρ=some (e,s)/\c.ends at' s=some q/\q.hold ρ:=by
 obtain ⟨e,s,dec',hd',p1,p2⟩:=Out.bP hd h;unfold Con.gG at p2;split at p2
 ·rename_i q hq;exact ⟨e,s,_,q,p1,hq,HT.tw h2 hk hd' p2 (hF ρ rfl)⟩
 ·cases p2
theorem Con.TW{P:Program}{G:Nat->Int->Int->Int->Int}{GH:Nat->bz}(mixed:P.follows .mixedOrders=true){K:Know}(hK:K.Ok P G GH){c:Con}{k i:Nat}{M:IE}{cv:T ab}(hlen:c.os.length<1000000)(hk:(∃ el sl,GH k=cW el sl)\/ ∃el,GH k=dk el)(hg:c.os[i]? =some (.ghost k [M] cv))
 (hreach: ∀(ρ:Env) B W f w args',au ρ B W f (aF c.os 0 .nil) w->az ρ f c.args args'-> ∃L,f i=some L) (L:Nat) (pol:FuncId->Nat->Bool) (pure:FuncId->Bool) (d:Nat) (q:Dec->IE->IE->Bool)
 (hq: ∀ρ:Env,ρ.std G GH->ρ.ok (bdL c.bds)->c.pre.holds ρ->bn (M.ev ρ)-> ∀(dec:Dec) (a b:IE),dec.holds ρ->q dec a b=true->a.ev ρ=b.ev ρ)
 (h:(c.tree P K L pol pure d []).all (c.leaf q) c.pre=true):c.Ok P G GH:=by
 rcases hk with ⟨el,sl,hk⟩ | ⟨el,hk⟩
 ·exact Con.jX mixed hK hlen hk hg hreach L pol pure d q hq h
 ·intro ρ h1 h2 h3 B W f w args' hr ha hn;have hgh:ρ.gh k=dk el:=by rw [h1.2]; exact hk
  obtain ⟨L',hL⟩:=hreach ρ B W f w args' hr ha
  have hgt:(aF c.os 0 T.nil).get i=some (.ghost k [M] cv):=by
   have:=aU c.os 0 i .nil _ hg (by omega)
   rwa [Nat.zero_add] at this
  obtain ⟨⟨hrel,_⟩,_⟩:=hr.obj i L' _ hL hgt;rw [hgh] at hrel;obtain ⟨Mv,R,hM,hm,_⟩:=hrel;have hM:M.ev ρ=Mv:=(List.cons.inj hM).1;subst hM;obtain ⟨e,s,dec',hd',p1,p2⟩:=Out.bP h3 h;unfold Con.leaf at p2;split at p2
  ·rename_i l hl;exact Con.ig (dh P c.g) (fun B W=>(Con.dJ (c:=c) mixed hK (facts:=[]) h1 h2 h3 (fun p hp=>by cases hp) p1 B W).toR) hl (f7 (fun a b hab=>hq ρ h1 h2 h3 hm.ok dec' a b hd' hab) p2) B W f w args' hr ha hn
  ·cases p2
end
end Go.Sx
