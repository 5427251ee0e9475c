/- Part Sg. No condition. -/
import Derived.Test.YtpdhneemedlgaaaGreatSf
set_option linter.all false
namespace Go.Sx
open Go.RowKit (Below)
noncomputable section
abbrev Prs:=List (IE×IE)
def Prs.hold(ρ:Env)(l:Prs):Prop:= ∀p∈l,p.1.ev ρ=p.2.ev ρ
theorem Prs.qU{ρ:Env}{l m:Prs}(h:(l++m).hold ρ):l.hold ρ/\m.hold ρ:=⟨fun p hp=>h p (by simp [hp]),fun p hp=>h p (by simp [hp])⟩
def both:Option Prs->Option Prs->Option Prs
 |some a,some b=>some (a++b)
 |_,_=>none
theorem fU{a b:Option Prs}{l:Prs}(h:both a b=some l): ∃x y,a=some x/\b=some y/\l=x++y:=by
 unfold both at h;split at h
 ·cases h; exact ⟨_,_,rfl,rfl,rfl⟩
 ·cases h
def Iv(a:IE):List IE->Nat->Prs
 | [],_=>[]
 |e::l,j=>(.fn 0 a (.lit (.ofNat j)) (.lit 0),e)::Iv a l (j+1)
theorem xN{ρ:Env}{a:IE}: ∀ {l:List IE} {j:Nat},Prs.hold ρ (Iv a l j)-> ∀(i:Nat) (e:IE),l[i]? =some e->ag (a.ev ρ) (j+i:Nat)=e.ev ρ
 | [],_,_,i,e,he=>by simp at he
 |x::l,j,h,i,e,he=>by
  cases i with
  |zero=>
   cases he;exact h _ (List.mem_cons_self ..)
  |succ i=>
   have:=xN (l:=l) (j:=j+1) (fun p hp=>h p (List.mem_cons_of_mem _ hp)) i e (by simpa using he)
   rw [<- this]
   congr 1
   omega
def nb:List IE->Nat->IE->IE
 | [],_,acc=>acc
 |e::l,j,acc=>nb l (j+1) (.fn 1 acc (.lit (.ofNat j)) e)
theorem vT{ρ:Env}: ∀(l:List IE) (j:Nat) (acc:IE) (m:Nat),m<j->ag ((nb l j acc).ev ρ) (m:Nat)=ag (acc.ev ρ) (m:Nat)
 | [],_,_,_,_=>rfl
 |e::l,j,acc,m,h=>by
  show ag ((nb l (j+1) (.fn 1 acc (.lit (.ofNat j)) e)).ev ρ) (m:Nat)=_;rw [vT l (j+1) _ m (by omega)]
  exact aI (acc.ev ρ) (e.ev ρ) (by omega)
theorem pS{ρ:Env}: ∀(l:List IE) (j:Nat) (acc:IE),(∀ e∈l,fE (e.ev ρ))-> ∀(i:Nat) (e:IE),l[i]? =some e->ag ((nb l j acc).ev ρ) (j+i:Nat)=e.ev ρ
 | [],_,_,_,i,e,he=>by simp at he
 |x::l,j,acc,hl,i,e,he=>by
  show ag ((nb l (j+1) (.fn 1 acc (.lit (.ofNat j)) x)).ev ρ) (j+i:Nat)=_;cases i with
  |zero=>
   cases he;rw [vT l (j+1) _ _ (by omega)]
   have hx:=hl x (List.mem_cons_self ..);have:=eW (acc.ev ρ) (x.ev ρ) j j hx.1 hx.2;rw [if_pos rfl] at this;exact this
  |succ i=>
   rw [show j+(i+1)=j+1+i by omega]
   exact pS l (j+1) _ (fun e h=>hl e (List.mem_cons_of_mem _ h)) i e (by simpa using he)
def TV:IE->Bool
 | .fn c _ _ (.lit (.ofNat _))=>Nat.ble 100 c&&Nat.beq (Nat.mod c 2) 1
 |_=>false
mutual
def ab.bU:ab->ab->Option Prs
 | .int k a,v=>
   match v with
   | .int j b=>
     match bf k j with
     |true=>some [(a,b)]
     |false=>none
   |_=>none
 | .bool x,v=>
   match v with
   | .bool y=>
     match x.num,y.num with
     |some a,some b=>some [(a,b)]
     |_,_=>none
   |_=>none
 | .agg l,v=>
   match v with
   | .agg m=>pairsL l m
   |_=>none
 | .tuple l,v=>
   match v with
   | .tuple m=>pairsL l m
   |_=>none
 | .iface t a,v=>
   match v with
   | .iface u b=>
     match Nat.beq t u with
     |true=>a.bU b
     |false=>none
   |_=>none
 | .sliceS i a b s nn,v=>
   match v with
   | .sliceS j c d t nn'=>
     match Nat.beq i j&&(Nat.beq s t&&bEq nn nn') with
     |true=>some [(a,c),(b,d)]
     |false=>none
   |_=>none
 | .sliceA i a s,v=>
   match v with
   | .sliceA j b t=>
     match Nat.beq i j&&Nat.beq s t with
     |true=>some [(a,b)]
     |false=>none
   | .slice none 0 0 0=>some [(a,.lit 0)]
   |_=>none
 | .strS a b,v=>
   match v with
   | .strS c d=>some [(a,c),(b,d)]
   | .str l=>match TV a with
     |true=>some [(a,nb l 0 (.lit 0)),(b,.lit (.ofNat l.length))]
     |false=>some ((b,.lit (.ofNat l.length))::Iv a l 0)
   |_=>none
 | .ptrE i a s c,v=>
   match v with
   | .ptrE j b t d=>
     match Nat.beq i j&&(Nat.beq s t&&Nat.beq c d) with
     |true=>some [(a,b)]
     |false=>none
   |_=>none
 |x,v=>
  match x.same v with
  |true=>some []
  |false=>none
def pairsL:List ab->List ab->Option Prs
 | [],m=>
   match m with
   | []=>some []
   |_=>none
 |a::l,m=>
  match m with
  | []=>none
  |b::m=>both (a.bU b) (pairsL l m)
end
theorem H7: ∀ {l m:List ab} {q:Prs},pairsL l m=some q->l.length=m.length/\ ∀(i:Nat) (a:ab),l[i]? =some a-> ∃b r,m[i]? =some b/\a.bU b=some r/\ ∀p∈r,p∈q:=by
 intro l
 induction l with
 |nil=>
  intro m q h;cases m with
  |nil=>exact ⟨rfl,fun i a ha=>by simp at ha⟩
  |cons b m=>simp [pairsL] at h
 |cons x l ih=>
  intro m q h;cases m with
  |nil=>simp [pairsL] at h
  |cons b m=>
   obtain ⟨r1,r2,h1,h2,rfl⟩:=fU (show both (x.bU b) (pairsL l m)=some q from h)
   obtain ⟨q1,q2⟩:=ih h2;refine ⟨by simp [q1],fun i a ha=> ?_⟩
   cases i with
   |zero=>simp at ha; subst ha; exact ⟨b,r1,rfl,h1,fun p hp=>by simp [hp]⟩
   |succ i=>
    obtain ⟨b',r,p1,p2,p3⟩:=q2 i a (by simpa using ha)
    exact ⟨b',r,by simpa using p1,p2,fun p hp=>by simp [p3 p hp]⟩
theorem ab.kv{ρ:Env}{f:Ren}{b:ab}{v:Value}(h:ai ρ f b v): ∀ {a:ab} {l:Prs},a.bU b=some l->l.hold ρ->ai ρ f a v:=by
 have lists: ∀ {m:List ab} {vs:Array Value},vs.size=m.length->(∀ (i:Nat) (b:ab) (v:Value),m[i]? =some b->vs[i]? =some v-> ∀ {a:ab} {l:Prs},a.bU b=some l->l.hold ρ->ai ρ f a v)-> ∀ {l:List ab} {q:Prs},pairsL l m=some q->q.hold ρ->
  vs.size=l.length/\ ∀(i:Nat) (a:ab) (v:Value),l[i]? =some a->vs[i]? =some v->ai ρ f a v:=by
  intro m vs hs ih l q hl hq;obtain ⟨h1,h2⟩:=H7 hl;refine ⟨by omega,fun i a v ha hv=> ?_⟩
  obtain ⟨b,r,hb,hc,hr⟩:=h2 i a ha;exact ih i b v hb hv hc fun p hp=>hq p (hr p hp)
 have other: ∀ {b:ab} {v:Value},ai ρ f b v-> ∀ {a:ab} {l:Prs},(match a.same b with |true=>some ([]:Prs) |false=>none)=some l->ai ρ f a v:=by
  intro b v hb a l h;split at h
  ·rename_i hs;rw [ab.cT hs];exact hb
  ·cases h
 induction h with
 |bool b=>
  intro a l h hl;cases a<;>simp only [ab.bU] at h<;>first |exact other (.bool b) h | (cases h; done) |skip
  rename_i x;split at h
  ·rename_i p q hp hq;cases h;have h1:=BE.s7 (ρ:=ρ) hp;have h2:=BE.s7 (ρ:=ρ) hq;have h3:p.ev ρ=q.ev ρ:=hl (p,q) (by simp)
   rw [h1,h2] at h3;have:x.ev ρ=b.ev ρ:=by cases hx:x.ev ρ<;>cases hb:b.ev ρ<;>simp [hx,hb] at h3 ⊢
   rw [<- this];exact .bool _
  ·cases h
 |int k e=>
  intro a l h hl;cases a<;>simp only [ab.bU] at h<;>first |exact other (.int k e) h | (cases h; done) |skip
  split at h
  ·rename_i hk;cases h;have e:=hl _ (List.mem_cons_self ..);simp only at e;rw [<- aH hk,<-e];exact .int _ _
  ·cases h
 |str hs=>
  intro a l h hl;cases a<;>simp only [ab.bU] at h<;>first |exact other (.str hs) h | (cases h; done) |skip
  rename_i m s c n;split at h
  ·cases h;have e0:c.ev ρ=(nb m 0 (.lit 0)).ev ρ:=hl _ (List.mem_cons_self ..);have e1:n.ev ρ=((m.length:Nat):Int):=hl _ (List.mem_cons_of_mem _ (List.mem_cons_self ..))
   have at': ∀(j:Nat) (b:UInt8),s.data[j]? =some b-> ∃e,m[j]? =some e/\e.ev ρ=(b.toNat:Int):=by
    intro j b hb
    have h2:(m.map (·.ev ρ))[j]? =some (b.toNat:Int):=by
     rw [<- hs,List.getElem?_map,Array.getElem?_toList,hb];rfl
    rw [List.getElem?_map] at h2;cases hm:m[j]? with
    |none=>rw [hm] at h2; cases h2
    |some e=>rw [hm] at h2; exact ⟨e,rfl,by simpa using h2⟩
   have inr: ∀e∈m,fE (e.ev ρ):=by
    intro e he
    have hm:e.ev ρ∈s.data.toList.map (fun b=>(b.toNat:Int)):=by
     rw [hs];exact List.mem_map_of_mem (f:=fun x:IE=>x.ev ρ) he
    obtain ⟨b,_,hb⟩:=List.mem_map.1 hm;rw [<- hb];have:=b.toNat_lt;unfold fE;omega
   refine .strS (by rw [e1,hs.size]) fun j b hb=> ?_
   obtain ⟨e,h1,h2⟩:=at' j b hb;have:=pS (ρ:=ρ) m 0 (.lit 0) inr j e h1;rw [Nat.zero_add] at this;rw [e0,this,h2]
  cases h;have e1:n.ev ρ=((m.length:Nat):Int):=hl _ (List.mem_cons_self ..);refine .strS (by rw [e1,hs.size]) fun j b hb=> ?_
  have h2:(m.map (·.ev ρ))[j]? =some (b.toNat:Int):=by
   rw [<- hs,List.getElem?_map,Array.getElem?_toList,hb];rfl
  rw [List.getElem?_map] at h2;cases hm:m[j]? with
  |none=>rw [hm] at h2; cases h2
  |some e=>
   rw [hm] at h2;have:=xN (ρ:=ρ) (a:=c) (l:=m) (j:=0) (fun p hp=>hl p (List.mem_cons_of_mem _ hp)) j e hm
   rw [Nat.zero_add] at this;rw [this]
   simpa using h2
 |nilPtr=>intro a l h hl; cases a<;>simp only [ab.bU] at h<;>first |exact other .nilPtr h | (cases h; done)
 |ptr hh=>intro a l h hl; cases a<;>simp only [ab.bU] at h<;>first |exact other (.ptr hh) h | (cases h; done)
 |nilSlice=>
  intro a l h hl;cases a<;>simp only [ab.bU] at h<;>first |exact other .nilSlice h | (cases h; done) |skip
  cases h;exact .sliceN (hl _ (List.mem_cons_self ..))
 |slice hh=>intro a l h hl; cases a<;>simp only [ab.bU] at h<;>first |exact other (.slice hh) h | (cases h; done)
 |sliceG hh hn hc hs=>intro a l h hl; cases a<;>simp only [ab.bU] at h<;>first |exact other (.sliceG hh hn hc hs) h | (cases h; done)
 |sliceE hh hg hs=>intro a l h hl; cases a<;>simp only [ab.bU] at h<;>first |exact other (.sliceE hh hg hs) h | (cases h; done)
 |nilMap=>intro a l h hl; cases a<;>simp only [ab.bU] at h<;>first |exact other .nilMap h | (cases h; done)
 |map hh=>intro a l h hl; cases a<;>simp only [ab.bU] at h<;>first |exact other (.map hh) h | (cases h; done)
 |func ha hb ha' hb' iha ihb=>intro a l h hl; cases a<;>simp only [ab.bU] at h<;>first |exact other (.func ha hb ha' hb') h | (cases h; done)
 |nilFunc=>intro a l h hl; cases a<;>simp only [ab.bU] at h<;>first |exact other .nilFunc h | (cases h; done)
 |iface hh ih=>
  intro a l h hl;cases a<;>simp only [ab.bU] at h<;>first |exact other (.iface hh) h | (cases h; done) |skip
  split at h
  ·rename_i hk;rw [Nat.eq_of_beq_eq_true hk];exact .iface (ih h hl)
  ·cases h
 |nilIface=>intro a l h hl; cases a<;>simp only [ab.bU] at h<;>first |exact other .nilIface h | (cases h; done)
 |agg ha ha' ih=>
  intro a l h hl;cases a<;>simp only [ab.bU] at h<;>first |exact other (.agg ha ha') h | (cases h; done) |skip
  have p:=lists ha ih h hl;exact .agg p.1 p.2
 |tuple ha ha' ih=>
  intro a l h hl;cases a<;>simp only [ab.bU] at h<;>first |exact other (.tuple ha ha') h | (cases h; done) |skip
  have p:=lists ha ih h hl;exact .tuple p.1 p.2
 |ptrE hh h0=>
  intro a l h hl;cases a<;>simp only [ab.bU] at h<;>first |exact other (.ptrE hh h0) h | (cases h; done) |skip
  split at h
  ·rename_i hk;cases h;obtain ⟨k1,k2⟩:=aa hk;obtain ⟨k2,k3⟩:=aa k2;have e:=hl _ (List.mem_cons_self ..);simp only at e;rw [Nat.eq_of_beq_eq_true k1,Nat.eq_of_beq_eq_true k2,Nat.eq_of_beq_eq_true k3,<-e];exact .ptrE hh (by rw [e]; exact h0)
  ·cases h
 |sliceS hh h0 h1 h2=>
  intro a l h hl;cases a<;>simp only [ab.bU] at h<;>first |exact other (.sliceS hh h0 h1 h2) h | (cases h; done) |skip
  split at h
  ·rename_i hk;cases h;obtain ⟨k1,k2⟩:=aa hk;obtain ⟨k2,k3⟩:=aa k2;have e1:=hl _ (List.mem_cons_self ..);have e2:=hl _ (List.mem_cons_of_mem _ (List.mem_cons_self ..));simp only at e1 e2;rw [Nat.eq_of_beq_eq_true k1,Nat.eq_of_beq_eq_true k2,dt k3,<-e1,<-e2];exact .sliceS hh (by rw [e1]; exact h0) (by rw [e2]; exact h1) (by rw [e2]; exact h2)
  ·cases h
 |sliceZ h1 h2=>
  intro a l h hl;cases a<;>simp only [ab.bU] at h<;>first |exact other (.sliceZ h1 h2) h | (cases h; done) |skip
  split at h
  ·rename_i hk;cases h;obtain ⟨k1,k2⟩:=aa hk;obtain ⟨k2,k3⟩:=aa k2;have e2:=hl _ (List.mem_cons_of_mem _ (List.mem_cons_self ..));simp only at e2;rw [Nat.eq_of_beq_eq_true k1,Nat.eq_of_beq_eq_true k2,dt k3];exact .sliceZ (by rw [e2]; exact h1) h2
  ·cases h
 |sliceA hh h0 h1 h2=>
  intro a l h hl;cases a<;>simp only [ab.bU] at h<;>first |exact other (.sliceA hh h0 h1 h2) h | (cases h; done) |skip
  split at h
  ·rename_i hk;cases h;obtain ⟨k1,k2⟩:=aa hk;have e1:=hl _ (List.mem_cons_self ..);simp only at e1;rw [Nat.eq_of_beq_eq_true k1,Nat.eq_of_beq_eq_true k2,<-e1];exact .sliceA hh (by rw [e1]; exact h0) (by rw [e1]; exact h1) h2
  ·cases h
 |sliceN h1=>
  intro a l h hl;cases a<;>simp only [ab.bU] at h<;>first |exact other (.sliceN h1) h | (cases h; done) |skip
  split at h
  ·rename_i hk;cases h;have e1:=hl _ (List.mem_cons_self ..);simp only at e1;exact .sliceN (by rw [e1]; exact h1)
  ·cases h
 |strS h1 h2=>
  intro a l h hl;cases a<;>simp only [ab.bU] at h<;>first |exact other (.strS h1 h2) h | (cases h; done) |skip
  cases h;have e1:=hl _ (List.mem_cons_self ..);have e2:=hl _ (List.mem_cons_of_mem _ (List.mem_cons_self ..));simp only at e1 e2;exact .strS (by rw [e2]; exact h1) fun j b hb=>by rw [e1]; exact h2 j b hb
def T.mU{α:Type}(g:Nat->α->Option Prs):T α->Nat->Nat->Option Prs
 | .nil,_,_=>some []
 | .node v l r,a,b=>both (match v with
   |none=>some []
   |some x=>g b x) (both (T.mU g l (2*a) (a+b)) (T.mU g r (2*a) (2*a+b)))
theorem T.IM{α:Type}{g:Nat->α->Option Prs}: ∀(t:T α) (a b:Nat) (q:Prs),T.mU g t a b=some q-> ∀(k:Nat) (x:α),t.cw k=some x-> ∃r,g (a*k+b) x=some r/\ ∀p∈r,p∈q:=by
 intro t
 induction t with
 |nil=>intro a b q _ k x h; simp [T.cw] at h
 |node v l r ihl ihr=>
  intro a b q h k x hx;obtain ⟨q1,q23,h1,h23,rfl⟩:=fU (show both _ _=some q from h)
  obtain ⟨q2,q3,h2,h3,rfl⟩:=fU h23;simp only [T.cw] at hx;cases hk:Nat.beq k 0
  ·simp only [hk] at hx;have hk0:k≠0:=by intro e; simp [e] at hk
   cases ho:Nat.beq (k % 2) 1
   ·simp only [ho] at hx;have ho':k % 2≠1:=by intro e; simp [e] at ho
    obtain ⟨r',p1,p2⟩:=ihr _ _ _ h3 _ _ hx
    have e:2*a*((k-1) / 2)+(2*a+b)=a*k+b:=by
     have e1:k=2*((k-1) / 2)+2:=by omega
     generalize (k-1) / 2=m at*;subst e1;rw [Nat.mul_add,<-Nat.mul_assoc,Nat.mul_comm a 2];omega
    rw [e] at p1;exact ⟨r',p1,fun p hp=>by simp [p2 p hp]⟩
   ·simp only [ho] at hx;have ho':k % 2=1:=Nat.eq_of_beq_eq_true ho;obtain ⟨r',p1,p2⟩:=ihl _ _ _ h2 _ _ hx
    have e:2*a*((k-1) / 2)+(a+b)=a*k+b:=by
     have e1:k=2*((k-1) / 2)+1:=by omega
     generalize (k-1) / 2=m at*;subst e1;rw [Nat.mul_add,<-Nat.mul_assoc,Nat.mul_comm a 2];omega
    rw [e] at p1;exact ⟨r',p1,fun p hp=>by simp [p2 p hp]⟩
  ·simp only [hk] at hx;have hk0:k=0:=Nat.eq_of_beq_eq_true hk;subst hk0 hx;exact ⟨q1,by simpa using h1,fun p hp=>by simp [hp]⟩
theorem T.Il{α:Type}{g:Nat->α->Option Prs}{t:T α}{q:Prs}(h:T.mU g t 1 0=some q){k:Nat}{x:α}(hx:t.get k=some x): ∃r,g k x=some r/\ ∀p∈r,p∈q:=by
 have:=T.IM t 1 0 q h k x (by rw [<- T.get_eq]; exact hx)
 simpa using this
def sA(c:T ab)(k:Nat)(v:ab):Option Prs:=
 match c.get k with
 |some u=>v.bU u
 |none=>none
def ES:List IE->List IE->Option Prs
 | [],m=>
   match m with
   | []=>some []
   |_=>none
 |a::l,m=>
  match m with
  | []=>none
  |b::m=>both (some [(a,b)]) (ES l m)
theorem Oo{ρ:Env}: ∀ {l m:List IE} {q:Prs},ES l m=some q->q.hold ρ->l.map (·.ev ρ)=m.map (·.ev ρ):=by
 intro l
 induction l with
 |nil=>
  intro m q h _;cases m with
  |nil=>rfl
  |cons b m=>simp [ES] at h
 |cons a l ih=>
  intro m q h hq;cases m with
  |nil=>simp [ES] at h
  |cons b m=>
   obtain ⟨r1,r2,h1,h2,rfl⟩:=fU (show both _ _=some q from h)
   cases h1;obtain ⟨k1,k2⟩:=Prs.qU hq;simp only [List.map_cons,ih h2 k2,k1 (a,b) (by simp)]
def ah.bU:ah->ah->Option Prs
 | .cells c e o t,v=>
   match v with
   | .cells c' e' o' t'=>
     match Nat.beq e e'&&(bEq o o'&&Nat.beq t t') with
     |true=>T.mU (sA c') c 1 0
     |false=>none
   |_=>none
 | .arr ks c n o,v=>
   match v with
   | .arr ks' c' n' o'=>
     match eH ks ks'&&bEq o o' with
     |true=>some [(c,c'),(n,n')]
     |false=>none
   |_=>none
 | .ghost k vs c,v=>
   match v with
   | .ghost k' vs' c'=>
     match Nat.beq k k' with
     |true=>both (ES vs vs') (T.mU (sA c') c 1 0)
     |false=>none
   |_=>none
 | .map es,v=>
   match v with
   | .map es'=>
     match C4 es es' with
     |true=>some []
     |false=>none
   |_=>none
 | .win i s c e o,v=>
   match v with
   | .win i' s' c' e' o'=>
     match Nat.beq s s'&&(Nat.beq e e'&&bEq o o') with
     |true=>both (some [(i,i')]) (T.mU (sA c') c 1 0)
     |false=>none
   |_=>none
 | .col s c k code m d n,v=>
   match v with
   | .col s' c' k' code' m' d' n'=>
     match Nat.beq s s'&&(Nat.beq c c'&&(bf k k'&&(Nat.beq m m'&&Nat.beq d d'))) with
     |true=>some [(code,code'),(n,n')]
     |false=>none
   |_=>none
 | .it0,v=>
   match v with
   | .it0=>some []
   |_=>none
section
variable{ρ:Env}{f:Ren}{B:Nat->Prop}{w:World}{L:Loc}
theorem qp{c c':T ab}{q:Prs}(h:T.mU (sA c') c 1 0=some q)(hq:q.hold ρ){k:Nat}{v:ab}(hv:c.get k=some v): ∃u,c'.get k=some u/\ ∀x,ai ρ f u x->ai ρ f v x:=by
 obtain ⟨r,h1,h2⟩:=T.Il h hv;unfold sA at h1;split at h1
 ·rename_i u hu;exact ⟨u,hu,fun x hx=>ab.kv hx h1 fun p hp=>hq p (h2 p hp)⟩
 ·cases h1
theorem ah.kv{o o':ah}{q:Prs}(h:o.bU o'=some q)(hq:q.hold ρ)(ho:c9 ρ f B w L o'):c9 ρ f B w L o/\o.own=o'.own/\ ∀b,o.aZ ρ w L b ↔ o'.aZ ρ w L b:=by
 cases o with
 |cells c e ow t=>
  cases o'<;>simp only [ah.bU] at h<;>first | (cases h; done) |skip
  split at h
  ·rename_i hk;obtain ⟨k1,k2⟩:=aa hk;obtain ⟨k2,k3⟩:=aa k2;have k1:=Nat.eq_of_beq_eq_true k1;have k2:=dt k2;have k3:=Nat.eq_of_beq_eq_true k3;subst k1 k2 k3;obtain ⟨cs,fr,q1,q2,q3,q4⟩:=ho;refine ⟨⟨cs,fr,q1,q2,q3,fun j v hj=> ?_⟩,rfl,fun _=>Iff.rfl⟩
   obtain ⟨u,hu,hk⟩:=qp (f:=f) h hq hj;obtain ⟨p1,v',p2,p3⟩:=q4 _ _ hu;exact ⟨p1,v',p2,hk _ p3⟩
  ·cases h
 |arr ks c n ow=>
  cases o'<;>simp only [ah.bU] at h<;>first | (cases h; done) |skip
  split at h
  ·rename_i hk;cases h;obtain ⟨k1,k2⟩:=aa hk;have k1:=fm k1;have k2:=dt k2;subst k1 k2;have e1:=hq _ (List.mem_cons_self ..);have e2:=hq _ (List.mem_cons_of_mem _ (List.mem_cons_self ..));simp only at e1 e2;obtain ⟨cs,el,fr,q1,q2,q3,q4⟩:=ho;refine ⟨⟨cs,el,fr,q1,q2,q3,fun j c k hj hk=> ?_⟩,rfl,fun _=>Iff.rfl⟩
   rw [e2] at hj;rw [e1];exact q4 j c k hj hk
  ·cases h
 |ghost k vs c=>
  cases o'<;>simp only [ah.bU] at h<;>first | (cases h; done) |skip
  split at h
  ·rename_i hk;have k1:=Nat.eq_of_beq_eq_true hk;subst k1;obtain ⟨r1,r2,h1,h2,rfl⟩:=fU h;obtain ⟨m1,m2⟩:=Prs.qU hq;have e1:=Oo h1 m1;obtain ⟨⟨q0,q1⟩,qb,cs,el,fr,q2,q3,q4,q5⟩:=ho;refine ⟨⟨⟨by rw [e1]; exact q0,q1⟩,qb,cs,el,fr,q2,q3,q4,fun j v hj=> ?_⟩,rfl,fun _=>Iff.rfl⟩
   obtain ⟨u,hu,hk⟩:=qp (f:=f) h2 m2 hj;obtain ⟨p1,v',p2,p3⟩:=q5 _ _ hu;exact ⟨p1,v',p2,hk _ p3⟩
  ·cases h
 |map es=>
  cases o'<;>simp only [ah.bU] at h<;>first | (cases h; done) |skip
  split at h
  ·rename_i hk;rw [Aw hk];exact ⟨ho,rfl,fun _=>Iff.rfl⟩
  ·cases h
 |it0=>
  cases o'<;>simp only [ah.bU] at h<;>first | (cases h; done) |skip
  exact ⟨ho,rfl,fun _=>Iff.rfl⟩
 |col s c k code m d n=>
  cases o'<;>simp only [ah.bU] at h<;>first | (cases h; done) |skip
  split at h
  ·rename_i hk;cases h;obtain ⟨k1,hk⟩:=aa hk;obtain ⟨k2,hk⟩:=aa hk;obtain ⟨k3,hk⟩:=aa hk;obtain ⟨k4,k5⟩:=aa hk;have k1:=Nat.eq_of_beq_eq_true k1;have k2:=Nat.eq_of_beq_eq_true k2;have k3:=aH k3;have k4:=Nat.eq_of_beq_eq_true k4;have k5:=Nat.eq_of_beq_eq_true k5;subst k1 k2 k3 k4 k5;have e1:=hq _ (List.mem_cons_self ..);have e2:=hq _ (List.mem_cons_of_mem _ (List.mem_cons_self ..));simp only at e1 e2;obtain ⟨cs,el,fr,q1,q2⟩:=ho;refine ⟨⟨cs,el,fr,q1,fun j hj=> ?_⟩,rfl,fun _=>Iff.rfl⟩
   rw [e2] at hj;rw [e1];exact q2 j hj
  ·cases h
 |win i s c e ow=>
  cases o'<;>simp only [ah.bU] at h<;>first | (cases h; done) |skip
  split at h
  ·rename_i hk;obtain ⟨k1,k2⟩:=aa hk;obtain ⟨k2,k3⟩:=aa k2;have k1:=Nat.eq_of_beq_eq_true k1;have k2:=Nat.eq_of_beq_eq_true k2;have k3:=dt k3;subst k1 k2 k3;obtain ⟨r1,r2,h1,h2,rfl⟩:=fU h;cases h1;obtain ⟨m1,m2⟩:=Prs.qU hq;have e1:=m1 _ (List.mem_cons_self ..);simp only at e1;obtain ⟨cs,fr,q1,q2,q3,q0,q4⟩:=ho;refine ⟨⟨cs,fr,q1,q2,q3,by rw [e1]; exact q0,fun j v hj=> ?_⟩,rfl,fun _=>Iff.rfl⟩
   obtain ⟨u,hu,hk⟩:=qp (f:=f) h2 m2 hj;obtain ⟨v',p2,p3⟩:=q4 _ _ hu;rw [e1];exact ⟨v',p2,hk _ p3⟩
  ·cases h
end
def zn(n:Nat)(at':List Nat):Nat->Nat:=fun i=>
 match Nat.blt i n with
 |true=>i
 |false=>
  match at'[i-n]? with
  |some j=>j
  |none=>0
def rm(h:T ah)(π:Nat->Nat):Nat->List ah->Option Prs
 |_,[]=>some []
 |i,o::os=>
  match o.dead with
  |true=>rm h π (i+1) os
  |false=>
   match h.get (π i) with
   |some a=>both ((vU .var π o).bU (zM o.own a)) (rm h π (i+1) os)
   |none=>none
def qs(os':List ah)(j:Nat):Bool:=
 match os'[j]? with
 |some o=>o.dead
 |none=>false
def Ts(n nx:Nat)(dd:Nat->Bool):List Nat->Bool
 | []=>true
 |j::l=>
  match Nat.blt j nx&&(Nat.ble n j||dd j),Fg j l with
  |true,false=>Ts n nx dd l
  |_,_=>false
def Con.Si(c:Con)(at':List Nat)(s:ASt):Option Prs:=
 match s.tm.get 0 with
 |none=>none
 |some v=>
  match Ts c.os.length s.nx (qs c.os') at'&&(Nat.beq (Nat.add c.os.length at'.length) c.os'.length&&(withinList (Nat.blt · c.os'.length) [c.res]&&BP (Nat.blt · c.os'.length) c.os')) with
  |true=>both ((c.res.rep .var (zn c.os.length at')).bU v) (rm s.hp (zn c.os.length at') 0 c.os')
  |false=>none
def xq:IE->Option Nat
 | .wrap _ (.fn c0 (.fn c1 _ _ (.lit _)) (.lit (.ofNat i)) _)=>match Nat.beq c0 0&&Nat.ble 100 c1 with
   |true=>some i
   |false=>none
 | .fn c _ _ (.lit (.ofNat i))=>match Nat.ble 100 c with
   |true=>some i
   |false=>none
 |_=>none
def mF:IE->Option Nat
 | .add _ (.rem (.add (.rem (.sub d _) _) _) _)=>xq d
 | .rem a _=>xq a
 | .sel _ a _ _ _=>xq a
 | .fn c x y z=>match Nat.beq c 5 with
   |true=>xq z
   |false=>xq (.fn c x y z)
 |a=>xq a
def tH(i:Nat)(p:IE×IE):List (Nat×IE×IE)->List (Nat×IE×IE)
 | []=>[(i,p)]
 |d::l=>match Nat.blt i d.1 with
  |true=>(i,p)::d::l
  |false=>d::tH i p l
def pL:Prs->List (Nat×IE×IE)
 | []=>[]
 |p::l=>match mF p.1 with
  |none=>pL l
  |some i=>tH i p (pL l)
def mb:Prs->List (Nat×IE×IE)->Prs
 | [],_=>[]
 |p::l,ds=>match mF p.1 with
  |none=>p::mb l ds
  |some _=>match ds with
   | []=>p::mb l []
   |d::ds=>d.2::mb l ds
def OK:Prs->Nat->Bool
 | [],_=>true
 |p::l,n=>match mF p.1 with
  |none=>OK l n
  |some i=>match Nat.ble n i with
   |true=>OK l i
   |false=>false
def B2(q:Prs):Prs:=match OK q 0 with
 |true=>q
 |false=>mb q (pL q)
def tN:Prs->Nat
 | []=>0
 |p::l=>match mF p.1 with
  |none=>tN l
  |some _=>tN l+1
theorem pM{i:Nat}{p:IE×IE}: ∀ {l:List (Nat×IE×IE)},(tH i p l).length=l.length+1/\(i,p)∈tH i p l/\ ∀d∈l,d∈tH i p l:=by
 intro l
 induction l with
 |nil=>exact ⟨rfl,List.mem_singleton.2 rfl,fun d hd=>by cases hd⟩
 |cons d l ih=>
  unfold tH;split
  ·exact ⟨rfl,List.mem_cons_self ..,fun x hx=>List.mem_cons_of_mem _ hx⟩
  ·refine ⟨by simp [ih.1],List.mem_cons_of_mem _ ih.2.1,fun x hx=> ?_⟩
   rcases List.mem_cons.1 hx with rfl |hx
   ·exact List.mem_cons_self ..
   ·exact List.mem_cons_of_mem _ (ih.2.2 x hx)
theorem wR: ∀ {q:Prs},(pL q).length=tN q/\ ∀p∈q,(mF p.1).isSome=true-> ∃i,(i,p)∈pL q:=by
 intro q
 induction q with
 |nil=>exact ⟨rfl,fun p hp=>by cases hp⟩
 |cons p l ih=>
  unfold pL tN;cases h:mF p.1 with
  |none=>
   refine ⟨ih.1,fun x hx hs=> ?_⟩
   rcases List.mem_cons.1 hx with rfl |hx
   ·rw [h] at hs; cases hs
   ·exact ih.2 x hx hs
  |some i=>
   refine ⟨by simp only [pM.1,ih.1],fun x hx hs=> ?_⟩
   rcases List.mem_cons.1 hx with rfl |hx
   ·exact ⟨i,pM.2.1⟩
   ·obtain ⟨j,hj⟩:=ih.2 x hx hs;exact ⟨j,pM.2.2 _ hj⟩
theorem FH: ∀ {q:Prs} {ds:List (Nat×IE×IE)},ds.length=tN q->(∀ d∈ds,d.2∈mb q ds)/\ ∀p∈q,(mF p.1)=none->p∈mb q ds:=by
 intro q
 induction q with
 |nil=>intro ds h; exact ⟨(fun d hd=>by rw [List.length_eq_zero_iff.1 h] at hd; cases hd),(fun p hp=>by cases hp)⟩
 |cons p l ih=>
  intro ds h;unfold tN at h;unfold mb;cases hp:mF p.1 with
  |none=>
   rw [hp] at h;obtain ⟨a,b⟩:=ih h;refine ⟨fun d hd=>List.mem_cons_of_mem _ (a d hd),fun x hx hn=> ?_⟩
   rcases List.mem_cons.1 hx with rfl |hx
   ·exact List.mem_cons_self ..
   ·exact List.mem_cons_of_mem _ (b x hx hn)
  |some i=>
   rw [hp] at h;cases ds with
   |nil=>simp at h
   |cons d ds=>
    obtain ⟨a,b⟩:=ih (ds:=ds) (by simpa using h)
    refine ⟨fun x hx=> ?_,fun x hx hn=> ?_⟩
    ·rcases List.mem_cons.1 hx with rfl |hx
     ·exact List.mem_cons_self ..
     ·exact List.mem_cons_of_mem _ (a x hx)
    ·rcases List.mem_cons.1 hx with rfl |hx
     ·rw [hp] at hn; cases hn
     ·exact List.mem_cons_of_mem _ (b x hx hn)
theorem CM{ρ:Env}{q:Prs}(h:(B2 q).hold ρ):q.hold ρ:=by
 unfold B2 at h;split at h
 ·exact h
 ·intro p hp;obtain ⟨a,b⟩:=FH (q:=q) (ds:=pL q) wR.1;cases hx:mF p.1 with
  |none=>exact h p (b p hp hx)
  |some i=>
   obtain ⟨j,hj⟩:=wR.2 p hp (by rw [hx]; rfl)
   exact h p (a _ hj)
def tQ:List (Nat×IE×IE)->Prs->Prs
 |_,[]=>[]
 |seen,p::l=>match mF p.1 with
  |none=>p::tQ seen l
  |some i=>match seen.any (fun q=>Nat.beq q.1 i&&(p.1.eq q.2.1&&p.2.eq q.2.2)) with
   |true=>tQ seen l
   |false=>p::tQ ((i,p)::seen) l
theorem D7{ρ:Env}: ∀ {l:Prs} {seen:List (Nat×IE×IE)},(∀ d∈seen,d.2.1.ev ρ=d.2.2.ev ρ)->(tQ seen l).hold ρ->l.hold ρ:=by
 intro l
 induction l with
 |nil=>intro _ _ _ p hp; cases hp
 |cons x l ih=>
  intro seen hs h p hp;unfold tQ at h;split at h
  ·rcases List.mem_cons.1 hp with rfl |hp
   ·exact h _ (List.mem_cons_self ..)
   ·exact ih hs (fun y hy=>h y (List.mem_cons_of_mem _ hy)) p hp
  ·split at h
   ·rename_i hd
    rcases List.mem_cons.1 hp with rfl |hp
    ·obtain ⟨d,hd1,hd2⟩:=List.any_eq_true.1 hd;obtain ⟨_,hd2⟩:=aa hd2;obtain ⟨a,b⟩:=aa hd2;rw [IE.eq_eq a,IE.eq_eq b];exact hs d hd1
    ·exact ih hs h p hp
   ·have hx:x.1.ev ρ=x.2.ev ρ:=h x (List.mem_cons_self ..)
    rcases List.mem_cons.1 hp with rfl |hp
    ·exact hx
    ·refine ih (seen:=_) (fun d hd=> ?_) (fun y hy=>h y (List.mem_cons_of_mem _ hy)) p hp
     rcases List.mem_cons.1 hd with rfl |hd
     ·exact hx
     ·exact hs d hd
def Con.ends(c:Con)(at':List Nat)(s:ASt):Option Prs:=match c.Si at' s with
 |some q=>some (B2 (tQ [] q))
 |none=>none
theorem EU{h:T ah}{π:Nat->Nat}: ∀ {os:List ah} {i:Nat} {q:Prs},rm h π i os=some q-> ∀(k:Nat) (o:ah),os[k]? =some o->o.dead=false-> ∃a r,h.get (π (i+k))=some a/\(vU .var π o).bU (zM o.own a)=some r/\ ∀p∈r,p∈q:=by
 intro os
 induction os with
 |nil=>intro i q _ k o hk; simp at hk
 |cons x os ih=>
  intro i q h k o hk hd;simp only [rm] at h;split at h
  ·rename_i hx;cases k with
   |zero=>simp at hk; subst hk; rw [hx] at hd; cases hd
   |succ k=>
    obtain ⟨a',r',p1,p2,p3⟩:=ih h k o (by simpa using hk) hd
    exact ⟨a',r',by rw [show i+(k+1)=i+1+k by omega]; exact p1,p2,p3⟩
  ·split at h
   ·rename_i a ha;obtain ⟨r1,r2,e1,e2,rfl⟩:=fU h;cases k with
    |zero=>simp at hk; subst hk; exact ⟨a,r1,ha,e1,fun p hp=>List.mem_append_left _ hp⟩
    |succ k=>
     obtain ⟨a',r',p1,p2,p3⟩:=ih e2 k o (by simpa using hk) hd
     exact ⟨a',r',by rw [show i+(k+1)=i+1+k by omega]; exact p1,p2,fun p hp=>List.mem_append_right _ (p3 p hp)⟩
   ·cases h
theorem Ru{n nx:Nat}{dd:Nat->Bool}: ∀ {l:List Nat},Ts n nx dd l=true->(∀ (k j:Nat),l[k]? =some j->(n<=j\/dd j=true)/\j<nx)/\ ∀(k k' j:Nat),l[k]? =some j->l[k']? =some j->k=k':=by
 intro l
 induction l with
 |nil=>intro _; exact ⟨fun k j h=>by simp at h,fun k k' j h=>by simp at h⟩
 |cons x l ih=>
  intro h;simp only [Ts] at h;split at h
  ·rename_i h1 h2;obtain ⟨r1,r2⟩:=ih h;obtain ⟨h1a,h1b⟩:=aa h1;have hm:=Dw h2
   have h1b:n<=x\/dd x=true:=by
    cases hb:Nat.ble n x
    ·rw [hb] at h1b;exact .inr (by simpa using h1b)
    ·exact .inl (Nat.le_of_ble_eq_true hb)
   refine ⟨fun k j hk=> ?_,fun k k' j hk hk'=> ?_⟩
   ·cases k with
    |zero=>simp at hk; subst hk; exact ⟨h1b,by simpa [Nat.blt_eq] using h1a⟩
    |succ k=>exact r1 k j (by simpa using hk)
   ·cases k with
    |zero=>
     cases k' with
     |zero=>rfl
     |succ k'=>simp at hk hk'; subst hk; exact absurd hk' (hm k')
    |succ k=>
     cases k' with
     |zero=>simp at hk hk'; subst hk'; exact absurd hk (hm k)
     |succ k'=>rw [r2 k k' j (by simpa using hk) (by simpa using hk')]
  ·cases h
theorem sq(ρ:Env):ρ.rep IE.var=ρ:=rfl
def E7(R:Bf)(ρ:Env)(B:Nat->Prop)(W:World)(args:List ab)(h:T ah)(nx:Nat)(s:ASt):Prop:=nx<=s.nx/\
 ∀f w args',au ρ B W f h w->az ρ f args args'->iF f nx s.nx->
  R args' w fun v' w'=> ∃f',f.le f'/\Outside f f' nx s.nx/\au ρ B W f' s.hp w'/\ ∀v,s.tm.get 0=some v->ai ρ f' v v'
theorem dA.toR{P:Program}{ρ:Env}{B:Nat->Prop}{W:World}{g:FuncId}{args:List ab}{h:T ah}{nx:Nat}{s:ASt}(k:dA P ρ B W g args h nx s):E7 (mw P g) ρ B W args h nx s:=
 ⟨k.1,fun f w args' h1 h2 h3=>(k.2 f w args' h1 h2 h3).mono fun e w' ⟨v',f',e1,e2,e3,e4,e5⟩=>⟨v',e1,f',e2,e3,e4,e5⟩⟩
theorem Con.ig{R:Bf}(hR:Eg R){ρ:Env}{c:Con}{s:ASt}{at':List Nat}{q:Prs}(hgo: ∀B W,E7 R ρ B W c.args (aF c.os 0 .nil) c.os.length s)(hends:c.ends at' s=some q)(hq:q.hold ρ):c.vb R ρ:=by
 obtain ⟨q0,hends,hq⟩: ∃q0,c.Si at' s=some q0/\q0.hold ρ:=by
  unfold Con.ends at hends;split at hends
  ·rename_i q0 h0;cases hends;exact ⟨q0,h0,D7 (fun d hd=>by cases hd) (CM hq)⟩
  ·cases hends
 intro B W f w args' hr ha hn;unfold Con.Si at hends;split at hends
 ·cases hends
 ·rename_i v hv;split at hends
  ·rename_i hck;obtain ⟨k1,hck⟩:=aa hck;obtain ⟨k2,hck⟩:=aa hck;obtain ⟨k3,k4⟩:=aa hck;have k2:=Nat.eq_of_beq_eq_true k2;have k2:c.os.length+at'.length=c.os'.length:=k2;obtain ⟨r1,r2,e1,e2,rfl⟩:=fU hends;obtain ⟨q1,q2⟩:=Prs.qU hq;obtain ⟨a1,a2⟩:=Ru k1;have hw:c.res.within (Nat.blt · c.os'.length)=true:=(aa k3).1;generalize hπ:zn c.os.length at'=π at*
   have dd0: ∀i,qs c.os' i=true-> ∃o,c.os'[i]? =some o/\o.dead=true:=fun i hi=>by
    unfold qs at hi;split at hi
    ·rename_i o ho; exact ⟨o,ho,hi⟩
    ·cases hi
   have pold: ∀i,i<c.os.length->π i=i:=fun i hi=>by
    rw [<- hπ]; unfold zn;rw [show Nat.blt i c.os.length=true by simp [Nat.blt_eq,hi]]
   have pnew: ∀i,c.os.length<=i->i<c.os'.length-> ∃j,at'[i-c.os.length]? =some j/\π i=j:=fun i hi hlt=>by
    have:at'[i-c.os.length]? =some (at'[i-c.os.length]'(by omega)):=List.getElem?_eq_getElem (by omega)
    refine ⟨_,this,?_⟩;rw [<- hπ]; unfold zn;rw [show Nat.blt i c.os.length=false by cases hb:Nat.blt i c.os.length<;>simp [Nat.blt_eq] at hb ⊢; omega,this]
   have pinj: ∀i i',i<c.os'.length->i'<c.os'.length->qs c.os' i=false->qs c.os' i'=false->π i=π i'->i=i':=by
    intro i i' hi hi' hdi hdi' e
    rcases Nat.lt_or_ge i c.os.length with g |g
    ·rcases Nat.lt_or_ge i' c.os.length with g' |g'
     ·rw [pold i g,pold i' g'] at e; exact e
     ·obtain ⟨j,hj,ej⟩:=pnew i' g' hi';have:=a1 _ _ hj;rw [pold i g,ej] at e;subst e
      rcases this.1 with h |h
      ·omega
      ·rw [hdi] at h; cases h
    ·obtain ⟨j,hj,ej⟩:=pnew i g hi
     rcases Nat.lt_or_ge i' c.os.length with g' |g'
     ·have:=a1 _ _ hj;rw [pold i' g',ej] at e;subst e
      rcases this.1 with h |h
      ·omega
      ·rw [hdi'] at h; cases h
     ·obtain ⟨j',hj',ej'⟩:=pnew i' g' hi';rw [ej,ej'] at e;subst e;have:=a2 _ _ _ hj hj';omega
   refine hR _ _ _ _ ((hgo B W).2 f w args' hr ha (fun j hj _=>hn j hj)) fun v' w' ⟨f',b2,b3,b4,b5⟩=> ?_
   let d:Nat->Bool:=(Nat.blt · c.os'.length)
   have hd: ∀i,d i=true ↔ i<c.os'.length:=fun i=>by simp [d,Nat.blt_eq]
   let f'':Ren:=fun i=>if i<c.os'.length then f' (π i) else f i
   have fin: ∀i,i<c.os'.length->f'' i=f' (π i):=fun i hi=>if_pos hi
   have fout: ∀i,¬i<c.os'.length->f'' i=f i:=fun i hi=>if_neg hi
   have fold: ∀i,i<c.os.length->f'' i=f i:=fun i hi=>by
    by_cases hlt:i<c.os'.length
    ·rw [fin i hlt,pold i hi,b3 i (.inl hi)]
    ·exact fout i hlt
   have via:(f'.via d π).le f'':=by
    intro i L hi;unfold Ren.via at hi;split at hi
    ·rename_i hdi;rw [fin i ((hd i).1 hdi)];exact hi
    ·cases hi
   have obj: ∀(i:Nat) (o:ah),c.os'[i]? =some o->o.dead=false-> ∀L,f'' i=some L-> ∃a,s.hp.get (π i)=some a/\f' (π i)=some L/\c9 ρ f'' B w' L o/\(o.own=true->a.own=true)/\ ∀b,o.aZ ρ w' L b->a.aZ ρ w' L b:=by
    intro i o ho hdo L hL;have hi:i<c.os'.length:=(List.getElem?_eq_some_iff.1 ho).1;obtain ⟨a,r,p1,p2,p3⟩:=EU e2 i o ho hdo;rw [Nat.zero_add] at p1;rw [fin i hi] at hL;have ha:=b4.obj _ L a hL p1;obtain ⟨ha1,hf1⟩:=Fc (own:=o.own) ha;obtain ⟨ha2,hown,hf2⟩:=ah.kv p2 (fun p hp=>q2 p (p3 p hp)) ha1
    have hin:=vS k4 i o ho
    have hf3: ∀b,(vU .var π o).aZ ρ w' L b ↔ o.aZ (ρ.rep .var) w' L b:=by
     intro b;cases o<;>exact Iff.rfl
    have hfoot: ∀b,o.aZ ρ w' L b->a.aZ ρ w' L b:=fun b hb=>(hf1 b).1 ((hf2 b).1 ((hf3 b).2 (by rw [sq]; exact hb)))
    have hownA:o.own=true->a.own=true:=fun hob=>by
     rw [hob] at hown;rw [FL,hob] at hown;exact hown.symm
    have:=(Kl (B':=B) hin ha2 (fun hown b hb=>by
     rw [sq] at hb;exact iD ha (hownA hown) b (hfoot b hb))).1
    rw [sq] at this;exact ⟨a,p1,hL,this.mono via,hownA,hfoot⟩
   have live: ∀(i:Nat) (o:ah),c.os'[i]? =some o->o.dead=false->qs c.os' i=false:=fun i o ho hd=>by
    unfold qs;rw [ho];exact hd
   refine ⟨f'',fun i L hi=> ?_,fun i hi=> ?_,⟨b4.below,b4.bsize,fun i L hi=> ?_,fun i i' L L' o o' hi hi' gi gi' hii hown b hb hb'=> ?_,fun i L o hi hg=> ?_⟩,?_⟩
   ·rcases Nat.lt_or_ge i c.os.length with g |g
    ·rw [fold i g]; exact hi
    ·rw [hn i g] at hi; cases hi
   ·rcases Nat.lt_or_ge i c.os.length with g |g
    ·exact fold i g
    ·exact fout i (by omega)
   ·by_cases g:i<c.os'.length
    ·rw [fin i g] at hi; exact b4.lt _ L hi
    ·rw [fout i g,hn i (by omega)] at hi; cases hi
   ·obtain ⟨gi,di⟩:=ik gi;obtain ⟨gi',di'⟩:=ik gi';obtain ⟨a,p1,p2,p3,p4,p5⟩:=obj i o gi di L hi;obtain ⟨a',p1',p2',p3',p4',p5'⟩:=obj i' o' gi' di' L' hi';have g:=(List.getElem?_eq_some_iff.1 gi).1;have g':=(List.getElem?_eq_some_iff.1 gi').1;exact b4.apart _ _ L L' a a' p2 p2' p1 p1' (fun e=>hii (pinj i i' g g' (live i o gi di) (live i' o' gi' di') e)) (p4 hown) b (p5 b hb) (p5' b hb')
   ·obtain ⟨hg,hd⟩:=ik hg;obtain ⟨a,p1,p2,p3,p4,p5⟩:=obj i o hg hd L hi;exact p3
   ·have h5:=ab.kv (b5 v hv) e1 q1;have:=ai.sub_of (σ:= .var) (π:=π) (d:=d) c.res v' hw h5;rw [sq] at this;exact this.mono via
  ·cases hends
theorem Con.Bn{P:Program}{G:Nat->Int->Int->Int->Int}{GH:Nat->bz}{c:Con}(h: ∀ρ:Env,ρ.std G GH->ρ.ok (bdL c.bds)->c.pre.holds ρ->
 ∃s at' q,(∀ B W,dA P ρ B W c.g c.args (aF c.os 0 .nil) c.os.length s)/\c.ends at' s=some q/\q.hold ρ):c.Ok P G GH:=by
 intro ρ h1 h2 h3;obtain ⟨s,at',q,hgo,hends,hq⟩:=h ρ h1 h2 h3;exact Con.ig (dh P c.g) (fun B W=>(hgo B W).toR) hends hq
end
end Go.Sx
namespace Go.Sx
open Go.RowKit (Below)
noncomputable section
structure ba where
 con:Con
 key:Nat
 n:Nat
 sl:List Nat
 e:aM
 sl':List Nat
 pick:ASt->Bool:=fun _=>true
def slotsOf(tm:T ab):List Nat->Option (List ab)
 | []=>some []
 |k::l=>
  match tm.get k with
  |some v=>
   match slotsOf tm l with
   |some m=>some (v::m)
   |none=>none
  |none=>none
def MG:List Nat->List ab->T ab->T ab
 | [],_,t=>t
 |k::l,m,t=>
  match m with
  | []=>t
  |v::m=>MG l m (t.set k v)
theorem Fy{tm:T ab}: ∀ {l:List Nat} {m:List ab},slotsOf tm l=some m->m.length=l.length/\ ∀(i k:Nat),l[i]? =some k-> ∃v,m[i]? =some v/\tm.get k=some v:=by
 intro l
 induction l with
 |nil=>intro m h; cases h; exact ⟨rfl,fun i k h=>by simp at h⟩
 |cons x l ih=>
  intro m h;unfold slotsOf at h;split at h
  ·rename_i v hv;split at h
   ·rename_i m' hm;cases h;obtain ⟨h1,h2⟩:=ih hm;refine ⟨by simp [h1],fun i k hk=> ?_⟩
    cases i with
    |zero=>simp at hk; subst hk; exact ⟨v,rfl,hv⟩
    |succ i=>exact h2 i k (by simpa using hk)
   ·cases h
  ·cases h
theorem EX: ∀ {l:List Nat} {m:List ab} {t:T ab} {k:Nat} {v:ab},(MG l m t).get k=some v->(∃ i:Nat,l[i]? =some k/\m[i]? =some v)\/t.get k=some v:=by
 intro l
 induction l with
 |nil=>intro m t k v h; exact .inr h
 |cons x l ih=>
  intro m t k v h;cases m with
  |nil=>exact .inr h
  |cons y m=>
   rcases ih h with ⟨i,h1,h2⟩ |h1
   ·exact .inl ⟨i+1,by simpa using h1,by simpa using h2⟩
   ·rcases T.aB h1 with ⟨rfl,rfl⟩ | ⟨_,h2⟩
    ·exact .inl ⟨0,rfl,rfl⟩
    ·exact .inr h2
def l0(P:Program)(b:Code)(c:ba)(m:Nat):Bf:=fun args w Q=>
 ∀a:Act,a.tmps.size=c.n->a.defers=[]->(∀ (i s:Nat) (x:Value),c.sl[i]? =some s->args[i]? =some x->a.tmps.getD s Go.undef=x)-> ∀Q0:Exit->Act->World->Prop,
  (∀ (v:Value) (a':Act) (w':World),Q v w'->a'.tmps.size=c.n->a'.defers=[]->(∃ l:Array Value,v= .tuple l/\l.size=c.sl'.length/\ ∀(i s:Nat),c.sl'[i]? =some s->l[i]? =some (a'.tmps.getD s Go.undef))->Q0 c.e.to a' w')->Code.rounds P b Q0 m a w
theorem jj(P:Program)(b:Code)(c:ba)(m:Nat):Eg (l0 P b c m):=
 fun args w Q Q' h hq a h1 h2 h3 Q0 h4=>h a h1 h2 h3 Q0 fun v a' w' k1 k2 k3 k4=>h4 v a' w' (hq v w' k1) k2 k3 k4
def ba.Ok(P:Program)(G:Nat->Int->Int->Int->Int)(GH:Nat->bz)(c:ba):Prop:=
 ∀(fn:Func) (cd b:Code),P.funcs[c.con.g]? =some fn->fn.body=some cd->b∈cS cd->Code.key b=c.key->
  ∀ρ:Env,ρ.std G GH->ρ.ok (bdL c.con.bds)->c.con.pre.holds ρ-> ∃m,c.con.vb (l0 P b c m) ρ
def Av(os:List ah)(k:Nat)(p:ab)(s:ASt):ASt:=
 match p with
 | .sliceA i _ sz=>
   match s.tm.get k with
   |some (.slice none 0 0 0)=>
    match os[i]? with
    |some (.arr ks _ _ _)=>⟨s.tm.set k (.sliceA s.nx (.lit 0) sz),s.hp.set s.nx (.arr ks (.lit 0) (.lit 0) true),s.nx+1⟩
    |_=>s
   |_=>s
 |_=>s
def v9(os:List ah):List Nat->List ab->ASt->ASt
 |k::sl,p::ps,s=>v9 os sl ps (Av os k p s)
 |_,_,s=>s
theorem Oi(os:List ah)(k:Nat)(p:ab)(s:ASt):s.nx<=(Av os k p s).nx:=by
 unfold Av
 repeat' split
 all_goals first
  |exact Nat.le_refl _
  |exact Nat.le_succ _
theorem Gd(os:List ah): ∀(sl:List Nat) (ps:List ab) (s:ASt),s.nx<=(v9 os sl ps s).nx:=by
 intro sl
 induction sl with
 |nil=>intro ps s; exact Nat.le_refl _
 |cons k sl ih=>
  intro ps s;cases ps with
  |nil=>exact Nat.le_refl _
  |cons p ps=>exact Nat.le_trans (Oi os k p s) (ih ps _)
theorem QL{ρ:Env}{B:Nat->Prop}{W w:World}{n N:Nat}{f:Ren}{a:Act}(os:List ah)(k:Nat)(p:ab)(s:ASt)(hN:(Av os k p s).nx<=N)(hs:eh ρ B W n N f s a w):eh ρ B W n N f (Av os k p s) a w:=by
 unfold Av at*;split at hN
 ·rename_i i l sz;split at hN
  ·rename_i hk;split at hN
   ·have hnone:f s.nx=none:=hs.fresh s.nx (Nat.le_refl _) (by have:s.nx+1<=N:=hN; omega)
    refine ⟨hs.size,fun d v hd=> ?_,hs.defers,hs.heap.extra hnone _,hs.fresh.sub (Nat.le_succ _) (Nat.le_refl _)⟩
    rcases T.aB hd with ⟨rfl,rfl⟩ | ⟨_,hd⟩
    ·have:=hs.tm _ _ hk;generalize a.tmps.getD d Go.undef=u at this ⊢;cases this;exact .sliceN rfl
    ·exact hs.tm d v hd
   ·exact hs
  ·exact hs
 ·exact hs
theorem Py{ρ:Env}{B:Nat->Prop}{W w:World}{n N:Nat}{f:Ren}{a:Act}(os:List ah): ∀(sl:List Nat) (ps:List ab) (s:ASt),(v9 os sl ps s).nx<=N->eh ρ B W n N f s a w->eh ρ B W n N f (v9 os sl ps s) a w:=by
 intro sl
 induction sl with
 |nil=>intro ps s _ hs; exact hs
 |cons k sl ih=>
  intro ps s hN hs;cases ps with
  |nil=>exact hs
  |cons p ps=>exact ih ps _ hN (QL os k p s (Nat.le_trans (Gd os sl ps _) hN) hs)
def ba.WN(C:Ctx)(c:ba)(s:ASt):Option (aM×ASt):=
 match slotsOf s.tm c.sl with
 |some args=>
  match c.con.fit C args s.hp s.nx with
  |some (sg,pb)=>
   match c.con.then C s.hp s.nx sg pb with
   | (v,hp',nx')=>
     match v with
     | .tuple vs=>
       match Nat.beq vs.length c.sl'.length with
       |true=>some (c.e,⟨MG c.sl' vs .nil,hp',nx'⟩)
       |false=>none
     |_=>none
  |none=>none
 |none=>none
theorem yM{a:Act}{l:List Nat}{i s:Nat}{x:Value}(hs:l[i]? =some s)(hx:(l.map fun k=>a.tmps.getD k Go.undef).toArray[i]? =some x):a.tmps.getD s Go.undef=x:=by
 have:(l.map fun k=>a.tmps.getD k Go.undef)[i]? =some x:=by simpa using hx
 rw [List.getElem?_map,hs] at this;exact Option.some.inj this
theorem iE.args{ρ:Env}{f:Ren}{tm:T ab}{a:Act}(ht:iE ρ f tm a){l:List Nat}{m:List ab}(h:slotsOf tm l=some m):az ρ f m (l.map fun k=>a.tmps.getD k Go.undef).toArray:=by
 obtain ⟨h1,h2⟩:=Fy h;refine ⟨by simp [h1],fun i v v' hv hv'=> ?_⟩
 have hi:i<l.length:=by rw [<- h1]; exact (List.getElem?_eq_some_iff.1 hv).1
 have hk:l[i]? =some (l[i]'hi):=List.getElem?_eq_getElem hi;obtain ⟨u,k1,k2⟩:=h2 i _ hk;rw [hv] at k1;cases k1;rw [<- yM hk hv'];exact ht _ _ k2
theorem iE.back{ρ:Env}{f:Ren}{a:Act}{l:Array Value}{sl:List Nat}{vs:List ab}(hv:ai ρ f (.tuple vs) (.tuple l))(hl: ∀(i s:Nat),sl[i]? =some s->l[i]? =some (a.tmps.getD s Go.undef)):iE ρ f (MG sl vs .nil) a:=by
 intro d v h
 rcases EX h with ⟨i,h1,h2⟩ |h1
 ·cases hv with
  |tuple ha hb=>exact hb i v _ h2 (hl i d h1)
 ·rw [T.get_nil] at h1; cases h1
theorem ba.U6{C:Ctx}{P:Program}{ρ:Env}(hC:C.Ok P ρ){G:Nat->Int->Int->Int->Int}{GH:Nat->bz}(hρ:ρ.std G GH){c:ba}(hwf:c.con.wf=true)(hc:c.Ok P G GH){fn:Func}{cd b:Code}(hf:P.funcs[c.con.g]? =some fn)(hb:fn.body=some cd)(hm:b∈cS cd)(hk:Code.key b=c.key)
 {s s':ASt} {e:aM} (h:c.WN C s=some (e,s')) {B:Nat->Prop} {W:World}: ∃m,fX P ρ B W c.n b m s e s':=by
 unfold ba.WN at h;split at h
 ·rename_i args hargs;split at h
  ·rename_i sg pb hfit;split at h;rename_i v hp' nx' hthen;split at h
   ·rename_i vs;split at h
    ·cases h;obtain ⟨h1,h2,h3⟩:=Con.tw hC hwf hfit
     have hnx:nx'=s.nx+(c.con.os'.length-c.con.os.length):=by
      have:=congrArg (·.2.2) hthen;exact this.symm
     subst hnx;obtain ⟨m,hat⟩:=hc fn cd b hf hb hm hk (ρ.rep (fY sg)) ⟨hρ.1,hρ.2⟩ h1 h2;refine ⟨m,Nat.le_add_right _ _,fun N f a w Q hN hr hQ=> ?_⟩
     have:=h3 _ (jj P b c m) hat B W f w (c.sl.map fun k=>a.tmps.getD k Go.undef).toArray hr.heap (hr.tm.args hargs) (hr.fresh.sub (Nat.le_refl _) hN)
     refine this a hr.size hr.defers (fun i s x hs hx=>yM hs hx) Q fun v' a' w' ⟨f',k1,k2,k3,k4⟩ k5 k6 ⟨l,k7,k8,k9⟩=> ?_
     rw [hthen] at k3 k4;subst k7;exact hQ f' a' w' k1 k2 ⟨k5,iE.back k4 k9,k6,k3,hr.fresh.step k2 (Nat.le_add_right _ _)⟩
    ·cases h
   ·cases h
  ·cases h
 ·cases h
def yg(bd:Bd)(dec:Dec)(os:List ah)(k:Nat)(p:ab)(s:ASt):ASt:=
 match p with
 | .sliceA i _ sz=>
   match s.tm.get k with
   |some (.slice (some (b,0)) n _ (g+1))=>
    match os[i]?,s.hp.get b with
    |some (.arr ks _ _ _),some (.cells cs t o top)=>
     match Nat.blt 0 n&&(Nat.beq sz (g+1)&&(ah.arr ks (ot (sd cs 0 (Nat.mul n sz))) (.lit (.ofNat n)) o).cov bd dec (.cells cs t o top)) with
     |true=>⟨s.tm.set k (.sliceA b (.lit (.ofNat n)) sz),s.hp.set b (.arr ks (ot (sd cs 0 (Nat.mul n sz))) (.lit (.ofNat n)) o),s.nx⟩
     |false=>s
    |_,_=>s
   |_=>s
 |_=>s
theorem Hx{ρ:Env}{bd:Bd}{dec:Dec}(hρ:ρ.ok bd)(hd:dec.holds ρ)(os:List ah)(k:Nat)(p:ab)(s:ASt):dP ρ s (yg bd dec os k p s)/\(yg bd dec os k p s).nx=s.nx:=by
 unfold yg;split
 ·rename_i i l sz;split
  ·rename_i b n c g hk;split
   ·rename_i ks c2 n2 o2 cs t o top hos hb;split
    ·rename_i hc;obtain ⟨h0,hc⟩:=aa hc;obtain ⟨h1,hc⟩:=aa hc;have h0:0<n:=by simpa [Nat.blt_eq] using h0
     have h1:=Nat.eq_of_beq_eq_true h1;subst h1;refine ⟨⟨fun k' v hv=> ?_,fun j x hx=> ?_,Nat.le_refl _⟩,rfl⟩
     ·rcases T.aB hv with ⟨rfl,rfl⟩ | ⟨_,hv⟩
      ·refine ⟨_,hk,fun f x hx=> ?_⟩
       generalize hu:(ab.slice (some (b,0)) n c (g+1))=u at hx;cases hx with
       |sliceG hf hn hc' hs=>
        cases hu;rename_i c'' L;have:=ai.sliceA (ρ:=ρ) (f:=f) (i:=b) (s:=g+1) (c:=c'') (len:= .lit (.ofNat n)) (L:=L) hf (by show (0:Int)<=(n:Int); omega) (by show ((n:Int)).toNat<=c''; omega) (by rw [Nat.add_zero] at hs; exact hs)
        exact this
       |sliceE hf hg hs=>cases hu; omega
       |_=>cases hu
      ·exact ⟨v,hv,fun _ _ h=>h⟩
     ·rcases T.aB hx with ⟨rfl,rfl⟩ | ⟨_,hx⟩
      ·exact ⟨_,hb,rfl,fun _ _ _=>Iff.rfl,fun f B w L ho=>(ah.xX (ρ:=ρ) hρ hd hc ho).1⟩
      ·exact ⟨x,hx,rfl,fun _ _ _=>Iff.rfl,fun _ _ _ _ h=>h⟩
    ·exact ⟨dP.refl ρ s,rfl⟩
   ·exact ⟨dP.refl ρ s,rfl⟩
  ·exact ⟨dP.refl ρ s,rfl⟩
 ·exact ⟨dP.refl ρ s,rfl⟩
def KX(bd:Bd)(dec:Dec)(os:List ah):List Nat->List ab->ASt->ASt
 |k::sl,p::ps,s=>KX bd dec os sl ps (yg bd dec os k p s)
 |_,_,s=>s
theorem Nz{ρ:Env}{bd:Bd}{dec:Dec}(hρ:ρ.ok bd)(hd:dec.holds ρ)(os:List ah): ∀(sl:List Nat) (ps:List ab) (s:ASt),dP ρ s (KX bd dec os sl ps s)/\(KX bd dec os sl ps s).nx=s.nx:=by
 intro sl
 induction sl with
 |nil=>intro ps s; exact ⟨dP.refl ρ s,rfl⟩
 |cons k sl ih=>
  intro ps s;cases ps with
  |nil=>exact ⟨dP.refl ρ s,rfl⟩
  |cons p ps=>
   obtain ⟨a1,a2⟩:=Hx hρ hd os k p s;obtain ⟨b1,b2⟩:=ih ps (yg bd dec os k p s);exact ⟨a1.trans b1,b2.trans a2⟩
def Aa(c:Con)(sl:List Nat)(s:ASt):ASt:=
 match slotsOf s.tm sl with
 |some args=>
  match c.H9 args s.hp s.nx with
  | (h,nx)=>⟨s.tm,h,nx⟩
 |none=>s
theorem Qq{ρ:Env}(c:Con)(sl:List Nat)(s:ASt):s.nx<=(Aa c sl s).nx/\ ∀ {B:Nat->Prop} {W w:World} {n N:Nat} {f:Ren} {a:Act},(Aa c sl s).nx<=N->eh ρ B W n N f s a w->eh ρ B W n N f (Aa c sl s) a w:=by
 unfold Aa;split
 ·rename_i args _;have hp:=Con.K2 ρ c args s.hp s.nx;generalize c.H9 args s.hp s.nx=hn at hp;obtain ⟨h1,nx1⟩:=hn;refine ⟨hp.1,fun {B W w n N f a} hN hs=> ?_⟩
  have hN:nx1<=N:=hN;exact ⟨hs.size,hs.tm,hs.defers,hp.2 B W f w hs.heap fun j a b=>hs.fresh j a (Nat.lt_of_lt_of_le b hN),hs.fresh.sub hp.1 (Nat.le_refl _)⟩
 ·exact ⟨Nat.le_refl _,fun _ hs=>hs⟩
def ba.ready(C:Ctx)(c:ba)(s:ASt):ASt:=KX C.bd C.dec c.con.os c.sl c.con.args (Aa c.con c.sl (v9 c.con.os c.sl c.con.args s))
def ba.run(C:Ctx)(c:ba)(s:ASt):Option (aM×ASt):=c.WN C (c.ready C s)
theorem ba.WJ{C:Ctx}{P:Program}{ρ:Env}(hC:C.Ok P ρ){G:Nat->Int->Int->Int->Int}{GH:Nat->bz}(hρ:ρ.std G GH){c:ba}(hwf:c.con.wf=true)(hc:c.Ok P G GH){fn:Func}{cd b:Code}(hf:P.funcs[c.con.g]? =some fn)(hb:fn.body=some cd)(hm:b∈cS cd)(hk:Code.key b=c.key)
 {s s':ASt} {e:aM} (h:c.run C s=some (e,s')) {B:Nat->Prop} {W:World}: ∃m,fX P ρ B W c.n b m s e s':=by
 obtain ⟨m,h1,h2⟩:=ba.U6 hC hρ hwf hc hf hb hm hk h (B:=B) (W:=W);have hle:=Gd c.con.os c.sl c.con.args s;obtain ⟨hle2,ho⟩:=Qq (ρ:=ρ) c.con c.sl (v9 c.con.os c.sl c.con.args s);unfold ba.ready at h1 h2;obtain ⟨hcov,hnx⟩:=Nz (ρ:=ρ) hC.bd hC.dec c.con.os c.sl c.con.args (Aa c.con c.sl (v9 c.con.os c.sl c.con.args s));rw [hnx] at h1 h2;refine ⟨m,Nat.le_trans hle (Nat.le_trans hle2 h1),fun N f a w Q hN hs hQ=>h2 N f a w Q hN (hcov.st (ho (Nat.le_trans h1 hN) (Py _ _ _ _ (Nat.le_trans hle2 (Nat.le_trans h1 hN)) hs))) fun f' a' w' q1 q2 q3=>hQ f' a' w' q1 (fun j hj=>q2 j (by omega)) q3⟩
structure Know where
 cons:List Con:=[]
 loops:List ba:=[]
structure Know.Ok (P:Program) (G:Nat->Int->Int->Int->Int) (GH:Nat->bz) (K:Know):Prop where
 cons:bO P G GH K.cons
 loops: ∀c∈K.loops,c.con.wf=true/\c.Ok P G GH
def Ke:List ba->FuncId->Nat->Bool
 | [],_,_=>false
 |c::l,g,k=>
  match Nat.beq g c.con.g&&Nat.beq k c.key with
  |true=>true
  |false=>Ke l g k
def oL(C:Ctx):List ba->FuncId->Nat->Nat->ASt->Option (aM×ASt)
 | [],_,_,_,_=>none
 |c::l,g,n,k,s=>
  match Nat.beq g c.con.g&&(Nat.beq k c.key&&(Nat.beq n c.n&&c.pick s)) with
  |true=>
   match c.run C s with
   |some r=>some r
   |none=>oL C l g n k s
  |false=>oL C l g n k s
def vv(C:Ctx):List ba->FuncId->Nat->ASt->List BE
 | [],_,_,_=>[]
 |c::l,g,k,s=>
  match Nat.beq g c.con.g&&(Nat.beq k c.key&&c.pick s) with
  |true=>
   match c.ready C s with
   |t=>
    match slotsOf t.tm c.sl with
    |some args=>
     match c.con.ask C args t.hp with
     | []=>vv C l g k s
     |bs=>bs
    |none=>vv C l g k s
  |false=>vv C l g k s
def hH(C:Ctx)(K:Know):Sm:=
 {call:=fun dec=>nV (C.with dec) K.cons,ask:=fun dec g args h=>HB (C.with dec) K.cons g args h,
  lps:=fun g=>{has:=Ke K.loops g,run:=fun n k dec s=>oL (C.with dec) K.loops g n k s,ask:=fun k dec s=>vv (C.with dec) K.loops g k s}}
theorem Ao{C:Ctx}{P:Program}{ρ:Env}(hC:C.Ok P ρ){G:Nat->Int->Int->Int->Int}{GH:Nat->bz}(hρ:ρ.std G GH){K:Know}(hl:K.Ok P G GH):SmOk P ρ (hH C K):=by
 refine ⟨fun dec hd B W=>wg (hC.with hd) hρ hl.cons,fun g fn cd hf hb B W n b hm dec hd s e s' h=> ?_⟩
 have h:oL (C.with dec) K.loops g n (Code.key b) s=some (e,s'):=h
 have key: ∀l:List ba,(∀ c∈l,c.con.wf=true/\c.Ok P G GH)->oL (C.with dec) l g n (Code.key b) s=some (e,s')-> ∃m,fX P ρ B W n b m s e s':=by
  intro l
  induction l with
  |nil=>intro _ h; cases h
  |cons c l ih=>
   intro hl h;have hl': ∀c∈l,c.con.wf=true/\c.Ok P G GH:=fun c hc=>hl c (List.mem_cons_of_mem _ hc)
   unfold oL at h;split at h
   ·rename_i hck;obtain ⟨k1,hck⟩:=aa hck;obtain ⟨k2,hck⟩:=aa hck;obtain ⟨k3,_⟩:=aa hck;have k1:=Nat.eq_of_beq_eq_true k1;have k2:=Nat.eq_of_beq_eq_true k2;have k3:=Nat.eq_of_beq_eq_true k3;split at h
    ·rename_i r hr;cases h;obtain ⟨w1,w2⟩:=hl c (List.mem_cons_self ..);subst k3;exact ba.WJ (hC.with hd) hρ w1 w2 (by rw [<- k1]; exact hf) hb hm k2 hr
    ·exact ih hl' h
   ·exact ih hl' h
 exact key K.loops hl.loops h
def EH(C:Ctx)(g:FuncId)(k:Nat):Option Code:=
 match C.fn.get g with
 |some fn=>
  match fn.body with
  |some cd=>
   match (cS cd).filter fun b=>Nat.beq (Code.key b) k with
   | [b]=>some b
   |_=>none
  |none=>none
 |none=>none
def Vg(a b:Int):Int:=match aL a b with
 |true=>b
 |false=>a
def SN(a b:Int):Int:=match aL a b with
 |true=>a
 |false=>b
def isVar(i:Nat):IE->Bool
 | .var j=>Nat.beq j i
 |_=>false
def Bp(bd:Bd)(i:Nat)(a b:IE)(v:Bool)(r:Int×Int):Int×Int:=
 match isVar i a with
 |true=>match rng bd b with
  |some (l,h)=>match v with
   |true=>(r.1,SN r.2 (h-1))
   |false=>(Vg r.1 l,r.2)
  |none=>r
 |false=>r
def PX(bd:Bd)(i:Nat)(a b:IE)(v:Bool)(r:Int×Int):Int×Int:=
 match isVar i b with
 |true=>match rng bd a with
  |some (l,h)=>match v with
   |true=>(Vg r.1 (l+1),r.2)
   |false=>(r.1,SN r.2 h)
  |none=>r
 |false=>r
def ye(bd:Bd)(i:Nat):Dec->Int×Int->Int×Int
 | [],r=>r
 | (t,v)::l,r=>match t with
   | .lt a b=>ye bd i l (PX bd i a b v (Bp bd i a b v r))
   |_=>ye bd i l r
def l9(bd:Bd)(dec:Dec):List (Nat×Int×Int)->List (Nat×Int×Int)
 | []=>[]
 | (i,_,_)::l=>match bd i with
   |some r=>match ye bd i dec r with
    | (lo,hi)=>(i,lo,hi)::l9 bd dec l
   |none=>l9 bd dec l
theorem En{i:Nat}{a:IE}(h:isVar i a=true):a= .var i:=by
 unfold isVar at h;split at h
 ·rw [Nat.eq_of_beq_eq_true h]
 ·cases h
theorem Ln{a b x:Int}(h1:a<=x)(h2:b<=x):Vg a b<=x:=by
 unfold Vg; split<;>assumption
theorem JZ{a b x:Int}(h1:x<=a)(h2:x<=b):x<=SN a b:=by
 unfold SN; split<;>assumption
theorem M0{ρ:Env}{bd:Bd}(hρ:ρ.ok bd){i:Nat}: ∀ {dec:Dec},dec.holds ρ-> ∀ {r:Int×Int},r.1<=ρ.i i/\ρ.i i<=r.2->(ye bd i dec r).1<=ρ.i i/\ρ.i i<=(ye bd i dec r).2:=by
 intro dec
 induction dec with
 |nil=>intro _ r hr; exact hr
 |cons p l ih=>
  intro hd r hr;have hl:Dec.holds ρ l:=fun q hq=>hd q (List.mem_cons_of_mem _ hq)
  obtain ⟨t,v⟩:=p;cases t with
  |lt a b=>
   have hb:decide (a.ev ρ<b.ev ρ)=v:=hd (.lt a b,v) (List.mem_cons_self ..);refine ih hl ?_
   have h1:(Bp bd i a b v r).1<=ρ.i i/\ρ.i i<=(Bp bd i a b v r).2:=by
    unfold Bp;split
    ·rename_i hv;have hv:=En hv;subst hv;split
     ·rename_i lo hi hr';have:=bD hρ b _ _ hr';have e:(IE.var i).ev ρ=ρ.i i:=rfl;rw [e] at hb;split
      ·have hb:=of_decide_eq_true hb;exact ⟨hr.1,JZ hr.2 (by omega)⟩
      ·have hb:=of_decide_eq_false hb;exact ⟨Ln hr.1 (by omega),hr.2⟩
     ·exact hr
    ·exact hr
   unfold PX;split
   ·rename_i hv;have hv:=En hv;subst hv;split
    ·rename_i lo hi hr';have:=bD hρ a _ _ hr';have e:(IE.var i).ev ρ=ρ.i i:=rfl;rw [e] at hb;split
     ·have hb:=of_decide_eq_true hb;exact ⟨Ln h1.1 (by omega),h1.2⟩
     ·have hb:=of_decide_eq_false hb;exact ⟨h1.1,JZ h1.2 (by omega)⟩
    ·exact h1
   ·exact h1
  |_=>exact ih hl hr
theorem MZ{ρ:Env}{bd:Bd}(hρ:ρ.ok bd){dec:Dec}(hd:dec.holds ρ): ∀ {l:List (Nat×Int×Int)} (i:Nat) (lo hi:Int),(i,lo,hi)∈l9 bd dec l->lo<=ρ.i i/\ρ.i i<=hi:=by
 intro l
 induction l with
 |nil=>intro i lo hi h; cases h
 |cons p l ih=>
  intro i lo hi h;obtain ⟨j,a,b⟩:=p;unfold l9 at h;split at h
  ·rename_i r hr;split at h;rename_i lo' hi' he
   rcases List.mem_cons.1 h with h |h
   ·cases h;have:=M0 hρ (i:=i) hd (r:=r) (hρ i r.1 r.2 hr);rw [he] at this;exact this
   ·exact ih i lo hi h
  ·exact ih i lo hi h
def Ctx.sharp(C:Ctx)(l:List (Nat×Int×Int))(dec:Dec):Ctx:={C with bd:=bdL (l9 C.bd dec l),dec:=dec}
theorem Ctx.Ok.sharp{C:Ctx}{P:Program}{ρ:Env}(hC:C.Ok P ρ)(l:List (Nat×Int×Int)){dec:Dec}(hd:dec.holds ρ):(C.sharp l dec).Ok P ρ:=
 ⟨hC.ty,hC.fn,Dg fun i lo hi h=>MZ hC.bd hd i lo hi h,hd,hC.plain,hC.mixed⟩
def ASt.Sn(bd:Bd)(dec:Dec)(s:ASt):ASt:=⟨s.tm.qf (ab.nrmA bd dec),s.hp.qf (zk bd dec IE.var id),s.nx⟩
theorem ASt.FI{ρ:Env}{bd:Bd}{dec:Dec}(hρ:ρ.ok bd)(hd:dec.holds ρ)(s:ASt):dP ρ s (s.Sn bd dec):=by
 refine ⟨fun k v hv=> ?_,fun i o ho=> ?_,Nat.le_refl _⟩
 ·have hv:(s.tm.qf (ab.nrmA bd dec)).get k=some v:=hv;rw [T.iI] at hv;cases hu:s.tm.get k with
  |none=>rw [hu] at hv; cases hv
  |some u=>
   rw [hu] at hv;cases hv;exact ⟨u,rfl,fun f x h=>ab.Ko hρ hd h⟩
 ·have ho:(s.hp.qf (zk bd dec IE.var id)).get i=some o:=ho;rw [T.iI] at ho;cases hu:s.hp.get i with
  |none=>rw [hu] at ho; cases ho
  |some u=>
   rw [hu] at ho;cases ho;refine ⟨u,rfl,R6 u,fun w L c=>by cases u<;>exact Iff.rfl,fun f B w L h=> ?_⟩
   have hr:c9 (ρ.rep IE.var) f B w L u:=by rw [sq]; exact h
   have hle:f.le (f.via (fun _=>true) id):=fun j M hj=>hj
   exact (KJ (σ:=IE.var) (π:=id) (d:=fun _=>true) hρ hd hle (B':=B) (fun ho=>iD hr ho) hr).1
def ba.once(C C':Ctx)(c:ba)(μ:IE)(dec:Dec)(s:ASt)(again:Dec->Out):Out:=
 match slotsOf s.tm c.sl with
 |some args=>
  match c.con.fit C' args s.hp s.nx with
  |some (sg,pb)=>
   match wz C'.bd 6 dec (.lt (μ.rep (fY sg)) μ),wz C'.bd 6 dec (.lt (μ.rep (fY sg)) (.lit 0)) with
   |some true,some false=>
    match c.con.then C' s.hp s.nx sg pb with
    | (v,hp',nx')=> .leaf .normal ⟨T.nil.set 0 v,hp',nx'⟩
   |_,_=> .bad (.num 202)
  |none=>
   match pw C.bd dec (c.con.ask C' args s.hp) with
   | ⟨true,d,_⟩=>again d
   | ⟨false,_,some t⟩=>Out.part t (facts C.bd t dec) again again
   | ⟨false,_,none⟩=> .bad (.num 203)
 |none=> .bad (.num 204)
def ba.back(C:Ctx)(c:ba)(μ:IE):Nat->Dec->aM->ASt->Out
 |0,_,_,_=> .bad (.num 201)
 |k+1,dec,e,s=>
  match e with
  | .normal=>ba.once C (C.sharp c.con.bds dec) c μ dec (s.Sn (bdL (l9 C.bd dec c.con.bds)) dec) (fun d=>ba.back C c μ k d .normal s)
  |e=>
   match kO e c.e with
   |true=>
    match slotsOf s.tm c.sl' with
    |some vs=> .leaf .ret ⟨T.nil.set 0 (.tuple vs),s.hp,s.nx⟩
    |none=> .bad (.num 205)
   |false=> .bad (.num 206)
def ba.tree(c:ba)(P:Program)(K:Know)(L:Nat)(pol:FuncId->Nat->Bool)(pure:FuncId->Bool)(d:Nat)(facts:Dec)(μ:IE):Out:=
 match EH (eF P (bdL c.con.bds)) c.con.g c.key with
 |some b=>
  (uf (eF P (bdL c.con.bds)) (xJ (hH (eF P (bdL c.con.bds)) K) pure (pE (eF P (bdL c.con.bds)) (hH (eF P (bdL c.con.bds)) K) L pol pure d)) (hH (eF P (bdL c.con.bds)) K).call (qM pure (pE (eF P (bdL c.con.bds)) (hH (eF P (bdL c.con.bds)) K) L pol pure d))
   (Qp (eF P (bdL c.con.bds)) (hH (eF P (bdL c.con.bds)) K) pure (pE (eF P (bdL c.con.bds)) (hH (eF P (bdL c.con.bds)) K) L pol pure d)) (HE (eF P (bdL c.con.bds)) (hH (eF P (bdL c.con.bds)) K)) ((hH (eF P (bdL c.con.bds)) K).lps c.con.g) c.n L (pol c.con.g) b (facts++c.con.pre)
   (ASt.Sn (bdL c.con.bds) (facts++c.con.pre) ⟨MG c.sl c.con.args .nil,aF c.con.os 0 .nil,c.con.os.length⟩)).bind (facts++c.con.pre) (c.back (eF P (bdL c.con.bds)) μ 8)
 |none=> .bad (.num 207)
theorem ba.Vy{C:Ctx}{P:Program}{ρ:Env}(hC:C.Ok P ρ){G:Nat->Int->Int->Int->Int}{GH:Nat->bz}(hρ:ρ.std G GH){c:ba}(hwf:c.con.wf=true){μ:IE}{b:Code}{B:Nat->Prop}{W:World}{m:Nat}
 (ih: ∀ρ':Env,ρ'.std G GH->ρ'.ok (bdL c.con.bds)->c.con.pre.holds ρ'->(μ.ev ρ').toNat<(μ.ev ρ).toNat->c.con.vb (l0 P b c m) ρ'): ∀(k:Nat) (dec:Dec),Dec.holds ρ dec-> ∀(e1:aM) (s1:ASt) (e:aM) (s:ASt),(c.back C μ k dec e1 s1).pick ρ=some (e,s)->
  s1.nx<=s.nx/\ ∀N f1 a1 w1 (Q0:Exit->Act->World->Prop),s.nx<=N->eh ρ B W c.n N f1 s1 a1 w1->
   (∀ (v:Value) (a':Act) (w':World),(∃ f',f1.le f'/\Outside f1 f' s1.nx s.nx/\au ρ B W f' s.hp w'/\ ∀u,s.tm.get 0=some u->ai ρ f' u v)->a'.tmps.size=c.n->a'.defers=[]->(∃ l:Array Value,v= .tuple l/\l.size=c.sl'.length/\ ∀(i s:Nat),c.sl'[i]? =some s->l[i]? =some (a'.tmps.getD s Go.undef))->Q0 c.e.to a' w')->
   Exit.then (Code.rounds P b Q0 m) Q0 e1.to a1 w1:=by
 intro k
 induction k with
 |zero=>intro dec _ e1 s1 e s h; cases h
 |succ k ihk=>
  intro dec hd e1 s1 e s h;unfold ba.back at h;split at h
  · -- once more
    have hCs:=hC.sharp c.con.bds hd;have hcov:=ASt.FI (ρ:=ρ) hCs.bd hd s1;have hbd:(C.sharp c.con.bds dec).bd=bdL (l9 C.bd dec c.con.bds):=rfl;rw [hbd] at hcov;have hnx1:(s1.Sn (bdL (l9 C.bd dec c.con.bds)) dec).nx=s1.nx:=rfl;generalize s1.Sn (bdL (l9 C.bd dec c.con.bds)) dec=s2 at h hcov hnx1;generalize C.sharp c.con.bds dec=Cs at h hCs;unfold ba.once at h;split at h
    ·rename_i args hargs;split at h
     ·rename_i sg pb hfit;split at h
      ·rename_i m1 m2;split at h;rename_i v hp' nx' hthen;cases h;obtain ⟨h1,h2,h3⟩:=Con.tw hCs hwf hfit;have hnx:nx'=s2.nx+(c.con.os'.length-c.con.os.length):=(congrArg (·.2.2) hthen).symm;subst hnx;rw [hnx1] at h3 ⊢;refine ⟨Nat.le_add_right _ _,fun N f1 a1 w1 Q0 hN hr0 hQ=> ?_⟩
       have hr:=hcov.st hr0;have q1:=tf hCs.bd 6 dec _ _ hd m1;have q2:=tf hCs.bd 6 dec _ _ hd m2;have q1:(μ.rep (fY sg)).ev ρ<μ.ev ρ:=of_decide_eq_true q1;have q2: ¬(μ.rep (fY sg)).ev ρ<0:=of_decide_eq_false q2;rw [IE.a9] at q1 q2;have hat:=ih (ρ.rep (fY sg)) ⟨hρ.1,hρ.2⟩ h1 h2 (by omega)
       refine h3 _ (jj P b c m) hat B W f1 w1 (c.sl.map fun k=>a1.tmps.getD k Go.undef).toArray hr.heap (hr.tm.args hargs) (hr0.fresh.sub (Nat.le_refl _) hN) a1 hr.size hr.defers (fun i s x hs hx=>yM hs hx) Q0 fun v' a' w' ⟨f',k1,k2,k3,k4⟩ k5 k6 k7=> ?_
       rw [hnx1] at hthen;rw [hthen] at k3 k4;refine hQ v' a' w' ⟨f',k1,k2,k3,fun u hu=> ?_⟩ k5 k6 k7
       have hu:(T.nil.set 0 v).get 0=some u:=hu
       rcases T.aB hu with ⟨_,rfl⟩ | ⟨h0,_⟩
       ·exact k4
       ·exact absurd rfl h0
      ·cases h
     ·have hl:=ni hC.bd hd (c.con.ask Cs args s2.hp);split at h
      ·rename_i d q hq;rw [hq] at hl;exact ihk d hl .normal s1 e s h
      ·rename_i t _;obtain ⟨d,h1,h2⟩:=Out.jr (jz hC.bd t hd) t (fun d=>ba.back C c μ k d .normal s1) (fun d=>ba.back C c μ k d .normal s1)
       rw [h2] at h;cases ht:t.ev ρ
       ·rw [ht] at h; exact ihk d h1 .normal s1 e s h
       ·rw [ht] at h; exact ihk d h1 .normal s1 e s h
      ·cases h
    ·cases h
  · -- the end
    rename_i hne;split at h
    ·rename_i hex;have hex:=j5 hex;split at h
     ·rename_i vs hvs;cases h;refine ⟨Nat.le_refl _,fun N f1 a1 w1 Q0 hN hr hQ=> ?_⟩
      have hq:Q0 e1.to a1 w1:=by
       rw [hex];refine hQ (.tuple (c.sl'.map fun k=>a1.tmps.getD k Go.undef).toArray) a1 w1 ⟨f1,Ren.le_refl _,fun _ _=>rfl,hr.heap,fun u hu=> ?_⟩ hr.size hr.defers ⟨_,rfl,by simp,fun i s hs=>by simp [hs]⟩
       have hu:(T.nil.set 0 (ab.tuple vs)).get 0=some u:=hu
       rcases T.aB hu with ⟨_,rfl⟩ | ⟨h0,_⟩
       ·have:=hr.tm.args hvs;exact .tuple this.1 this.2
       ·exact absurd rfl h0
      cases e1 with
      |normal=>exact absurd rfl hne
      |exit i=>exact hq
      |ret=>exact hq
     ·cases h
    ·cases h
theorem ba.dJ{P:Program}(mixed:P.follows .mixedOrders=true){G:Nat->Int->Int->Int->Int}{GH:Nat->bz}{K:Know}(hK:K.Ok P G GH){c:ba}(hwf:c.con.wf=true)(hsl:c.sl.length=c.con.args.length){L:Nat}{pol:FuncId->Nat->Bool}{pure:FuncId->Bool}{d:Nat}{facts:Dec}{μ:IE}{ρ:Env}(h1:ρ.std G GH)(h2:ρ.ok (bdL c.con.bds))(h3:c.con.pre.holds ρ)(hf:facts.holds ρ)
 {fn:Func} {cd b:Code} (hfn:P.funcs[c.con.g]? =some fn) (hb:fn.body=some cd) (hm:b∈cS cd) (hk:Code.key b=c.key) {m:Nat} (ih: ∀ρ':Env,ρ'.std G GH->ρ'.ok (bdL c.con.bds)->c.con.pre.holds ρ'->(μ.ev ρ').toNat<(μ.ev ρ).toNat->c.con.vb (l0 P b c m) ρ')
 {e:aM} {s:ASt} (hs:(c.tree P K L pol pure d facts μ).pick ρ=some (e,s)): ∀B W,E7 (l0 P b c (m+1)) ρ B W c.con.args (aF c.con.os 0 .nil) c.con.os.length s:=by
 intro B W;have hC:(eF P (bdL c.con.bds)).Ok P ρ:=xg mixed h2
 have hd:Dec.holds ρ (facts++c.con.pre):=fun p hp=>by
  rcases List.mem_append.1 hp with hp |hp
  ·exact hf p hp
  ·exact h3 p hp
 unfold ba.tree at hs;split at hs
 ·rename_i b' hb'
  have e0:b'=b:=by
   unfold EH at hb';split at hb'
   ·rename_i fn' hfn';have:=hC.fn _ _ hfn';rw [hfn] at this;cases this;rw [hb] at hb';simp only at hb';split at hb'
    ·rename_i b1 hl;cases hb';have:b∈(cS cd).filter fun b=>Nat.beq (Code.key b) c.key:=List.mem_filter.2 ⟨hm,by rw [hk]; exact Nat.beq_refl _⟩
     rw [hl] at this;exact (List.mem_singleton.1 this).symm
    ·cases hb'
   ·cases hb'
  subst e0;obtain ⟨e1,s1,d1,hd1,p1,p2⟩:=Out.hJ hd hs;have hsm:=Ao hC h1 hK;have htr:=DI hC hsm L pol pure d;have q:=(Eb (B:=B) (W:=W) (n:=c.n) (ask:=Qp (eF P (bdL c.con.bds)) (hH (eF P (bdL c.con.bds)) K) pure (pE (eF P (bdL c.con.bds)) (hH (eF P (bdL c.con.bds)) K) L pol pure d)) (asko:=HE (eF P (bdL c.con.bds)) (hH (eF P (bdL c.con.bds)) K)) hC (zO hsm htr) (fun dec hd=>hsm.call dec hd B W) (uJ htr) L (pol c.con.g) b' (fun x hx=>hsm.lps _ fn cd hfn hb B W c.n x (loops_in hm hx)) (facts++c.con.pre) hd _ _ _ p1).1
  obtain ⟨r1,r2⟩:=ba.Vy (B:=B) (W:=W) hC h1 hwf ih 8 d1 hd1 e1 s1 e s p2;refine ⟨Nat.le_trans q.1 r1,fun f w args' hr ha hfr a k1 k2 k3 Q0 hQ=> ?_⟩
  refine q.2 s.nx f a w _ r1 ((ASt.FI h2 hd ⟨MG c.sl c.con.args .nil,aF c.con.os 0 .nil,c.con.os.length⟩).st ⟨k1,fun dd v hv=> ?_,k2,hr,hfr⟩) fun f1 a1 w1 l1 o1 r=> ?_
  ·rcases EX hv with ⟨i,i1,i2⟩ |h
   ·obtain ⟨x,x1,x2⟩:=az.get ha i2;rw [k3 i dd x i1 x1];exact x2
   ·rw [T.get_nil] at h; cases h
  ·refine r2 s.nx f1 a1 w1 Q0 (Nat.le_refl _) r fun v a' w' ⟨f',y1,y2,y3,y4⟩ y5 y6 y7=>hQ v a' w' ⟨f',Ren.le_trans l1 y1,o1.trans y2 q.1 r1,y3,y4⟩ y5 y6 y7
 ·cases hs
where
 loops_in: ∀ {cd b x:Code},b∈cS cd->x∈cS b->x∈cS cd:=by
  intro cd
  induction cd with
  |seq a b iha ihb=>
   intro b' x h1 h2
   rcases List.mem_append.1 h1 with h |h
   ·exact List.mem_append.2 (.inl (iha h h2))
   ·exact List.mem_append.2 (.inr (ihb h h2))
  |cond c a b iha ihb=>
   intro b' x h1 h2
   rcases List.mem_append.1 h1 with h |h
   ·exact List.mem_append.2 (.inl (iha h h2))
   ·exact List.mem_append.2 (.inr (ihb h h2))
  |block id c ih=>intro b' x h1 h2; exact ih h1 h2
  |scope c ih=>intro b' x h1 h2; exact ih h1 h2
  |loop c ih=>
   intro b' x h1 h2
   rcases List.mem_cons.1 h1 with rfl |h
   ·exact List.mem_cons_of_mem _ h2
   ·exact List.mem_cons_of_mem _ (ih h h2)
  |_=>intro b' x h1; cases h1
def Con.Leaves(c:Con)(G:Nat->Int->Int->Int->Int)(GH:Nat->bz)(o:Out):Prop:=
 ∀ρ:Env,ρ.std G GH->ρ.ok (bdL c.bds)->c.pre.holds ρ-> ∃e s at' q,o.pick ρ=some (e,s)/\c.ends at' s=some q/\q.hold ρ
theorem ba.f6{P:Program}(mixed:P.follows .mixedOrders=true){G:Nat->Int->Int->Int->Int}{GH:Nat->bz}{K:Know}(hK:K.Ok P G GH){c:ba}(hwf:c.con.wf=true)(hsl:c.sl.length=c.con.args.length){L:Nat}{pol:FuncId->Nat->Bool}{pure:FuncId->Bool}{d:Nat}{facts:Dec}{μ:IE}
 (hf: ∀ρ:Env,ρ.std G GH->ρ.ok (bdL c.con.bds)->c.con.pre.holds ρ->facts.holds ρ) (h:c.con.Leaves G GH (c.tree P K L pol pure d facts μ)):c.Ok P G GH:=by
 intro fn cd b hfn hb hm hk
 have key: ∀m,∀ρ:Env,ρ.std G GH->ρ.ok (bdL c.con.bds)->c.con.pre.holds ρ->(μ.ev ρ).toNat<m->c.con.vb (l0 P b c m) ρ:=by
  intro m
  induction m with
  |zero=>intro ρ _ _ _ h; omega
  |succ m ih=>
   intro ρ h1 h2 h3 hlt;obtain ⟨e,s,at',q,p1,p2,p3⟩:=h ρ h1 h2 h3;exact Con.ig (jj P b c (m+1)) (ba.dJ mixed hK hwf hsl h1 h2 h3 (hf ρ h1 h2 h3) hfn hb hm hk (fun ρ' k1 k2 k3 k4=>ih ρ' k1 k2 k3 (by omega)) p1) p2 p3
 intro ρ h1 h2 h3;exact ⟨_,key _ ρ h1 h2 h3 (Nat.lt_succ_self _)⟩
def CT(q:IE->IE->Bool):Prs->Bool
 | []=>true
 |p::l=>
  match q p.1 p.2 with
  |true=>CT q l
  |false=>false
theorem f7{ρ:Env}{q:IE->IE->Bool}(hq: ∀a b,q a b=true->a.ev ρ=b.ev ρ): ∀ {l:Prs},CT q l=true->l.hold ρ:=by
 intro l
 induction l with
 |nil=>intro _ p hp; cases hp
 |cons x l ih=>
  intro h p hp;simp only [CT] at h;split at h
  ·rename_i hx
   rcases List.mem_cons.1 hp with rfl |hp
   ·exact hq _ _ hx
   ·exact ih h p hp
  ·cases h
def Ep:List ah->Nat->T Nat->T Nat
 | [],_,t=>t
 |o::l,i,t=>Ep l (i+1) (match o.dead with
  |true=>t
  |false=>t.set i i)
def SH(h:T ah):Nat->List ah->Mt->Mt
 |_,[],m=>m
 |i,o::os,m=>
  match m.bl.get i with
  |none=>SH h (i+1) os m
  |some j=>
   match h.get j with
   |some a=>SH h (i+1) os (mAO o a m)
   |none=>SH h (i+1) os m
def Con.ad4(c:Con)(s:ASt):List Nat:=
 match s.tm.get 0 with
 |none=>[]
 |some v=>
  match SH s.hp 0 c.os' (mAV c.res v ⟨.nil,Ep (c.os'.take c.os.length) 0 .nil⟩) with
  |m=>
   match blocks m c.os.length (c.os'.length-c.os.length) with
   |some l=>l
   |none=>[]
def Con.ef(c:Con)(s:ASt):Option Prs:=c.ends (c.ad4 s) s
def Con.leaf(c:Con)(q:Dec->IE->IE->Bool)(dec:Dec)(_:aM)(s:ASt):Bool:=
 match c.ef s with
 |some l=>CT (q dec) l
 |none=>false
def Con.ctx(c:Con)(P:Program):Ctx:=eF P (bdL c.bds)
def Con.tree(c:Con)(P:Program)(K:Know)(L:Nat)(pol:FuncId->Nat->Bool)(pure:FuncId->Bool)(d:Nat)(facts:Dec):Out:=
 pE (c.ctx P) (hH (c.ctx P) K) L pol pure d (facts++c.pre) c.g c.args (aF c.os 0 .nil) c.os.length
def qN(bd:Bd)(obs:List (Dec×IE×IE))(dec:Dec)(a b:IE):Bool:=
 match a.eqN bd dec b with
 |true=>true
 |false=>obs.any fun o=>a.eq o.2.1&&(b.eq o.2.2&&o.1.all fun p=>match settle dec p.1 with
  |some v=>bEq v p.2
  |none=>false)
def fC(ρ:Env)(obs:List (Dec×IE×IE)):Prop:= ∀o∈obs,Dec.holds ρ o.1->o.2.1.ev ρ=o.2.2.ev ρ
theorem Sl{ρ:Env}{bd:Bd}(hρ:ρ.ok bd){dec:Dec}(hd:dec.holds ρ){obs:List (Dec×IE×IE)}(ho:fC ρ obs){a b:IE}(h:qN bd obs dec a b=true):a.ev ρ=b.ev ρ:=by
 unfold qN at h;split at h
 ·rename_i h1;exact IE.cf hρ hd h1
 ·obtain ⟨o,h1,h2⟩:=List.any_eq_true.1 h;obtain ⟨h3,h4⟩:=aa h2;obtain ⟨h4,h5⟩:=aa h4;rw [IE.eq_eq h3,IE.eq_eq h4];refine ho o h1 fun p hp=> ?_
  have:=List.all_eq_true.1 h5 p hp;split at this
  ·rename_i v hv;rw [aq hd _ _ hv,dt this]
  ·cases this
def qP(bd:Bd)(k:Nat)(dec:Dec)(a b:IE):Bool:=
 match a.eqN bd dec b with
 |true=>true
 |false=>
  match prove bd k dec (mkEq bd a b) with
  |some v=>v
  |none=>false
theorem uR{ρ:Env}{bd:Bd}(hρ:ρ.ok bd){k:Nat}{dec:Dec}(hd:dec.holds ρ){a b:IE}(h:qP bd k dec a b=true):a.ev ρ=b.ev ρ:=by
 unfold qP at h;split at h
 ·rename_i h1;exact IE.cf hρ hd h1
 ·split at h
  ·rename_i v hv;subst h;have:=cU hρ k dec _ _ hd hv;rw [dU hρ] at this;exact of_decide_eq_true this
  ·cases h
theorem bJ{ρ:Env}{a b:Dec}(h:a.holds ρ)(k:b.holds ρ):Dec.holds ρ (a++b):=by
 intro p hp
 rcases List.mem_append.1 hp with h1 |h1
 ·exact h p h1
 ·exact k p h1
section
variable{P:Program}{G:Nat->Int->Int->Int->Int}{GH:Nat->bz}{c:Con}{K:Know}
theorem Con.dJ(mixed:P.follows .mixedOrders=true)(hK:K.Ok P G GH){L:Nat}{pol:FuncId->Nat->Bool}{pure:FuncId->Bool}{d:Nat}{facts:Dec}{ρ:Env}(h1:ρ.std G GH)(h2:ρ.ok (bdL c.bds))(h3:c.pre.holds ρ)(hf:facts.holds ρ){e:aM}{s:ASt}
 (hs:(c.tree P K L pol pure d facts).pick ρ=some (e,s)): ∀B W,dA P ρ B W c.g c.args (aF c.os 0 .nil) c.os.length s:=by
 intro B W;have hC:(c.ctx P).Ok P ρ:=xg mixed h2;exact DI hC (Ao hC h1 hK) L pol pure d B W _ (bJ hf h3) _ _ _ _ _ _ hs
theorem Con.f6(mixed:P.follows .mixedOrders=true)(hK:K.Ok P G GH){L:Nat}{pol:FuncId->Nat->Bool}{pure:FuncId->Bool}{d:Nat}{facts:Dec}(hf: ∀ρ:Env,ρ.std G GH->ρ.ok (bdL c.bds)->c.pre.holds ρ->facts.holds ρ)(h:c.Leaves G GH (c.tree P K L pol pure d facts)):c.Ok P G GH:=by
 refine Con.Bn fun ρ h1 h2 h3=> ?_
 obtain ⟨e,s,at',q,p1,p2,p3⟩:=h ρ h1 h2 h3;exact ⟨s,at',q,Con.dJ mixed hK h1 h2 h3 (hf ρ h1 h2 h3) p1,p2,p3⟩
theorem Con.leaves(facts:Dec)(hf: ∀ρ:Env,ρ.std G GH->ρ.ok (bdL c.bds)->c.pre.holds ρ->facts.holds ρ)(obs:List (Dec×IE×IE))(ho: ∀ρ:Env,ρ.std G GH->ρ.ok (bdL c.bds)->c.pre.holds ρ->fC ρ obs){o:Out}(h:o.all (c.leaf (qN (bdL c.bds) obs)) (facts++c.pre)=true):c.Leaves G GH o:=by
 intro ρ h1 h2 h3;obtain ⟨e,s,dec',hd',p1,p2⟩:=Out.bP (bJ (hf ρ h1 h2 h3) h3) h;unfold Con.leaf at p2;split at p2
 ·rename_i q hq;exact ⟨e,s,_,q,p1,hq,f7 (fun a b hab=>Sl h2 hd' (ho ρ h1 h2 h3) hab) p2⟩
 ·cases p2
theorem Con.vh(mixed:P.follows .mixedOrders=true)(hK:K.Ok P G GH)(L:Nat)(pol:FuncId->Nat->Bool)(pure:FuncId->Bool)(d:Nat)(facts:Dec)(hf: ∀ρ:Env,ρ.std G GH->ρ.ok (bdL c.bds)->c.pre.holds ρ->facts.holds ρ)
 (obs:List (Dec×IE×IE)) (ho: ∀ρ:Env,ρ.std G GH->ρ.ok (bdL c.bds)->c.pre.holds ρ->fC ρ obs) (h:(c.tree P K L pol pure d facts).all (c.leaf (qN (bdL c.bds) obs)) (facts++c.pre)=true):c.Ok P G GH:=
 Con.f6 mixed hK hf (Con.leaves facts hf obs ho h)
def Con.runs(c:Con)(P:Program)(l:List Con)(L d:Nat):Bool:=
 match yi ((c.ctx P).with c.pre) (xp ((c.ctx P).with c.pre)) ⟨nV ((c.ctx P).with c.pre) l,fun _ _ _ _=>none⟩ L d c.g c.args (aF c.os 0 .nil) c.os.length with
 |some (v,h,nx)=>c.leaf (qN (bdL c.bds) []) c.pre .ret ⟨T.nil.set 0 v,h,nx⟩
 |none=>false
theorem Con.tz(mixed:P.follows .mixedOrders=true){l:List Con}(hl:bO P G GH l)(L d:Nat)(h:c.runs P l L d=true):c.Ok P G GH:=by
 refine Con.Bn fun ρ h1 h2 h3=> ?_
 unfold Con.runs at h;split at h
 ·rename_i v hp nx hr;have hC:((c.ctx P).with c.pre).Ok P ρ:=(xg mixed h2:(c.ctx P).Ok P ρ).with h3
  unfold Con.leaf at h;split at h
  ·rename_i q hq;refine ⟨_,_,q,fun B W=> ?_,hq,f7 (fun a b hab=>Sl h2 h3 (fun o ho=>by cases ho) hab) h⟩
   have hsm:SumsOk P ρ B W ⟨nV ((c.ctx P).with c.pre) l,fun _ _ _ _=>none⟩:=⟨wg hC h1 hl,fun _ _ _ _ _ _ _ _=>qo.none⟩
   obtain ⟨q1,q2⟩:=LR hC (Es hC) hsm L d _ _ _ _ _ _ _ hr;refine ⟨q1,fun f w args' hr ha hf=>(q2 f w args' hr ha hf).mono fun e w' ⟨v',f',a1,a2,a3,a4,a5⟩=>⟨v',f',a1,a2,a3,a4,fun u hu=> ?_⟩⟩
   have hu:(T.nil.set 0 v).get 0=some u:=hu
   rcases T.aB hu with ⟨_,rfl⟩ | ⟨h0,_⟩
   ·exact a5
   ·exact absurd rfl h0
  ·cases h
 ·cases h
def fp(g:FuncId):List ba->List ba
 | []=>[]
 |c::l=>
  match Nat.beq g c.con.g with
  |true=>c::fp g l
  |false=>fp g l
theorem jQ{g:FuncId}{l:List ba}{c:ba}(h:c∈fp g l):c∈l:=by
 induction l with
 |nil=>cases h
 |cons x l ih=>
  unfold fp at h;split at h
  ·rcases List.mem_cons.1 h with rfl |h
   ·exact List.mem_cons_self ..
   ·exact List.mem_cons_of_mem _ (ih h)
  ·exact List.mem_cons_of_mem _ (ih h)
def DQ(C:Ctx)(K:Know):Sums:=⟨nV C K.cons,fun g n k s=>oL C (fp g K.loops) g n k s⟩
theorem xW{C:Ctx}{ρ:Env}(hC:C.Ok P ρ)(hρ:ρ.std G GH)(hK:K.Ok P G GH)(B:Nat->Prop)(W:World):SumsOk P ρ B W (DQ C K):=by
 refine ⟨wg hC hρ hK.cons,fun g fn cd hf hb b hm n s e s' h=> ?_⟩
 have key: ∀l:List ba,(∀ c∈l,c.con.wf=true/\c.Ok P G GH)->oL C l g n (Code.key b) s=some (e,s')-> ∃m,fX P ρ B W n b m s e s':=by
  intro l
  induction l with
  |nil=>intro _ h; cases h
  |cons c l ih=>
   intro hl h;have hl': ∀c∈l,c.con.wf=true/\c.Ok P G GH:=fun c hc=>hl c (List.mem_cons_of_mem _ hc)
   unfold oL at h;split at h
   ·rename_i hck;obtain ⟨k1,hck⟩:=aa hck;obtain ⟨k2,hck⟩:=aa hck;obtain ⟨k3,_⟩:=aa hck;have k1:=Nat.eq_of_beq_eq_true k1;have k2:=Nat.eq_of_beq_eq_true k2;have k3:=Nat.eq_of_beq_eq_true k3;split at h
    ·rename_i r hr;cases h;obtain ⟨w1,w2⟩:=hl c (List.mem_cons_self ..);subst k3;exact ba.WJ hC hρ w1 w2 (by rw [<- k1]; exact hf) hb hm k2 hr
    ·exact ih hl' h
   ·exact ih hl' h
 exact key _ (fun c hc=>hK.loops c (jQ hc)) h
def Con.xu(c:Con)(P:Program)(K:Know)(L d:Nat):Bool:=
 match yi ((c.ctx P).with c.pre) (xp ((c.ctx P).with c.pre)) (DQ ((c.ctx P).with c.pre) K) L d c.g c.args (aF c.os 0 .nil) c.os.length with
 |some (v,h,nx)=>c.leaf (qN (bdL c.bds) []) c.pre .ret ⟨T.nil.set 0 v,h,nx⟩
 |none=>false
theorem Con.yU(mixed:P.follows .mixedOrders=true)(hK:K.Ok P G GH)(L d:Nat)(h:c.xu P K L d=true):c.Ok P G GH:=by
 refine Con.Bn fun ρ h1 h2 h3=> ?_
 unfold Con.xu at h;split at h
 ·rename_i v hp nx hr;have hC:((c.ctx P).with c.pre).Ok P ρ:=(xg mixed h2:(c.ctx P).Ok P ρ).with h3
  unfold Con.leaf at h;split at h
  ·rename_i q hq;refine ⟨_,_,q,fun B W=> ?_,hq,f7 (fun a b hab=>Sl h2 h3 (fun o ho=>by cases ho) hab) h⟩
   obtain ⟨q1,q2⟩:=LR hC (Es hC) (xW hC h1 hK B W) L d _ _ _ _ _ _ _ hr;refine ⟨q1,fun f w args' hr ha hf=>(q2 f w args' hr ha hf).mono fun e w' ⟨v',f',a1,a2,a3,a4,a5⟩=>⟨v',f',a1,a2,a3,a4,fun u hu=> ?_⟩⟩
   have hu:(T.nil.set 0 v).get 0=some u:=hu
   rcases T.aB hu with ⟨_,rfl⟩ | ⟨h0,_⟩
   ·exact a5
   ·exact absurd rfl h0
  ·cases h
 ·cases h
end
def IE.only(V:Nat->Bool)(K:Nat):IE->Bool
 | .lit _=>true
 | .var i=>V i
 | .add a b=>a.only V K&&b.only V K
 | .sub a b=>a.only V K&&b.only V K
 | .mul a b=>a.only V K&&b.only V K
 | .wrap _ a=>a.only V K
 | .bits _ _ a b=>a.only V K&&b.only V K
 | .quo a b=>a.only V K&&b.only V K
 | .rem a b=>a.only V K&&b.only V K
 | .shl _ a b=>a.only V K&&b.only V K
 | .shr _ a b=>a.only V K&&b.only V K
 | .fn c x y z=>Nat.blt c K&&(x.only V K&&(y.only V K&&z.only V K))
 | .sel _ a b x y=>a.only V K&&(b.only V K&&(x.only V K&&y.only V K))
def BE.only(V:Nat->Bool)(K:Nat):BE->Bool
 | .lit _=>true
 | .var _=>false
 | .eq a b=>a.only V K&&b.only V K
 | .lt a b=>a.only V K&&b.only V K
 | .not a=>a.only V K
section
variable{ρ ρ':Env}{V:Nat->Bool}{K:Nat}(hi: ∀i,V i=true->ρ.i i=ρ'.i i)(hg: ∀c,c<K->ρ.g c=ρ'.g c)
include hi hg
end
inductive RT where
 |bad
 |again (x:IE)
 |done (l:List IE)
 |split (b:BE) (y n:RT)
inductive RV where
 |bad
 |again (x:Int)
 |done (l:List Int)
def RT.pick(ρ:Env):RT->RV
 | .bad=> .bad
 | .again x=> .again (x.ev ρ)
 | .done l=> .done (l.map (·.ev ρ))
 | .split b y n=>aS (b.ev ρ) (y.pick ρ) (n.pick ρ)
def RT.only(V:Nat->Bool)(K:Nat):RT->Bool
 | .bad=>true
 | .again x=>x.only V K
 | .done l=>l.all (IE.only V K)
 | .split b y n=>b.only V K&&(y.only V K&&n.only V K)
def zz:Int->Nat
 | .ofNat n=>2*n
 | .negSucc n=>2*n+1
def cG(a b:Int):Int:=(2^zz a*(2*zz b+1):Nat)
theorem O7{a b:Int}(h:zz a=zz b):a=b:=by
 cases a<;>cases b<;>simp only [zz] at h<;>first | (congr 1; omega) |omega
theorem Uk: ∀(a c x y:Nat),2^a*(2*x+1)=2^c*(2*y+1)->a=c/\x=y:=by
 intro a
 induction a with
 |zero=>
  intro c x y h;cases c with
  |zero=>simp at h; exact ⟨rfl,by omega⟩
  |succ c=>rw [Nat.pow_succ] at h; have:2^c*2*(2*y+1)=2*(2^c*(2*y+1)):=by rw [Nat.mul_comm (2^c) 2,Nat.mul_assoc]
           omega
 |succ a ih=>
  intro c x y h;have e1:2^(a+1)*(2*x+1)=2*(2^a*(2*x+1)):=by rw [Nat.pow_succ,Nat.mul_comm (2^a) 2,Nat.mul_assoc]
  cases c with
  |zero=>omega
  |succ c=>
   have e2:2^(c+1)*(2*y+1)=2*(2^c*(2*y+1)):=by rw [Nat.pow_succ,Nat.mul_comm (2^c) 2,Nat.mul_assoc]
   obtain ⟨h1,h2⟩:=ih c x y (by omega)
   exact ⟨by omega,h2⟩
theorem L4{a b c d:Int}(h:cG a b=cG c d):a=c/\b=d:=by
 obtain ⟨h1,h2⟩:=Uk _ _ _ _ (Int.ofNat.inj h);exact ⟨O7 h1,O7 h2⟩
open Classical in
def unpI(x:Int):Int×Int:=if h: ∃p:Int×Int,cG p.1 p.2=x then Classical.choose h else (0,0)
theorem dK(a b:Int):unpI (cG a b)=(a,b):=by
 have h: ∃p:Int×Int,cG p.1 p.2=cG a b:=⟨(a,b),rfl⟩;unfold unpI;rw [dif_pos h];obtain ⟨h1,h2⟩:=L4 (Classical.choose_spec h);exact Prod.ext h1 h2
def L5(x:Int):Nat->Int
 |0=>(unpI x).1
 |n+1=>L5 (unpI x).2 n
structure Fns where
 KR:Nat
 KV:Nat
 vars:List Nat
def Fns.alike(F:Fns)(G:Nat->Int->Int->Int->Int)(X Y:Int):Prop:=G F.KR X 0 0=G F.KR Y 0 0/\ ∀z:Int,G F.KV X 0 z=G F.KV Y 0 z
theorem bY{ρ:Env}{c:Nat}(h:7<c)(x y z:Int):fnI ρ c x y z=ρ.g c x y z:=by
 unfold fnI fnL
 match c,h with
 |n+8,_=>rfl
section
variable{P:Program}{G:Nat->Int->Int->Int->Int}{GH:Nat->bz}{c:Con}{K:Know}
end
def Js(G:Nat->Int->Int->Int->Int)(vars:List Nat)(X:Int):Env:={i:=fun v=>L5 X (vars.idxOf v),b:=fun _=>false,g:=G}
def jA(G:Nat->Int->Int->Int->Int)(vars:List Nat)(t:RT):Nat->Int->Option (List Int)
 |0,_=>none
 |n+1,X=>
  match t.pick (Js G vars X) with
  | .bad=>none
  | .again Y=>jA G vars t n Y
  | .done l=>some l
open Classical in
def loopF(G:Nat->Int->Int->Int->Int)(vars:List Nat)(t:RT)(X:Int):List Int:=if h: ∃(n:Nat) (l:List Int),jA G vars t n X=some l then Classical.choose (Classical.choose_spec h) else []
end
end Go.Sx
namespace Go.Sx
open Go.RowKit (Below)
noncomputable section
def mN(M:Int):Int:=ag M (3:Nat)
def aP(M:Int):Bool:=decide (ag M (7:Nat)=1)
def mD(M:Int)(a:Nat):Int:=ag M (4*a:Nat)
def mC(M:Int)(a:Nat):Int:=ag M (4*a+1:Nat)
def mR(M:Int)(p:Nat):Int:=ag M (4*p+2:Nat)
def pgD(M:Int)(p:Nat):Int:=(rowOf ((List.range 256).map fun j=>mD M (256*p+j)):Nat)
def pgC(M:Int)(p:Nat):Int:=(rowOf ((List.range 256).map fun j=>mC M (256*p+j)):Nat)
def isByte(v:Int):Prop:=0<=v/\v<=255
def qu(M:Int)(j:Nat):Prop:=j=3\/j=7\/(∃ a,a<256*(mN M).toNat/\(j=4*a\/(aP M=false/\j=4*a+1)))\/ ∃p,p<(mN M).toNat/\j=4*p+2
structure l6 (M:Int):Prop where
 pos:0<=M
 coh:ag M (7:Nat)=0\/ag M (7:Nat)=1
 out: ∀j:Nat,¬qu M j->ag M j=0
theorem Sw{M:Int}{p j:Nat}(hj:j<256)(h:isByte (mD M (256*p+j))):ag (pgD M p) j=mD M (256*p+j):=
 cP _ j _ (by simp [hj]) (by unfold fE; obtain ⟨h1,h2⟩:=h; omega)
theorem TX{M:Int}{p j:Nat}(hj:j<256)(h:isByte (mC M (256*p+j))):ag (pgC M p) j=mC M (256*p+j):=
 cP _ j _ (by simp [hj]) (by unfold fE; obtain ⟨h1,h2⟩:=h; omega)
def m0(w:World)(b o:Nat)(D:Nat->Int):Prop:= ∃cs el fr,w.heap[b]? =some (.cells cs el fr)/\(∀ j,j<cs.size-> ¬(fr.1<=j/\j<fr.2))/\ ∀j,j<256->cs[o+j]? =some (.int .u8 (D j))/\isByte (D j)
structure Pages where
 ho:Nat
 sb:Nat
 so:Nat
 dp:Nat->Nat
 db:Nat->Nat
 cp:Nat->Nat
 cb:Nat->Nat
 od:Nat->Bool
 oc:Nat->Bool
structure iz (el sl:TypeId) (M:Int) (w:World) (g:Nat) (P:Pages):Prop where
 nle:0<=mN M/\mN M<=4096
 head: ∃cs fr cap,w.heap[g]? =some (.cells cs el fr)/\cs[P.ho+0]? =some (.slice (some ⟨P.sb,P.so,none⟩) (mN M).toNat cap)/\(mN M).toNat<=cap/\cs[P.ho+1]? =some (.bool (aP M))
 slots: ∃cs fr,w.heap[P.sb]? =some (.cells cs sl fr)/\(∀ j,j<cs.size-> ¬(fr.1<=j/\j<fr.2))/\ ∀p,p<(mN M).toNat->
  cs[P.so+(p*7)]? =some (.pointer (some ⟨P.dp p,P.db p,none⟩))/\cs[P.so+(p*7+1)]? =some (.pointer (match aP M with |true=>none |false=>some ⟨P.cp p,P.cb p,none⟩))/\
  cs[P.so+(p*7+2)]? =some (.bool (P.od p))/\cs[P.so+(p*7+3)]? =some (.bool (P.oc p))/\cs[P.so+(p*7+6)]? =some (.int .i64 (mR M p))/\0<=mR M p/\mR M p<=7
 data: ∀p,p<(mN M).toNat->m0 w (P.dp p) (P.db p) fun j=>mD M (256*p+j)
 code:aP M=false-> ∀p,p<(mN M).toNat->m0 w (P.cp p) (P.cb p) fun j=>mC M (256*p+j)
 gs:g≠P.sb
 gd: ∀p,p<(mN M).toNat->P.dp p≠g/\P.dp p≠P.sb
 gc:aP M=false-> ∀p,p<(mN M).toNat->P.cp p≠g/\P.cp p≠P.sb
 exD: ∀p,p<(mN M).toNat->P.od p=true->(∀ q,q<(mN M).toNat->q≠p->P.dp q≠P.dp p)/\(aP M=false-> ∀q,q<(mN M).toNat->P.cp q≠P.dp p)
 exC:aP M=false-> ∀p,p<(mN M).toNat->P.oc p=true->(∀ q,q<(mN M).toNat->q≠p->P.cp q≠P.cp p)/\ ∀q,q<(mN M).toNat->P.dp q≠P.cp p
 can:l6 M
def yl(M:Int)(g:Nat)(P:Pages)(b:Nat):Prop:=b=g\/b=P.sb\/(∃ p,p<(mN M).toNat/\b=P.dp p)\/(aP M=false/\ ∃p,p<(mN M).toNat/\b=P.cp p)
section
variable{el sl:TypeId}{M M':Int}{w w':World}{g:Nat}{P P':Pages}
theorem iz.inb(h:iz el sl M w g P){b:Nat}(hb:yl M g P b):b<w.heap.size:=by
 have lt: ∀ {b:Nat} {O:Obj},w.heap[b]? =some O->b<w.heap.size:=fun h=>(Array.getElem?_eq_some_iff.1 h).1
 rcases hb with rfl |rfl | ⟨p,hp,rfl⟩ | ⟨hc,p,hp,rfl⟩
 ·obtain ⟨_,_,_,h1,_⟩:=h.head; exact lt h1
 ·obtain ⟨_,_,h1,_⟩:=h.slots; exact lt h1
 ·obtain ⟨_,_,_,h1,_⟩:=h.data p hp; exact lt h1
 ·obtain ⟨_,_,_,h1,_⟩:=h.code hc p hp; exact lt h1
theorem m0.cO{b o:Nat}{D:Nat->Int}(h:m0 w b o D)(he:w'.heap[b]? =w.heap[b]?):m0 w' b o D:=by
 obtain ⟨cs,el,fr,h1,h2⟩:=h;exact ⟨cs,el,fr,he.trans h1,h2⟩
theorem iz.cO(h:iz el sl M w g P)(he: ∀b,yl M g P b->w'.heap[b]? =w.heap[b]?):iz el sl M w' g P:=by
 refine ⟨h.nle,?_,?_,fun p hp=>(h.data p hp).cO (he _ (.inr (.inr (.inl ⟨p,hp,rfl⟩)))),fun hc p hp=>(h.code hc p hp).cO (he _ (.inr (.inr (.inr ⟨hc,p,hp,rfl⟩)))),h.gs,h.gd,h.gc,h.exD,h.exC,h.can⟩
 ·obtain ⟨cs,fr,cap,h1,h2⟩:=h.head;exact ⟨cs,fr,cap,(he g (.inl rfl)).trans h1,h2⟩
 ·obtain ⟨cs,fr,h1,h2⟩:=h.slots;exact ⟨cs,fr,(he P.sb (.inr (.inl rfl))).trans h1,h2⟩
theorem iz.same(h:iz el sl M w g P)(k:iz el sl M' w g P')(ho:P'.ho=P.ho){b:Nat}(hb:yl M' g P' b):yl M g P b:=by
 obtain ⟨cs,fr,cap,h1,h2,_,h3⟩:=h.head;obtain ⟨cs',fr',cap',k1,k2,_,k3⟩:=k.head;rw [h1] at k1;cases k1;rw [ho,h2] at k2;rw [ho] at k3;simp only [Option.some.injEq,Value.slice.injEq,Addr.mk.injEq] at k2;obtain ⟨⟨esb,eso,_⟩,en,_⟩:=k2;rw [h3] at k3;simp only [Option.some.injEq,Value.bool.injEq] at k3;obtain ⟨ss,sf,s1,_,s2⟩:=h.slots;obtain ⟨ss',sf',t1,_,t2⟩:=k.slots;rw [<- esb,s1] at t1;cases t1;rw [<- eso] at t2
 rcases hb with rfl |rfl | ⟨p,hp,rfl⟩ | ⟨hc,p,hp,rfl⟩
 ·exact .inl rfl
 ·exact .inr (.inl esb.symm)
 ·rw [<- en] at hp;have a:=(s2 p hp).1;have b:=(t2 p (by rw [<- en]; exact hp)).1
  rw [a] at b;simp only [Option.some.injEq,Value.pointer.injEq,Addr.mk.injEq] at b;exact .inr (.inr (.inl ⟨p,hp,b.1.symm⟩))
 ·rw [<- en] at hp;have hc0:aP M=false:=by rw [k3]; exact hc
  have a:=(s2 p hp).2.1;have b:=(t2 p (by rw [<- en]; exact hp)).2.1
  rw [a,hc0,hc] at b;simp only [Option.some.injEq,Value.pointer.injEq,Addr.mk.injEq] at b;exact .inr (.inr (.inr ⟨hc0,p,hp,b.1.symm⟩))
end
def cW(el sl:TypeId):bz where
 rel vs w g o:= ∃M P,vs=[M]/\iz el sl M w g P/\P.ho=o
 aZ w g o b:= ∃M P,iz el sl M w g P/\P.ho=o/\yl M g P b
 hd:=2
 self:=fun ⟨M,P,_,h,ho⟩=>⟨M,P,h,ho,.inl rfl⟩
 inb:=fun _ ⟨M,P,h,_,hb⟩=>h.inb hb
 frame:=fun ⟨M,P,e,h,ho⟩ hs he=>by
  have h':=h.cO fun b hb=>he b ⟨M,P,h,ho,hb⟩
  exact ⟨⟨M,P,e,h',ho⟩,fun b ⟨M',P',k,ko,hb⟩=>⟨M,P,h,ho,h'.same k (ko.trans ho.symm) hb⟩⟩
 stay:=by
  intro vs w g o cs e fr j v ⟨M,P,ev,h,ho⟩ hg hj;have other: ∀b,b≠g->(w.setCell ⟨g,j,none⟩ v).heap[b]? =w.heap[b]? :=fun b hb=>Below.heap_setCell _ _ _ _ hb
  have h':iz el sl M (w.setCell ⟨g,j,none⟩ v) g P:=by
   refine ⟨h.nle,?_,?_,fun p hp=>(h.data p hp).cO (other _ (h.gd p hp).1),fun hc p hp=>(h.code hc p hp).cO (other _ (h.gc hc p hp).1),h.gs,h.gd,h.gc,h.exD,h.exC,h.can⟩
   ·obtain ⟨cs',fr',cap,h1,h2,h3,h4⟩:=h.head;rw [h1] at hg;cases hg;refine ⟨_,fr,cap,bQ w g j cs _ fr v h1,?_,h3,?_⟩
    ·rw [Array.getElem?_setIfInBounds_ne (by omega)]; exact h2
    ·rw [Array.getElem?_setIfInBounds_ne (by omega)]; exact h4
   ·obtain ⟨cs',fr',h1,h2⟩:=h.slots;exact ⟨cs',fr',(other _ (Ne.symm h.gs)).trans h1,h2⟩
  exact ⟨⟨M,P,ev,h',ho⟩,fun b ⟨M',P',k,ko,hb⟩=>⟨M,P,h,ho,h'.same k (ko.trans ho.symm) hb⟩⟩
theorem IE.Ge(ρ:Env)(a:Array Value)(e:IE):e.ev {ρ with sn:=a}=e.ev ρ:=by
 induction e with
 |lit n=>rfl
 |var i=>rfl
 |add a b iha ihb=>simp only [IE.ev,iha,ihb]
 |sub a b iha ihb=>simp only [IE.ev,iha,ihb]
 |mul a b iha ihb=>simp only [IE.ev,iha,ihb]
 |wrap k a iha=>simp only [IE.ev,iha]
 |bits op k a b iha ihb=>simp only [IE.ev,iha,ihb]
 |quo a b iha ihb=>simp only [IE.ev,iha,ihb]
 |rem a b iha ihb=>simp only [IE.ev,iha,ihb]
 |shl k a b iha ihb=>simp only [IE.ev,iha,ihb]
 |shr k a b iha ihb=>simp only [IE.ev,iha,ihb]
 |fn c x y z ihx ihy ihz=>simp only [IE.ev,ihx,ihy,ihz]; rfl
 |sel s a b x y iha ihb ihx ihy=>simp only [IE.ev,iha,ihb,ihx,ihy]
theorem BE.Ge(ρ:Env)(a:Array Value)(e:BE):e.ev {ρ with sn:=a}=e.ev ρ:=by
 induction e with
 |lit n=>rfl
 |var i=>rfl
 |eq a b=>simp only [BE.ev,IE.Ge]
 |lt a b=>simp only [BE.ev,IE.Ge]
 |not a ih=>simp only [BE.ev,ih]
theorem ai.env{ρ ρ':Env}(he: ∀e:IE,e.ev ρ=e.ev ρ')(hb: ∀e:BE,e.ev ρ=e.ev ρ'){f:Ren}{v:ab}{x:Value}(h:ai ρ f v x):ai ρ' f v x:=by
 induction h with
 |bool b=>rw [hb]; exact .bool b
 |int k e=>rw [he]; exact .int k e
 |str hs=>
  refine .str ?_;unfold eu at hs ⊢;rw [hs];exact List.map_congr_left fun e _=>he e
 |nilPtr=>exact .nilPtr
 |ptr hh=>exact .ptr hh
 |nilSlice=>exact .nilSlice
 |slice hh=>exact .slice hh
 |sliceG hh hn hc hs=>exact .sliceG hh hn hc hs
 |sliceE hh hg hs=>exact .sliceE hh hg hs
 |nilMap=>exact .nilMap
 |map hh=>exact .map hh
 |func ha hb _ _ iha ihb=>exact .func ha hb iha ihb
 |nilFunc=>exact .nilFunc
 |iface _ ih=>exact .iface ih
 |nilIface=>exact .nilIface
 |agg ha _ ih=>exact .agg ha ih
 |tuple ha _ ih=>exact .tuple ha ih
 |ptrE hh h0=>rw [he] at h0 ⊢; exact .ptrE hh h0
 |sliceS hh h0 hl hc=>rw [he] at h0 hl hc ⊢; rw [he]; exact .sliceS hh h0 hl hc
 |sliceZ hl ha=>rw [he] at hl; exact .sliceZ hl ha
 |sliceA hh hl hc hs=>rw [he] at hl hc ⊢; exact .sliceA hh hl hc hs
 |sliceN hl=>rw [he] at hl; exact .sliceN hl
 |strS hl hs=>exact .strS (by rw [<- he]; exact hl) (fun j b hj=>by rw [<- he]; exact hs j b hj)
theorem az.env{ρ ρ':Env}(he: ∀e:IE,e.ev ρ=e.ev ρ')(hb: ∀e:BE,e.ev ρ=e.ev ρ'){f:Ren}{l:List ab}{x:Array Value}(h:az ρ f l x):az ρ' f l x:=
 ⟨h.1,fun i v v' h1 h2=>(h.2 i v v' h1 h2).env he hb⟩
def jy(coh:Bool):T ab:=(T.nil.set 0 (.sliceS 1 (.lit 0) (.fn 0 (.var 0) (.lit 3) (.lit 0)) 7 true)).set 1 (.bool (.lit coh))
def lP(coh:Bool)(j:Nat):ab:=
 match coh with
 |true=> .ptr none
 |false=> .ptr (some (j,0))
def bu(i j:Nat)(coh od oc:Bool)(R:IE):T ab:=
 ((((T.nil.set 0 (.ptr (some (i,0)))).set 1 (lP coh j)).set 2 (.bool (.lit od))).set 3 (.bool (.lit oc))).set 6 (.int .i64 R)
def rE(pe:IE):IE:= .wrap .i64 (.fn 0 (.var 0) (.add (.mul pe (.lit 4)) (.lit 2)) (.lit 0))
def vm(coh oc:Bool)(x:IE):List ah:=
 match coh with
 |true=>[]
 |false=>[.arr [.u8] x (.lit 256) oc]
def lT(el sl:TypeId)(coh od oc:Bool)(pe:IE):List ah:=
 .cells (jy coh) el false 2:: .win pe 7 (bu 2 3 coh od oc (rE pe)) sl true:: .arr [.u8] (.fn 10 (.var 0) pe (.lit 0)) (.lit 256) od::vm coh oc (.fn 11 (.var 0) pe (.lit 0))
structure bn (M:Int):Prop where
 n:0<=mN M/\mN M<=4096
 d: ∀p j,p<(mN M).toNat->j<256->isByte (mD M (256*p+j))
 c:aP M=false-> ∀p j,p<(mN M).toNat->j<256->isByte (mC M (256*p+j))
 r: ∀p,p<(mN M).toNat->0<=mR M p/\mR M p<=7
 k:l6 M
theorem iz.ok{el sl:TypeId}{M:Int}{w:World}{g:Nat}{P:Pages}(h:iz el sl M w g P):bn M:=by
 refine ⟨h.nle,fun p j hp hj=> ?_,fun hc p j hp hj=> ?_,fun p hp=> ?_,h.can⟩
 ·obtain ⟨_,_,_,_,_,h2⟩:=h.data p hp;exact (h2 j hj).2
 ·obtain ⟨_,_,_,_,_,h2⟩:=h.code hc p hp;exact (h2 j hj).2
 ·obtain ⟨_,_,_,_,h2⟩:=h.slots;exact (h2 p hp).2.2.2.2.2
theorem oY{ρ:Env}{pe:IE}{p:Nat}(hp:pe.ev ρ=p)(h:0<=mR (ρ.i 0) p/\mR (ρ.i 0) p<=7):(rE pe).ev ρ=mR (ρ.i 0) p:=by
 have:((rE pe).ev ρ)=IntKind.i64.wrap (ag (ρ.i 0) (pe.ev ρ*4+2)):=rfl;rw [this,hp];have e:((p:Int)*4+2)=((4*p+2:Nat):Int):=by omega
 rw [e];obtain ⟨h1,h2⟩:=h;exact bI .i64 _ (by simp only [kLo]; unfold mR at h1; omega) (by simp only [kHi]; unfold mR at h2; omega)
structure b8 (M M':Int) (p:Nat) (De Ce R:Int):Prop where
 n:mN M'=mN M
 coh:aP M'=aP M
 other: ∀q j,q<(mN M).toNat->q≠p->j<256->mD M' (256*q+j)=mD M (256*q+j)/\(aP M=false->mC M' (256*q+j)=mC M (256*q+j))
 rights: ∀q,q<(mN M).toNat->q≠p->mR M' q=mR M q
 d: ∀j,j<256->mD M' (256*p+j)=ag De j
 c:aP M=false-> ∀j,j<256->mC M' (256*p+j)=ag Ce j
 r:mR M' p=R/\0<=R/\R<=7
 k:l6 M'
section
variable{P:Program}{G:Nat->Int->Int->Int->Int}{GH:Nat->bz}
theorem ai.eQ{ρ:Env}{f:Ren}{i o:Nat}{v:Value}(h:ai ρ f (.ptr (some (i,o))) v): ∃L,f i=some L/\v= .pointer (some ⟨L.blk,L.base+o,none⟩):=by
 cases h; exact ⟨_,by assumption,rfl⟩
theorem ai.Lg{ρ:Env}{f:Ren}{v:Value}(h:ai ρ f (.ptr none) v):v= .pointer none:=by
 cases h; rfl
theorem ai.Dc{ρ:Env}{f:Ren}{k:IntKind}{e:IE}{v:Value}(h:ai ρ f (.int k e) v):v= .int k (e.ev ρ):=by
 cases h; rfl
theorem zi{i j:Nat}{coh od oc:Bool}{R:IE}:(bu i j coh od oc R).get 0=some (.ptr (some (i,0)))/\(bu i j coh od oc R).get 1=some (lP coh j)/\(bu i j coh od oc R).get 2=some (.bool (.lit od))/\(bu i j coh od oc R).get 3=some (.bool (.lit oc))/\(bu i j coh od oc R).get 6=some (.int .i64 R):=by
 unfold bu;refine ⟨?_,?_,?_,?_,?_⟩
 ·rw [T.bp (by decide) (by decide),T.bp (by decide) (by decide),T.bp (by decide) (by decide),T.bp (by decide) (by decide),T.cu (by decide)]
 ·rw [T.bp (by decide) (by decide),T.bp (by decide) (by decide),T.bp (by decide) (by decide),T.cu (by decide)]
 ·rw [T.bp (by decide) (by decide),T.bp (by decide) (by decide),T.cu (by decide)]
 ·rw [T.bp (by decide) (by decide),T.cu (by decide)]
 ·rw [T.cu (by decide)]
theorem za{i j:Nat}{coh od oc:Bool}{R:IE}{k:Nat}{v:ab}(h:(bu i j coh od oc R).get k=some v):(k=0/\v= .ptr (some (i,0)))\/(k=1/\v=lP coh j)\/(k=2/\v= .bool (.lit od))\/(k=3/\v= .bool (.lit oc))\/(k=6/\v= .int .i64 R):=by
 unfold bu at h
 rcases T.aB h with ⟨e,h⟩ | ⟨_,h⟩
 ·exact .inr (.inr (.inr (.inr ⟨e,h.symm⟩)))
 rcases T.aB h with ⟨e,h⟩ | ⟨_,h⟩
 ·exact .inr (.inr (.inr (.inl ⟨e,h.symm⟩)))
 rcases T.aB h with ⟨e,h⟩ | ⟨_,h⟩
 ·exact .inr (.inr (.inl ⟨e,h.symm⟩))
 rcases T.aB h with ⟨e,h⟩ | ⟨_,h⟩
 ·exact .inr (.inl ⟨e,h.symm⟩)
 rcases T.aB h with ⟨e,h⟩ | ⟨_,h⟩
 ·exact .inl ⟨e,h.symm⟩
 ·rw [T.get_nil] at h; cases h
end
theorem HM{el sl:TypeId}{coh od oc:Bool}{pe:IE}{x:Nat}{o:ah}(h:(lT el sl coh od oc pe)[x]? =some o):
 (x=0/\o= .cells (jy coh) el false 2)\/(x=1/\o= .win pe 7 (bu 2 3 coh od oc (rE pe)) sl true)\/(x=2/\o= .arr [.u8] (.fn 10 (.var 0) pe (.lit 0)) (.lit 256) od)\/(x=3/\coh=false/\o= .arr [.u8] (.fn 11 (.var 0) pe (.lit 0)) (.lit 256) oc):=by
 unfold lT at h
 match x with
 |0=>simp at h; exact .inl ⟨rfl,h.symm⟩
 |1=>simp at h; exact .inr (.inl ⟨rfl,h.symm⟩)
 |2=>simp at h; exact .inr (.inr (.inl ⟨rfl,h.symm⟩))
 |3=>
  cases coh with
  |true=>simp [vm] at h
  |false=>simp [vm] at h; exact .inr (.inr (.inr ⟨rfl,rfl,h.symm⟩))
 |x+4=>cases coh<;>simp [vm] at h
theorem pq{el sl:TypeId}{coh od oc:Bool}{pe:IE}:(lT el sl coh od oc pe).length=match coh with
 |true=>3
 |false=>4:=by
 cases coh<;>rfl
theorem Ag{coh:Bool}{k:Nat}{v:ab}(h:(jy coh).get k=some v):(k=0/\v= .sliceS 1 (.lit 0) (.fn 0 (.var 0) (.lit 3) (.lit 0)) 7 true)\/(k=1/\v= .bool (.lit coh)):=by
 unfold jy at h
 rcases T.aB h with ⟨e,h⟩ | ⟨_,h⟩
 ·exact .inr ⟨e,h.symm⟩
 rcases T.aB h with ⟨e,h⟩ | ⟨_,h⟩
 ·exact .inl ⟨e,h.symm⟩
 ·rw [T.get_nil] at h; cases h
section
variable{P:Program}{G:Nat->Int->Int->Int->Int}{GH:Nat->bz}
set_option maxHeartbeats 2000000 in
theorem MN{el sl:TypeId}{k:Nat}{c co:Con}{cv:T ab}{Me' pe De Ce Re:IE}{coh od oc od' oc':Bool}{i j:Nat}
 (hk:GH k=cW el sl) (hG: ∀M p z,G 10 M p z=pgD M p.toNat/\G 11 M p z=pgC M p.toNat)
 (c0:c.os=[.ghost k [.var 0] cv]) (c1:c.os'=[.ghost k [Me'] cv]) (cr:c.res.free=true)
 (g1:co.g=c.g) (g2:co.args=c.args) (g3:co.res=c.res) (hco:co.Ok P G GH) (o0:co.os=lT el sl coh od oc pe)
 (o1:co.os'[1]? =some (.win pe 7 (bu i j coh od' oc' Re) sl true)) (o2:co.os'[i]? =some (.arr [.u8] De (.lit 256) od')) (o3:coh=false->co.os'[j]? =some (.arr [.u8] Ce (.lit 256) oc'))
 (ol:co.os'.length<=1000) (hi:od'=true\/(i=2/\od=false)) (hj:coh=false->oc'=true\/(j=3/\oc=false)) (hij:coh=false->i≠j)
 {ρ:Env} (h1:ρ.std G GH) (hb:ρ.ok (bdL co.bds)) (hp:co.pre.holds ρ) {B:Nat->Prop} {W w:World} {f:Ren} {args':Array Value} (hr:au ρ B W f (aF c.os 0 .nil) w) (ha:az ρ f c.args args') (hn: ∀j,c.os.length<=j->f j=none)
 {L:Loc} (hL:f 0=some L) {Pg:Pages} (hm:iz el sl (ρ.i 0) w L.blk Pg) (hho:Pg.ho=L.base) {p:Nat} (hpe:pe.ev ρ=p) (hpn:p<(mN (ρ.i 0)).toNat) (hcoh:aP (ρ.i 0)=coh) (hod:Pg.od p=od) (hoc:Pg.oc p=oc)
 (hnext:b8 (ρ.i 0) (Me'.ev ρ) p (De.ev ρ) (Ce.ev ρ) (Re.ev ρ)):
 mw P c.g args' w fun v' w'=> ∃f',f.le f'/\Outside f f' c.os.length c.os'.length/\au ρ B W f' (je c.os' 0 .nil) w'/\ai ρ f' c.res v':=by
 have hgh:ρ.gh k=cW el sl:=by rw [h1.2]; exact hk
 have hlen:c.os.length=1:=by rw [c0]; rfl
 have hf1: ∀x,1<=x->f x=none:=fun x hx=>hn x (by omega)
 have hg:(aF c.os 0 T.nil).get 0=some (.ghost k [.var 0] cv):=by
  rw [c0];exact aU [ah.ghost k [IE.var 0] cv] 0 0 .nil _ rfl (by simp)
 obtain ⟨⟨hrel,hfB⟩,hb0,cs0,el0,fr0,q1,q2,q3,q4⟩:=hr.obj 0 L _ hL hg;have hfoot: ∀b,yl (ρ.i 0) L.blk Pg b-> ¬B b:=fun b hb=>hfB b (by rw [hgh]; exact ⟨_,Pg,hm,hho,hb⟩)
 obtain ⟨cs,fr,cap,u1,u2,u3,u4⟩:=hm.head;obtain ⟨ss,sf,v1,v2,v3⟩:=hm.slots;obtain ⟨ds,de,df,x1,x2,x3⟩:=hm.data p hpn
 have hcl: ∃cl:Option Loc,(coh=true->cl=none)/\(coh=false-> ∃xs xe xf,cl=some ⟨Pg.cp p,Pg.cb p,xs.size⟩/\w.heap[Pg.cp p]? =some (.cells xs xe xf)/\(∀ j,j<xs.size-> ¬(xf.1<=j/\j<xf.2))/\ ∀j,j<256->xs[Pg.cb p+j]? =some (.int .u8 (mC (ρ.i 0) (256*p+j)))/\isByte (mC (ρ.i 0) (256*p+j))):=by
  cases coh with
  |true=>exact ⟨none,fun _=>rfl,(fun h=>(by cases h))⟩
  |false=>
   obtain ⟨xs,xe,xf,y1,y2,y3⟩:=hm.code hcoh p hpn;exact ⟨some ⟨Pg.cp p,Pg.cb p,xs.size⟩,(fun h=>(by cases h)),fun _=>⟨xs,xe,xf,rfl,y1,y2,y3⟩⟩
 obtain ⟨cl,cl1,cl2⟩:=hcl;have lt: ∀ {b:Nat} {O:Obj},w.heap[b]? =some O->b<w.heap.size:=fun h=>(Array.getElem?_eq_some_iff.1 h).1
 have dlt: ∀q,q<(mN (ρ.i 0)).toNat->Pg.dp q<w.heap.size:=fun q hq=>hm.inb (.inr (.inr (.inl ⟨q,hq,rfl⟩)))
 have clt:coh=false-> ∀q,q<(mN (ρ.i 0)).toNat->Pg.cp q<w.heap.size:=fun hc q hq=>hm.inb (.inr (.inr (.inr ⟨by rw [hcoh]; exact hc,q,hq,rfl⟩)))
 -- the blocks that stay
 let B':Nat->Prop:=fun b=>b<w.heap.size/\(B b\/b=L.blk\/ ∃q,q<(mN (ρ.i 0)).toNat/\((b=Pg.dp q/\ ¬(q=p/\od=true))\/(coh=false/\b=Pg.cp q/\ ¬(q=p/\oc=true))))
 have hBB: ∀b,B b->B' b:=fun b hb=>⟨Nat.lt_of_lt_of_le (hr.bsize b hb) hr.below.size,.inl hb⟩
 have hBg:B' L.blk:=⟨lt u1,.inr (.inl rfl)⟩;have hBd: ∀q,q<(mN (ρ.i 0)).toNat-> ¬(q=p/\od=true)->B' (Pg.dp q):=fun q hq h=>⟨dlt q hq,.inr (.inr ⟨q,hq,.inl ⟨rfl,h⟩⟩)⟩
 have hBc:coh=false-> ∀q,q<(mN (ρ.i 0)).toNat-> ¬(q=p/\oc=true)->B' (Pg.cp q):=fun hc q hq h=>⟨clt hc q hq,.inr (.inr ⟨q,hq,.inr ⟨hc,rfl,h⟩⟩)⟩
 have nsb: ¬B' Pg.sb:=by
  rintro ⟨_,h |h | ⟨q,hq,⟨h,_⟩ | ⟨hc,h,_⟩⟩⟩
  ·exact hfoot _ (.inr (.inl rfl)) h
  ·exact hm.gs h.symm
  ·exact (hm.gd q hq).2 h.symm
  ·exact (hm.gc (by rw [hcoh]; exact hc) q hq).2 h.symm
 have ndp:od=true-> ¬B' (Pg.dp p):=by
  rintro ho ⟨_,h |h | ⟨q,hq,⟨h,h'⟩ | ⟨hc,h,_⟩⟩⟩
  ·exact hfoot _ (.inr (.inr (.inl ⟨p,hpn,rfl⟩))) h
  ·exact (hm.gd p hpn).1 h
  ·by_cases hqp:q=p
   ·exact h' ⟨hqp,ho⟩
   ·exact (hm.exD p hpn (by rw [hod]; exact ho)).1 q hq hqp h.symm
  ·exact (hm.exD p hpn (by rw [hod]; exact ho)).2 (by rw [hcoh]; exact hc) q hq h.symm
 have ncp:coh=false->oc=true-> ¬B' (Pg.cp p):=by
  rintro hc ho ⟨_,h |h | ⟨q,hq,⟨h,_⟩ | ⟨_,h,h'⟩⟩⟩
  ·exact hfoot _ (.inr (.inr (.inr ⟨by rw [hcoh]; exact hc,p,hpn,rfl⟩))) h
  ·exact (hm.gc (by rw [hcoh]; exact hc) p hpn).1 h
  ·exact (hm.exC (by rw [hcoh]; exact hc) p hpn (by rw [hoc]; exact ho)).2 q hq h.symm
  ·by_cases hqp:q=p
   ·exact h' ⟨hqp,ho⟩
   ·exact (hm.exC (by rw [hcoh]; exact hc) p hpn (by rw [hoc]; exact ho)).1 q hq hqp h.symm
 let ρ2:Env:={ρ with sn:=ss}
 have evI: ∀e:IE,e.ev ρ2=e.ev ρ:=IE.Ge ρ ss;have evB: ∀e:BE,e.ev ρ2=e.ev ρ:=BE.Ge ρ ss
 let f2:Ren:=fun x=>match x with
  |0=>some L
  |1=>some ⟨Pg.sb,Pg.so,ss.size⟩
  |2=>some ⟨Pg.dp p,Pg.db p,ds.size⟩
  |3=>cl
  |_=>none
 have hle:f.le f2:=by
  intro x M hx;cases x with
  |zero=>rw [hL] at hx; exact hx
  |succ x=>rw [hf1 _ (by omega)] at hx; cases hx
 have i0: ∀x:Nat,(x:Int).toNat=x:=fun x=>Int.toNat_natCast x
 have hpe2:(pe.ev ρ2).toNat=p:=by rw [evI,hpe]; exact i0 p
 have hR:=oY hpe (hm.ok.r p hpn)
 have H2:au ρ2 B' w f2 (aF co.os 0 .nil) w:=by
  have get: ∀ {x:Nat} {o:ah},(aF co.os 0 T.nil).get x=some o->_:=fun {x o} h=>HM (x:=x) (o:=o) (by rw [<- o0]; exact iG h)
  have feet: ∀ {x:Nat} {o:ah} {M:Loc},(aF co.os 0 T.nil).get x=some o-> ∀b,o.aZ ρ2 w M b->b=M.blk:=by
   intro x o M h b hb
   rcases get h with ⟨_,rfl⟩ | ⟨_,rfl⟩ | ⟨_,rfl⟩ | ⟨_,_,rfl⟩<;>exact hb
  refine ⟨Kept.refl _ _,fun b hb=>hb.1,fun x M hx=> ?_,fun x y Mx My ox oy hx hy gx gy hxy hown b hbx hby=> ?_,fun x M o hx gx=> ?_⟩
  ·match x,hx with
   |0,hx=>cases hx; exact lt u1
   |1,hx=>cases hx; exact lt v1
   |2,hx=>cases hx; exact lt x1
   |3,hx=>
    have hx:cl=some M:=hx;cases hc:coh with
    |true=>rw [cl1 hc] at hx; cases hx
    |false=>
     obtain ⟨xs,xe,xf,y0,y1,_⟩:=cl2 hc;rw [y0] at hx;cases hx;exact lt y1
  ·have ex:=feet gx b hbx;have ey:=feet gy b hby;subst ex
   have lc: ∀ {M:Loc},coh=false->f2 3=some M->M.blk=Pg.cp p:=by
    intro M hc hx;have hx:cl=some M:=hx;obtain ⟨xs,xe,xf,y0,y1,_⟩:=cl2 hc;rw [y0] at hx;cases hx;rfl
   rcases get gx with ⟨rfl,rfl⟩ | ⟨rfl,rfl⟩ | ⟨rfl,rfl⟩ | ⟨rfl,hc,rfl⟩
   ·cases hown
   ·cases hx
    rcases get gy with ⟨rfl,rfl⟩ | ⟨rfl,rfl⟩ | ⟨rfl,rfl⟩ | ⟨rfl,hc,rfl⟩
    ·cases hy; exact hm.gs ey.symm
    ·exact hxy rfl
    ·cases hy; exact (hm.gd p hpn).2 ey.symm
    ·rw [lc hc hy] at ey; exact (hm.gc (by rw [hcoh]; exact hc) p hpn).2 ey.symm
   ·cases hx
    rcases get gy with ⟨rfl,rfl⟩ | ⟨rfl,rfl⟩ | ⟨rfl,rfl⟩ | ⟨rfl,hc,rfl⟩
    ·cases hy; exact (hm.gd p hpn).1 ey
    ·cases hy; exact (hm.gd p hpn).2 ey
    ·exact hxy rfl
    ·rw [lc hc hy] at ey; exact (hm.exD p hpn (by rw [hod]; exact hown)).2 (by rw [hcoh]; exact hc) p hpn ey.symm
   ·rw [lc hc hx] at ey
    rcases get gy with ⟨rfl,rfl⟩ | ⟨rfl,rfl⟩ | ⟨rfl,rfl⟩ | ⟨rfl,hc,rfl⟩
    ·cases hy; exact (hm.gc (by rw [hcoh]; exact hc) p hpn).1 ey
    ·cases hy; exact (hm.gc (by rw [hcoh]; exact hc) p hpn).2 ey
    ·cases hy; exact (hm.exC (by rw [hcoh]; exact hc) p hpn (by rw [hoc]; exact hown)).2 p hpn ey.symm
    ·exact hxy rfl
  ·rcases get gx with ⟨rfl,rfl⟩ | ⟨rfl,rfl⟩ | ⟨rfl,rfl⟩ | ⟨rfl,hc,rfl⟩
   ·cases hx
    have hsz:cs.size=L.sz:=by
     rw [u1] at q1;cases q1;exact q2
    refine ⟨cs,fr,u1,hsz,(fun h=>(by cases h)),fun y v hv=> ?_⟩
    rcases Ag hv with ⟨rfl,rfl⟩ | ⟨rfl,rfl⟩
    ·refine ⟨by decide,_,by rw [<- hho]; exact u2,?_⟩
     have hlenE:(IE.fn 0 (.var 0) (.lit 3) (.lit 0)).ev ρ2=mN (ρ.i 0):=rfl;have:=ai.sliceS (ρ:=ρ2) (f:=f2) (i:=1) (s:=7) (st:= .lit 0) (len:= .fn 0 (.var 0) (.lit 3) (.lit 0)) (nn:=true) (L:=⟨Pg.sb,Pg.so,ss.size⟩) (c:=cap) rfl (Int.le_refl 0) (by rw [hlenE]; exact hm.nle.1) (by rw [hlenE]; exact u3)
     rw [hlenE] at this;exact this
    ·refine ⟨by decide,_,by rw [<- hho]; exact u4,?_⟩
     rw [hcoh];exact .bool (.lit coh)
   ·cases hx;refine ⟨ss,sf,v1,rfl,fun _=>⟨nsb,v2⟩,fun y _=>rfl,fun y v hv=> ?_⟩
    obtain ⟨a1,a2,a3,a4,a5,_⟩:=v3 p hpn;show ∃v',ss[Pg.so+((pe.ev ρ2).toNat*7+y)]? =some v'/\_;rw [hpe2]
    rcases za hv with ⟨rfl,rfl⟩ | ⟨rfl,rfl⟩ | ⟨rfl,rfl⟩ | ⟨rfl,rfl⟩ | ⟨rfl,rfl⟩
    ·exact ⟨_,a1,.ptr (ρ:=ρ2) (f:=f2) (i:=2) (o:=0) (L:=⟨Pg.dp p,Pg.db p,ds.size⟩) rfl⟩
    ·refine ⟨_,a2,?_⟩;rw [hcoh];cases hc:coh with
     |true=>exact .nilPtr
     |false=>
      obtain ⟨xs,xe,xf,y0,_⟩:=cl2 hc;exact .ptr (ρ:=ρ2) (f:=f2) (i:=3) (o:=0) (L:=⟨Pg.cp p,Pg.cb p,xs.size⟩) y0
    ·exact ⟨_,a3,by rw [hod]; exact .bool (.lit od)⟩
    ·exact ⟨_,a4,by rw [hoc]; exact .bool (.lit oc)⟩
    ·refine ⟨_,a5,?_⟩;rw [<- hR,<-evI];exact .int .i64 _
   ·cases hx;refine ⟨ds,de,df,x1,rfl,fun ho=>⟨ndp ho,x2⟩,fun y d kd hy hd=> ?_⟩
    have hd0:d=0/\kd= .u8:=by
     match d,hd with
     |0,hd=>cases hd; exact ⟨rfl,rfl⟩
    obtain ⟨rfl,rfl⟩:=hd0
    have hy:y<256:=by
     have:(y:Int)<256:=hy;omega
    obtain ⟨b1,b2⟩:=x3 y hy
    have ec:(IE.fn 10 (.var 0) pe (.lit 0)).ev ρ2=pgD (ρ.i 0) p:=by
     show ρ.g 10 (ρ.i 0) (pe.ev ρ2) 0=_;rw [h1.1,evI,hpe,(hG _ _ _).1,i0]
    have e1:y*[IntKind.u8].length+0=y:=by simp
    rw [ec,e1,Sw hy b2];exact ⟨b1,by simp [kLo]; exact b2.1,by simp [kHi]; exact b2.2⟩
   ·obtain ⟨xs,xe,xf,y0,y1,y2,y3⟩:=cl2 hc;have hx:cl=some M:=hx;rw [y0] at hx;cases hx;refine ⟨xs,xe,xf,y1,rfl,fun ho=>⟨ncp hc ho,y2⟩,fun y d kd hy hd=> ?_⟩
    have hd0:d=0/\kd= .u8:=by
     match d,hd with
     |0,hd=>cases hd; exact ⟨rfl,rfl⟩
    obtain ⟨rfl,rfl⟩:=hd0
    have hy:y<256:=by
     have:(y:Int)<256:=hy;omega
    obtain ⟨b1,b2⟩:=y3 y hy
    have ec:(IE.fn 11 (.var 0) pe (.lit 0)).ev ρ2=pgC (ρ.i 0) p:=by
     show ρ.g 11 (ρ.i 0) (pe.ev ρ2) 0=_;rw [h1.1,evI,hpe,(hG _ _ _).2,i0]
    have e1:y*[IntKind.u8].length+0=y:=by simp
    rw [ec,e1,TX hy b2];exact ⟨b1,by simp [kLo]; exact b2.1,by simp [kHi]; exact b2.2⟩
 have ha2:az ρ2 f2 co.args args':=by
  rw [g2];exact (ha.mono hle).env (fun e=>(evI e).symm) (fun e=>(evB e).symm)
 have hn2: ∀x,co.os.length<=x->f2 x=none:=by
  intro x hx;rw [o0,pq] at hx
  match x,hx with
  |x+4,_=>rfl
  |3,hx=>
   cases hc:coh with
   |true=>exact cl1 hc
   |false=>rw [hc] at hx; exact absurd hx (by decide)
  |0,hx=>cases coh<;>exact absurd hx (by decide)
  |1,hx=>cases coh<;>exact absurd hx (by decide)
  |2,hx=>cases coh<;>exact absurd hx (by decide)
 have hp2:Dec.holds ρ2 co.pre:=fun q hq=>by rw [evB]; exact hp q hq
 rw [<- g1];refine Calls.mono (hco ρ2 h1 hb hp2 B' w f2 w args' H2 ha2 hn2) fun e w3 ⟨v',e1,f3,e2,e3,e4,e5⟩=> ?_
 have cO: ∀b,B' b->w3.heap[b]? =w.heap[b]? :=e4.below.block
 have tree: ∀(x:Nat) (o:ah),co.os'[x]? =some o->o.dead=false->(je co.os' 0 T.nil).get x=some o:=by
  intro x o hx hd;have:=f9 co.os' 0 x .nil o hx hd (by omega)
  rwa [Nat.zero_add] at this
 obtain ⟨s0,s1,s2,s3,s6⟩:=zi (i:=i) (j:=j) (coh:=coh) (od:=od') (oc:=oc') (R:=Re);have fb1:f3 1=some ⟨Pg.sb,Pg.so,ss.size⟩:=e2 1 _ rfl;obtain ⟨ss3,sf3,r1,r2,r3,r0,r4⟩:=e4.obj 1 _ _ fb1 (tree 1 _ o1 rfl);rw [hpe2] at r0
 have cell: ∀(y:Nat) (v:ab),(bu i j coh od' oc' Re).get y=some v-> ∃u,ss3[Pg.so+(p*7+y)]? =some u/\ai ρ2 f3 v u:=by
  intro y v hy;obtain ⟨u,a1,a2⟩:=r4 y v hy;rw [hpe2] at a1;exact ⟨u,a1,a2⟩
 obtain ⟨z0,zc0,zr0⟩:=cell 0 _ s0;obtain ⟨Li,fi,rfl⟩:=zr0.eQ;obtain ⟨ds3,de3,df3,t1,t2,t3,t4⟩:=e4.obj i Li _ fi (tree i _ o2 rfl)
 have page: ∀ {xs3:Array Value} {Lx:Loc} {C:IE} {D:Nat->Int},(∀ (y d:Nat) (kd:IntKind),(y:Int)<(IE.lit 256).ev ρ2->[IntKind.u8][d]? =some kd->xs3[Lx.base+(y*[IntKind.u8].length+d)]? =some (.int kd (ag (C.ev ρ2) (y*[IntKind.u8].length+d:Nat)))/\kLo kd<=ag (C.ev ρ2) (y*[IntKind.u8].length+d:Nat)/\ag (C.ev ρ2) (y*[IntKind.u8].length+d:Nat)<=kHi kd)->
  (∀ y,y<256->D y=ag (C.ev ρ) y)-> ∀y,y<256->xs3[Lx.base+y]? =some (.int .u8 (D y))/\isByte (D y):=by
  intro xs3 Lx C D ht hD y hy;obtain ⟨a1,a2,a3⟩:=ht y 0 .u8 (show (y:Int)<256 by omega) rfl
  have e1:y*[IntKind.u8].length+0=y:=by simp
  rw [e1,evI,<-hD y hy] at a1 a2 a3;exact ⟨a1,by simpa [kLo] using a2,by simpa [kHi] using a3⟩
 -- the page's blocks
 have iold:od'=false->Li=⟨Pg.dp p,Pg.db p,ds.size⟩/\od=false:=by
  intro ho
  rcases hi with h | ⟨h,h'⟩
  ·rw [h] at ho; cases ho
  ·subst h;have:f3 2=some ⟨Pg.dp p,Pg.db p,ds.size⟩:=e2 2 _ rfl;rw [this] at fi;cases fi;exact ⟨rfl,h'⟩
 have inew:od'=true-> ¬B' Li.blk:=fun ho=>(t3 ho).1
 have isb:Li.blk≠Pg.sb:=by
  intro h
  have i1:(1:Nat)≠i:=by
   intro h;subst h;rw [o1] at o2;cases o2
  exact e4.apart 1 i _ Li _ _ fb1 fi (tree 1 _ o1 rfl) (tree i _ o2 rfl) i1 rfl Pg.sb rfl h.symm
 have iother: ∀q,q<(mN (ρ.i 0)).toNat->q≠p->Pg.od q=true\/od'=true->Li.blk≠Pg.dp q:=by
  intro q hq hqp ho h;cases ho':od' with
  |true=>exact inew ho' (by rw [h]; exact hBd q hq (fun h'=>hqp h'.1))
  |false=>
   obtain ⟨a1,a2⟩:=iold ho';rw [a1] at h;rw [ho'] at ho
   rcases ho with ho |ho
   ·exact (hm.exD q hq ho).1 p hpn (Ne.symm hqp) h
   ·cases ho
 have iotherc:coh=false-> ∀q,q<(mN (ρ.i 0)).toNat->q≠p->Pg.oc q=true\/od'=true->Li.blk≠Pg.cp q:=by
  intro hc q hq hqp ho h;cases ho':od' with
  |true=>exact inew ho' (by rw [h]; exact hBc hc q hq (fun h'=>hqp h'.1))
  |false=>
   obtain ⟨a1,a2⟩:=iold ho';rw [a1] at h;rw [ho'] at ho
   rcases ho with ho |ho
   ·exact (hm.exC (by rw [hcoh]; exact hc) q hq ho).2 p hpn h
   ·cases ho
 have dataP:m0 w3 Li.blk Li.base fun y=>mD (Me'.ev ρ) (256*p+y):=by
  refine ⟨ds3,de3,df3,t1,?_,page t4 hnext.d⟩;cases ho':od' with
  |true=>rw [t2]; exact (t3 ho').2
  |false=>
   obtain ⟨a1,a2⟩:=iold ho';have:=cO _ (hBd p hpn (fun h'=>by rw [a2] at h'; cases h'.2))
   rw [a1] at t1;have t1:w3.heap[Pg.dp p]? =some (.cells ds3 de3 df3):=t1;rw [this,x1] at t1;cases t1;exact x2
 have hcode: ∃Lj:Loc,(coh=false->f3 j=some Lj/\ss3[Pg.so+(p*7+1)]? =some (.pointer (some ⟨Lj.blk,Lj.base+0,none⟩))/\(m0 w3 Lj.blk Lj.base fun y=>mC (Me'.ev ρ) (256*p+y))/\(oc'=false->Lj.blk=Pg.cp p/\oc=false)/\(oc'=true-> ¬B' Lj.blk)/\Lj.blk≠Pg.sb/\Lj.blk≠L.blk/\(od'=true\/oc'=true->Li.blk≠Lj.blk)):=by
  cases hc:coh with
  |true=>exact ⟨⟨0,0,0⟩,fun h=>by cases h⟩
  |false=>
   obtain ⟨xs,xe,xf,y0,y1,y2,y3⟩:=cl2 hc;have o3:=o3 hc;have hj:=hj hc;have hij:=hij hc;obtain ⟨z1,zc1,zr1⟩:=cell 1 _ s1;rw [hc] at zr1;obtain ⟨Lj,fj,rfl⟩:=zr1.eQ;obtain ⟨xs3,xe3,xf3,m1,m2,m3,m4⟩:=e4.obj j Lj _ fj (tree j _ o3 rfl)
   have jold:oc'=false->Lj=⟨Pg.cp p,Pg.cb p,xs.size⟩/\oc=false:=by
    intro ho
    rcases hj with h | ⟨h,h'⟩
    ·rw [h] at ho; cases ho
    ·subst h;have:f3 3=some ⟨Pg.cp p,Pg.cb p,xs.size⟩:=e2 3 _ y0;rw [this] at fj;cases fj;exact ⟨rfl,h'⟩
   have jnew:oc'=true-> ¬B' Lj.blk:=fun ho=>(m3 ho).1
   refine ⟨Lj,fun _=>⟨fj,zc1,⟨xs3,xe3,xf3,m1,?_,page m4 (hnext.c (by rw [hcoh]; exact hc))⟩,fun ho=>⟨by rw [(jold ho).1],(jold ho).2⟩,jnew,?_,?_,?_⟩⟩
   ·cases ho':oc' with
    |true=>rw [m2]; exact (m3 ho').2
    |false=>
     obtain ⟨a1,a2⟩:=jold ho';have:=cO _ (hBc hc p hpn (fun h'=>by rw [a2] at h'; cases h'.2))
     rw [a1] at m1;have m1:w3.heap[Pg.cp p]? =some (.cells xs3 xe3 xf3):=m1;rw [this,y1] at m1;cases m1;exact y2
   ·intro h
    have j1:(1:Nat)≠j:=by
     intro h;subst h;rw [o1] at o3;cases o3
    exact e4.apart 1 j _ Lj _ _ fb1 fj (tree 1 _ o1 rfl) (tree j _ o3 rfl) j1 rfl Pg.sb rfl h.symm
   ·intro h;cases ho':oc' with
    |true=>exact jnew ho' (by rw [h]; exact hBg)
    |false=>
     rw [(jold ho').1] at h;exact (hm.gc (by rw [hcoh]; exact hc) p hpn).1 h
   ·intro ho h
    rcases ho with ho |ho
    ·exact e4.apart i j Li Lj _ _ fi fj (tree i _ o2 rfl) (tree j _ o3 rfl) hij ho Li.blk rfl h
    ·exact e4.apart j i Lj Li _ _ fj fi (tree j _ o3 rfl) (tree i _ o2 rfl) (Ne.symm hij) ho Lj.blk rfl h.symm
 obtain ⟨Lj,hcode⟩:=hcode;obtain ⟨z2,zc2,zr2⟩:=cell 2 _ s2;obtain ⟨z3,zc3,zr3⟩:=cell 3 _ s3;obtain ⟨z6,zc6,zr6⟩:=cell 6 _ s6;have zr2:=zr2.lE;have zr3:=zr3.lE;have zr6:=zr6.Dc;rw [evI] at zr6;subst zr2 zr3 zr6;have ne:(mN (Me'.ev ρ)).toNat=(mN (ρ.i 0)).toNat:=by rw [hnext.n]
 have ce:aP (Me'.ev ρ)=coh:=by rw [hnext.coh,hcoh]
 let Pg':Pages:=⟨Pg.ho,Pg.sb,Pg.so,fun q=>if q=p then Li.blk else Pg.dp q,fun q=>if q=p then Li.base else Pg.db q,fun q=>if q=p then Lj.blk else Pg.cp q,fun q=>if q=p then Lj.base else Pg.cb q,fun q=>if q=p then od' else Pg.od q,fun q=>if q=p then oc' else Pg.oc q⟩
 have P1: ∀q,q=p->Pg'.dp q=Li.blk/\Pg'.db q=Li.base/\Pg'.cp q=Lj.blk/\Pg'.cb q=Lj.base/\Pg'.od q=od'/\Pg'.oc q=oc':=fun q h=>⟨if_pos h,if_pos h,if_pos h,if_pos h,if_pos h,if_pos h⟩
 have P2: ∀q,q≠p->Pg'.dp q=Pg.dp q/\Pg'.db q=Pg.db q/\Pg'.cp q=Pg.cp q/\Pg'.cb q=Pg.cb q/\Pg'.od q=Pg.od q/\Pg'.oc q=Pg.oc q:=fun q h=>⟨if_neg h,if_neg h,if_neg h,if_neg h,if_neg h,if_neg h⟩
 have hm':iz el sl (Me'.ev ρ) w3 L.blk Pg':=by
  refine ⟨by rw [hnext.n]; exact hm.nle,⟨cs,fr,cap,(cO _ hBg).trans u1,by rw [ne]; exact u2,by rw [ne]; exact u3,by rw [hnext.coh]; exact u4⟩,⟨ss3,sf3,r1,by rw [r2]; exact (r3 rfl).2,fun q hq=> ?_⟩,fun q hq=> ?_,fun hc q hq=> ?_,hm.gs,fun q hq=> ?_,fun hc q hq=> ?_,fun q hq ho=> ?_,fun hc q hq ho=> ?_,hnext.k⟩
  ·rw [ne] at hq;rw [ce]
   by_cases hqp:q=p
   ·obtain ⟨p1,p2,p3,p4,p5,p6⟩:=P1 q hqp;rw [p1,p2,p3,p4,p5,p6];subst hqp;refine ⟨zc0,?_,zc2,zc3,by rw [hnext.r.1]; exact zc6,by rw [hnext.r.1]; exact hnext.r.2⟩
    cases hc:coh with
    |true=>
     obtain ⟨z1,zc1,zr1⟩:=cell 1 _ s1;rw [hc] at zr1;rw [zr1.Lg] at zc1;exact zc1
    |false=>exact (hcode hc).2.1
   ·obtain ⟨p1,p2,p3,p4,p5,p6⟩:=P2 q hqp;rw [p1,p2,p3,p4,p5,p6];obtain ⟨a1,a2,a3,a4,a5,a6,a7⟩:=v3 q hq;rw [hcoh] at a2
    have same: ∀y,y<7->ss3[Pg.so+(q*7+y)]? =ss[Pg.so+(q*7+y)]? :=by
     intro y hy;have h0:Pg.so+(q*7+y)<Pg.so+p*7\/Pg.so+p*7+7<=Pg.so+(q*7+y):=by omega
     exact r0 _ h0
    have hr7:=hnext.rights q hq hqp;refine ⟨by rw [<- a1]; exact same 0 (by decide),by rw [<- a2]; exact same 1 (by decide),by rw [<- a3]; exact same 2 (by decide),by rw [<- a4]; exact same 3 (by decide),by rw [hr7,<-a5]; exact same 6 (by decide),by rw [hr7]; exact a6,by rw [hr7]; exact a7⟩
  ·rw [ne] at hq
   by_cases hqp:q=p
   ·obtain ⟨p1,p2,_⟩:=P1 q hqp;rw [p1,p2,hqp];exact dataP
   ·obtain ⟨p1,p2,_⟩:=P2 q hqp;rw [p1,p2];obtain ⟨as,ae,af,a1,a2,a3⟩:=hm.data q hq;refine ⟨as,ae,af,(cO _ (hBd q hq (fun h=>hqp h.1))).trans a1,a2,fun y hy=> ?_⟩
    show as[Pg.db q+y]? =some (.int .u8 (mD (Me'.ev ρ) (256*q+y)))/\isByte (mD (Me'.ev ρ) (256*q+y));rw [(hnext.other q y hq hqp hy).1];exact a3 y hy
  ·rw [ne] at hq;rw [ce] at hc
   by_cases hqp:q=p
   ·obtain ⟨p1,p2,p3,p4,_⟩:=P1 q hqp;rw [p3,p4,hqp];exact (hcode hc).2.2.1
   ·obtain ⟨p1,p2,p3,p4,_⟩:=P2 q hqp;rw [p3,p4];obtain ⟨as,ae,af,a1,a2,a3⟩:=hm.code (by rw [hcoh]; exact hc) q hq
    refine ⟨as,ae,af,(cO _ (hBc hc q hq (fun h=>hqp h.1))).trans a1,a2,fun y hy=> ?_⟩
    show as[Pg.cb q+y]? =some (.int .u8 (mC (Me'.ev ρ) (256*q+y)))/\isByte (mC (Me'.ev ρ) (256*q+y));rw [(hnext.other q y hq hqp hy).2 (by rw [hcoh]; exact hc)]
    exact a3 y hy
  ·rw [ne] at hq
   by_cases hqp:q=p
   ·rw [(P1 q hqp).1];refine ⟨fun h=> ?_,isb⟩
    cases ho':od' with
    |true=>exact inew ho' (by rw [h]; exact hBg)
    |false=>rw [(iold ho').1] at h; exact (hm.gd p hpn).1 h
   ·rw [(P2 q hqp).1];exact hm.gd q hq
  ·rw [ne] at hq;rw [ce] at hc
   by_cases hqp:q=p
   ·rw [(P1 q hqp).2.2.1];exact ⟨(hcode hc).2.2.2.2.2.2.1,(hcode hc).2.2.2.2.2.1⟩
   ·rw [(P2 q hqp).2.2.1];exact hm.gc (by rw [hcoh]; exact hc) q hq
  ·rw [ne] at hq ⊢;rw [ce]
   by_cases hqp:q=p
   ·obtain ⟨p1,p2,p3,p4,p5,p6⟩:=P1 q hqp;rw [p5] at ho;rw [p1];refine ⟨fun r hr hrq=> ?_,fun hc r hr=> ?_⟩
    ·have hrp:r≠p:=by rw [<- hqp]; exact hrq
     rw [(P2 r hrp).1];exact Ne.symm (iother r hr hrp (.inr ho))
    ·by_cases hrp:r=p
     ·rw [(P1 r hrp).2.2.1];exact Ne.symm ((hcode hc).2.2.2.2.2.2.2 (.inl ho))
     ·rw [(P2 r hrp).2.2.1];exact Ne.symm (iotherc hc r hr hrp (.inr ho))
   ·obtain ⟨p1,p2,p3,p4,p5,p6⟩:=P2 q hqp;rw [p5] at ho;rw [p1];refine ⟨fun r hr hrq=> ?_,fun hc r hr=> ?_⟩
    ·by_cases hrp:r=p
     ·rw [(P1 r hrp).1];exact iother q hq hqp (.inl ho)
     ·rw [(P2 r hrp).1];exact (hm.exD q hq ho).1 r hr hrq
    ·by_cases hrp:r=p
     ·rw [(P1 r hrp).2.2.1];intro h;cases ho':oc' with
      |true=>exact (hcode hc).2.2.2.2.1 ho' (by rw [h]; exact hBd q hq (fun h'=>hqp h'.1))
      |false=>
       rw [((hcode hc).2.2.2.1 ho').1] at h;exact (hm.exD q hq ho).2 (by rw [hcoh]; exact hc) p hpn h
     ·rw [(P2 r hrp).2.2.1];exact (hm.exD q hq ho).2 (by rw [hcoh]; exact hc) r hr
  ·rw [ne] at hq ⊢;rw [ce] at hc
   by_cases hqp:q=p
   ·obtain ⟨p1,p2,p3,p4,p5,p6⟩:=P1 q hqp;rw [p6] at ho;rw [p3];refine ⟨fun r hr hrq=> ?_,fun r hr=> ?_⟩
    ·have hrp:r≠p:=by rw [<- hqp]; exact hrq
     rw [(P2 r hrp).2.2.1];intro h;exact (hcode hc).2.2.2.2.1 ho (by rw [<- h]; exact hBc hc r hr (fun h'=>hrp h'.1))
    ·by_cases hrp:r=p
     ·rw [(P1 r hrp).1];exact (hcode hc).2.2.2.2.2.2.2 (.inr ho)
     ·rw [(P2 r hrp).1];intro h;exact (hcode hc).2.2.2.2.1 ho (by rw [<- h]; exact hBd r hr (fun h'=>hrp h'.1))
   ·obtain ⟨p1,p2,p3,p4,p5,p6⟩:=P2 q hqp;rw [p6] at ho;rw [p3];have hcM:aP (ρ.i 0)=false:=by rw [hcoh]; exact hc
    refine ⟨fun r hr hrq=> ?_,fun r hr=> ?_⟩
    ·by_cases hrp:r=p
     ·rw [(P1 r hrp).2.2.1];intro h;cases ho':oc' with
      |true=>exact (hcode hc).2.2.2.2.1 ho' (by rw [h]; exact hBc hc q hq (fun h'=>hqp h'.1))
      |false=>
       rw [((hcode hc).2.2.2.1 ho').1] at h;exact (hm.exC hcM q hq ho).1 p hpn (Ne.symm hqp) h
     ·rw [(P2 r hrp).2.2.1];exact (hm.exC hcM q hq ho).1 r hr hrq
    ·by_cases hrp:r=p
     ·rw [(P1 r hrp).1];exact iotherc hc q hq hqp (.inl ho)
     ·rw [(P2 r hrp).1];exact (hm.exC hcM q hq ho).2 r hr
 have hg': ∀x o,(je c.os' 0 T.nil).get x=some o->x=0/\o= .ghost k [Me'] cv:=by
  intro x o hx;rw [c1] at hx;have:=(ik hx).1
  match x,this with
  |0,this=>simp at this; exact ⟨rfl,this.symm⟩
  |x+1,this=>simp at this
 have nB: ∀b,yl (Me'.ev ρ) L.blk Pg' b-> ¬B b:=by
  intro b hb hB
  rcases hb with rfl |rfl | ⟨q,hq,rfl⟩ | ⟨hc,q,hq,rfl⟩
  ·exact hfoot _ (.inl rfl) hB
  ·exact hfoot _ (.inr (.inl rfl)) hB
  ·rw [ne] at hq
   by_cases hqp:q=p
   ·rw [(P1 q hqp).1] at hB;cases ho':od' with
    |true=>exact inew ho' (hBB _ hB)
    |false=>
     rw [(iold ho').1] at hB;exact hfoot _ (.inr (.inr (.inl ⟨p,hpn,rfl⟩))) hB
   ·rw [(P2 q hqp).1] at hB;exact hfoot _ (.inr (.inr (.inl ⟨q,hq,rfl⟩))) hB
  ·rw [ne] at hq;rw [ce] at hc
   by_cases hqp:q=p
   ·rw [(P1 q hqp).2.2.1] at hB;cases ho':oc' with
    |true=>exact (hcode hc).2.2.2.2.1 ho' (hBB _ hB)
    |false=>
     rw [((hcode hc).2.2.2.1 ho').1] at hB;exact hfoot _ (.inr (.inr (.inr ⟨by rw [hcoh]; exact hc,p,hpn,rfl⟩))) hB
   ·rw [(P2 q hqp).2.2.1] at hB;exact hfoot _ (.inr (.inr (.inr ⟨by rw [hcoh]; exact hc,q,hq,rfl⟩))) hB
 refine ⟨v',e1,f,Ren.le_refl f,fun _ _=>rfl,⟨hr.below.trans (e4.below.mono hBB),hr.bsize,fun x M hx=>Nat.lt_of_lt_of_le (hr.lt x M hx) e4.below.size,fun x y Mx My ox oy hx hy gx gy hxy=> ?_,fun x M o hx gx=> ?_⟩,?_⟩
 ·exact absurd ((hg' x ox gx).1.trans (hg' y oy gy).1.symm) hxy
 ·obtain ⟨rfl,rfl⟩:=hg' x o gx;rw [hL] at hx;cases hx;refine ⟨⟨by rw [hgh]; exact ⟨_,Pg',rfl,hm',hho⟩,fun b hb=> ?_⟩,hb0,cs0,el0,fr0,(cO _ hBg).trans q1,q2,q3,q4⟩
  rw [hgh] at hb;obtain ⟨M2,P2',h2,ho2,h3⟩:=hb;exact nB b (hm'.same h2 (ho2.trans hho.symm) h3)
 ·rw [g3] at e5;exact (e5.zx cr).env evI evB
def zh(el sl:TypeId)(coh:Bool):List ah:=[.cells (jy coh) el false 2,.col 7 6 .i64 (.var 0) 4 2 (.fn 0 (.var 0) (.lit 3) (.lit 0))]
theorem AG{el sl:TypeId}{k:Nat}{c co:Con}{cv:T ab}{Me':IE}{coh:Bool}
 (hk:GH k=cW el sl) (c0:c.os=[.ghost k [.var 0] cv]) (c1:c.os'=[.ghost k [Me'] cv]) (cr:c.res.free=true)
 (g1:co.g=c.g) (g2:co.args=c.args) (g3:co.res=c.res) (hco:co.Ok P G GH) (o0:co.os=zh el sl coh)
 {ρ:Env} (h1:ρ.std G GH) (hb:ρ.ok (bdL co.bds)) (hp:co.pre.holds ρ) {B:Nat->Prop} {W w:World} {f:Ren} {args':Array Value} (hr:au ρ B W f (aF c.os 0 .nil) w) (ha:az ρ f c.args args') (hn: ∀j,c.os.length<=j->f j=none)
 {L:Loc} (hL:f 0=some L) {Pg:Pages} (hm:iz el sl (ρ.i 0) w L.blk Pg) (hho:Pg.ho=L.base) (hcoh:aP (ρ.i 0)=coh) (hsame:Me'.ev ρ=ρ.i 0):
 mw P c.g args' w fun v' w'=> ∃f',f.le f'/\Outside f f' c.os.length c.os'.length/\au ρ B W f' (je c.os' 0 .nil) w'/\ai ρ f' c.res v':=by
 have hlen:c.os.length=1:=by rw [c0]; rfl
 have hf1: ∀x,1<=x->f x=none:=fun x hx=>hn x (by omega)
 have hg:(aF c.os 0 T.nil).get 0=some (.ghost k [.var 0] cv):=by
  rw [c0];exact aU [ah.ghost k [IE.var 0] cv] 0 0 .nil _ rfl (by simp)
 have hobj:=hr.obj 0 L _ hL hg;obtain ⟨⟨hrel,hfB⟩,hb0,cs0,el0,fr0,q1,q2,q3,q4⟩:=hobj;obtain ⟨cs,fr,cap,u1,u2,u3,u4⟩:=hm.head;obtain ⟨ss,sf,v1,v2,v3⟩:=hm.slots;have lt: ∀ {b:Nat} {O:Obj},w.heap[b]? =some O->b<w.heap.size:=fun h=>(Array.getElem?_eq_some_iff.1 h).1
 let f2:Ren:=fun x=>match x with
  |0=>some L
  |1=>some ⟨Pg.sb,Pg.so,ss.size⟩
  |_=>none
 have hle:f.le f2:=by
  intro x M hx;cases x with
  |zero=>rw [hL] at hx; exact hx
  |succ x=>rw [hf1 _ (by omega)] at hx; cases hx
 have get: ∀ {x:Nat} {o:ah},(aF co.os 0 T.nil).get x=some o->(x=0/\o= .cells (jy coh) el false 2)\/(x=1/\o= .col 7 6 .i64 (.var 0) 4 2 (.fn 0 (.var 0) (.lit 3) (.lit 0))):=by
  intro x o h;rw [o0] at h;have:=iG h
  match x,this with
  |0,h=>simp [zh] at h; exact .inl ⟨rfl,h.symm⟩
  |1,h=>simp [zh] at h; exact .inr ⟨rfl,h.symm⟩
  |x+2,h=>simp [zh] at h
 have H2:au ρ (· <w.heap.size) w f2 (aF co.os 0 .nil) w:=by
  refine ⟨Kept.refl _ _,fun b hb=>hb,fun x M hx=> ?_,fun x y Mx My ox oy hx hy gx gy hxy hown=> ?_,fun x M o hx gx=> ?_⟩
  ·match x,hx with
   |0,hx=>cases hx; exact lt u1
   |1,hx=>cases hx; exact lt v1
  ·rcases get gx with ⟨rfl,rfl⟩ | ⟨rfl,rfl⟩<;>cases hown
  ·rcases get gx with ⟨rfl,rfl⟩ | ⟨rfl,rfl⟩
   ·cases hx
    have hsz:cs.size=L.sz:=by
     rw [u1] at q1;cases q1;exact q2
    refine ⟨cs,fr,u1,hsz,(fun h=>(by cases h)),fun y v hv=> ?_⟩
    rcases Ag hv with ⟨rfl,rfl⟩ | ⟨rfl,rfl⟩
    ·refine ⟨by decide,_,by rw [<- hho]; exact u2,?_⟩
     have hlenE:(IE.fn 0 (.var 0) (.lit 3) (.lit 0)).ev ρ=mN (ρ.i 0):=rfl;have:=ai.sliceS (ρ:=ρ) (f:=f2) (i:=1) (s:=7) (st:= .lit 0) (len:= .fn 0 (.var 0) (.lit 3) (.lit 0)) (nn:=true) (L:=⟨Pg.sb,Pg.so,ss.size⟩) (c:=cap) rfl (Int.le_refl 0) (by rw [hlenE]; exact hm.nle.1) (by rw [hlenE]; exact u3)
     rw [hlenE] at this;exact this
    ·refine ⟨by decide,_,by rw [<- hho]; exact u4,?_⟩
     rw [hcoh];exact .bool (.lit coh)
   ·cases hx;refine ⟨ss,sl,sf,v1,fun j hj=> ?_⟩
    have hj:(j:Int)<mN (ρ.i 0):=hj;obtain ⟨a1,a2,a3,a4,a5,a6,a7⟩:=v3 j (by omega)
    have e:j*4+2=4*j+2:=by omega
    have ev0:(IE.var 0).ev ρ=ρ.i 0:=rfl;rw [e,ev0];refine ⟨a5,?_,?_⟩
    ·unfold mR at a6; simp only [kLo]; omega
    ·unfold mR at a7; simp only [kHi]; omega
 rw [<- g1];refine Calls.mono (hco ρ h1 hb hp (· <w.heap.size) w f2 w args' H2 (by rw [g2]; exact ha.mono hle) (fun x hx=> ?_)) fun e w3 ⟨v',e1,f3,e2,e3,e4,e5⟩=> ?_
 ·rw [o0] at hx
  match x,hx with
  |x+2,_=>rfl
  |0,hx=>exact absurd hx (by simp [zh])
  |1,hx=>exact absurd hx (by simp [zh])
 have hB:Kept B W w3:=hr.below.trans (e4.below.mono fun b hb=>Nat.lt_of_lt_of_le (hr.bsize b hb) hr.below.size)
 have H3:au ρ B W f (aF c.os 0 .nil) w3:=hr.of_same hB e4.below.size fun x M o hx gx b hb=>e4.below.block b ((hr.obj x M o hx gx).lz hb)
 have hg0: ∀x o,(je c.os' 0 T.nil).get x=some o->x=0/\o= .ghost k [Me'] cv:=by
  intro x o hx;rw [c1] at hx;have:=(ik hx).1
  match x,this with
  |0,this=>simp at this; exact ⟨rfl,this.symm⟩
  |x+1,this=>simp at this
 refine ⟨v',e1,f,Ren.le_refl f,fun _ _=>rfl,⟨H3.below,H3.bsize,H3.lt,fun x y Mx My ox oy hx hy gx gy hxy=> ?_,fun x M o hx gx=> ?_⟩,?_⟩
 ·exact absurd ((hg0 x ox gx).1.trans (hg0 y oy gy).1.symm) hxy
 ·obtain ⟨rfl,rfl⟩:=hg0 x o gx;obtain ⟨⟨a1,a2⟩,a3⟩:=H3.obj 0 M _ hx hg;refine ⟨⟨?_,a2⟩,a3⟩;have:[Me'].map (·.ev ρ)=[IE.var 0].map (·.ev ρ):=by simp [hsame,IE.ev]
  rw [this];exact a1
 ·rw [g3] at e5;exact e5.zx cr
def nE:IE:= .fn 0 (.var 0) (.lit 3) (.lit 0)
def iQ:BE:= .eq (.fn 0 (.var 0) (.lit 7) (.lit 0)) (.lit 1)
def uP(pe:IE)(inside coh:Bool):Dec:=[(.lt pe nE,inside),(.lt nE (.lit 0),false),(.lt (.lit 4096) nE,false),(.lt pe (.lit 0),false),(iQ,coh)]
theorem D4{ρ:Env}{pe:IE}{p:Nat}(hp:pe.ev ρ=p)(hn:0<=mN (ρ.i 0)/\mN (ρ.i 0)<=4096){v:Bool}(hv:decide ((p:Int)<mN (ρ.i 0))=v){coh:Bool}(hc:aP (ρ.i 0)=coh):Dec.holds ρ (uP pe v coh):=by
 have e:nE.ev ρ=mN (ρ.i 0):=rfl;intro q hq;simp only [uP,List.mem_cons,List.not_mem_nil,or_false] at hq
 rcases hq with rfl |rfl |rfl |rfl |rfl
 ·show decide (pe.ev ρ<nE.ev ρ)=v;rw [hp,e];exact hv
 ·show decide (nE.ev ρ<0)=false;rw [e];simp;omega
 ·show decide (4096<nE.ev ρ)=false;rw [e];simp;omega
 ·show decide (pe.ev ρ<0)=false;rw [hp];simp
 ·exact hc
def KH(c:Con)(el sl:TypeId)(pe:IE)(coh od oc:Bool)(os':List ah):Con:=
 {c with os:=lT el sl coh od oc pe,pre:=uP pe true coh++c.pre,os':=os'}
def Ls(c:Con)(el sl:TypeId)(pe:IE)(inside coh:Bool):Con:=
 {c with os:=zh el sl coh,pre:=uP pe inside coh++c.pre,os':=zh el sl coh}
def tV(c:Con)(el sl:TypeId)(coh:Bool):Con:=
 {c with os:=zh el sl coh,pre:=[(.lt nE (.lit 0),false),(.lt (.lit 4096) nE,false)]++c.pre,os':=zh el sl coh}
structure Behind where
 i:Nat:=2
 j:Nat:=3
 od:Bool
 oc:Bool
 d:IE
 c:IE
 r:IE
theorem gU(d:Int)(j:Nat):fE (ag d j):=by
 rw [bx];unfold ff fE;have h:dig d.toNat j<2^80:=by unfold dig; exact Nat.mod_lt _ (Nat.two_pow_pos _)
 have e:(2:Nat)^80=1208925819614629174706176:=by decide
 rw [e] at h;split
 ·rename_i hb;have:dig d.toNat j<604462909807314587353088:=by simpa [Nat.blt_eq] using hb
  omega
 ·rename_i hb;have: ¬dig d.toNat j<604462909807314587353088:=fun hlt=>hb (by simpa [Nat.blt_eq] using hlt)
  omega
theorem fe(M:Int)(p j:Nat)(hj:j<256):ag (pgD M p) j=mD M (256*p+j):=
 cP _ j _ (by simp [hj]) (gU M _)
theorem sF(M:Int)(p j:Nat)(hj:j<256):ag (pgC M p) j=mC M (256*p+j):=
 cP _ j _ (by simp [hj]) (gU M _)
theorem b8.refl{M:Int}{p:Nat}(h:bn M)(hp:p<(mN M).toNat):b8 M M p (pgD M p) (pgC M p) (mR M p):=
 ⟨rfl,rfl,fun _ _ _ _ _=>⟨rfl,fun _=>rfl⟩,fun _ _ _=>rfl,fun j hj=>(fe M p j hj).symm,fun _ j hj=>(sF M p j hj).symm,⟨rfl,h.r p hp⟩,h.k⟩
theorem X4{el sl:TypeId}{k:Nat}{c:Con}{cv:T ab}{Me' pe:IE}(hk:GH k=cW el sl)(hG: ∀M p z,G 10 M p z=pgD M p.toNat/\G 11 M p z=pgC M p.toNat)
 (c0:c.os=[.ghost k [.var 0] cv]) (c1:c.os'=[.ghost k [Me'] cv]) (cr:c.res.free=true) (ca:c.args.head? =some (.ptr (some (0,0))))
 (hpos: ∀ρ:Env,ρ.ok (bdL c.bds)->c.pre.holds ρ->0<=pe.ev ρ)
 (hout: ∀coh,(Ls c el sl pe false coh).Ok P G GH) (hsame: ∀ρ:Env,ρ.std G GH->ρ.ok (bdL c.bds)->c.pre.holds ρ->bn (ρ.i 0)->mN (ρ.i 0)<=pe.ev ρ->Me'.ev ρ=ρ.i 0)
 (hin: ∀coh od oc,∃(b:Behind) (os':List ah),(KH c el sl pe coh od oc os').Ok P G GH/\os'[1]? =some (.win pe 7 (bu b.i b.j coh b.od b.oc b.r) sl true)/\os'[b.i]? =some (.arr [.u8] b.d (.lit 256) b.od)/\(coh=false->os'[b.j]? =some (.arr [.u8] b.c (.lit 256) b.oc))/\os'.length<=1000/\
  (b.od=true\/(b.i=2/\od=false))/\(coh=false->b.oc=true\/(b.j=3/\oc=false))/\(coh=false->b.i≠b.j)/\
  ∀ρ:Env,ρ.std G GH->ρ.ok (bdL c.bds)->c.pre.holds ρ->bn (ρ.i 0)->aP (ρ.i 0)=coh-> ∀p:Nat,pe.ev ρ=p->p<(mN (ρ.i 0)).toNat->b8 (ρ.i 0) (Me'.ev ρ) p (b.d.ev ρ) (b.c.ev ρ) (b.r.ev ρ)):c.Ok P G GH:=by
 intro ρ h1 h2 h3 B W f w args' hr ha hn;have hlen:c.os.length=1:=by rw [c0]; rfl
 have hg:(aF c.os 0 T.nil).get 0=some (.ghost k [.var 0] cv):=by
  rw [c0];exact aU [ah.ghost k [IE.var 0] cv] 0 0 .nil _ rfl (by simp)
 have hL: ∃L,f 0=some L:=by
  have h0:c.args[0]? =some (.ptr (some (0,0))):=by rw [<- List.head?_eq_getElem?]; exact ca
  obtain ⟨v',q1,q2⟩:=ha.get h0;obtain ⟨L,hL,_⟩:=q2.eQ;exact ⟨L,hL⟩
 obtain ⟨L,hL⟩:=hL;obtain ⟨⟨hrel,hfB⟩,_⟩:=hr.obj 0 L _ hL hg;rw [show ρ.gh k=cW el sl by rw [h1.2]; exact hk] at hrel
 obtain ⟨M,Pg,hv,hm,hho⟩:=hrel
 have hM:M=ρ.i 0:=by
  simp [IE.ev] at hv;exact hv.symm
 subst hM;obtain ⟨p,hp⟩:=Int.eq_ofNat_of_zero_le (hpos ρ h2 h3)
 by_cases hlt:(p:Int)<mN (ρ.i 0)
 ·obtain ⟨b,os',hok,o1,o2,o3,ol,hi,hj,hij,hnx⟩:=hin (aP (ρ.i 0)) (Pg.od p) (Pg.oc p);exact MN (co:=KH c el sl pe (aP (ρ.i 0)) (Pg.od p) (Pg.oc p) os') hk hG c0 c1 cr rfl rfl rfl hok rfl o1 o2 o3 ol hi hj hij h1 h2 (bJ (D4 hp hm.nle (by simp [hlt]) rfl) h3) hr ha hn hL hm hho hp (by omega) rfl rfl rfl (hnx ρ h1 h2 h3 hm.ok rfl p hp (by omega))
 ·exact AG (co:=Ls c el sl pe false (aP (ρ.i 0))) hk c0 c1 cr rfl rfl rfl (hout _) rfl h1 h2 (bJ (D4 hp hm.nle (by simp [hlt]) rfl) h3) hr ha hn hL hm hho rfl (hsame ρ h1 h2 h3 hm.ok (by omega))
theorem Lo{el sl:TypeId}{k:Nat}{c:Con}{cv:T ab}(hk:GH k=cW el sl)(c0:c.os=[.ghost k [.var 0] cv])(c1:c.os'=[.ghost k [.var 0] cv])(cr:c.res.free=true)(ca:c.args.head? =some (.ptr (some (0,0))))
 (hro: ∀coh,(tV c el sl coh).Ok P G GH):c.Ok P G GH:=by
 intro ρ h1 h2 h3 B W f w args' hr ha hn;have hlen:c.os.length=1:=by rw [c0]; rfl
 have hg:(aF c.os 0 T.nil).get 0=some (.ghost k [.var 0] cv):=by
  rw [c0];exact aU [ah.ghost k [IE.var 0] cv] 0 0 .nil _ rfl (by simp)
 have hL: ∃L,f 0=some L:=by
  have h0:c.args[0]? =some (.ptr (some (0,0))):=by rw [<- List.head?_eq_getElem?]; exact ca
  obtain ⟨v',q1,q2⟩:=ha.get h0;obtain ⟨L,hL,_⟩:=q2.eQ;exact ⟨L,hL⟩
 obtain ⟨L,hL⟩:=hL;obtain ⟨⟨hrel,hfB⟩,_⟩:=hr.obj 0 L _ hL hg;rw [show ρ.gh k=cW el sl by rw [h1.2]; exact hk] at hrel
 obtain ⟨M,Pg,hv,hm,hho⟩:=hrel
 have hM:M=ρ.i 0:=by
  simp [IE.ev] at hv;exact hv.symm
 subst hM
 have hp:Dec.holds ρ ([(.lt nE (.lit 0),false),(.lt (.lit 4096) nE,false)]++c.pre):=by
  have e:nE.ev ρ=mN (ρ.i 0):=rfl;have hn:=hm.nle;refine bJ (fun q hq=> ?_) h3
  simp only [List.mem_cons,List.not_mem_nil,or_false] at hq
  rcases hq with rfl |rfl
  ·show decide (nE.ev ρ<0)=false;rw [e]; simp; omega
  ·show decide (4096<nE.ev ρ)=false;rw [e]; simp; omega
 exact AG (co:=tV c el sl (aP (ρ.i 0))) hk c0 c1 cr rfl rfl rfl (hro _) rfl h1 h2 hp hr ha hn hL hm hho rfl rfl
end
theorem lH(d j v:Int):0<=aD d j v:=Int.natCast_nonneg _
theorem Gz(n j:Nat):dig n j<2^80:=Nat.mod_lt _ (Nat.two_pow_pos _)
theorem kg{u:Nat}(h:u<2^80):gz (ff u)=u:=by
 unfold gz ff;split
 ·have:((u:Int) % 1208925819614629174706176).toNat=u:=by omega
  exact this
 ·have:(((u:Int)-1208925819614629174706176) % 1208925819614629174706176).toNat=u:=by omega
  exact this
theorem iq{d:Int}(h:0<=d)(i:Nat):aD d i (ag d i)=d:=by
 have h1:=gD d (ag d i) i;rw [bx,kg (Gz _ _)] at h1
 have h2:put d.toNat i (dig d.toNat i)=d.toNat:=by
  unfold put
  have:dig d.toNat i*2^(80*i)<=d.toNat:=by
   unfold dig;exact Nat.le_trans (Nat.mul_le_mul_right _ (Nat.mod_le _ _)) (Nat.div_mul_le_self _ _)
  omega
 rw [h2] at h1;have:=lH d i (ag d i);rw [bx] at this;rw [bx];omega
theorem vQ(n j:Nat):dig n (j+1)=dig (n / 2^80) j:=by
 unfold dig;rw [show 80*(j+1)=80+80*j by omega,Nat.pow_add,Nat.div_div_eq_div_mul]
theorem UQ: ∀(a b:Nat),(∀ j,dig a j=dig b j)->a=b:=by
 intro a
 induction a using Nat.strongRecOn with
 |_ a ih=>
  intro b h;have h0:a % 2^80=b % 2^80:=by have:=h 0; unfold dig at this; simpa using this
  have hs: ∀j,dig (a / 2^80) j=dig (b / 2^80) j:=fun j=>by rw [<- vQ,<-vQ]; exact h _
  have e:a / 2^80=b / 2^80:=by
   by_cases ha:a=0
   ·subst ha
    have z: ∀n:Nat,(∀ j,dig n j=0)->n=0:=by
     intro n
     induction n using Nat.strongRecOn with
     |_ n ih=>
      intro hz
      by_cases hn:n=0
      ·exact hn
      ·have h1:n % 2^80=0:=by have:=hz 0; unfold dig at this; simpa using this
       have h2:=ih (n / 2^80) (Nat.div_lt_self (by omega) (by decide)) (fun j=>by rw [<- vQ]; exact hz _)
       omega
    have hz: ∀j,dig 0 j=0:=fun j=>by unfold dig; simp
    have:=z b fun j=>by rw [<- h j]; exact hz j
    rw [this]
   ·exact ih (a / 2^80) (Nat.div_lt_self (by omega) (by decide)) _ hs
  omega
theorem Vh{a b:Int}(ha:0<=a)(hb:0<=b)(h: ∀j:Nat,ag a j=ag b j):a=b:=by
 have:a.toNat=b.toNat:=UQ _ _ fun j=>by
  have:=h j;rw [bx,bx] at this;have:=congrArg gz this
  rwa [kg (Gz _ _),kg (Gz _ _)] at this
 omega
theorem cF{d v:Int}{i j:Nat}(hv:isByte v):ag (aD d i v) j=if j=i then v else ag d j:=
 eW d v i j (by obtain ⟨h1,h2⟩:=hv; omega) (by obtain ⟨h1,h2⟩:=hv; omega)
theorem cZ{v:Int}(h:isByte v):IntKind.u8.wrap v=v:=bI .u8 _ (by simp only [kLo]; exact h.1) (by simp only [kHi]; exact h.2)
theorem eJ(v:Int):isByte (IntKind.u8.wrap v):=by
 have:=wrap_mem .u8 v;simp only [kLo,kHi] at this;exact this
def fP(M:Int)(ix:Nat->Nat)(g:Nat->Int):Nat->Int
 |0=>M
 |n+1=>aD (fP M ix g n) (ix n) (g n)
theorem VB{M:Int}{ix:Nat->Nat}{g:Nat->Int}(hi: ∀i j,ix i=ix j->i=j)(hg: ∀j,fE (g j)): ∀(n j:Nat),j<n->ag (fP M ix g n) (ix j)=g j:=by
 intro n
 induction n with
 |zero=>intro j h; omega
 |succ n ih=>
  intro j h;show ag (aD (fP M ix g n) (ix n) (g n)) (ix j)=g j;rw [eW _ _ _ _ (hg n).1 (hg n).2]
  by_cases e:ix j=ix n
  ·rw [if_pos e,hi _ _ e]
  ·rw [if_neg e];exact ih j (by have:j≠n:=fun h=>e (by rw [h]); omega)
theorem Oc{M:Int}{ix:Nat->Nat}{g:Nat->Int}: ∀(n i:Nat),(∀ j,j<n->i≠ix j)->ag (fP M ix g n) i=ag M i:=by
 intro n
 induction n with
 |zero=>intro i _; rfl
 |succ n ih=>
  intro i h;show ag (aD (fP M ix g n) (ix n) (g n)) i=_;rw [aI _ _ (h n (by omega))]
  exact ih i fun j hj=>h j (by omega)
def inM(M a:Int):Bool:=decide (a / 256<mN M)
def ad(a i:Int):Int:=IntKind.u32.wrap (a+i)
def pkS(M a:Int):Int:=if inM M a then IntKind.u8.wrap (ag M (a*4)) else 0
def cdS(M a:Int):Int:=if inM M a then IntKind.u8.wrap (if aP M then ag M (a*4) else ag M (a*4+1)) else 0
def rtS(M p:Int):Int:=if 0<=p/\p<mN M then IntKind.i64.wrap (ag M (p*4+2)) else 0
def okS(M a r:Int):Bool:=inM M a&&decide (aN .and .i64 (IntKind.i64.wrap (ag M (a / 256*4+2))) r≠0)
def chS(M a r:Int):Nat->Int->Option Int
 |0,_=>none
 |n+1,i=>if okS M (ad a i) r then chS M a r n (i+1) else some (ad a i)
def adp(M a z:Int):Int:=match chS M a (z % 8) (z / 8).toNat 0 with
 |none=>1
 |some _=>0
def ac7(M a z:Int):Int:=match chS M a (z % 8) (z / 8).toNat 0 with
 |none=>0
 |some x=>x
def stS(M a b:Int):Int:=if inM M a then aD M (a*4) b else M
def prS(M p r:Int):Int:=if 0<=p/\p<mN M then aD M (p*4+2) (aN .and .i64 r 7) else M
def ixC(p j:Nat):Nat:=4*(256*p+j)+1
def syS(M a:Int):Int:=if inM M a&& !aP M then fP M (ixC (a / 256).toNat) (fun j=>mD M (256*(a / 256).toNat+j)) 256 else M
def scS(M p d n:Int):Int:=if (0<=p/\p<mN M)/\aP M=false then fP M (ixC p.toNat) (fun j=>IntKind.u8.wrap (ag d j)) (min n.toNat 256) else M
def poS(M a d:Int):Nat->Int
 |0=>M
 |n+1=>stS (poS M a d n) (ad a n) (IntKind.u8.wrap (ag d n))
def poF(M a d:Int)(i:Nat):Nat->Int
 |0=>M
 |k+1=>poF (stS M (ad a i) (IntKind.u8.wrap (ag d i))) a d (i+1) k
def poD(D a d N:Int)(i:Nat):Nat->Int
 |0=>D
 |k+1=>poD (if ad a i<N then aD D (ad a i) (IntKind.u8.wrap (ag d i)) else D) a d N (i+1) k
def eqF(x y:Int)(i:Nat):Nat->Int
 |0=>1
 |k+1=>if ag x (i:Nat)=ag y (i:Nat) then eqF x y (i+1) k else 0
def b2(b:Bool):Int:=if b then 1 else 0
def gN(M:Int):Int:=(rowOf ((List.range (256*(mN M).toNat)).map fun i=>mD M i):Nat)
def ql(M:Int):Int:=(rowOf ((List.range (256*(mN M).toNat)).map fun i=>mC M i):Nat)
def qe(M:Int):Int:=(rowOf ((List.range (mN M).toNat).map fun i=>mR M i):Nat)
def cpR(C D:Int)(i:Nat):Nat->Int
 |0=>C
 |n+1=>aD (cpR C D i n) ((i+n:Nat):Int) (IntKind.u8.wrap (ag D ((i+n:Nat):Int)))
def nw(r:Int)(c v:Bool):Int:=(if 2147483648<=r then 8 else 0)+(if r=0 then 4 else 0)+(if c then 2 else 0)+(if v then 1 else 0)
def jS(a:Int):Int:=if a<2147483648 then a else a-4294967296
def oO(t:Int):Bool:=decide (t< -2147483648\/2147483648<=t)
def wE(k a b:Int):Int:=
 if k=0 then a % 16
 else if k=1 then nw ((a+b) % 4294967296) (decide (4294967296<=a+b)) (oO (jS a+jS b))
 else if k=2 then nw ((a+b+1) % 4294967296) (decide (4294967296<=a+b+1)) (oO (jS a+jS b+1))
 else if k=3 then nw ((a-b) % 4294967296) (decide (b<=a)) (oO (jS a-jS b))
 else if k=4 then nw ((a-b-1) % 4294967296) (decide (b+1<=a)) (oO (jS a-jS b-1))
 else if k=5 then nw a false false
 else 0
def jT(n:Int)(coh:Int):Int:=aD (aD 0 (3:Nat) n) (7:Nat) coh
def gA(c:Nat)(x y z:Int):Int:=
 match c with
 |9=>cG x y
 |10=>pgD x y.toNat
 |11=>pgC x y.toNat
 |14=>gN x
 |15=>ql x
 |16=>qe x
 |20=>pkS x y
 |21=>cdS x y
 |22=>b2 (okS x y z)
 |23=>rtS x y
 |24=>adp x y z
 |25=>ac7 x y z
 |30=>stS x y z
 |31=>prS x y z
 |33=>syS x y
 |34=>scS x y (unpI z).1 (unpI z).2
 |35=>poS x y (unpI z).1 (unpI z).2.toNat
 |36=>cpR x y (unpI z).1.toNat ((unpI z).2.toNat-(unpI z).1.toNat)
 |37=>jT x y
 |38=>poF x (unpI y).1 (unpI y).2 (unpI z).1.toNat ((unpI z).2.toNat-(unpI z).1.toNat)
 |39=>poD x (unpI y).1 (unpI (unpI y).2).1 (unpI (unpI y).2).2 (unpI z).1.toNat ((unpI z).2.toNat-(unpI z).1.toNat)
 |40=>wE x y z
 |41=>eqF x y (unpI z).1.toNat ((unpI z).2.toNat-(unpI z).1.toNat)
 |_=>0
def cX(G:Nat->Int->Int->Int->Int):Prop:= ∀c,c<100-> ∀x y z,G c x y z=gA c x y z
theorem cX.pg{G:Nat->Int->Int->Int->Int}(h:cX G): ∀M p z,G 10 M p z=pgD M p.toNat/\G 11 M p z=pgC M p.toNat:=fun M p z=>⟨h 10 (by decide) M p z,h 11 (by decide) M p z⟩
theorem cj{G:Nat->Int->Int->Int->Int}(hG:cX G){GH:Nat->bz}{ρ:Env}(h:ρ.std G GH){c:Nat}(h1:7<c)(h2:c<100)(x y z:Int):fnI ρ c x y z=gA c x y z:=by
 rw [bY h1,h.1,hG c h2]
theorem tU{M M':Int}(hn:mN M'=mN M)(hc:aP M'=aP M)(j:Nat):qu M' j ↔ qu M j:=by
 unfold qu;rw [hn,hc]
theorem iy{M v:Int}{i:Nat}(h3:i≠3)(h7:i≠7):mN (aD M (i:Nat) v)=mN M/\aP (aD M (i:Nat) v)=aP M:=by
 refine ⟨aI M v (by omega),?_⟩
 unfold aP;rw [aI M v (by omega)]
theorem l6.set{M v:Int}{i:Nat}(h:l6 M)(hi:qu M i)(h3:i≠3)(h7:i≠7):l6 (aD M (i:Nat) v):=by
 obtain ⟨a,b⟩:=iy (M:=M) (v:=v) h3 h7;refine ⟨lH _ _ _,?_,fun j hj=> ?_⟩
 ·rw [aI M v (by omega)]
  exact h.coh
 ·rw [tU a b] at hj;rw [aI M v (fun e=>hj (by subst e; exact hi))]
  exact h.out j hj
theorem l6.fP{M:Int}{ix:Nat->Nat}{g:Nat->Int}(h:l6 M): ∀n:Nat,(∀ j,j<n->qu M (ix j)/\ix j≠3/\ix j≠7)->l6 (Go.Sx.fP M ix g n)/\mN (Go.Sx.fP M ix g n)=mN M/\aP (Go.Sx.fP M ix g n)=aP M:=by
 intro n
 induction n with
 |zero=>intro _; exact ⟨h,rfl,rfl⟩
 |succ n ih=>
  intro hj;obtain ⟨a,b,c⟩:=ih fun j h=>hj j (by omega)
  obtain ⟨p1,p2,p3⟩:=hj n (by omega)
  obtain ⟨q1,q2⟩:=iy (M:=Go.Sx.fP M ix g n) (v:=g n) p2 p3;exact ⟨a.set ((tU b c _).2 p1) p2 p3,q1.trans b,q2.trans c⟩
theorem Ji{M b:Int}{n:Nat}(hm:bn M)(hin:n / 256<(mN M).toNat)(hb:isByte b):b8 M (aD M ((4*n:Nat):Int) b) (n / 256) (aD (pgD M (n / 256)) ((n % 256:Nat):Int) b) (pgC M (n / 256)) (mR M (n / 256)):=by
 have hn:=Nat.div_add_mod n 256;have hlt:=Nat.mod_lt n (show 0<256 by decide)
 refine ⟨?_,?_,fun q j hq hqp hj=>⟨?_,fun _=> ?_⟩,fun q hq hqp=> ?_,fun j hj=> ?_,fun _ j hj=> ?_,⟨?_,hm.r _ hin⟩,hm.k.set (.inr (.inr (.inl ⟨n,by omega,.inl rfl⟩))) (by omega) (by omega)⟩
 ·exact aI M b (by omega)
 ·unfold aP; rw [aI M b (by omega)]
 ·exact aI M b (by omega)
 ·exact aI M b (by omega)
 ·exact aI M b (by omega)
 ·unfold mD;rw [cF hb,cF hb,fe M _ j hj]
  by_cases e:j=n % 256
  ·rw [if_pos (by omega),if_pos e]
  ·rw [if_neg (by omega),if_neg e]
   rfl
 ·unfold mC;rw [aI M b (by omega),sF M _ j hj]
  rfl
 ·exact aI M b (by omega)
theorem I2{M r:Int}{p:Nat}(hm:bn M)(hin:p<(mN M).toNat)(hr:0<=r/\r<=7):b8 M (aD M ((4*p+2:Nat):Int) r) p (pgD M p) (pgC M p) r:=by
 have hb:isByte r:=⟨hr.1,by omega⟩
 refine ⟨?_,?_,fun q j hq hqp hj=>⟨?_,fun _=> ?_⟩,fun q hq hqp=> ?_,fun j hj=> ?_,fun _ j hj=> ?_,⟨?_,hr⟩,hm.k.set (.inr (.inr (.inr ⟨p,hin,rfl⟩))) (by omega) (by omega)⟩
 ·exact aI M r (by omega)
 ·unfold aP; rw [aI M r (by omega)]
 ·exact aI M r (by omega)
 ·exact aI M r (by omega)
 ·exact aI M r (by omega)
 ·unfold mD;rw [aI M r (by omega),fe M _ j hj]
  rfl
 ·unfold mC;rw [aI M r (by omega),sF M _ j hj]
  rfl
 ·unfold mR;rw [cF hb,if_pos rfl]
theorem VK{p i j:Nat}(h:ixC p i=ixC p j):i=j:=by unfold ixC at h; omega
theorem lJ{M:Int}{p n:Nat}{g:Nat->Int}(hm:bn M)(hc:aP M=false)(hin:p<(mN M).toNat)(hg': ∀j,fE (g j))(hn:n<=256){C:Int}(hC: ∀j:Nat,j<256->ag C j=if j<n then g j else mC M (256*p+j)):b8 M (fP M (ixC p) g n) p (pgD M p) C (mR M p):=by
 have out: ∀i,(∀ j,j<n->i≠ixC p j)->ag (fP M (ixC p) g n) i=ag M i:=Oc n;refine ⟨?_,?_,fun q j hq hqp hj=>⟨?_,fun _=> ?_⟩,fun q hq hqp=> ?_,fun j hj=> ?_,fun _ j hj=> ?_,⟨?_,hm.r p hin⟩,(hm.k.fP n fun j hj=>⟨.inr (.inr (.inl ⟨256*p+j,by omega,.inr ⟨hc,rfl⟩⟩)),(by show 4*(256*p+j)+1≠3; omega),(by show 4*(256*p+j)+1≠7; omega)⟩).1⟩
 ·exact out 3 fun j _=>by unfold ixC; omega
 ·unfold aP; rw [out 7 fun j _=>by unfold ixC; omega]
 ·exact out _ fun j' _=>by unfold ixC; omega
 ·exact out _ fun j' h=>by unfold ixC; omega
 ·exact out _ fun j' _=>by unfold ixC; omega
 ·unfold mD;rw [out _ fun j' _=>by unfold ixC; omega,fe M _ j hj]
  rfl
 ·rw [hC j hj]
  by_cases e:j<n
  ·rw [if_pos e];exact VB (fun _ _=>VK) hg' n j e
  ·rw [if_neg e];exact out _ fun j' h=>by unfold ixC; omega
 ·exact out _ fun j' _=>by unfold ixC; omega
end
end Go.Sx
namespace Go.Sx
noncomputable section
section
variable{P:Program}{G:Nat->Int->Int->Int->Int}{GH:Nat->bz}{c:Con}{K:Know}
theorem Con.vG(facts:Dec)(hf: ∀ρ:Env,ρ.std G GH->ρ.ok (bdL c.bds)->c.pre.holds ρ->facts.holds ρ)(q:Dec->IE->IE->Bool)
 (hq: ∀ρ:Env,ρ.std G GH->ρ.ok (bdL c.bds)->c.pre.holds ρ-> ∀(dec:Dec) (a b:IE),dec.holds ρ->q dec a b=true->a.ev ρ=b.ev ρ) {o:Out} (h:o.all (c.leaf q) (facts++c.pre)=true):c.Leaves G GH o:=by
 intro ρ h1 h2 h3;obtain ⟨e,s,dec',hd',p1,p2⟩:=Out.bP (bJ (hf ρ h1 h2 h3) h3) h;unfold Con.leaf at p2;split at p2
 ·rename_i l hl;exact ⟨e,s,_,l,p1,hl,f7 (fun a b hab=>hq ρ h1 h2 h3 dec' a b hd' hab) p2⟩
 ·cases p2
def qX(bd:Bd)(k:Nat)(obs:List (Dec×IE×IE))(dec:Dec)(a b:IE):Bool:=
 match qP bd k dec a b with
 |true=>true
 |false=>qN bd obs dec a b
theorem uv{ρ:Env}{bd:Bd}(hρ:ρ.ok bd){k:Nat}{dec:Dec}(hd:dec.holds ρ){obs:List (Dec×IE×IE)}(ho:fC ρ obs){a b:IE}(h:qX bd k obs dec a b=true):a.ev ρ=b.ev ρ:=by
 unfold qX at h;split at h
 ·rename_i h1;exact uR hρ hd h1
 ·exact Sl hρ hd ho h
theorem Con.Ca(facts:Dec)(hf: ∀ρ:Env,ρ.std G GH->ρ.ok (bdL c.bds)->c.pre.holds ρ->facts.holds ρ)(k:Nat)(obs:List (Dec×IE×IE))(ho: ∀ρ:Env,ρ.std G GH->ρ.ok (bdL c.bds)->c.pre.holds ρ->fC ρ obs){o:Out}(h:o.all (c.leaf (qX (bdL c.bds) k obs)) (facts++c.pre)=true):c.Leaves G GH o:=
 Con.vG facts hf _ (fun ρ h1 h2 h3 _ _ _ hd hab=>uv h2 hd (ho ρ h1 h2 h3) hab) h
theorem Con.q8(mixed:P.follows .mixedOrders=true)(hK:K.Ok P G GH)(L:Nat)(pol:FuncId->Nat->Bool)(pure:FuncId->Bool)(d k:Nat)(h:(c.tree P K L pol pure d []).all (c.leaf (qP (bdL c.bds) k)) c.pre=true):c.Ok P G GH:=
 Con.f6 mixed hK (facts:=[]) (fun ρ _ _ _ p hp=>by cases hp) (Con.vG [] (fun ρ _ _ _ p hp=>by cases hp) _ (fun ρ h1 h2 h3 dec a b hd hab=>uR h2 hd hab) h)
theorem Con.split{b:BE}(h1:Con.Ok P G GH {c with pre:=(b,true)::c.pre})(h0:Con.Ok P G GH {c with pre:=(b,false)::c.pre}):c.Ok P G GH:=by
 intro ρ q1 q2 q3;cases hb:b.ev ρ
 ·exact h0 ρ q1 q2 (aR q3 hb)
 ·exact h1 ρ q1 q2 (aR q3 hb)
theorem ba.kj{c:ba}(mixed:P.follows .mixedOrders=true)(hK:K.Ok P G GH)(hwf:c.con.wf=true)(hsl:c.sl.length=c.con.args.length){ι:Type}(fac:ι->Dec)(L:Nat)(pol:FuncId->Nat->Bool)(pure:FuncId->Bool)(d k:Nat)(μ:IE)
 (hx: ∀ρ:Env,ρ.std G GH->ρ.ok (bdL c.con.bds)->c.con.pre.holds ρ-> ∃i,(fac i).holds ρ/\(c.tree P K L pol pure d (fac i) μ).all (c.con.leaf (qP (bdL c.con.bds) k)) (fac i++c.con.pre)=true):c.Ok P G GH:=by
 intro fn cd b hfn hb hm hk
 have key: ∀m,∀ρ:Env,ρ.std G GH->ρ.ok (bdL c.con.bds)->c.con.pre.holds ρ->(μ.ev ρ).toNat<m->c.con.vb (l0 P b c m) ρ:=by
  intro m
  induction m with
  |zero=>intro ρ _ _ _ h; omega
  |succ m ih=>
   intro ρ h1 h2 h3 hlt;obtain ⟨i,hi,h⟩:=hx ρ h1 h2 h3;obtain ⟨e,s,dec',hd',p1,p2⟩:=Out.bP (bJ hi h3) h;unfold Con.leaf at p2;split at p2
   ·rename_i l hl;exact Con.ig (jj P b c (m+1)) (ba.dJ mixed hK hwf hsl h1 h2 h3 hi hfn hb hm hk (fun ρ' k1 k2 k3 k4=>ih ρ' k1 k2 k3 (by omega)) p1) hl (f7 (fun a b hab=>uR h2 hd' hab) p2)
   ·cases p2
 intro ρ h1 h2 h3;exact ⟨_,key _ ρ h1 h2 h3 (Nat.lt_succ_self _)⟩
end
end
end Go.Sx
namespace Go.Sx
open Go.RowKit (Below)
noncomputable section
def pJ(w:World)(b o:Nat)(k:IntKind)(n:Nat)(D:Nat->Int):Prop:= ∃cs el fr,w.heap[b]? =some (.cells cs el fr)/\(∀ j,j<cs.size-> ¬(fr.1<=j/\j<fr.2))/\ ∀j,j<n->cs[o+j]? =some (.int k (D j))
theorem pJ.cO{w w':World}{b o n:Nat}{k:IntKind}{D:Nat->Int}(h:pJ w b o k n D)(he:w'.heap[b]? =w.heap[b]?):pJ w' b o k n D:=by
 obtain ⟨cs,el,fr,h1,h2⟩:=h;exact ⟨cs,el,fr,he.trans h1,h2⟩
structure Refs where
 ho:Nat
 db:Nat
 dO:Nat
 rb:Nat
 rO:Nat
 ib:Nat
 iO:Nat
structure j4 (el:TypeId) (M:Int) (w:World) (g:Nat) (R:Refs):Prop where
 ok:bn M
 head: ∃cs fr cd cr ci,w.heap[g]? =some (.cells cs el fr)/\cs[R.ho+0]? =some (.slice (some ⟨R.db,R.dO,none⟩) (256*(mN M).toNat) cd)/\256*(mN M).toNat<=cd/\cs[R.ho+4]? =some (.slice (some ⟨R.rb,R.rO,none⟩) (mN M).toNat cr)/\(mN M).toNat<=cr/\cs[R.ho+5]? =some (.bool (aP M))/\
  cs[R.ho+1]? =some (match aP M with |true=> .slice none 0 0 |false=> .slice (some ⟨R.ib,R.iO,none⟩) (256*(mN M).toNat) ci)/\256*(mN M).toNat<=ci
 data:pJ w R.db R.dO .u8 (256*(mN M).toNat) (mD M)
 rights:pJ w R.rb R.rO .i64 (mN M).toNat (mR M)
 image:aP M=false->pJ w R.ib R.iO .u8 (256*(mN M).toNat) (mC M)
 gd:g≠R.db/\g≠R.rb/\R.db≠R.rb
 gi:aP M=false->g≠R.ib/\R.db≠R.ib/\R.rb≠R.ib
def jx(M:Int)(g:Nat)(R:Refs)(b:Nat):Prop:=b=g\/b=R.db\/b=R.rb\/(aP M=false/\b=R.ib)
section
variable{el:TypeId}{M M':Int}{w w':World}{g:Nat}{R R':Refs}
theorem iT{b:Nat}{O:Obj}(h:w.heap[b]? =some O):b<w.heap.size:=(Array.getElem?_eq_some_iff.1 h).1
theorem j4.inb(h:j4 el M w g R){b:Nat}(hb:jx M g R b):b<w.heap.size:=by
 rcases hb with rfl |rfl |rfl | ⟨hc,rfl⟩
 ·obtain ⟨cs,fr,cd,cr,ci,h1,_⟩:=h.head;exact iT h1
 ·obtain ⟨cs,e,fr,h1,_⟩:=h.data;exact iT h1
 ·obtain ⟨cs,e,fr,h1,_⟩:=h.rights;exact iT h1
 ·obtain ⟨cs,e,fr,h1,_⟩:=h.image hc;exact iT h1
theorem j4.cO(h:j4 el M w g R)(he: ∀b,jx M g R b->w'.heap[b]? =w.heap[b]?):j4 el M w' g R:=by
 obtain ⟨cs,fr,cd,cr,ci,h1,h2⟩:=h.head;exact ⟨h.ok,⟨cs,fr,cd,cr,ci,(he _ (.inl rfl)).trans h1,h2⟩,h.data.cO (he _ (.inr (.inl rfl))),h.rights.cO (he _ (.inr (.inr (.inl rfl)))),fun hc=>(h.image hc).cO (he _ (.inr (.inr (.inr ⟨hc,rfl⟩)))),h.gd,h.gi⟩
theorem j4.same(h:j4 el M w g R)(k:j4 el M' w g R')(ho:R'.ho=R.ho){b:Nat}(hb:jx M' g R' b):jx M g R b:=by
 obtain ⟨cs,fr,cd,cr,ci,h1,h2,_,h4,_,h6,h7,_⟩:=h.head;obtain ⟨cs',fr',cd',cr',ci',k1,k2,_,k4,_,k6,k7,_⟩:=k.head;rw [h1] at k1;cases k1;rw [ho] at k2 k4 k6 k7;have ed:R'.db=R.db:=(Addr.mk.inj (Option.some.inj (Value.slice.inj (Option.some.inj (k2.symm.trans h2))).1)).1;have er:R'.rb=R.rb:=(Addr.mk.inj (Option.some.inj (Value.slice.inj (Option.some.inj (k4.symm.trans h4))).1)).1;have ec:aP M'=aP M:=Value.bool.inj (Option.some.inj (k6.symm.trans h6))
 rcases hb with rfl |rfl |rfl | ⟨hc,rfl⟩
 ·exact .inl rfl
 ·exact .inr (.inl ed)
 ·exact .inr (.inr (.inl er))
 ·rw [hc] at k7;rw [ec] at hc;rw [hc] at h7;exact .inr (.inr (.inr ⟨hc,(Addr.mk.inj (Option.some.inj (Value.slice.inj (Option.some.inj (k7.symm.trans h7))).1)).1⟩))
end
def dk(el:TypeId):bz where
 rel vs w g o:= ∃M R,vs=[M]/\j4 el M w g R/\R.ho=o
 aZ w g o b:= ∃M R,j4 el M w g R/\R.ho=o/\jx M g R b
 hd:=6
 self:=fun ⟨M,R,_,h,ho⟩=>⟨M,R,h,ho,.inl rfl⟩
 inb:=fun _ ⟨M,R,h,_,hb⟩=>h.inb hb
 frame:=fun ⟨M,R,e,h,ho⟩ hs he=>by
  have h':=h.cO fun b hb=>he b ⟨M,R,h,ho,hb⟩
  exact ⟨⟨M,R,e,h',ho⟩,fun b ⟨M',R',k,ko,hb⟩=>⟨M,R,h,ho,h'.same k (ko.trans ho.symm) hb⟩⟩
 stay:=by
  intro vs w g o cs e fr j v ⟨M,R,ev,h,ho⟩ hg hj;have other: ∀b,g≠b->(w.setCell ⟨g,j,none⟩ v).heap[b]? =w.heap[b]? :=fun b hb=>Below.heap_setCell _ _ _ _ (Ne.symm hb)
  have h':j4 el M (w.setCell ⟨g,j,none⟩ v) g R:=by
   refine ⟨h.ok,?_,h.data.cO (other _ h.gd.1),h.rights.cO (other _ h.gd.2.1),fun hc=>(h.image hc).cO (other _ (h.gi hc).1),h.gd,h.gi⟩
   obtain ⟨cs',fr',cd,cr,ci,h1,h2,h3,h4,h5,h6,h7,h8⟩:=h.head;rw [h1] at hg;cases hg;have st: ∀i,i<6->(cs.setIfInBounds j v)[R.ho+i]? =cs[R.ho+i]? :=fun i hi=>Array.getElem?_setIfInBounds_ne (by omega)
   exact ⟨_,fr,cd,cr,ci,bQ w g j cs _ fr v h1,(st 0 (by decide)).trans h2,h3,(st 4 (by decide)).trans h4,h5,(st 5 (by decide)).trans h6,(st 1 (by decide)).trans h7,h8⟩
  exact ⟨⟨M,R,ev,h',ho⟩,fun b ⟨M',R',k,ko,hb⟩=>⟨M,R,h,ho,h'.same k (ko.trans ho.symm) hb⟩⟩
def dW:IE:= .mul nE (.lit 256)
structure bN (M M' De Re Ce:Int):Prop where
 ok:bn M'
 n:mN M'=mN M
 coh:aP M'=aP M
 d: ∀j:Nat,j<256*(mN M).toNat->mD M' j=ag De j
 r: ∀j:Nat,j<(mN M).toNat->mR M' j=ag Re j
 c:aP M=false-> ∀j:Nat,j<256*(mN M).toNat->mC M' j=ag Ce j
def d14:IE:= .fn 14 (.var 0) (.lit 0) (.lit 0)
def d15:IE:= .fn 15 (.var 0) (.lit 0) (.lit 0)
def d16:IE:= .fn 16 (.var 0) (.lit 0) (.lit 0)
section
variable{P:Program}{G:Nat->Int->Int->Int->Int}{GH:Nat->bz}
end
section
variable{P:Program}{G:Nat->Int->Int->Int->Int}{GH:Nat->bz}
end
theorem sa{n c:Int}(hn:0<=n/\n<=4096)(hc:c=0\/c=1)(j:Nat):ag (jT n c) (j:Nat)=if j=7 then c else if j=3 then n else 0:=by
 unfold jT;rw [eW _ _ _ _ (by omega) (by omega),eW _ _ _ _ (by omega) (by omega),uw]
theorem sT{n c:Int}(hn:0<=n/\n<=4096)(hc:c=0\/c=1):mN (jT n c)=n:=by
 have:=sa hn hc 3;exact this
theorem Ct{n c:Int}(hn:0<=n/\n<=4096)(hc:c=0\/c=1):aP (jT n c)=decide (c=1):=by
 unfold aP;have:=sa hn hc 7;rw [this];rfl
theorem BO{n c:Int}(hn:0<=n/\n<=4096)(hc:c=0\/c=1){j:Nat}(h3:j≠3)(h7:j≠7):ag (jT n c) (j:Nat)=0:=by
 rw [sa hn hc,if_neg h7,if_neg h3]
theorem iV{n c:Int}(hn:0<=n/\n<=4096)(hc:c=0\/c=1)(a:Nat):mD (jT n c) a=0/\mC (jT n c) a=0/\mR (jT n c) a=0:=
 ⟨BO hn hc (by omega) (by omega),BO hn hc (by omega) (by omega),BO hn hc (by omega) (by omega)⟩
theorem A9{n c:Int}(hn:0<=n/\n<=4096)(hc:c=0\/c=1):bn (jT n c):=by
 have z:isByte 0:=⟨Int.le_refl 0,by decide⟩
 refine ⟨by rw [sT hn hc]; exact hn,fun p j _ _=>by rw [(iV hn hc _).1]; exact z,fun _ p j _ _=>by rw [(iV hn hc _).2.1]; exact z,fun p _=>by rw [(iV hn hc _).2.2]; exact ⟨Int.le_refl 0,by decide⟩,⟨lH _ _ _,?_,fun j hj=> ?_⟩⟩
 ·have:=sa hn hc 7;rw [this];exact hc
 ·exact BO hn hc (fun e=>hj (.inl e)) (fun e=>hj (.inr (.inl e)))
theorem O0(b:Bool):b2 b=0\/b2 b=1:=by cases b<;>simp [b2]
theorem Iy(b:Bool):decide (b2 b=1)=b:=by cases b<;>simp [b2]
section
variable{P:Program}{G:Nat->Int->Int->Int->Int}{GH:Nat->bz}
end
end
end Go.Sx
namespace Go.Sx
noncomputable section
section
variable{P:Program}{G:Nat->Int->Int->Int->Int}{GH:Nat->bz}
end
inductive HT where
 |again (xs:List IE)
 |done (rs:List IE)
 |split (b:BE) (y n:HT)
theorem ba.OX{P:Program}(mixed:P.follows .mixedOrders=true){G:Nat->Int->Int->Int->Int}{GH:Nat->bz}{c:ba}(hwf:c.con.wf=true)(hsl:c.sl.length=c.con.args.length){L:Nat}{pol:FuncId->Nat->Bool}{pure:FuncId->Bool}{d:Nat}{μ:IE}
 (h: ∀ρ:Env,ρ.std G GH->ρ.ok (bdL c.con.bds)->c.con.pre.holds ρ-> ∃(K:Know) (facts:Dec),K.Ok P G GH/\facts.holds ρ/\ ∃e s at' q,(c.tree P K L pol pure d facts μ).pick ρ=some (e,s)/\c.con.ends at' s=some q/\q.hold ρ):c.Ok P G GH:=by
 intro fn cd b hfn hb hm hk
 have key: ∀m,∀ρ:Env,ρ.std G GH->ρ.ok (bdL c.con.bds)->c.con.pre.holds ρ->(μ.ev ρ).toNat<m->c.con.vb (l0 P b c m) ρ:=by
  intro m
  induction m with
  |zero=>intro ρ _ _ _ h; omega
  |succ m ih=>
   intro ρ h1 h2 h3 hlt;obtain ⟨K,facts,hK,hf,e,s,at',q,p1,p2,p3⟩:=h ρ h1 h2 h3;exact Con.ig (jj P b c (m+1)) (ba.dJ mixed hK hwf hsl h1 h2 h3 hf hfn hb hm hk (fun ρ' k1 k2 k3 k4=>ih ρ' k1 k2 k3 (by omega)) p1) p2 p3
 intro ρ h1 h2 h3;exact ⟨_,key _ ρ h1 h2 h3 (Nat.lt_succ_self _)⟩
end
end Go.Sx
namespace Go.Sx
open Go.RowKit (Below)
noncomputable section
def ba.yX(C C':Ctx)(c:ba)(dec:Dec)(s:ASt)(again:Dec->Out):Out:=
 match slotsOf s.tm c.sl with
 |some args=>
  match c.con.fit C' args s.hp s.nx with
  |some (sg,pb)=>
   match c.con.then C' s.hp s.nx sg pb with
   | (v,hp',nx')=> .leaf .ret ⟨T.nil.set 0 v,hp',nx'⟩
  |none=>
   match pw C.bd dec (c.con.ask C' args s.hp) with
   | ⟨true,d,_⟩=>again d
   | ⟨false,_,some t⟩=>Out.part t (facts C.bd t dec) again again
   | ⟨false,_,none⟩=> .bad (.num 213)
 |none=> .bad (.num 214)
def ba.jk(C:Ctx)(c c2:ba):Nat->Dec->aM->ASt->Out
 |0,_,_,_=> .bad (.num 211)
 |k+1,dec,e,s=>
  match e with
  | .normal=>ba.yX C (C.sharp c.con.bds dec) c2 dec (s.Sn (bdL (l9 C.bd dec c.con.bds)) dec) (fun d=>ba.jk C c c2 k d .normal s)
  |e=>
   match kO e c.e with
   |true=>
    match slotsOf s.tm c.sl' with
    |some vs=> .leaf .ret ⟨T.nil.set 0 (.tuple vs),s.hp,s.nx⟩
    |none=> .bad (.num 205)
   |false=> .bad (.num 206)
def ba.ru(c c2:ba)(P:Program)(K:Know)(L:Nat)(pol:FuncId->Nat->Bool)(pure:FuncId->Bool)(d:Nat)(facts:Dec):Out:=
 match EH (eF P (bdL c.con.bds)) c.con.g c.key with
 |some b=>
  (uf (eF P (bdL c.con.bds)) (xJ (hH (eF P (bdL c.con.bds)) K) pure (pE (eF P (bdL c.con.bds)) (hH (eF P (bdL c.con.bds)) K) L pol pure d)) (hH (eF P (bdL c.con.bds)) K).call (qM pure (pE (eF P (bdL c.con.bds)) (hH (eF P (bdL c.con.bds)) K) L pol pure d))
   (Qp (eF P (bdL c.con.bds)) (hH (eF P (bdL c.con.bds)) K) pure (pE (eF P (bdL c.con.bds)) (hH (eF P (bdL c.con.bds)) K) L pol pure d)) (HE (eF P (bdL c.con.bds)) (hH (eF P (bdL c.con.bds)) K)) ((hH (eF P (bdL c.con.bds)) K).lps c.con.g) c.n L (pol c.con.g) b (facts++c.con.pre)
   (ASt.Sn (bdL c.con.bds) (facts++c.con.pre) ⟨MG c.sl c.con.args .nil,aF c.con.os 0 .nil,c.con.os.length⟩)).bind (facts++c.con.pre) (ba.jk (eF P (bdL c.con.bds)) c c2 8)
 |none=> .bad (.num 207)
structure ba.Next (c c2:ba):Prop where
 n:c2.n=c.n
 e:c2.e=c.e
 sl':c2.sl'=c.sl'
theorem ba.uM{C:Ctx}{P:Program}{ρ:Env}(hC:C.Ok P ρ){G:Nat->Int->Int->Int->Int}{GH:Nat->bz}(hρ:ρ.std G GH){c c2:ba}(hwf:c2.con.wf=true)(hx:c.Next c2){b:Code}
 (ih: ∀ρ':Env,ρ'.std G GH->ρ'.ok (bdL c2.con.bds)->c2.con.pre.holds ρ'-> ∃m,c2.con.vb (l0 P b c2 m) ρ'): ∀(k:Nat) (dec:Dec),Dec.holds ρ dec-> ∀(e1:aM) (s1:ASt) (e:aM) (s:ASt),(c.jk C c2 k dec e1 s1).pick ρ=some (e,s)->
  s1.nx<=s.nx/\ ∃m,∀B W N f1 a1 w1 (Q0:Exit->Act->World->Prop),s.nx<=N->eh ρ B W c.n N f1 s1 a1 w1->
   (∀ (v:Value) (a':Act) (w':World),(∃ f',f1.le f'/\Outside f1 f' s1.nx s.nx/\au ρ B W f' s.hp w'/\ ∀u,s.tm.get 0=some u->ai ρ f' u v)->a'.tmps.size=c.n->a'.defers=[]->(∃ l:Array Value,v= .tuple l/\l.size=c.sl'.length/\ ∀(i s:Nat),c.sl'[i]? =some s->l[i]? =some (a'.tmps.getD s Go.undef))->Q0 c.e.to a' w')->
   Exit.then (Code.rounds P b Q0 m) Q0 e1.to a1 w1:=by
 intro k
 induction k with
 |zero=>intro dec _ e1 s1 e s h; cases h
 |succ k ihk=>
  intro dec hd e1 s1 e s h;unfold ba.jk at h;split at h
  · -- the next one
    have hCs:=hC.sharp c.con.bds hd;have hcov:=ASt.FI (ρ:=ρ) hCs.bd hd s1;have hbd:(C.sharp c.con.bds dec).bd=bdL (l9 C.bd dec c.con.bds):=rfl;rw [hbd] at hcov;have hnx1:(s1.Sn (bdL (l9 C.bd dec c.con.bds)) dec).nx=s1.nx:=rfl;generalize s1.Sn (bdL (l9 C.bd dec c.con.bds)) dec=s2 at h hcov hnx1;generalize C.sharp c.con.bds dec=Cs at h hCs;unfold ba.yX at h;split at h
    ·rename_i args hargs;split at h
     ·rename_i sg pb hfit;split at h;rename_i v hp' nx' hthen;cases h;obtain ⟨h1,h2,h3⟩:=Con.tw hCs hwf hfit;have hnx:nx'=s2.nx+(c2.con.os'.length-c2.con.os.length):=(congrArg (·.2.2) hthen).symm;subst hnx;rw [hnx1] at h3 ⊢;obtain ⟨m,hat⟩:=ih (ρ.rep (fY sg)) ⟨hρ.1,hρ.2⟩ h1 h2;refine ⟨Nat.le_add_right _ _,m,fun B W N f1 a1 w1 Q0 hN hr0 hQ=> ?_⟩
      have hr:=hcov.st hr0;refine h3 _ (jj P b c2 m) hat B W f1 w1 (c2.sl.map fun k=>a1.tmps.getD k Go.undef).toArray hr.heap (hr.tm.args hargs) (hr0.fresh.sub (Nat.le_refl _) hN) a1 (hr.size.trans hx.n.symm) hr.defers (fun i s x hs hx=>yM hs hx) Q0 fun v' a' w' ⟨f',k1,k2,k3,k4⟩ k5 k6 k7=> ?_
      rw [hnx1] at hthen;rw [hthen] at k3 k4;rw [hx.sl'] at k7;rw [hx.n] at k5;rw [hx.e];refine hQ v' a' w' ⟨f',k1,k2,k3,fun u hu=> ?_⟩ k5 k6 k7
      have hu:(T.nil.set 0 v).get 0=some u:=hu
      rcases T.aB hu with ⟨_,rfl⟩ | ⟨h0,_⟩
      ·exact k4
      ·exact absurd rfl h0
     ·have hl:=ni hC.bd hd (c2.con.ask Cs args s2.hp);split at h
      ·rename_i d q hq;rw [hq] at hl;exact ihk d hl .normal s1 e s h
      ·rename_i t _;obtain ⟨d,h1,h2⟩:=Out.jr (jz hC.bd t hd) t (fun d=>ba.jk C c c2 k d .normal s1) (fun d=>ba.jk C c c2 k d .normal s1)
       rw [h2] at h;cases ht:t.ev ρ
       ·rw [ht] at h; exact ihk d h1 .normal s1 e s h
       ·rw [ht] at h; exact ihk d h1 .normal s1 e s h
      ·cases h
    ·cases h
  · -- the end
    rename_i hne;split at h
    ·rename_i hex;have hex:=j5 hex;split at h
     ·rename_i vs hvs;cases h;refine ⟨Nat.le_refl _,0,fun B W N f1 a1 w1 Q0 hN hr hQ=> ?_⟩
      have hq:Q0 e1.to a1 w1:=by
       rw [hex];refine hQ (.tuple (c.sl'.map fun k=>a1.tmps.getD k Go.undef).toArray) a1 w1 ⟨f1,Ren.le_refl _,fun _ _=>rfl,hr.heap,fun u hu=> ?_⟩ hr.size hr.defers ⟨_,rfl,by simp,fun i s hs=>by simp [hs]⟩
       have hu:(T.nil.set 0 (ab.tuple vs)).get 0=some u:=hu
       rcases T.aB hu with ⟨_,rfl⟩ | ⟨h0,_⟩
       ·have:=hr.tm.args hvs;exact .tuple this.1 this.2
       ·exact absurd rfl h0
      cases e1 with
      |normal=>exact absurd rfl hne
      |exit i=>exact hq
      |ret=>exact hq
     ·cases h
    ·cases h
theorem ba.nk{P:Program}(mixed:P.follows .mixedOrders=true){G:Nat->Int->Int->Int->Int}{GH:Nat->bz}{K:Know}(hK:K.Ok P G GH){c c2:ba}(hwf:c2.con.wf=true)(hx:c.Next c2)(hsl:c.sl.length=c.con.args.length){L:Nat}{pol:FuncId->Nat->Bool}{pure:FuncId->Bool}{d:Nat}{facts:Dec}{ρ:Env}(h1:ρ.std G GH)(h2:ρ.ok (bdL c.con.bds))(h3:c.con.pre.holds ρ)(hf:facts.holds ρ)
 {fn:Func} {cd b:Code} (hfn:P.funcs[c.con.g]? =some fn) (hb:fn.body=some cd) (hm:b∈cS cd) (hk:Code.key b=c.key) (ih: ∀ρ':Env,ρ'.std G GH->ρ'.ok (bdL c2.con.bds)->c2.con.pre.holds ρ'-> ∃m,c2.con.vb (l0 P b c2 m) ρ')
 {e:aM} {s:ASt} (hs:(c.ru c2 P K L pol pure d facts).pick ρ=some (e,s)): ∃m,∀B W,E7 (l0 P b c (m+1)) ρ B W c.con.args (aF c.con.os 0 .nil) c.con.os.length s:=by
 have hC:(eF P (bdL c.con.bds)).Ok P ρ:=xg mixed h2
 have hd:Dec.holds ρ (facts++c.con.pre):=fun p hp=>by
  rcases List.mem_append.1 hp with hp |hp
  ·exact hf p hp
  ·exact h3 p hp
 unfold ba.ru at hs;split at hs
 ·rename_i b' hb'
  have e0:b'=b:=by
   unfold EH at hb';split at hb'
   ·rename_i fn' hfn';have:=hC.fn _ _ hfn';rw [hfn] at this;cases this;rw [hb] at hb';simp only at hb';split at hb'
    ·rename_i b1 hl;cases hb';have:b∈(cS cd).filter fun b=>Nat.beq (Code.key b) c.key:=List.mem_filter.2 ⟨hm,by rw [hk]; exact Nat.beq_refl _⟩
     rw [hl] at this;exact (List.mem_singleton.1 this).symm
    ·cases hb'
   ·cases hb'
  subst e0;obtain ⟨e1,s1,d1,hd1,p1,p2⟩:=Out.hJ hd hs;have hsm:=Ao hC h1 hK;have htr:=DI hC hsm L pol pure d;have q:=fun B W=>(Eb (B:=B) (W:=W) (n:=c.n) (ask:=Qp (eF P (bdL c.con.bds)) (hH (eF P (bdL c.con.bds)) K) pure (pE (eF P (bdL c.con.bds)) (hH (eF P (bdL c.con.bds)) K) L pol pure d)) (asko:=HE (eF P (bdL c.con.bds)) (hH (eF P (bdL c.con.bds)) K)) hC (zO hsm htr) (fun dec hd=>hsm.call dec hd B W) (uJ htr) L (pol c.con.g) b' (fun x hx=>hsm.lps _ fn cd hfn hb B W c.n x (ba.dJ.loops_in hm hx)) (facts++c.con.pre) hd _ _ _ p1).1
  obtain ⟨r1,m,r2⟩:=ba.uM hC h1 hwf hx ih 8 d1 hd1 e1 s1 e s p2;refine ⟨m,fun B W=>⟨Nat.le_trans (q B W).1 r1,fun f w args' hr ha hfr a k1 k2 k3 Q0 hQ=> ?_⟩⟩
  refine (q B W).2 s.nx f a w _ r1 ((ASt.FI h2 hd ⟨MG c.sl c.con.args .nil,aF c.con.os 0 .nil,c.con.os.length⟩).st ⟨k1,fun dd v hv=> ?_,k2,hr,hfr⟩) fun f1 a1 w1 l1 o1 r=> ?_
  ·rcases EX hv with ⟨i,i1,i2⟩ |h
   ·obtain ⟨x,x1,x2⟩:=az.get ha i2;rw [k3 i dd x i1 x1];exact x2
   ·rw [T.get_nil] at h; cases h
  ·refine r2 B W s.nx f1 a1 w1 Q0 (Nat.le_refl _) r fun v a' w' ⟨f',y1,y2,y3,y4⟩ y5 y6 y7=>hQ v a' w' ⟨f',Ren.le_trans l1 y1,o1.trans y2 (q B W).1 r1,y3,y4⟩ y5 y6 y7
 ·cases hs
end
end Go.Sx
