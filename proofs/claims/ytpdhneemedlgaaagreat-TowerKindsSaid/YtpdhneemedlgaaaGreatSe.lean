/- Part Se. No condition. -/
import Derived.Test.YtpdhneemedlgaaaGreatSd
import Derived.Deep.Slices
set_option linter.all false
namespace Go.Sx
open Go.RowKit (Below)
noncomputable section
def IE.rep(σ:Nat->IE):IE->IE
 | .lit n=> .lit n
 | .var i=>σ i
 | .add a b=> .add (a.rep σ) (b.rep σ)
 | .sub a b=> .sub (a.rep σ) (b.rep σ)
 | .mul a b=> .mul (a.rep σ) (b.rep σ)
 | .wrap k a=> .wrap k (a.rep σ)
 | .bits op k a b=> .bits op k (a.rep σ) (b.rep σ)
 | .quo a b=> .quo (a.rep σ) (b.rep σ)
 | .rem a b=> .rem (a.rep σ) (b.rep σ)
 | .shl k a b=> .shl k (a.rep σ) (b.rep σ)
 | .shr k a b=> .shr k (a.rep σ) (b.rep σ)
 | .fn c x y z=> .fn c (x.rep σ) (y.rep σ) (z.rep σ)
 | .sel s a b x y=> .sel s (a.rep σ) (b.rep σ) (x.rep σ) (y.rep σ)
def Env.rep(ρ:Env)(σ:Nat->IE):Env:={ρ with i:=fun k=>(σ k).ev ρ}
theorem TF(ρ:Env)(σ:Nat->IE)(c:Nat)(x y z:Int):fnI (ρ.rep σ) c x y z=fnI ρ c x y z:=rfl
theorem IE.a9(ρ:Env)(σ:Nat->IE)(e:IE):(e.rep σ).ev ρ=e.ev (ρ.rep σ):=by
 induction e with
 |lit n=>rfl
 |var i=>rfl
 |add a b iha ihb=>simp only [IE.rep,IE.ev,iha,ihb]
 |sub a b iha ihb=>simp only [IE.rep,IE.ev,iha,ihb]
 |mul a b iha ihb=>simp only [IE.rep,IE.ev,iha,ihb]
 |wrap k a iha=>simp only [IE.rep,IE.ev,iha]
 |bits op k a b iha ihb=>simp only [IE.rep,IE.ev,iha,ihb]
 |quo a b iha ihb=>simp only [IE.rep,IE.ev,iha,ihb]
 |rem a b iha ihb=>simp only [IE.rep,IE.ev,iha,ihb]
 |shl k a b iha ihb=>simp only [IE.rep,IE.ev,iha,ihb]
 |shr k a b iha ihb=>simp only [IE.rep,IE.ev,iha,ihb]
 |fn c x y z ihx ihy ihz=>simp only [IE.rep,IE.ev,ihx,ihy,ihz,TF]
 |sel s a b x y iha ihb ihx ihy=>simp only [IE.rep,IE.ev,iha,ihb,ihx,ihy]
def BE.rep(σ:Nat->IE):BE->BE
 | .lit b=> .lit b
 | .var i=> .var i
 | .eq a b=> .eq (a.rep σ) (b.rep σ)
 | .lt a b=> .lt (a.rep σ) (b.rep σ)
 | .not a=> .not (a.rep σ)
theorem BE.a9(ρ:Env)(σ:Nat->IE)(e:BE):(e.rep σ).ev ρ=e.ev (ρ.rep σ):=by
 induction e with
 |lit n=>rfl
 |var i=>rfl
 |eq a b=>simp only [BE.rep,BE.ev,IE.a9]
 |lt a b=>simp only [BE.rep,BE.ev,IE.a9]
 |not a ih=>simp only [BE.rep,BE.ev,ih]
def tk(π:Nat->Nat):Option (Nat×Nat)->Option (Nat×Nat)
 |none=>none
 |some (i,o)=>some (π i,o)
mutual
def ab.rep(σ:Nat->IE)(π:Nat->Nat):ab->ab
 | .bool b=> .bool (b.rep σ)
 | .int k e=> .int k (e.rep σ)
 | .str l=> .str (l.map (IE.rep σ))
 | .ptr a=> .ptr (tk π a)
 | .slice a n c g=> .slice (tk π a) n c g
 | .map none=> .map none
 | .map (some r)=> .map (some (π r))
 | .func fn a b=> .func fn (subList σ π a) (subList σ π b)
 | .nilFunc=> .nilFunc
 | .iface t v=> .iface t (v.rep σ π)
 | .nilIface=> .nilIface
 | .agg l=> .agg (subList σ π l)
 | .tuple l=> .tuple (subList σ π l)
 | .ptrE i e s c=> .ptrE (π i) (e.rep σ) s c
 | .sliceS i a l s nn=> .sliceS (π i) (a.rep σ) (l.rep σ) s nn
 | .sliceA i l s=> .sliceA (π i) (l.rep σ) s
 | .strS c l=> .strS (c.rep σ) (l.rep σ)
def subList(σ:Nat->IE)(π:Nat->Nat):List ab->List ab
 | []=>[]
 |v::l=>v.rep σ π::subList σ π l
end
def VO(d:Nat->Bool):Option (Nat×Nat)->Bool
 |none=>true
 |some (i,_)=>d i
mutual
/-- Does it name blocks of d alone? -/
def ab.within(d:Nat->Bool):ab->Bool
 | .ptr a=>VO d a
 | .slice a _ _ _=>VO d a
 | .map (some r)=>d r
 | .func _ a b=>withinList d a&&withinList d b
 | .iface _ v=>v.within d
 | .agg l=>withinList d l
 | .tuple l=>withinList d l
 | .ptrE i _ _ _=>d i
 | .sliceS i _ _ _ _=>d i
 | .sliceA i _ _=>d i
 |_=>true
def withinList(d:Nat->Bool):List ab->Bool
 | []=>true
 |v::l=>v.within d&&withinList d l
end
def Ren.via(f:Ren)(d:Nat->Bool)(π:Nat->Nat):Ren:=fun i=>if d i then f (π i) else none
theorem Ren.nc{f:Ren}{d:Nat->Bool}{π:Nat->Nat}{i:Nat}(h:d i=true):f.via d π i=f (π i):=if_pos h
theorem jw(σ:Nat->IE)(π:Nat->Nat)(l:List ab):(subList σ π l).length=l.length:=by
 induction l with
 |nil=>rfl
 |cons v l ih=>simp [subList,ih]
section
variable{ρ:Env}{f:Ren}{σ:Nat->IE}{π:Nat->Nat}{d:Nat->Bool}
theorem eu.sub{l:List IE}{s:ByteArray}:eu ρ (l.map (IE.rep σ)) s ↔ eu (ρ.rep σ) l s:=by
 unfold eu;rw [List.map_map];have:(fun x=>IE.ev ρ x) ∘ IE.rep σ=fun x=>IE.ev (ρ.rep σ) x:=funext fun e=>IE.a9 ρ σ e
 rw [this]
mutual
theorem ai.sub_of: ∀(v:ab) (u:Value),v.within d=true->ai ρ f (v.rep σ π) u->ai (ρ.rep σ) (f.via d π) v u:=by
 intro v u hw h;cases v with
 |bool b=>
  simp only [ab.rep] at h;cases h;rw [BE.a9];exact .bool b
 |int k e=>
  simp only [ab.rep] at h;cases h;rw [IE.a9];exact .int k e
 |str l=>
  simp only [ab.rep] at h;cases h; rename_i hs;exact .str (eu.sub.1 hs)
 |ptr a=>
  cases a with
  |none=>simp only [ab.rep,tk] at h; cases h; exact .nilPtr
  |some p=>
   obtain ⟨i,o⟩:=p;simp only [ab.rep,tk] at h;cases h; rename_i hf;exact .ptr (by rw [Ren.nc hw]; exact hf)
 |slice a n c g=>
  cases a with
  |none=>simp only [ab.rep,tk] at h; cases h; exact .nilSlice
  |some p=>
   obtain ⟨i,o⟩:=p;have e:f.via d π i=f (π i):=Ren.nc hw;simp only [ab.rep,tk] at h;cases h with
   |slice hf=>exact .slice (e.trans hf)
   |sliceG hf hn hc hs=>exact .sliceG (e.trans hf) hn hc hs
   |sliceE hf hg hs=>exact .sliceE (e.trans hf) hg hs
 |map r=>
  cases r with
  |none=>simp only [ab.rep] at h; cases h; exact .nilMap
  |some r=>
   simp only [ab.rep] at h;cases h; rename_i hf;exact .map (by rw [Ren.nc hw]; exact hf)
 |func fn a b=>
  obtain ⟨hwa,hwb⟩:=aa hw;simp only [ab.rep] at h;cases h; rename_i a' b' h1 h3 h2 h4;have ka:=subList_of a a' hwa ⟨h1,h3⟩;have kb:=subList_of b b' hwb ⟨h2,h4⟩;exact .func ka.1 kb.1 ka.2 kb.2
 |nilFunc=>simp only [ab.rep] at h; cases h; exact .nilFunc
 |iface t v=>
  simp only [ab.rep] at h;cases h; rename_i v' h1;exact .iface (ai.sub_of v v' hw h1)
 |nilIface=>simp only [ab.rep] at h; cases h; exact .nilIface
 |agg l=>
  simp only [ab.rep] at h;cases h; rename_i a' h1 h2;have k:=subList_of l a' hw ⟨h1,h2⟩;exact .agg k.1 k.2
 |tuple l=>
  simp only [ab.rep] at h;cases h; rename_i a' h1 h2;have k:=subList_of l a' hw ⟨h1,h2⟩;exact .tuple k.1 k.2
 |ptrE i e s c=>
  simp only [ab.rep] at h;cases h; rename_i L hf h0;rw [IE.a9] at h0 ⊢;exact .ptrE (by rw [Ren.nc hw]; exact hf) h0
 |sliceS i a l s nn=>
  simp only [ab.rep] at h;cases h with
  |sliceS hf h0 hl hc=>
   rw [IE.a9] at h0 hl hc ⊢;rw [IE.a9];exact .sliceS (by rw [Ren.nc hw]; exact hf) h0 hl hc
  |sliceZ hl ha=>
   rw [IE.a9] at hl;exact .sliceZ hl ha
 |sliceA i l s=>
  simp only [ab.rep] at h;cases h with
  |sliceA hf hl hc hs=>
   rw [IE.a9] at hl hc ⊢;exact .sliceA (by rw [Ren.nc hw]; exact hf) hl hc hs
  |sliceN hl=>
   rw [IE.a9] at hl;exact .sliceN hl
 |strS c l=>
  simp only [ab.rep] at h;cases h; rename_i s hs hl;rw [IE.a9] at hl;exact .strS hl (fun j b hb=>by have:=hs j b hb; rw [IE.a9] at this; exact this)
theorem subList_of: ∀(l:List ab) (a:Array Value),withinList d l=true->az ρ f (subList σ π l) a->az (ρ.rep σ) (f.via d π) l a:=by
 intro l a hw h;refine ⟨by rw [h.1,jw],?_⟩
 intro j v v' hv hv';cases l with
 |nil=>simp at hv
 |cons x l=>
  obtain ⟨h1,h2⟩:=aa hw;cases j with
  |zero=>
   simp at hv;subst hv;exact ai.sub_of x v' h1 (h.2 0 _ v' rfl hv')
  |succ j=>
   have hl:az ρ f (subList σ π l) (a.extract 1 a.size):=by
    refine ⟨by have:=h.1; simp [subList] at this; simp [jw,this],fun i y y' hy hy'=> ?_⟩
    have e:(a.extract 1 a.size)[i]? =a[i+1]? :=by
     rw [Array.getElem?_extract];split
     ·rw [Nat.add_comm]
     ·rw [Array.getElem?_eq_none (by omega)]
    exact h.2 (i+1) y y' (by simpa [subList] using hy) (by rw [<- e]; exact hy')
   have k:=subList_of l (a.extract 1 a.size) h2 hl;refine k.2 j v v' (by simpa using hv) ?_
   rw [Array.getElem?_extract];have:=(Array.getElem?_eq_some_iff.1 hv').1;rw [if_pos (by omega),Nat.add_comm]
   exact hv'
end
mutual
theorem ai.sub_to: ∀(v:ab) (u:Value),ai (ρ.rep σ) (f.via d π) v u->ai ρ f (v.rep σ π) u:=by
 intro v u h
 have fin: ∀ {i:Nat} {L:Loc},f.via d π i=some L->f (π i)=some L:=by
  intro i L h;unfold Ren.via at h;split at h
  ·exact h
  ·cases h
 cases v with
 |bool b=>
  simp only [ab.rep];cases h;rw [<- BE.a9];exact .bool _
 |int k e=>
  simp only [ab.rep];cases h;rw [<- IE.a9];exact .int k _
 |str l=>
  simp only [ab.rep];cases h; rename_i hs;exact .str (eu.sub.2 hs)
 |ptr a=>
  cases h with
  |nilPtr=>exact .nilPtr
  |ptr hf=>exact .ptr (fin hf)
 |slice a n c g=>
  cases h with
  |nilSlice=>exact .nilSlice
  |slice hf=>exact .slice (fin hf)
  |sliceG hf hn hc hs=>exact .sliceG (fin hf) hn hc hs
  |sliceE hf hg hs=>exact .sliceE (fin hf) hg hs
 |map r=>
  cases h with
  |nilMap=>exact .nilMap
  |map hf=>exact .map (fin hf)
 |func fn a b=>
  simp only [ab.rep];cases h; rename_i a' b' h1 h3 h2 h4;have ka:=subList_to a a' ⟨h1,h3⟩;have kb:=subList_to b b' ⟨h2,h4⟩;exact .func ka.1 kb.1 ka.2 kb.2
 |nilFunc=>cases h; exact .nilFunc
 |iface t v=>
  cases h; rename_i v' h1;exact .iface (ai.sub_to v v' h1)
 |nilIface=>cases h; exact .nilIface
 |agg l=>
  simp only [ab.rep];cases h; rename_i a' h1 h2;have k:=subList_to l a' ⟨h1,h2⟩;exact .agg k.1 k.2
 |tuple l=>
  simp only [ab.rep];cases h; rename_i a' h1 h2;have k:=subList_to l a' ⟨h1,h2⟩;exact .tuple k.1 k.2
 |ptrE i e s c=>
  simp only [ab.rep];cases h; rename_i L hf h0;rw [<- IE.a9] at h0 ⊢;exact .ptrE (fin hf) h0
 |sliceS i a l s nn=>
  simp only [ab.rep];cases h with
  |sliceS hf h0 hl hc=>
   rw [<- IE.a9] at h0 hl hc ⊢;rw [<- IE.a9];exact .sliceS (fin hf) h0 hl hc
  |sliceZ hl ha=>
   rw [<- IE.a9] at hl;exact .sliceZ hl ha
 |sliceA i l s=>
  simp only [ab.rep];cases h with
  |sliceA hf hl hc hs=>
   rw [<- IE.a9] at hl hc ⊢;exact .sliceA (fin hf) hl hc hs
  |sliceN hl=>
   rw [<- IE.a9] at hl;exact .sliceN hl
 |strS c l=>
  simp only [ab.rep];cases h; rename_i s hs hl;rw [<- IE.a9] at hl;exact .strS hl (fun j b hb=>by rw [IE.a9]; exact hs j b hb)
theorem subList_to: ∀(l:List ab) (a:Array Value),az (ρ.rep σ) (f.via d π) l a->az ρ f (subList σ π l) a:=by
 intro l a h;refine ⟨by rw [h.1,jw],?_⟩
 intro j v v' hv hv';cases l with
 |nil=>simp [subList] at hv
 |cons x l=>
  cases j with
  |zero=>
   simp [subList] at hv;subst hv;exact ai.sub_to x v' (h.2 0 x v' rfl hv')
  |succ j=>
   have hl:az (ρ.rep σ) (f.via d π) l (a.extract 1 a.size):=by
    refine ⟨by have:=h.1; simp at this; simp [this],fun i y y' hy hy'=> ?_⟩
    have e:(a.extract 1 a.size)[i]? =a[i+1]? :=by
     rw [Array.getElem?_extract];split
     ·rw [Nat.add_comm]
     ·rw [Array.getElem?_eq_none (by omega)]
    exact h.2 (i+1) y y' (by simpa using hy) (by rw [<- e]; exact hy')
   have k:=subList_to l (a.extract 1 a.size) hl;refine k.2 j v v' (by simpa [subList] using hv) ?_
   rw [Array.getElem?_extract];have:=(Array.getElem?_eq_some_iff.1 hv').1;rw [if_pos (by omega),Nat.add_comm]
   exact hv'
end
end
def T.pW{α:Type}(p:Nat->α->Bool):T α->Nat->Nat->Bool
 | .nil,_,_=>true
 | .node v l r,a,b=>
   match (match v with
    |none=>true
    |some x=>p b x) with
   |true=>
    match T.pW p l (2*a) (a+b) with
    |true=>T.pW p r (2*a) (2*a+b)
    |false=>false
   |false=>false
theorem T.RM{α:Type}{p:Nat->α->Bool}: ∀(t:T α) (a b:Nat),T.pW p t a b=true-> ∀(k:Nat) (x:α),t.cw k=some x->p (a*k+b) x=true:=by
 intro t
 induction t with
 |nil=>intro a b _ k x h; simp [T.cw] at h
 |node v l r ihl ihr=>
  intro a b h k x hx;simp only [T.pW] at h;split at h
  ·rename_i h1;split at h
   ·rename_i h2;simp only [T.cw] at hx;cases hk:Nat.beq k 0
    ·simp only [hk] at hx;have hk0:k≠0:=by intro e; simp [e] at hk
     cases ho:Nat.beq (k % 2) 1
     ·simp only [ho] at hx;have ho':k % 2≠1:=by intro e; simp [e] at ho
      have:=ihr _ _ h _ _ hx
      have e:2*a*((k-1) / 2)+(2*a+b)=a*k+b:=by
       have e1:k=2*((k-1) / 2)+2:=by omega
       generalize (k-1) / 2=m at*;subst e1;rw [Nat.mul_add,<-Nat.mul_assoc,Nat.mul_comm a 2];omega
      rw [e] at this;exact this
     ·simp only [ho] at hx;have ho':k % 2=1:=Nat.eq_of_beq_eq_true ho;have:=ihl _ _ h2 _ _ hx
      have e:2*a*((k-1) / 2)+(a+b)=a*k+b:=by
       have e1:k=2*((k-1) / 2)+1:=by omega
       generalize (k-1) / 2=m at*;subst e1;rw [Nat.mul_add,<-Nat.mul_assoc,Nat.mul_comm a 2];omega
      rw [e] at this;exact this
    ·simp only [hk] at hx;have hk0:k=0:=Nat.eq_of_beq_eq_true hk;subst hk0 hx
     simpa using h1
   ·cases h
  ·cases h
theorem T.vM{α:Type}{p:Nat->α->Bool}{t:T α}(h:T.pW p t 1 0=true){k:Nat}{x:α}(hx:t.get k=some x):p k x=true:=by
 have:=T.RM t 1 0 h k x (by rw [<- T.get_eq]; exact hx)
 simpa using this
def look:List (Nat×Nat)->Nat->Option Nat
 | [],_=>none
 | (i,j)::l,k=>
   match Nat.beq i k with
   |true=>some j
   |false=>look l k
def toR(r:List (Nat×Nat))(i:Nat):Nat:=
 match look r i with
 |some j=>j
 |none=>0
section
variable{ρ:Env}{B:Nat->Prop}{W w:World}{f:Ren}{σ:Nat->IE}{r:List (Nat×Nat)}
end
def sub(l:List IE):Nat->IE:=fun k=>l.getD k (.lit 0)
def kO:aM->aM->Bool
 | .normal,.normal=>true
 | .ret,.ret=>true
 | .exit i,.exit j=>Nat.beq i j
 |_,_=>false
theorem j5{a b:aM}(h:kO a b=true):a=b:=by
 cases a<;>cases b<;>simp [kO] at h<;>simp [h]
def E(l:List Int):Env:={i:=fun k=>l.getD k 0,b:=fun _=>false}
theorem ai.J8{ρ:Env}{f:Ren}{l:List ab}{v:Value}(h:ai ρ f (.agg l) v): ∃a,v= .agg a/\az ρ f l a:=by
 cases h; rename_i a h1 h2;exact ⟨a,rfl,h1,h2⟩
theorem ai.lE{ρ:Env}{f:Ren}{b:Bool}{v:Value}(h:ai ρ f (.bool (.lit b)) v):v= .bool b:=by
 cases h; rfl
end
end Go.Sx
namespace Go.Sx
open Go.RowKit (Below)
open Go.ChangeShapes Go.WideShapes Go.ChangeAt Go.Deep
noncomputable section
def qD(a:List IntKind):Nat->List IntKind
 |0=>[]
 |n+1=>a++qD a n
def lK(P:Program)(go:TypeId->Option (List IntKind)):List Field->Nat->Option (List IntKind)
 | [],_=>some []
 |f::fs,off=>
  match go f.type with
  |none=>none
  |some a=>
   match Nat.beq f.offset off,Nat.beq (P.cellsOf f.type) a.length with
   |true,true=>
    match lK P go fs (off+a.length) with
    |some b=>some (a++b)
    |none=>none
   |_,_=>none
def kY(P:Program):Nat->TypeId->Option (List IntKind)
 |0,_=>none
 |d+1,t=>
  match P.underlying t with
  |some (.int k)=>some [k]
  |some (.struct fs)=>lK P (kY P d) fs.toList 0
  |some (.array n e)=>
   match kY P d e with
   |some a=>
    match Nat.beq (P.cellsOf e) a.length with
    |true=>some (qD a n)
    |false=>none
   |none=>none
  |_=>none
section
variable{H:Type}{enc:TypeId×Value->H}{P:Program}{w:World}{base:Nat}{spare:Nat->Bool}{held:Bool}
end
inductive PQ where
 |int (k:IntKind)
 |agg (ks:List IntKind)
 |sl (ks:List IntKind) (nn:Bool) (hi:Int)
 |nilS
def PQ.ok(P:Program)(t:TypeId):PQ->Bool
 | .int k=>Ol P t (.int k)
 | .agg ks=>Ol P t (.agg ks)
 | .sl ks _ _=>
   match P.underlying t with
   |some (.slice e)=>
    match kY P 20 e with
    |some ks'=>eH ks ks'&&(Nat.beq (P.cellsOf e) ks.length&&Nat.blt 0 ks.length)
    |none=>false
   |_=>false
 | .nilS=>true
section
variable{H:Type}{enc:TypeId×Value->H}{P:Program}{w:World}{base:Nat}{spare:Nat->Bool}{held:Bool}
end
end
end Go.Sx
namespace Go.Sx
open Go.RowKit (Below)
noncomputable section
def BE.sel:BE->IE->IE->Option IE
 | .lit true,x,_=>some x
 | .lit false,_,y=>some y
 | .var _,_,_=>none
 | .eq a b,x,y=>some (.sel false a b x y)
 | .lt a b,x,y=>some (.sel true a b x y)
 | .not t,x,y=>BE.sel t y x
theorem BE.Qm{ρ:Env}: ∀ {b:BE} {x y z:IE},b.sel x y=some z->z.ev ρ=if b.ev ρ then x.ev ρ else y.ev ρ:=by
 intro b
 induction b with
 |lit v=>intro x y z h; cases v<;>(cases h; simp [BE.ev])
 |var i=>intro x y z h; cases h
 |eq a b=>intro x y z h; cases h; simp [IE.ev,aA,BE.ev]
 |lt a b=>intro x y z h; cases h; simp [IE.ev,aA,BE.ev]
 |not t ih=>intro x y z h; rw [ih h]; cases ht:t.ev ρ<;>simp [BE.ev,ht]
def IE.eqF(x y:IE):Bool:=
 match x with
 | .var i=>match y with
   | .var j=>Nat.beq i j
   |_=>false
 | .lit a=>match y with
   | .lit b=>aK a b
   |_=>false
 |_=>match y with
  | .var _=>false
  | .lit _=>false
  |_=>x.eq y
theorem IE.tP{x y:IE}(h:x.eqF y=true):x=y:=by
 unfold IE.eqF at h;split at h
 ·split at h
  ·rw [Nat.eq_of_beq_eq_true h]
  ·cases h
 ·split at h
  ·rw [ar h]
  ·cases h
 ·split at h
  ·cases h
  ·cases h
  ·exact IE.eq_eq h
def IE.mrg(b:BE)(x y:IE):Option IE:=
 match x.eqF y with
 |true=>some x
 |false=>b.sel x y
theorem IE.Jf{ρ:Env}{b:BE}{x y z:IE}(h:IE.mrg b x y=some z):z.ev ρ=if b.ev ρ then x.ev ρ else y.ev ρ:=by
 unfold IE.mrg at h;split at h
 ·rename_i he;cases h;rw [IE.tP he];simp
 ·exact BE.Qm h
def BE.mrg(b x y:BE):Option BE:=
 match x.same y with
 |true=>some x
 |false=>
  match x.num,y.num with
  |some p,some q=>
   match b.sel p q with
   |some z=>some (.eq z (.lit 1))
   |none=>none
  |_,_=>none
theorem BE.Jf{ρ:Env}{b x y z:BE}(h:BE.mrg b x y=some z):z.ev ρ=if b.ev ρ then x.ev ρ else y.ev ρ:=by
 unfold BE.mrg at h;split at h
 ·rename_i he;cases h;rw [BE.cT he];simp
 ·split at h
  ·rename_i p q hp hq;split at h
   ·rename_i e he;cases h;have h1:=BE.Qm (ρ:=ρ) he;rw [BE.s7 hp,BE.s7 hq] at h1;have e1:(IE.lit 1).ev ρ=1:=rfl;show decide (e.ev ρ=(IE.lit 1).ev ρ)=_;rw [h1,e1];cases b.ev ρ<;>cases x.ev ρ<;>cases y.ev ρ<;>rfl
   ·cases h
  ·cases h
def aS{α:Type}(v:Bool)(x y:α):α:=match v with |true=>x |false=>y
theorem ij{ρ:Env}{b:BE}{x y z:IE}{v:Bool}(h:IE.mrg b x y=some z)(hb:b.ev ρ=v):z.ev ρ=(aS v x y).ev ρ:=by
 rw [IE.Jf h,hb];cases v<;>rfl
def yQ(b:BE):List IE->List IE->Option (List IE)
 | [],l=>
   match l with
   | []=>some []
   |_=>none
 |x::l,m=>
  match m with
  | []=>none
  |y::m=>
   match IE.mrg b x y with
   |some z=>
    match yQ b l m with
    |some zs=>some (z::zs)
    |none=>none
   |none=>none
theorem AL{ρ:Env}{b:BE}{v:Bool}(hb:b.ev ρ=v): ∀ {l m z:List IE},yQ b l m=some z->z.map (·.ev ρ)=(aS v l m).map (·.ev ρ):=by
 intro l
 induction l with
 |nil=>
  intro m z h;cases m with
  |nil=>cases h; cases v<;>rfl
  |cons y m=>cases h
 |cons x l ih=>
  intro m z h;cases m with
  |nil=>cases h
  |cons y m=>
   simp only [yQ] at h;split at h
   ·rename_i e he;split at h
    ·rename_i es hes;cases h;have h1:=ij he hb;have h2:=ih hes;cases v
     ·simp only [aS,List.map_cons] at h2 ⊢;rw [h2,h1];rfl
     ·simp only [aS,List.map_cons] at h2 ⊢;rw [h2,h1];rfl
    ·cases h
   ·cases h
mutual
def ab.mrg(b:BE):ab->ab->Option ab
 | .bool x,y=>
   match y with
   | .bool y=>
     match BE.mrg b x y with
     |some z=>some (.bool z)
     |none=>none
   |_=>none
 | .int k x,y=>
   match y with
   | .int j y=>
     match bf k j with
     |true=>
      match IE.mrg b x y with
      |some z=>some (.int k z)
      |none=>none
     |false=>none
   |_=>none
 | .agg l,y=>
   match y with
   | .agg m=>
     match mrgList b l m with
     |some z=>some (.agg z)
     |none=>none
   |_=>none
 | .tuple l,y=>
   match y with
   | .tuple m=>
     match mrgList b l m with
     |some z=>some (.tuple z)
     |none=>none
   |_=>none
 | .iface t v,y=>
   match y with
   | .iface t' v'=>
     match Nat.beq t t' with
     |true=>
      match v.mrg b v' with
      |some z=>some (.iface t z)
      |none=>none
     |false=>none
   |_=>none
 | .str l,y=>
   match y with
   | .str m=>
     match yQ b l m with
     |some z=>some (.str z)
     |none=>none
   |_=>none
 | .strS c l,y=>
   match y with
   | .strS c' l'=>
     match IE.mrg b c c',IE.mrg b l l' with
     |some p,some q=>some (.strS p q)
     |_,_=>none
   |_=>none
 | .sliceS i a l s nn,y=>
   match y with
   | .sliceS i' a' l' s' nn'=>
     match Nat.beq i i'&&(Nat.beq s s'&&bEq nn nn') with
     |true=>
      match IE.mrg b a a',IE.mrg b l l' with
      |some p,some q=>some (.sliceS i p q s nn)
      |_,_=>none
     |false=>none
   |_=>none
 | .sliceA i l s,y=>
   match y with
   | .sliceA i' l' s'=>
     match Nat.beq i i'&&Nat.beq s s' with
     |true=>
      match IE.mrg b l l' with
      |some q=>some (.sliceA i q s)
      |none=>none
     |false=>none
   |_=>none
 | .ptrE i e s c,y=>
   match y with
   | .ptrE i' e' s' c'=>
     match Nat.beq i i'&&(Nat.beq s s'&&Nat.beq c c') with
     |true=>
      match IE.mrg b e e' with
      |some p=>some (.ptrE i p s c)
      |none=>none
     |false=>none
   |_=>none
 |x,y=>
  match x.same y with
  |true=>some x
  |false=>none
def mrgList(b:BE):List ab->List ab->Option (List ab)
 | [],l=>
   match l with
   | []=>some []
   |_=>none
 |x::l,m=>
  match m with
  | []=>none
  |y::m=>
   match x.mrg b y with
   |some z=>
    match mrgList b l m with
    |some zs=>some (z::zs)
    |none=>none
   |none=>none
end
section
variable{ρ:Env}{b:BE}
theorem ai.ints{f:Ren}{k:IntKind}{e e':IE}{u:Value}(h:e'.ev ρ=e.ev ρ)(hv:ai ρ f (.int k e) u):ai ρ f (.int k e') u:=by
 cases hv;rw [<- h];exact .int k e'
theorem ai.VL{f:Ren}{e e':BE}{u:Value}(h:e'.ev ρ=e.ev ρ)(hv:ai ρ f (.bool e) u):ai ρ f (.bool e') u:=by
 cases hv;rw [<- h];exact .bool e'
theorem ai.Wd{f:Ren}{c l c' l':IE}{u:Value}(h:c'.ev ρ=c.ev ρ)(h':l'.ev ρ=l.ev ρ)(hv:ai ρ f (.strS c l) u):ai ρ f (.strS c' l') u:=by
 cases hv; rename_i s hs hl;exact .strS (h'.trans hl) (fun j x hx=>by rw [h]; exact hs j x hx)
theorem ai.KT{f:Ren}{i s:Nat}{nn:Bool}{c l c' l':IE}{u:Value}(h:c'.ev ρ=c.ev ρ)(h':l'.ev ρ=l.ev ρ)(hv:ai ρ f (.sliceS i c l s nn) u):ai ρ f (.sliceS i c' l' s nn) u:=by
 cases hv with
 |sliceS hf h0 hl hc=>
  rw [<- h] at h0;rw [<- h'] at hl hc;rw [<- h,<-h'];exact .sliceS hf h0 hl hc
 |sliceZ hl ha=>exact .sliceZ (h'.trans hl) ha
theorem ai.Lp{f:Ren}{i s:Nat}{l l':IE}{u:Value}(h':l'.ev ρ=l.ev ρ)(hv:ai ρ f (.sliceA i l s) u):ai ρ f (.sliceA i l' s) u:=by
 cases hv with
 |sliceA hf hl hc hs=>
  rw [<- h'] at hl hc ⊢;exact .sliceA hf hl hc hs
 |sliceN hl=>exact .sliceN (h'.trans hl)
theorem ai.VR{f:Ren}{i s c:Nat}{e e':IE}{u:Value}(h:e'.ev ρ=e.ev ρ)(hv:ai ρ f (.ptrE i e s c) u):ai ρ f (.ptrE i e' s c) u:=by
 cases hv; rename_i L hf h0;rw [<- h] at h0 ⊢;exact .ptrE hf h0
mutual
theorem ab.hU: ∀(x y z:ab) (v:Bool) (f:Ren) (u:Value),ab.mrg b x y=some z->b.ev ρ=v->ai ρ f (aS v x y) u->ai ρ f z u:=by
 intro x y z v f u h hb hu
 have same:(match x.same y with |true=>some x |false=>none)=some z->ai ρ f z u:=by
  intro h;split at h
  ·rename_i he;cases h;have:=ab.cT he;subst this;cases v<;>exact hu
  ·cases h
 cases x with
 |bool x=>
  simp only [ab.mrg] at h;split at h
  ·split at h
   ·rename_i y' e he;cases h;have:=BE.Jf (ρ:=ρ) he;rw [hb] at this;cases v
    ·exact ai.VL this hu
    ·exact ai.VL this hu
   ·cases h
  ·cases h
 |int k x=>
  simp only [ab.mrg] at h;split at h
  ·split at h
   ·rename_i j y' hk;have hk:=aH hk;subst hk;split at h
    ·rename_i e he;cases h;have:=ij he hb;cases v
     ·exact ai.ints this hu
     ·exact ai.ints this hu
    ·cases h
   ·cases h
  ·cases h
 |agg l=>
  simp only [ab.mrg] at h;split at h
  ·rename_i m;split at h
   ·rename_i e he;cases h
    have: ∃a,u= .agg a/\az ρ f (aS v l m) a:=by
     cases v
     ·exact ai.J8 hu
     ·exact ai.J8 hu
    obtain ⟨a,rfl,ha⟩:=this;have:=mrgList_ok l m e v f a he hb ha;exact .agg this.1 this.2
   ·cases h
  ·cases h
 |tuple l=>
  simp only [ab.mrg] at h;split at h
  ·rename_i m;split at h
   ·rename_i e he;cases h
    have: ∃a,u= .tuple a/\az ρ f (aS v l m) a:=by
     cases v
     ·cases hu; rename_i a h1 h2; exact ⟨a,rfl,h1,h2⟩
     ·cases hu; rename_i a h1 h2; exact ⟨a,rfl,h1,h2⟩
    obtain ⟨a,rfl,ha⟩:=this;have:=mrgList_ok l m e v f a he hb ha;exact .tuple this.1 this.2
   ·cases h
  ·cases h
 |iface t x=>
  simp only [ab.mrg] at h;split at h
  ·rename_i t' y';split at h
   ·rename_i ht;have ht:=Nat.eq_of_beq_eq_true ht;subst ht;split at h
    ·rename_i e he;cases h
     have: ∃a,u= .iface t a/\ai ρ f (aS v x y') a:=by
      cases v
      ·cases hu; rename_i a h1; exact ⟨a,rfl,h1⟩
      ·cases hu; rename_i a h1; exact ⟨a,rfl,h1⟩
     obtain ⟨a,rfl,ha⟩:=this;exact .iface (ab.hU x y' e v f a he hb ha)
    ·cases h
   ·cases h
  ·cases h
 |str l=>
  simp only [ab.mrg] at h;split at h
  ·split at h
   ·rename_i m z' he;cases h;have e:=AL (ρ:=ρ) hb he;cases v
    ·cases hu; rename_i s hs; exact .str (hs.trans e.symm)
    ·cases hu; rename_i s hs; exact .str (hs.trans e.symm)
   ·cases h
  ·cases h
 |strS c l=>
  simp only [ab.mrg] at h;split at h
  ·split at h
   ·rename_i p q h1 h2;cases h;have e1:=ij h1 hb;have e2:=ij h2 hb;cases v
    ·exact ai.Wd e1 e2 hu
    ·exact ai.Wd e1 e2 hu
   ·cases h
  ·cases h
 |sliceS i a l s nn=>
  simp only [ab.mrg] at h;split at h
  ·split at h
   ·rename_i hk;obtain ⟨k1,k2⟩:=aa hk;obtain ⟨k2,k3⟩:=aa k2;have k1:=Nat.eq_of_beq_eq_true k1;have k2:=Nat.eq_of_beq_eq_true k2;have k3:=dt k3;subst k1 k2 k3;split at h
    ·rename_i p q h1 h2;cases h;have e1:=ij h1 hb;have e2:=ij h2 hb;cases v
     ·exact ai.KT e1 e2 hu
     ·exact ai.KT e1 e2 hu
    ·cases h
   ·cases h
  ·cases h
 |sliceA i l s=>
  simp only [ab.mrg] at h;split at h
  ·split at h
   ·rename_i hk;obtain ⟨k1,k2⟩:=aa hk;have k1:=Nat.eq_of_beq_eq_true k1;have k2:=Nat.eq_of_beq_eq_true k2;subst k1 k2;split at h
    ·rename_i q h2;cases h;have e2:=ij h2 hb;cases v
     ·exact ai.Lp e2 hu
     ·exact ai.Lp e2 hu
    ·cases h
   ·cases h
  ·cases h
 |ptrE i e s c=>
  simp only [ab.mrg] at h;split at h
  ·split at h
   ·rename_i hk;obtain ⟨k1,k2⟩:=aa hk;obtain ⟨k2,k3⟩:=aa k2;have k1:=Nat.eq_of_beq_eq_true k1;have k2:=Nat.eq_of_beq_eq_true k2;have k3:=Nat.eq_of_beq_eq_true k3;subst k1 k2 k3;split at h
    ·rename_i p h1;cases h;have e1:=ij h1 hb;cases v
     ·exact ai.VR e1 hu
     ·exact ai.VR e1 hu
    ·cases h
   ·cases h
  ·cases h
 |ptr a=>exact same (by simpa only [ab.mrg] using h)
 |slice a l c g=>exact same (by simpa only [ab.mrg] using h)
 |map r=>exact same (by simpa only [ab.mrg] using h)
 |func fn a c=>exact same (by simpa only [ab.mrg] using h)
 |nilFunc=>exact same (by simpa only [ab.mrg] using h)
 |nilIface=>exact same (by simpa only [ab.mrg] using h)
theorem mrgList_ok: ∀(l m z:List ab) (v:Bool) (f:Ren) (a:Array Value),mrgList b l m=some z->b.ev ρ=v->az ρ f (aS v l m) a->az ρ f z a:=by
 intro l m z v f a h hb ha;cases l with
 |nil=>
  cases m with
  |nil=>cases h; cases v<;>exact ha
  |cons y m=>cases h
 |cons x l=>
  cases m with
  |nil=>cases h
  |cons y m=>
   simp only [mrgList] at h;split at h
   ·rename_i e he;split at h
    ·rename_i es hes;cases h;obtain ⟨a⟩:=a
     have split: ∃u us,a=u::us/\ai ρ f (aS v x y) u/\az ρ f (aS v l m) us.toArray:=by
      cases a with
      |nil=>cases v<;>(have:=ha.1; simp [aS] at this)
      |cons u us=>
       refine ⟨u,us,rfl,?_,?_⟩
       ·cases v<;>exact ha.2 0 _ u rfl rfl
       ·cases v
        ·exact ⟨by have:=ha.1; simp [aS] at this; simp [aS,this],fun j p q h1 h2=>ha.2 (j+1) p q (by simpa [aS] using h1) (by simpa using h2)⟩
        ·exact ⟨by have:=ha.1; simp [aS] at this; simp [aS,this],fun j p q h1 h2=>ha.2 (j+1) p q (by simpa [aS] using h1) (by simpa using h2)⟩
     obtain ⟨u,us,rfl,h1,h2⟩:=split;exact az.cons (ab.hU x y e v f u he hb h1) (mrgList_ok l m es v f us.toArray hes hb h2)
    ·cases h
   ·cases h
end
end
def ab.zq(b:BE)(x y:ab):Option ab:=
 match x with
 | .int k e=>
   match y with
   | .int j e'=>
     match Nat.beq (l5 k) (l5 j) with
     |true=>
      match IE.mrg b e e' with
      |some z=>some (.int k z)
      |none=>none
     |false=>none
   |_=>none
 |_=>x.mrg b y
theorem ab.qR(b:BE)(x y:ab):ab.zq b x y=ab.mrg b x y:=by
 unfold ab.zq;split
 ·split
  ·simp only [ab.mrg,bf]
  ·simp only [ab.mrg]
 ·rfl
def T.mk{α:Type}(v:Option α)(l r:T α):T α:=
 Option.rec (motive:=fun _=>T α)
  (T.rec (motive:=fun _=>T α)
   (T.rec (motive:=fun _=>T α) .nil (fun a b c _ _=> .node none .nil (.node a b c)) r)
   (fun x y z _ _=>T.rec (motive:=fun _=>T α) (.node none (.node x y z) .nil) (fun a b c _ _=> .node none (.node x y z) (.node a b c)) r) l)
  (fun v=>T.rec (motive:=fun _=>T α)
   (T.rec (motive:=fun _=>T α) (.node (some v) .nil .nil) (fun a b c _ _=> .node (some v) .nil (.node a b c)) r)
   (fun x y z _ _=>T.rec (motive:=fun _=>T α) (.node (some v) (.node x y z) .nil) (fun a b c _ _=> .node (some v) (.node x y z) (.node a b c)) r) l) v
theorem T.Tm{α:Type}(v:Option α)(l r:T α)(k:Nat):(T.mk v l r).cw k=(T.node v l r).cw k:=by
 cases v<;>cases l<;>cases r<;>first |rfl | (simp only [T.mk,T.cw]; split<;>first |rfl | (split<;>rfl))
def Yt{α:Type}(g:α->α->Option α):Option α->Option α->Option α
 |some x,y=>
  match y with
  |some y=>g x y
  |none=>none
 |none,_=>none
def T.mrg{α:Type}(g:α->α->Option α)(t:T α):T α->T α:=
 T.rec (motive:=fun _=>T α->T α) (fun _=> .nil)
  (fun v _ _ il ir t'=>T.rec (motive:=fun _=>T α) .nil (fun v' l' r' _ _=>T.mk (Yt g v v') (il l') (ir r')) t') t
theorem T.Qj{α:Type}(g:α->α->Option α)(v v':Option α)(l r l' r':T α):T.mrg g (.node v l r) (.node v' l' r')=T.mk (Yt g v v') (T.mrg g l l') (T.mrg g r r'):=rfl
theorem T.Ve{α:Type}(g:α->α->Option α)(t:T α):T.mrg g .nil t= .nil:=rfl
theorem T.RY{α:Type}(g:α->α->Option α)(v:Option α)(l r:T α):T.mrg g (.node v l r) .nil= .nil:=rfl
theorem T.Rv{α:Type}{g:α->α->Option α}: ∀(t t':T α) (k:Nat) (z:α),(T.mrg g t t').cw k=some z-> ∃x y,t.cw k=some x/\t'.cw k=some y/\g x y=some z:=by
 intro t
 induction t with
 |nil=>intro t' k z h; rw [T.Ve] at h; simp [T.cw] at h
 |node v l r ihl ihr=>
  intro t' k z h;cases t' with
  |nil=>rw [T.RY] at h; simp [T.cw] at h
  |node v' l' r'=>
   rw [T.Qj,T.Tm] at h;simp only [T.cw] at h ⊢;cases hk:Nat.beq k 0
   ·simp only [hk] at h ⊢;cases ho:Nat.beq (k % 2) 1
    ·simp only [ho] at h ⊢;exact ihr _ _ _ h
    ·simp only [ho] at h ⊢;exact ihl _ _ _ h
   ·simp only [hk] at h ⊢;unfold Yt at h;split at h
    ·split at h
     ·exact ⟨_,_,rfl,rfl,h⟩
     ·cases h
    ·cases h
theorem T.sy{α:Type}{g:α->α->Option α}{t t':T α}{k:Nat}{z:α}(h:(T.mrg g t t').get k=some z): ∃x y,t.get k=some x/\t'.get k=some y/\g x y=some z:=by
 rw [T.get_eq] at h;obtain ⟨x,y,h1,h2,h3⟩:=T.Rv _ _ _ _ h;exact ⟨x,y,by rw [T.get_eq]; exact h1,by rw [T.get_eq]; exact h2,h3⟩
def C4:List (ab×ab)->List (ab×ab)->Bool
 | [],l=>
   match l with
   | []=>true
   |_=>false
 |x::l,m=>
  match m with
  | []=>false
  |y::m=>x.1.same y.1&&(x.2.same y.2&&C4 l m)
theorem Aw: ∀ {l m:List (ab×ab)},C4 l m=true->l=m:=by
 intro l
 induction l with
 |nil=>intro m h; cases m with
  |nil=>rfl
  |cons y m=>cases h
 |cons x l ih=>
  intro m h;cases m with
  |nil=>cases h
  |cons y m=>
   obtain ⟨h1,h2⟩:=aa h;obtain ⟨h2,h3⟩:=aa h2;rw [ih h3];have e1:=ab.cT h1;have e2:=ab.cT h2;obtain ⟨x1,x2⟩:=x;obtain ⟨y1,y2⟩:=y;simp only at e1 e2;rw [e1,e2]
def ah.mrg(b:BE):ah->ah->Option ah
 | .cells c e o t,y=>
   match y with
   | .cells c' e' o' t'=>
     match Nat.beq e e'&&(bEq o o'&&Nat.beq t t') with
     |true=>some (.cells (T.mrg (ab.zq b) c c') e o t)
     |false=>none
   |_=>none
 | .map es,y=>
   match y with
   | .map es'=>
     match C4 es es' with
     |true=>some (.map es)
     |false=>none
   |_=>none
 | .arr ks c n o,y=>
   match y with
   | .arr ks' c' n' o'=>
     match eH ks ks'&&bEq o o' with
     |true=>
      match IE.mrg b c c',IE.mrg b n n' with
      |some p,some q=>some (.arr ks p q o)
      |_,_=>none
     |false=>none
   |_=>none
 | .ghost k vs c,y=>
   match y with
   | .ghost k' vs' c'=>
     match Nat.beq k k' with
     |true=>
      match yQ b vs vs' with
      |some z=>some (.ghost k z (T.mrg (ab.zq b) c c'))
      |none=>none
     |false=>none
   |_=>none
 | .win i s c e o,y=>
   match y with
   | .win i' s' c' e' o'=>
     match i.eqF i'&&(Nat.beq s s'&&(Nat.beq e e'&&bEq o o')) with
     |true=>some (.win i s (T.mrg (ab.zq b) c c') e o)
     |false=>none
   |_=>none
 | .col s c k code m d n,y=>
   match y with
   | .col s' c' k' code' m' d' n'=>
     match Nat.beq s s'&&(Nat.beq c c'&&(bf k k'&&(code.eqF code'&&(Nat.beq m m'&&(Nat.beq d d'&&n.eqF n'))))) with
     |true=>some (.col s c k code m d n)
     |false=>none
   |_=>none
 | .it0,y=>
   match y with
   | .it0=>some .it0
   |_=>none
structure OCov (ρ:Env) (q o:ah):Prop where
 own:o.own=q.own
 aZ: ∀w L c,o.aZ ρ w L c ↔ q.aZ ρ w L c
 rel: ∀f B w L,c9 ρ f B w L q->c9 ρ f B w L o
theorem ah.hU{ρ:Env}{b:BE}{v:Bool}(hb:b.ev ρ=v){x y z:ah}(h:ah.mrg b x y=some z):OCov ρ (aS v x y) z:=by
 cases x with
 |cells c e o t=>
  simp only [ah.mrg] at h;split at h
  ·rename_i c' e' o' t';split at h
   ·rename_i hk;cases h;obtain ⟨k1,k2⟩:=aa hk;obtain ⟨k2,k3⟩:=aa k2;have k1:=Nat.eq_of_beq_eq_true k1;have k2:=dt k2;have k3:=Nat.eq_of_beq_eq_true k3;subst k1 k2 k3;refine ⟨by cases v<;>rfl,by cases v<;>exact fun _ _ _=>Iff.rfl,fun f B w L ho=> ?_⟩
    have ho':c9 ρ f B w L (.cells (aS v c c') e o t):=by cases v<;>exact ho
    obtain ⟨cs,fr,h1,h2,h3,h4⟩:=ho';refine ⟨cs,fr,h1,h2,h3,fun j z hz=> ?_⟩
    obtain ⟨p,q,g1,g2,g3⟩:=T.sy hz;have:(aS v c c').get j=some (aS v p q):=by cases v<;>first |exact g1 |exact g2
    obtain ⟨a1,v',a2,a3⟩:=h4 j _ this;exact ⟨a1,v',a2,ab.hU p q z v f v' (by rw [<- ab.qR]; exact g3) hb a3⟩
   ·cases h
  ·cases h
 |map es=>
  simp only [ah.mrg] at h;split at h
  ·rename_i es';split at h
   ·rename_i hk;cases h;have:=Aw hk;subst this;cases v<;>exact ⟨rfl,fun _ _ _=>Iff.rfl,fun _ _ _ _ h=>h⟩
   ·cases h
  ·cases h
 |arr ks c n o=>
  simp only [ah.mrg] at h;split at h
  ·rename_i ks' c' n' o';split at h
   ·rename_i hk;obtain ⟨k1,k2⟩:=aa hk;have k1:=fm k1;have k2:=dt k2;subst k1 k2;split at h
    ·rename_i p q hp hq;cases h;have e1:=ij hp hb;have e2:=ij hq hb;refine ⟨by cases v<;>rfl,by cases v<;>exact fun _ _ _=>Iff.rfl,fun f B w L ho=> ?_⟩
     have ho':c9 ρ f B w L (.arr ks (aS v c c') (aS v n n') o):=by cases v<;>exact ho
     obtain ⟨cs,el,fr,h1,h2,h3,h4⟩:=ho';refine ⟨cs,el,fr,h1,h2,h3,?_⟩;rw [e1,e2];exact h4
    ·cases h
   ·cases h
  ·cases h
 |ghost k vs c=>
  simp only [ah.mrg] at h;split at h
  ·rename_i k' vs' c';split at h
   ·rename_i hk;have hk:=Nat.eq_of_beq_eq_true hk;subst hk;split at h
    ·rename_i z hz;cases h;have e1:=AL hb hz;refine ⟨by cases v<;>rfl,by cases v<;>exact fun _ _ _=>Iff.rfl,fun f B w L ho=> ?_⟩
     have ho':c9 ρ f B w L (.ghost k (aS v vs vs') (aS v c c')):=by cases v<;>exact ho
     obtain ⟨⟨h1,h2⟩,hb0,cs,el,fr,h3,h4,h5,h6⟩:=ho';refine ⟨⟨?_,h2⟩,hb0,cs,el,fr,h3,h4,h5,fun j z hz=> ?_⟩
     ·rw [e1];exact h1
     ·obtain ⟨p,q,g1,g2,g3⟩:=T.sy hz;have:(aS v c c').get j=some (aS v p q):=by cases v<;>first |exact g1 |exact g2
      obtain ⟨a1,v',a2,a3⟩:=h6 j _ this;exact ⟨a1,v',a2,ab.hU p q z v f v' (by rw [<- ab.qR]; exact g3) hb a3⟩
    ·cases h
   ·cases h
  ·cases h
 |it0=>
  simp only [ah.mrg] at h;split at h
  ·cases h;cases v<;>exact ⟨rfl,fun _ _ _=>Iff.rfl,fun _ _ _ _ h=>h⟩
  ·cases h
 |col s c k code m d n=>
  simp only [ah.mrg] at h;split at h
  ·rename_i s' c' k' code' m' d' n';split at h
   ·rename_i hk;cases h;obtain ⟨k1,hk⟩:=aa hk;obtain ⟨k2,hk⟩:=aa hk;obtain ⟨k3,hk⟩:=aa hk;obtain ⟨k4,hk⟩:=aa hk;obtain ⟨k5,hk⟩:=aa hk;obtain ⟨k6,k7⟩:=aa hk;have k1:=Nat.eq_of_beq_eq_true k1;have k2:=Nat.eq_of_beq_eq_true k2;have k3:=aH k3;have k4:=IE.tP k4;have k5:=Nat.eq_of_beq_eq_true k5;have k6:=Nat.eq_of_beq_eq_true k6;have k7:=IE.tP k7;subst k1 k2 k3 k4 k5 k6 k7;cases v<;>exact ⟨rfl,fun _ _ _=>Iff.rfl,fun _ _ _ _ h=>h⟩
   ·cases h
  ·cases h
 |win i s c e o=>
  simp only [ah.mrg] at h;split at h
  ·rename_i i' s' c' e' o';split at h
   ·rename_i hk;cases h;obtain ⟨k1,k2⟩:=aa hk;obtain ⟨k2,k3⟩:=aa k2;obtain ⟨k3,k4⟩:=aa k3;have k1:=IE.tP k1;have k2:=Nat.eq_of_beq_eq_true k2;have k3:=Nat.eq_of_beq_eq_true k3;have k4:=dt k4;subst k1 k2 k3 k4;refine ⟨by cases v<;>rfl,by cases v<;>exact fun _ _ _=>Iff.rfl,fun f B w L ho=> ?_⟩
    have ho':c9 ρ f B w L (.win i s (aS v c c') e o):=by cases v<;>exact ho
    obtain ⟨cs,fr,h1,h2,h3,h0,h4⟩:=ho';refine ⟨cs,fr,h1,h2,h3,h0,fun j z hz=> ?_⟩
    obtain ⟨p,q,g1,g2,g3⟩:=T.sy hz;have:(aS v c c').get j=some (aS v p q):=by cases v<;>first |exact g1 |exact g2
    obtain ⟨v',a2,a3⟩:=h4 j _ this;exact ⟨v',a2,ab.hU p q z v f v' (by rw [<- ab.qR]; exact g3) hb a3⟩
   ·cases h
  ·cases h
structure dP (ρ:Env) (s t:ASt):Prop where
 tm: ∀k v,t.tm.get k=some v-> ∃u,s.tm.get k=some u/\ ∀f x,ai ρ f u x->ai ρ f v x
 hp: ∀i o,t.hp.get i=some o-> ∃q,s.hp.get i=some q/\OCov ρ q o
 nx:s.nx<=t.nx
theorem dP.refl(ρ:Env)(s:ASt):dP ρ s s:=⟨fun k v h=>⟨v,h,fun _ _ h=>h⟩,fun i o h=>⟨o,h,rfl,fun _ _ _=>Iff.rfl,fun _ _ _ _ h=>h⟩,Nat.le_refl _⟩
theorem dP.trans{ρ:Env}{a b c:ASt}(h:dP ρ a b)(k:dP ρ b c):dP ρ a c:=by
 refine ⟨fun i v hv=> ?_,fun i o ho=> ?_,Nat.le_trans h.nx k.nx⟩
 ·obtain ⟨u,h1,h2⟩:=k.tm i v hv;obtain ⟨t,h3,h4⟩:=h.tm i u h1;exact ⟨t,h3,fun f x hx=>h2 f x (h4 f x hx)⟩
 ·obtain ⟨u,h1,h2⟩:=k.hp i o ho;obtain ⟨t,h3,h4⟩:=h.hp i u h1;exact ⟨t,h3,OCov.own h2 |>.trans (OCov.own h4),fun w L c=>(OCov.aZ h2 w L c).trans (OCov.aZ h4 w L c),fun f B w L hx=>OCov.rel h2 f B w L (OCov.rel h4 f B w L hx)⟩
theorem dP.heap{ρ:Env}{s t:ASt}(h:dP ρ s t){B:Nat->Prop}{W w:World}{f:Ren}(hr:au ρ B W f s.hp w):au ρ B W f t.hp w:=by
 refine ⟨hr.below,hr.bsize,hr.lt,fun i j Li Lj oi oj hi hj gi gj hij hown c hc hc'=> ?_,fun i L o hi ho=> ?_⟩
 ·obtain ⟨qi,a1,a2⟩:=h.hp i oi gi;obtain ⟨qj,b1,b2⟩:=h.hp j oj gj;exact hr.apart i j Li Lj qi qj hi hj a1 b1 hij (by rw [<- a2.own]; exact hown) c ((a2.aZ _ _ _).1 hc) ((b2.aZ _ _ _).1 hc')
 ·obtain ⟨q,a1,a2⟩:=h.hp i o ho;exact a2.rel _ _ _ _ (hr.obj i L q hi a1)
theorem dP.st{ρ:Env}{s t:ASt}(h:dP ρ s t){B:Nat->Prop}{W w:World}{n N:Nat}{f:Ren}{a:Act}(hs:eh ρ B W n N f s a w):eh ρ B W n N f t a w:=by
 refine ⟨hs.size,fun k v hv=> ?_,hs.defers,h.heap hs.heap,fun j h1 h2=>hs.fresh j (Nat.le_trans h.nx h1) h2⟩
 obtain ⟨u,h1,h2⟩:=h.tm k v hv;exact h2 f _ (hs.tm k u h1)
def ASt.mrg(b:BE)(s t:ASt):ASt:=
 ⟨T.mrg (ab.zq b) s.tm t.tm,T.mrg (ah.mrg b) s.hp t.hp,match Nat.ble s.nx t.nx with |true=>t.nx |false=>s.nx⟩
theorem ASt.hU{ρ:Env}{b:BE}{v:Bool}(hb:b.ev ρ=v)(s t:ASt):dP ρ (aS v s t) (ASt.mrg b s t):=by
 refine ⟨fun k z hz=> ?_,fun i o ho=> ?_,?_⟩
 ·obtain ⟨p,q,g1,g2,g3⟩:=T.sy hz;exact ⟨aS v p q,by cases v<;>first |exact g1 |exact g2,fun f x hx=>ab.hU p q z v f x (by rw [<- ab.qR]; exact g3) hb hx⟩
 ·obtain ⟨p,q,g1,g2,g3⟩:=T.sy ho;exact ⟨aS v p q,by cases v<;>first |exact g1 |exact g2,ah.hU hb g3⟩
 ·show _<=(match Nat.ble s.nx t.nx with |true=>t.nx |false=>s.nx)
  cases h:Nat.ble s.nx t.nx
  ·have: ¬s.nx<=t.nx:=fun hle=>by have:=Nat.ble_eq_true_of_le hle; rw [h] at this; cases this
   cases v<;>simp only [aS]<;>omega
  ·have:s.nx<=t.nx:=Nat.le_of_ble_eq_true h;cases v<;>simp only [aS]<;>omega
end
end Go.Sx
namespace Go.Sx
noncomputable section
def iH(m:Nat):Nat->Option Nat
 |0=>none
 |j+1=>
  match Nat.beq (2^j) (m+1) with
  |true=>some j
  |false=>iH m j
theorem mH{m:Nat}: ∀ {n j:Nat},iH m n=some j->m=2^j-1:=by
 intro n
 induction n with
 |zero=>intro j h; cases h
 |succ n ih=>
  intro j h;unfold iH at h;split at h
  ·rename_i hb;cases h;have:=Nat.eq_of_beq_eq_true hb;omega
  ·exact ih h
def Ci(bd:Bd)(k:IntKind)(a:IE):Int->Option IE
 | .ofNat m=>
   match sB m (iU k),iH m 64 with
   |true,some _=>
    match rng bd a with
    |some (l,h)=>if aL 0 l&&aL h (kHi k) then some (ml a (.lit (.ofNat (m+1)))) else none
    |none=>none
   |_,_=>none
 |_=>none
theorem Ht{ρ:Env}{bd:Bd}(hρ:ρ.ok bd){k:IntKind}{a z:IE}{m:Int}(h:Ci bd k a m=some z):z.ev ρ=aN .and k (a.ev ρ) m:=by
 unfold Ci at h;split at h
 ·rename_i m;split at h
  ·rename_i j hm hj;split at h
   ·rename_i l u hr;split at h
    ·rename_i hc;cases h;obtain ⟨c1,c2⟩:=aa hc;have hb:=bD hρ a l u hr;have c1:(0:Int)<=l:=by simpa [ay] using c1
     have c2:u<=kHi k:=by simpa [ay] using c2
     rw [gp];have h0:0<=a.ev ρ:=by omega
     obtain ⟨x,hx⟩:=Int.eq_ofNat_of_zero_le h0
     have hxk:x<=iU k:=by
      have:(x:Int)<=kHi k:=by omega
      rw [<- lR] at this;omega
     have hm':m<=iU k:=by simpa [sB] using hm
     rw [hx];show (x:Int).tmod ((m+1:Nat):Int)=aN .and k (x:Int) (m:Int);rw [gQ .and k x m hxk hm'];have e:=mH hj;subst e;show (x:Int).tmod ((2^j-1+1:Nat):Int)=((Nat.land x (2^j-1):Nat):Int);have e2:2^j-1+1=2^j:=Nat.sub_add_cancel (Nat.one_le_two_pow);rw [e2];have e3:Nat.land x (2^j-1)=x % 2^j:=Nat.and_two_pow_sub_one_eq_mod x j;rw [e3];rfl
    ·cases h
   ·cases h
  ·cases h
 ·cases h
def kJ(bd:Bd)(a:IE):Bool:=
 match rng bd a with
 |some (l,_)=>aL 0 l
 |none=>false
theorem dT{ρ:Env}{bd:Bd}(hρ:ρ.ok bd){a:IE}(h:kJ bd a=true):0<=a.ev ρ:=by
 unfold kJ at h;split at h
 ·rename_i l u hr;have:=bD hρ a l u hr;have h:(0:Int)<=l:=by simpa [ay] using h
  omega
 ·cases h
def Gq(bd:Bd)(n:Int):IE->IE
 | .quo x (.lit m)=>
   match aL 1 m&&(aL 1 n&&kJ bd x) with
   |true=> .quo x (.lit (m*n))
   |false=>sP (.quo x (.lit m)) (.lit n)
 | .mul x (.lit m)=>
   match aK m n&&aL 1 n with
   |true=>x
   |false=>sP (.mul x (.lit m)) (.lit n)
 |a=>sP a (.lit n)
theorem xR{ρ:Env}{bd:Bd}(hρ:ρ.ok bd)(n:Int)(a:IE):(Gq bd n a).ev ρ=(a.ev ρ).tdiv n:=by
 unfold Gq;split
 ·rename_i x m;split
  ·rename_i hc;obtain ⟨c1,c2⟩:=aa hc;obtain ⟨c2,c3⟩:=aa c2;have c1:(1:Int)<=m:=by simpa [ay] using c1
   have c2:(1:Int)<=n:=by simpa [ay] using c2
   have c3:=dT hρ c3;show (x.ev ρ).tdiv (m*n)=((x.ev ρ).tdiv m).tdiv n;rw [Int.tdiv_eq_ediv_of_nonneg c3,Int.tdiv_eq_ediv_of_nonneg c3,Int.tdiv_eq_ediv_of_nonneg (Int.ediv_nonneg c3 (by omega)),Int.ediv_ediv_of_nonneg (by omega)]
  ·exact jB ρ _ _
 ·rename_i x m;split
  ·rename_i hc;obtain ⟨c1,c2⟩:=aa hc;have c1:=ar c1;have c2:(1:Int)<=n:=by simpa [ay] using c2
   subst c1;show x.ev ρ=(x.ev ρ*m).tdiv m;rw [Int.mul_tdiv_cancel _ (by omega)]
  ·exact jB ρ _ _
 ·exact jB ρ _ _
def Lv(bd:Bd)(n:Int)(a:IE):IE:=
 match aK n 1 with
 |true=>a
 |false=>
  match rng bd a with
  |some (l,h)=>
   match aL 0 l&&cC h n with
   |true=> .lit 0
   |false=>
    match aL 0 l&&(cC 0 n&&aK (l / n) (h / n)) with
    |true=> .lit (l / n)
    |false=>Gq bd n a
  |none=>Gq bd n a
theorem vJ{ρ:Env}{bd:Bd}(hρ:ρ.ok bd)(n:Int)(a:IE):(Lv bd n a).ev ρ=(a.ev ρ).tdiv n:=by
 unfold Lv;split
 ·rename_i h;rw [ar h,Int.tdiv_one]
 ·split
  ·rename_i l u hr;split
   ·rename_i hc;obtain ⟨c1,c2⟩:=aa hc;rw [ay] at c1;rw [bj] at c2;have c1:=of_decide_eq_true c1;have c2:=of_decide_eq_true c2;obtain ⟨r1,r2⟩:=bD hρ a _ _ hr;exact (Int.tdiv_eq_zero_of_lt (by omega) (by omega)).symm
   ·split
    ·rename_i hc;obtain ⟨c1,c2⟩:=aa hc;obtain ⟨c2,c3⟩:=aa c2;rw [ay] at c1;rw [bj] at c2;have c1:=of_decide_eq_true c1;have c2:=of_decide_eq_true c2;have c3:=ar c3;obtain ⟨r1,r2⟩:=bD hρ a _ _ hr;have e1:=Int.ediv_le_ediv c2 r1;have e2:=Int.ediv_le_ediv c2 r2;show l / n=(a.ev ρ).tdiv n;rw [Int.tdiv_eq_ediv_of_nonneg (by omega)]
     omega
    ·exact xR hρ n a
  ·exact xR hρ n a
def Vp(n:Int):IE->Option IE
 | .lit c=>
   match aK (c % n) 0 with
   |true=>some (.lit (c / n))
   |false=>none
 | .mul x (.lit c)=>
   match aK (c % n) 0 with
   |true=>
    match aK (c / n) 1 with
    |true=>some x
    |false=>some (.mul x (.lit (c / n)))
   |false=>none
 |_=>none
theorem SA{ρ:Env}{n:Int}{e z:IE}(h:Vp n e=some z):e.ev ρ=z.ev ρ*n:=by
 unfold Vp at h;split at h
 ·rename_i c;split at h
  ·rename_i hc;cases h;show c=c / n*n;exact (Int.ediv_mul_cancel (Int.dvd_of_emod_eq_zero (ar hc))).symm
  ·cases h
 ·rename_i x c;split at h
  ·rename_i hc;have hd:=Int.ediv_mul_cancel (Int.dvd_of_emod_eq_zero (ar hc));split at h
   ·rename_i h1;cases h;rw [ar h1] at hd;show z.ev ρ*c=z.ev ρ*n;rw [<- hd,Int.one_mul]
   ·cases h;show x.ev ρ*c=x.ev ρ*(c / n)*n;rw [Int.mul_assoc,hd]
  ·cases h
 ·cases h
def yV(bd:Bd)(n:Int):IE->Option (IE×IE)
 | .add x y=>
   match yV bd n x with
   |some (m,r)=>
    match yV bd n y with
    |some (m',r')=>some (mkAdd m m',mkAdd r r')
    |none=>none
   |none=>none
 |e=>
  match kJ bd e with
  |false=>none
  |true=>
   match Vp n e with
   |some z=>some (z,.lit 0)
   |none=>some (.lit 0,e)
theorem M7{ρ:Env}{bd:Bd}(hρ:ρ.ok bd){n:Int}: ∀ {e m r:IE},yV bd n e=some (m,r)->e.ev ρ=m.ev ρ*n+r.ev ρ/\0<=r.ev ρ/\0<=e.ev ρ:=by
 intro e
 have leaf: ∀ {e m r:IE},(match kJ bd e with |false=>none |true=>match Vp n e with |some z=>some (z,IE.lit 0) |none=>some (IE.lit 0,e))=some (m,r)->e.ev ρ=m.ev ρ*n+r.ev ρ/\0<=r.ev ρ/\0<=e.ev ρ:=by
  intro e m r h;split at h
  ·cases h
  ·rename_i hl;have hl:=dT hρ hl;split at h
   ·rename_i z hz;cases h;have:=SA (ρ:=ρ) hz;exact ⟨by rw [this]; show _=_+0; omega,by show (0:Int)<=0; omega,hl⟩
   ·cases h;exact ⟨by show _=0*n+_; omega,hl,hl⟩
 induction e with
 |add x y ihx ihy=>
  intro m r h;unfold yV at h;split at h
  ·rename_i m1 r1 h1;split at h
   ·rename_i m2 r2 h2;cases h;obtain ⟨a1,a2,a3⟩:=ihx h1;obtain ⟨b1,b2,b3⟩:=ihy h2;refine ⟨?_,?_,?_⟩
    ·show x.ev ρ+y.ev ρ=_;rw [bE,bE,a1,b1,Int.add_mul];omega
    ·rw [bE]; omega
    ·show 0<=x.ev ρ+y.ev ρ;omega
   ·cases h
  ·cases h
 |_=>intro m r h; exact leaf h
def Tl(bd:Bd)(n:Int)(a:IE):IE:=
 match a with
 | .add x y=>
   match cC 1 n with
   |true=>
    match yV bd n (.add x y) with
    |some (m,r)=>mkAdd m (Lv bd n r)
    |none=>Lv bd n (.add x y)
   |false=>Lv bd n (.add x y)
 |a=>Lv bd n a
theorem Ka{ρ:Env}{bd:Bd}(hρ:ρ.ok bd)(n:Int)(a:IE):(Tl bd n a).ev ρ=(a.ev ρ).tdiv n:=by
 unfold Tl;split
 ·rename_i x y;split
  ·rename_i hn;rw [bj] at hn;have hn:=of_decide_eq_true hn;split
   ·rename_i m r hs;obtain ⟨h1,h2,h3⟩:=M7 hρ hs;rw [bE,vJ hρ];have h3:0<=(IE.add x y).ev ρ:=h3;rw [Int.tdiv_eq_ediv_of_nonneg h3,Int.tdiv_eq_ediv_of_nonneg h2,h1,Int.add_comm (m.ev ρ*n),Int.add_mul_ediv_right _ _ (by omega),Int.add_comm]
   ·exact vJ hρ n _
  ·exact vJ hρ n _
 ·exact vJ hρ n _
def Jr(bd:Bd)(a b:IE):IE:=
 match b with
 | .lit n=>Tl bd n a
 |b=>sP a b
theorem Nh{ρ:Env}{bd:Bd}(hρ:ρ.ok bd)(a b:IE):(Jr bd a b).ev ρ=(a.ev ρ).tdiv (b.ev ρ):=by
 unfold Jr;split
 ·exact Ka hρ _ a
 ·exact jB ρ a _
def HD(bd:Bd)(k:IntKind)(a b:IE):IE:=
 match b with
 | .lit (.ofNat n)=>mkWrap bd k (mkMul a (.lit ((2^(min n k.bits):Nat):Int)))
 |b=>Lh k a b
theorem L8{ρ:Env}{bd:Bd}(hρ:ρ.ok bd)(k:IntKind)(a b:IE):(HD bd k a b).ev ρ=R0 k (a.ev ρ) (b.ev ρ):=by
 unfold HD;split
 ·rename_i n;rw [f8 hρ,fH];show k.wrap (a.ev ρ*((2^(min n k.bits):Nat):Int))=k.wrap (a.ev ρ*2^(min (n:Int).toNat k.bits));rw [Int.toNat_natCast]
  push_cast
  rfl
 ·exact E8 ρ k a _
def X3(bd:Bd)(k:IntKind)(b:IE):IntKind:=
 match rng bd b with
 |some (_,h)=>match aL h (.ofNat (kb k)) with
  |true=> .i64
  |false=>k
 |none=>k
theorem Uy{ρ:Env}{bd:Bd}(hρ:ρ.ok bd)(k:IntKind)(x:Int)(b:IE):CX (X3 bd k b) x (b.ev ρ)=CX k x (b.ev ρ):=by
 unfold X3;split
 ·rename_i l h hr;split
  ·rename_i hh;rw [ay] at hh;have hh:h<=((kb k:Nat):Int):=of_decide_eq_true hh;have hb:=(bD hρ b l h hr).2;unfold CX;have e1:kb k=k.bits:=by cases k<;>rfl
   have e2:kb k<=64:=by cases k<;>decide
   have m1:min (b.ev ρ).toNat IntKind.i64.bits=(b.ev ρ).toNat:=Nat.min_eq_left (by show _<=64; omega)
   have m2:min (b.ev ρ).toNat k.bits=(b.ev ρ).toNat:=Nat.min_eq_left (by omega)
   rw [m1,m2]
  ·rfl
 ·rfl
def Ic(bd:Bd)(k:IntKind)(a b:IE):IE:=
 match b with
 | .lit (.ofNat n)=>
   match kJ bd a with
   |true=>Tl bd ((2^(min n k.bits):Nat):Int) a
   |false=>DS k a b
 |b=>DS (X3 bd k b) a b
theorem L7{ρ:Env}{bd:Bd}(hρ:ρ.ok bd)(k:IntKind)(a b:IE):(Ic bd k a b).ev ρ=CX k (a.ev ρ) (b.ev ρ):=by
 unfold Ic;split
 ·rename_i n;split
  ·rename_i h0;have h0:=dT hρ h0;rw [Ka hρ];show (a.ev ρ).tdiv ((2^(min n k.bits):Nat):Int)=(a.ev ρ).fdiv (2^(min (n:Int).toNat k.bits));rw [Int.toNat_natCast,Int.tdiv_eq_ediv_of_nonneg h0,Int.fdiv_eq_ediv_of_nonneg _ (by exact_mod_cast Nat.zero_le _)]
   push_cast
   rfl
  ·exact xb ρ k a _
 ·rw [xb,Uy hρ]
def nA(bd:Bd)(m:Int)(a b:IE):IE:=
 match rng bd a with
 |some (l,h)=>
  match aL 0 l&&cC h m with
  |true=>a
  |false=>b
 |none=>b
theorem kS{ρ:Env}{bd:Bd}(hρ:ρ.ok bd){m:Int}{a b:IE}(h:b.ev ρ=(a.ev ρ).tmod m):(nA bd m a b).ev ρ=(a.ev ρ).tmod m:=by
 unfold nA;split
 ·rename_i l u hr;split
  ·rename_i hc;obtain ⟨c1,c2⟩:=aa hc;rw [ay] at c1;rw [bj] at c2;have c1:=of_decide_eq_true c1;have c2:=of_decide_eq_true c2;obtain ⟨r1,r2⟩:=bD hρ a _ _ hr;rw [Int.tmod_eq_emod_of_nonneg (by omega)]
   exact (Int.emod_eq_of_lt (by omega) (by omega)).symm
  ·exact h
 ·exact h
def Kj(m:Int):IE->Bool
 | .lit c=>aK (c % m) 0
 | .mul _ (.lit c)=>aK (c % m) 0
 |_=>false
theorem Gu{ρ:Env}{m:Int}{e:IE}(h:Kj m e=true):m ∣ e.ev ρ:=by
 unfold Kj at h;split at h
 ·exact Int.dvd_of_emod_eq_zero (ar h)
 ·exact Int.dvd_trans (Int.dvd_of_emod_eq_zero (ar h)) (Int.dvd_mul_left _ _)
 ·cases h
def Mn(bd:Bd)(m:Int):IE->IE
 | .add x y=>nA bd m (.add x y) (match Kj m y&&(kJ bd x&&kJ bd y) with
   |true=>Mn bd m x
   |false=>
    match Kj m x&&(kJ bd x&&kJ bd y) with
    |true=>Mn bd m y
    |false=>ml (.add x y) (.lit m))
 | .rem x (.lit n)=>nA bd m (.rem x (.lit n)) (match aK (n % m) 0&&(aL 1 n&&kJ bd x) with
   |true=> .rem x (.lit m)
   |false=>ml (.rem x (.lit n)) (.lit m))
 | .mul x (.lit n)=>nA bd m (.mul x (.lit n)) (match aK (n % m) 0 with
   |true=> .lit 0
   |false=>ml (.mul x (.lit n)) (.lit m))
 | .wrap k x=>nA bd m (.wrap k x) (match (match k with | .u8 | .u16 | .u32 | .u64=>aK (eP k % m) 0&&kJ bd x |_=>false) with
   |true=>Mn bd m x
   |false=>ml (.wrap k x) (.lit m))
 |a=>nA bd m a (ml a (.lit m))
theorem Vc{ρ:Env}{bd:Bd}(hρ:ρ.ok bd){m:Int}(hm:1<=m)(a:IE):(Mn bd m a).ev ρ=(a.ev ρ).tmod m:=by
 have base: ∀a:IE,(nA bd m a (ml a (.lit m))).ev ρ=(a.ev ρ).tmod m:=fun a=>kS hρ (gp ρ a _)
 induction a with
 |add x y ihx ihy=>
  unfold Mn;refine kS hρ ?_;split
  ·rename_i hc;obtain ⟨c1,hc⟩:=aa hc;obtain ⟨c2,c3⟩:=aa hc;have c1:=Gu (ρ:=ρ) c1;have c2:=dT hρ c2;have c3:=dT hρ c3;obtain ⟨q,hq⟩:=c1;rw [ihx];show _=(x.ev ρ+y.ev ρ).tmod m;rw [Int.tmod_eq_emod_of_nonneg c2,Int.tmod_eq_emod_of_nonneg (by omega),hq,Int.add_mul_emod_self_left]
  ·split
   ·rename_i hc;obtain ⟨c1,hc⟩:=aa hc;obtain ⟨c2,c3⟩:=aa hc;have c1:=Gu (ρ:=ρ) c1;have c2:=dT hρ c2;have c3:=dT hρ c3;obtain ⟨q,hq⟩:=c1;rw [ihy];show _=(x.ev ρ+y.ev ρ).tmod m;rw [Int.tmod_eq_emod_of_nonneg c3,Int.tmod_eq_emod_of_nonneg (by omega),hq,Int.add_comm,Int.add_mul_emod_self_left]
   ·exact gp ρ _ _
 |rem x n ihx _=>
  cases n with
  |lit n'=>
   refine kS hρ ?_;split
   ·rename_i hc;obtain ⟨c1,hc⟩:=aa hc;obtain ⟨c2,c3⟩:=aa hc;have c1:=Int.dvd_of_emod_eq_zero (ar c1);rw [ay] at c2;have c2:=of_decide_eq_true c2;have c3:=dT hρ c3;show (x.ev ρ).tmod m=((x.ev ρ).tmod n').tmod m;rw [Int.tmod_eq_emod_of_nonneg c3,Int.tmod_eq_emod_of_nonneg c3,Int.tmod_eq_emod_of_nonneg (Int.emod_nonneg _ (by omega)),Int.emod_emod_of_dvd _ c1]
   ·exact gp ρ _ _
  |_=>exact base _
 |mul x n _ _=>
  cases n with
  |lit n=>
   refine kS hρ ?_;split
   ·rename_i hc;obtain ⟨q,hq⟩:=Int.dvd_of_emod_eq_zero (ar hc);show (0:Int)=(x.ev ρ*n).tmod m;rw [hq,<-Int.mul_assoc,Int.mul_right_comm,Int.mul_tmod_left]
   ·exact gp ρ _ _
  |_=>exact base _
 |wrap k x ih=>
  refine kS hρ ?_;split
  ·rename_i hc
   have key:aK (eP k % m) 0=true/\kJ bd x=true/\k.wrap (x.ev ρ)=x.ev ρ % eP k:=by
    cases k<;>first
     | (cases hc; done)
     |exact ⟨(aa hc).1,(aa hc).2,dM _ _⟩
   obtain ⟨k1,k2,k3⟩:=key;have hx:=dT hρ k2;have hp:0<eP k:=by cases k<;>decide
   rw [ih];show (x.ev ρ).tmod m=(k.wrap (x.ev ρ)).tmod m;rw [k3,Int.tmod_eq_emod_of_nonneg hx,Int.tmod_eq_emod_of_nonneg (Int.emod_nonneg _ (by omega)),Int.emod_emod_of_dvd _ (Int.dvd_of_emod_eq_zero (ar k1))]
  ·exact gp ρ _ _
 |_=>exact base _
def xI(bd:Bd)(a b:IE):IE:=
 match b with
 | .lit m=>
   match aK m 1 with
   |true=> .lit 0
   |false=>
    match aL 1 m with
    |true=>Mn bd m a
    |false=>ml a (.lit m)
 |b=>ml a b
theorem tY{ρ:Env}{bd:Bd}(hρ:ρ.ok bd)(a b:IE):(xI bd a b).ev ρ=(a.ev ρ).tmod (b.ev ρ):=by
 unfold xI;split
 ·rename_i m;split
  ·rename_i h;rw [ar h];exact (Int.tmod_one _).symm
  ·split
   ·rename_i h;rw [ay] at h;exact Vc hρ (of_decide_eq_true h) a
   ·exact gp ρ _ _
 ·exact gp ρ _ _
def gX(p:Int×IE):IE:=
 match aK p.1 0 with
 |true=>p.2
 |false=>
  match aK p.1 1 with
  |true=>p.2
  |false=> .mul p.2 (.lit p.1)
def jC:IE->List (Int×IE)->List (Int×IE)
 | .add x y,l=>jC x (jC y l)
 | .mul x (.lit c),l=>
   match aK c 0 with
   |true=>(0,.lit 0)::l
   |false=>(c,x)::l
 | .lit n,l=>(0,.lit n)::l
 |e,l=>(1,e)::l
def bT(ρ:Env):List (Int×IE)->Int
 | []=>0
 |p::l=>(gX p).ev ρ+bT ρ l
theorem Gg(ρ:Env): ∀(e:IE) (l:List (Int×IE)),bT ρ (jC e l)=e.ev ρ+bT ρ l:=by
 intro e
 induction e with
 |add x y ihx ihy=>
  intro l;show bT ρ (jC x (jC y l))=x.ev ρ+y.ev ρ+bT ρ l;rw [ihx,ihy,Int.add_assoc]
 |mul x c _ _=>
  intro l;cases c with
  |lit c=>
   show bT ρ (match aK c 0 with
    |true=>(0,.lit 0)::l
    |false=>(c,x)::l)=x.ev ρ*c+bT ρ l
   split
   ·rename_i hc;rw [ar hc];show (0:Int)+bT ρ l=x.ev ρ*0+bT ρ l;rw [Int.mul_zero]
   ·rename_i hc;show (gX (c,x)).ev ρ+bT ρ l=x.ev ρ*c+bT ρ l;unfold gX;simp only [hc];split
    ·rename_i h1;rw [ar h1,Int.mul_one]
    ·rfl
  |_=>rfl
 |lit n=>intro l; rfl
 |_=>intro l; rfl
def nL(p:Int×IE):List (Int×IE)->List (Int×IE)
 | []=>[p]
 |q::l=>
  match cC q.1 p.1 with
  |true=>p::q::l
  |false=>q::nL p l
theorem I8(ρ:Env)(p:Int×IE): ∀l,bT ρ (nL p l)=(gX p).ev ρ+bT ρ l:=by
 intro l
 induction l with
 |nil=>rfl
 |cons q l ih=>
  unfold nL;split
  ·rfl
  ·show (gX q).ev ρ+bT ρ (nL p l)=(gX p).ev ρ+((gX q).ev ρ+bT ρ l);rw [ih]; omega
def nJ:List (Int×IE)->List (Int×IE)->List (Int×IE)
 | [],acc=>acc
 |p::l,acc=>nJ l (nL p acc)
theorem CW(ρ:Env): ∀l acc,bT ρ (nJ l acc)=bT ρ l+bT ρ acc:=by
 intro l
 induction l with
 |nil=>intro acc; show bT ρ acc=0+bT ρ acc; omega
 |cons p l ih=>
  intro acc;show bT ρ (nJ l (nL p acc))=(gX p).ev ρ+bT ρ l+bT ρ acc;rw [ih,I8]; omega
def qH:IE->List (Int×IE)->IE
 |e,[]=>e
 |e,p::l=>qH (mkAdd e (gX p)) l
theorem EC(ρ:Env): ∀l e,(qH e l).ev ρ=e.ev ρ+bT ρ l:=by
 intro l
 induction l with
 |nil=>intro e; show e.ev ρ=e.ev ρ+0; omega
 |cons p l ih=>
  intro e;show (qH (mkAdd e (gX p)) l).ev ρ=e.ev ρ+((gX p).ev ρ+bT ρ l);rw [ih,bE]; omega
def A5(e:IE):IE:=
 match e with
 | .add x y=>
   match nJ (jC (.add x y) []) [] with
   | []=> .add x y
   |p::l=>qH (gX p) l
 |e=>e
theorem GC(ρ:Env)(e:IE):(A5 e).ev ρ=e.ev ρ:=by
 unfold A5;split
 ·rename_i x y;have h:=CW ρ (jC (.add x y) []) [];rw [Gg] at h;split
  ·rfl
  ·rename_i p l hl;rw [hl] at h;rw [EC];have h:(gX p).ev ρ+bT ρ l=(IE.add x y).ev ρ+0+0:=h;omega
 ·rfl
def C9(bd:Bd)(a b:IE):IE:=
 match a with
 | .mul (.quo w (.lit n)) (.lit n')=>
   match b with
   | .mul (.rem (.quo w' (.lit m)) (.lit k)) (.lit m')=>
     match aK n n'&&(aK m m'&&(aK n (m*k)&&(w.eq w'&&(aL 1 m&&(aL 1 k&&kJ bd w))))) with
     |true=> .mul (.quo w (.lit m)) (.lit m)
     |false=>mkAdd (.mul (.quo w (.lit n)) (.lit n')) (.mul (.rem (.quo w' (.lit m)) (.lit k)) (.lit m'))
   | .rem w' (.lit k)=>
     match aK n n'&&(aK n k&&(w.eq w'&&(aL 1 n&&kJ bd w))) with
     |true=>w
     |false=>mkAdd (.mul (.quo w (.lit n)) (.lit n')) (.rem w' (.lit k))
   |b=>mkAdd (.mul (.quo w (.lit n)) (.lit n')) b
 |a=>mkAdd a b
theorem nv{x m k:Int}(hx:0<=x)(hm:1<=m)(hk:1<=k):x / m*m=x / (m*k)*(m*k)+x / m % k*m:=by
 have h1:=Int.emod_add_mul_ediv (x / m) k;rw [Int.ediv_ediv_of_nonneg (by omega)] at h1
 have h2:x / m*m=(x / m % k+k*(x / (m*k)))*m:=by rw [h1]
 rw [h2,Int.add_mul,Int.add_comm]
 congr 1
 rw [Int.mul_comm k,Int.mul_assoc,Int.mul_comm k m]
theorem HP{ρ:Env}{bd:Bd}(hρ:ρ.ok bd)(a b:IE):(C9 bd a b).ev ρ=a.ev ρ+b.ev ρ:=by
 unfold C9;split
 ·rename_i w n n';split
  ·rename_i w' m k m';split
   ·rename_i hc;obtain ⟨c1,hc⟩:=aa hc;obtain ⟨c2,hc⟩:=aa hc;obtain ⟨c3,hc⟩:=aa hc;obtain ⟨c4,hc⟩:=aa hc;obtain ⟨c5,hc⟩:=aa hc;obtain ⟨c6,c7⟩:=aa hc;have c1:=ar c1; have c2:=ar c2; have c3:=ar c3; have c4:=IE.eq_eq c4;rw [ay] at c5 c6;have c5:=of_decide_eq_true c5;have c6:=of_decide_eq_true c6;have c7:=dT hρ c7;subst c1; subst c2; subst c4; subst c3;show (w.ev ρ).tdiv m*m=(w.ev ρ).tdiv (m*k)*(m*k)+((w.ev ρ).tdiv m).tmod k*m;rw [Int.tdiv_eq_ediv_of_nonneg c7,Int.tdiv_eq_ediv_of_nonneg c7,Int.tmod_eq_emod_of_nonneg (Int.ediv_nonneg c7 (by omega))]
    exact nv c7 c5 c6
   ·exact bE ρ _ _
  ·rename_i w' k;split
   ·rename_i hc;obtain ⟨c1,hc⟩:=aa hc;obtain ⟨c2,hc⟩:=aa hc;obtain ⟨c3,hc⟩:=aa hc;obtain ⟨c4,c5⟩:=aa hc;have c1:=ar c1; have c2:=ar c2; have c3:=IE.eq_eq c3;rw [ay] at c4;have c4:=of_decide_eq_true c4;have c5:=dT hρ c5;subst c1; subst c2; subst c3;show w.ev ρ=(w.ev ρ).tdiv n*n+(w.ev ρ).tmod n;rw [Int.tdiv_eq_ediv_of_nonneg c5,Int.tmod_eq_emod_of_nonneg c5,Int.mul_comm];exact (Int.mul_ediv_add_emod _ _).symm
   ·exact bE ρ _ _
  ·exact bE ρ _ _
 ·exact bE ρ _ _
def Dd(bd:Bd)(a b:IE):IE:=
 match a with
 | .rem w (.lit m)=>
   match b with
   | .mul (.rem (.quo w' (.lit m')) (.lit k)) (.lit m'')=>
     match aK m m'&&(aK m m''&&(w.eq w'&&(aL 1 m&&(aL 1 k&&kJ bd w)))) with
     |true=> .rem w (.lit (m*k))
     |false=>mkAdd (.rem w (.lit m)) (.mul (.rem (.quo w' (.lit m')) (.lit k)) (.lit m''))
   | .mul (.quo w' (.lit m')) (.lit m'')=>
     match aK m m'&&(aK m m''&&(w.eq w'&&(aL 1 m&&kJ bd w))) with
     |true=>w
     |false=>mkAdd (.rem w (.lit m)) (.mul (.quo w' (.lit m')) (.lit m''))
   |b=>mkAdd (.rem w (.lit m)) b
 | .mul (.rem (.quo w' (.lit m')) (.lit k)) (.lit m'')=>
   match b with
   | .rem w (.lit m)=>
     match aK m m'&&(aK m m''&&(w.eq w'&&(aL 1 m&&(aL 1 k&&kJ bd w)))) with
     |true=> .rem w (.lit (m*k))
     |false=>mkAdd (.mul (.rem (.quo w' (.lit m')) (.lit k)) (.lit m'')) (.rem w (.lit m))
   |b=>mkAdd (.mul (.rem (.quo w' (.lit m')) (.lit k)) (.lit m'')) b
 |a=>C9 bd a b
theorem Jj{ρ:Env}{bd:Bd}(hρ:ρ.ok bd)(a b:IE):(Dd bd a b).ev ρ=a.ev ρ+b.ev ρ:=by
 unfold Dd;split
 ·rename_i w m;split
  ·rename_i w' m' k m'';split
   ·rename_i hc;obtain ⟨c1,hc⟩:=aa hc;obtain ⟨c2,hc⟩:=aa hc;obtain ⟨c3,hc⟩:=aa hc;obtain ⟨c4,hc⟩:=aa hc;obtain ⟨c5,c6⟩:=aa hc;have c1:=ar c1; have c2:=ar c2; have c3:=IE.eq_eq c3;rw [ay] at c4 c5;have c4:=of_decide_eq_true c4;have c5:=of_decide_eq_true c5;have c6:=dT hρ c6;subst c1; subst c2; subst c3;show (w.ev ρ).tmod (m*k)=(w.ev ρ).tmod m+((w.ev ρ).tdiv m).tmod k*m;rw [Int.tdiv_eq_ediv_of_nonneg c6,Int.tmod_eq_emod_of_nonneg c6,Int.tmod_eq_emod_of_nonneg c6,Int.tmod_eq_emod_of_nonneg (Int.ediv_nonneg c6 (by omega))]
    have h1:=nv c6 c4 c5;have h2:=Int.emod_add_mul_ediv (w.ev ρ) m;have h3:=Int.emod_add_mul_ediv (w.ev ρ) (m*k);rw [Int.mul_comm m] at h2;rw [Int.mul_comm (m*k)] at h3;omega
   ·exact bE ρ _ _
  ·rename_i w' m' m'';split
   ·rename_i hc;obtain ⟨c1,hc⟩:=aa hc;obtain ⟨c2,hc⟩:=aa hc;obtain ⟨c3,hc⟩:=aa hc;obtain ⟨c4,c5⟩:=aa hc;have c1:=ar c1; have c2:=ar c2; have c3:=IE.eq_eq c3;have c5:=dT hρ c5;subst c1; subst c2; subst c3;show w.ev ρ=(w.ev ρ).tmod m+(w.ev ρ).tdiv m*m;rw [Int.tdiv_eq_ediv_of_nonneg c5,Int.tmod_eq_emod_of_nonneg c5,Int.mul_comm];exact (Int.emod_add_mul_ediv _ _).symm
   ·exact bE ρ _ _
  ·exact bE ρ _ _
 ·rename_i w' m' k m'';split
  ·rename_i w m;split
   ·rename_i hc;obtain ⟨c1,hc⟩:=aa hc;obtain ⟨c2,hc⟩:=aa hc;obtain ⟨c3,hc⟩:=aa hc;obtain ⟨c4,hc⟩:=aa hc;obtain ⟨c5,c6⟩:=aa hc;have c1:=ar c1; have c2:=ar c2; have c3:=IE.eq_eq c3;rw [ay] at c4 c5;have c4:=of_decide_eq_true c4;have c5:=of_decide_eq_true c5;have c6:=dT hρ c6;subst c1; subst c2; subst c3;show (w.ev ρ).tmod (m*k)=((w.ev ρ).tdiv m).tmod k*m+(w.ev ρ).tmod m;rw [Int.tdiv_eq_ediv_of_nonneg c6,Int.tmod_eq_emod_of_nonneg c6,Int.tmod_eq_emod_of_nonneg c6,Int.tmod_eq_emod_of_nonneg (Int.ediv_nonneg c6 (by omega))]
    have h1:=nv c6 c4 c5;have h2:=Int.emod_add_mul_ediv (w.ev ρ) m;have h3:=Int.emod_add_mul_ediv (w.ev ρ) (m*k);rw [Int.mul_comm m] at h2;rw [Int.mul_comm (m*k)] at h3;omega
   ·exact bE ρ _ _
  ·exact bE ρ _ _
 ·exact HP hρ _ _
def HN(bd:Bd)(a b:IE):IE:=A5 (Dd bd a b)
theorem Ar{ρ:Env}{bd:Bd}(hρ:ρ.ok bd)(a b:IE):(HN bd a b).ev ρ=a.ev ρ+b.ev ρ:=(GC ρ _).trans (Jj hρ a b)
def vr:IE->Option Nat
 | .mul _ (.lit (.ofNat m))=>iH (m-1) 64
 | .wrap k (.mul _ (.lit (.ofNat m)))=>
   match iH (m-1) 64 with
   |some j=>
    match Nat.ble j (kb k) with
    |true=>some j
    |false=>none
   |none=>none
 |_=>none
theorem xL{ρ:Env}{e:IE}{j:Nat}(h:vr e=some j):((2^j:Nat):Int) ∣ e.ev ρ\/e.ev ρ=0:=by
 have base: ∀(x:IE) (m j:Nat),iH (m-1) 64=some j->((2^j:Nat):Int) ∣ x.ev ρ*(m:Int):=fun x m j hm=>by
  have e:=mH hm;have hp:1<=2^j:=Nat.one_le_two_pow;cases m with
  |zero=>rw [Int.natCast_zero,Int.mul_zero]; exact Int.dvd_zero _
  |succ m=>
   have:m+1=2^j:=by omega
   rw [this];exact Int.dvd_mul_left _ _
 unfold vr at h;split at h
 ·rename_i x m;exact .inl (base x m j h)
 ·rename_i k x m;split at h
  ·rename_i j' hj;split at h
   ·rename_i hk;cases h;refine .inl ?_;have h1:=base x m j hj;have h2:=xY k (x.ev ρ*m)
    have h3:((2^j:Nat):Int) ∣ eP k:=by
     have hk:=Nat.le_of_ble_eq_true hk;have:eP k=((2^kb k:Nat):Int):=by cases k<;>rfl
     rw [this];exact Int.natCast_dvd_natCast.2 (Nat.pow_dvd_pow 2 hk)
    have h4:=Int.dvd_trans h3 h2;have:=Int.dvd_add h4 h1;rw [Int.sub_add_cancel] at this;exact this
   ·cases h
  ·cases h
 ·cases h
def B7:IE->Option Nat
 | .add x y=>
   match B7 x,vr y with
   |some i,some j=>some (Nat.min i j)
   |_,_=>none
 |e=>vr e
theorem LD{ρ:Env}: ∀ {e:IE} {j:Nat},B7 e=some j->((2^j:Nat):Int) ∣ e.ev ρ\/e.ev ρ=0:=by
 intro e
 induction e with
 |add x y ihx _=>
  intro j h;unfold B7 at h;split at h
  ·rename_i i k hi hk;cases h
   have low: ∀ {a b:Nat} {z:Int},a<=b->(((2^b:Nat):Int) ∣ z\/z=0)->((2^a:Nat):Int) ∣ z:=fun {a b z} hab hz=>by
    rcases hz with hz |rfl
    ·exact Int.dvd_trans (Int.natCast_dvd_natCast.2 (Nat.pow_dvd_pow 2 hab)) hz
    ·exact Int.dvd_zero _
   exact .inl (Int.dvd_add (low (Nat.min_le_left i k) (ihx hi)) (low (Nat.min_le_right i k) (xL hk)))
  ·cases h
 |_=>intro j h; exact xL h
def AT(bd:Bd)(k:IntKind)(a b:IE):Option IE:=
 match B7 a with
 |some j=>
  match rng bd a,rng bd b with
  |some (l,h),some (l',h')=>
   match aL 0 l&&(aL h (kHi k)&&(aL 0 l'&&(cC h' ((2^j:Nat):Int)&&aL h' (kHi k)))) with
   |true=>some (HN bd a b)
   |false=>none
  |_,_=>none
 |none=>none
theorem Ga(j a b:Nat)(ha:2^j ∣ a)(hb:b<2^j):a ||| b=a+b/\a ^^^ b=a+b:=by
 obtain ⟨q,rfl⟩:=ha;have h1:2^j*q+b=2^j*q ||| b:=Nat.two_pow_add_eq_or_of_lt hb q
 refine ⟨h1.symm,?_⟩;rw [h1];apply Nat.eq_of_testBit_eq;intro i;rw [Nat.testBit_xor,Nat.testBit_or]
 by_cases hi:i<j
 ·rw [show (2^j*q).testBit i=false by rw [Nat.testBit_two_pow_mul]; simp; omega]
  simp
 ·rw [Nat.testBit_lt_two_pow (Nat.lt_of_lt_of_le hb (Nat.pow_le_pow_right (by decide) (by omega)))]
  simp
theorem Ih{ρ:Env}{bd:Bd}(hρ:ρ.ok bd){k:IntKind}{a b z:IE}(h:AT bd k a b=some z):z.ev ρ=aN .or k (a.ev ρ) (b.ev ρ)/\z.ev ρ=aN .xor k (a.ev ρ) (b.ev ρ):=by
 unfold AT at h;split at h
 ·rename_i j hj;split at h
  ·rename_i l u l' u' hr hr';split at h
   ·rename_i hc;cases h;obtain ⟨c1,hc⟩:=aa hc;obtain ⟨c2,hc⟩:=aa hc;obtain ⟨c3,hc⟩:=aa hc;obtain ⟨c4,c5⟩:=aa hc;have c1:(0:Int)<=l:=by simpa [ay] using c1
    have c2:u<=kHi k:=by simpa [ay] using c2
    have c3:(0:Int)<=l':=by simpa [ay] using c3
    rw [bj] at c4;have c4:u'<((2^j:Nat):Int):=of_decide_eq_true c4;have c5:u'<=kHi k:=by simpa [ay] using c5
    have b1:=bD hρ a _ _ hr;have b2:=bD hρ b _ _ hr';obtain ⟨x,hx⟩:=Int.eq_ofNat_of_zero_le (show 0<=a.ev ρ by omega)
    obtain ⟨y,hy⟩:=Int.eq_ofNat_of_zero_le (show 0<=b.ev ρ by omega)
    have kx:x<=iU k:=by
     have:(x:Int)<=kHi k:=by omega
     rw [<- lR] at this; omega
    have ky:y<=iU k:=by
     have:(y:Int)<=kHi k:=by omega
     rw [<- lR] at this; omega
    have hm:2^j ∣ x:=by
     rcases LD (ρ:=ρ) hj with h |h
     ·rw [hx] at h; exact Int.natCast_dvd_natCast.1 h
     ·rw [hx] at h; have:x=0:=by omega
      subst this; exact Nat.dvd_zero _
    have hlt:y<2^j:=by
     have:(y:Int)<((2^j:Nat):Int):=by omega
     exact Int.ofNat_lt.1 this
    obtain ⟨e1,e2⟩:=Ga j x y hm hlt;rw [Ar hρ,hx,hy];refine ⟨?_,?_⟩
    ·rw [gQ .or k x y kx ky];show (x:Int)+y=((Nat.lor x y:Nat):Int);have:Nat.lor x y=x+y:=e1;rw [this]; rfl
    ·rw [gQ .xor k x y kx ky];show (x:Int)+y=((Nat.xor x y:Nat):Int);have:Nat.xor x y=x+y:=e2;rw [this]; rfl
   ·cases h
  ·cases h
 ·cases h
def zeroOf(bd:Bd)(k:IntKind)(a b:IE):Option IE:=
 match a with
 | .lit z=>
   match aK z 0,rng bd b with
   |true,some (l,h)=>
    match aL 0 l&&aL h (kHi k) with
    |true=>some b
    |false=>none
   |_,_=>none
 |_=>none
theorem LS{ρ:Env}{bd:Bd}(hρ:ρ.ok bd){k:IntKind}{a b z:IE}(h:zeroOf bd k a b=some z):z.ev ρ=aN .or k (a.ev ρ) (b.ev ρ)/\z.ev ρ=aN .xor k (a.ev ρ) (b.ev ρ):=by
 unfold zeroOf at h;split at h
 ·split at h
  ·rename_i l u hz hr;split at h
   ·rename_i hc;cases h;obtain ⟨c1,c2⟩:=aa hc;have c1:(0:Int)<=l:=by simpa [ay] using c1
    have c2:u<=kHi k:=by simpa [ay] using c2
    have hb:=bD hρ b l u hr;rw [ar hz];obtain ⟨n,hn⟩:=Int.eq_ofNat_of_zero_le (show 0<=b.ev ρ by omega)
    have hle:n<=iU k:=by
     have:=lR k;omega
    show b.ev ρ=aN .or k 0 (b.ev ρ)/\b.ev ρ=aN .xor k 0 (b.ev ρ);rw [hn];have e1:=gQ .or k 0 n (Nat.zero_le _) hle;have e2:=gQ .xor k 0 n (Nat.zero_le _) hle;have z0:((0:Nat):Int)=0:=rfl;rw [z0] at e1 e2;rw [e1,e2];refine ⟨?_,?_⟩
    ·show (n:Int)=(Nat.lor 0 n:Nat);have:Nat.lor 0 n=n:=Nat.zero_or n;rw [this]
    ·show (n:Int)=(Nat.xor 0 n:Nat);have:Nat.xor 0 n=n:=Nat.zero_xor n;rw [this]
   ·cases h
  ·cases h
 ·cases h
def tT(bd:Bd)(k:IntKind)(a b:IE):Option IE:=
 match AT bd k a b with
 |some z=>some z
 |none=>zeroOf bd k a b
theorem nO{ρ:Env}{bd:Bd}(hρ:ρ.ok bd){k:IntKind}{a b z:IE}(h:tT bd k a b=some z):z.ev ρ=aN .or k (a.ev ρ) (b.ev ρ)/\z.ev ρ=aN .xor k (a.ev ρ) (b.ev ρ):=by
 unfold tT at h;split at h
 ·rename_i y hy;cases h;exact Ih hρ hy
 ·exact LS hρ h
def BH(bd:Bd)(k:IntKind)(a:IE):Int->Option IE
 | .ofNat m=>
   match sB m (iU k),iH m 64 with
   |true,some _=>
    match rng bd a with
    |some (l,h)=>
     match aL 0 l&&aL h (kHi k) with
     |true=>some (mkMul (Gq bd ((m+1:Nat):Int) a) (.lit ((m+1:Nat):Int)))
     |false=>none
    |none=>none
   |_,_=>none
 |_=>none
theorem Mq(j a:Nat):a ^^^ (a &&& (2^j-1))=a / 2^j*2^j:=by
 rw [Nat.and_two_pow_sub_one_eq_mod];have h:=Nat.div_add_mod a (2^j);have hlt:=Nat.mod_lt a (Nat.two_pow_pos j)
 have e:a=2^j*(a / 2^j) ^^^ a % 2^j:=by
  rw [(Ga j (2^j*(a / 2^j)) (a % 2^j) (Nat.dvd_mul_right _ _) hlt).2];exact h.symm
 have e2:(2^j*(a / 2^j) ^^^ a % 2^j) ^^^ a % 2^j=2^j*(a / 2^j):=by
  rw [Nat.xor_assoc,Nat.xor_self,Nat.xor_zero]
 rw [<- e] at e2;rw [e2,Nat.mul_comm]
theorem IU{ρ:Env}{bd:Bd}(hρ:ρ.ok bd){k:IntKind}{a z:IE}{m:Int}(h:BH bd k a m=some z):z.ev ρ=aN .andNot k (a.ev ρ) m:=by
 unfold BH at h;split at h
 ·rename_i m;split at h
  ·rename_i j hm hj;split at h
   ·rename_i l u hr;split at h
    ·rename_i hc;cases h;obtain ⟨c1,c2⟩:=aa hc;have hb:=bD hρ a l u hr;have c1:(0:Int)<=l:=by simpa [ay] using c1
     have c2:u<=kHi k:=by simpa [ay] using c2
     obtain ⟨x,hx⟩:=Int.eq_ofNat_of_zero_le (show 0<=a.ev ρ by omega)
     have hxk:x<=iU k:=by
      have:(x:Int)<=kHi k:=by omega
      rw [<- lR] at this;omega
     have hm':m<=iU k:=by simpa [sB] using hm
     rw [fH,xR hρ,hx];show (x:Int).tdiv ((m+1:Nat):Int)*((m+1:Nat):Int)=aN .andNot k (x:Int) (m:Int);rw [gQ .andNot k x m hxk hm'];have e:=mH hj;have e2:m+1=2^j:=by have:1<=2^j:=Nat.one_le_two_pow; omega
     rw [e2];have:=Mq j x;show _=((Nat.xor x (Nat.land x m):Nat):Int);have e3:Nat.xor x (Nat.land x m)=x / 2^j*2^j:=by rw [e]; exact this
     rw [e3];rfl
    ·cases h
   ·cases h
  ·cases h
 ·cases h
def Iu(bd:Bd):IE->IE
 | .rem a b=>xI bd a b
 |z=>z
theorem LH{ρ:Env}{bd:Bd}(hρ:ρ.ok bd)(z:IE):(Iu bd z).ev ρ=z.ev ρ:=by
 unfold Iu;split
 ·exact tY hρ _ _
 ·rfl
def Dm(bd:Bd)(op:BinOp)(k:IntKind)(a b:IE):IE:=
 match op with
 | .and=>
   match b with
   | .lit m=>
     match Ci bd k a m with
     |some z=>Iu bd z
     |none=>iY .and k a (.lit m)
   |b=>iY .and k a b
 | .andNot=>
   match b with
   | .lit m=>
     match BH bd k a m with
     |some z=>z
     |none=>iY .andNot k a (.lit m)
   |b=>iY .andNot k a b
 | .or=>
   match tT bd k a b with
   |some z=>z
   |none=>
    match tT bd k b a with
    |some z=>z
    |none=>iY .or k a b
 | .xor=>
   match tT bd k a b with
   |some z=>z
   |none=>
    match tT bd k b a with
    |some z=>z
    |none=>iY .xor k a b
 |op=>iY op k a b
theorem xM(op:BinOp)(h:op= .or\/op= .xor)(k:IntKind)(x y:Int):aN op k x y=aN op k y x:=by
 rcases h with rfl |rfl
 ·show k.wrap _=k.wrap _;rw [BitVec.or_comm]
 ·show k.wrap _=k.wrap _;rw [BitVec.xor_comm]
theorem Jo{ρ:Env}{bd:Bd}(hρ:ρ.ok bd)(op:BinOp)(k:IntKind)(a b:IE):(Dm bd op k a b).ev ρ=aN op k (a.ev ρ) (b.ev ρ):=by
 unfold Dm;split
 ·split
  ·split
   ·rename_i z hz;exact (LH hρ z).trans (Ht hρ hz)
   ·exact dL ρ _ k _ _
  ·exact dL ρ _ k _ _
 ·split
  ·split
   ·rename_i z hz;exact IU hρ hz
   ·exact dL ρ _ k _ _
  ·exact dL ρ _ k _ _
 ·split
  ·rename_i z hz;exact (nO hρ hz).1
  ·split
   ·rename_i z hz;rw [xM .or (.inl rfl)];exact (nO hρ hz).1
   ·exact dL ρ _ k _ _
 ·split
  ·rename_i z hz;exact (nO hρ hz).2
  ·split
   ·rename_i z hz;rw [xM .xor (.inr rfl)];exact (nO hρ hz).2
   ·exact dL ρ _ k _ _
 ·exact dL ρ _ k _ _
def zU(a b:IE):IE×IE:=
 match a with
 | .add x (.lit c)=>
   match b with
   | .lit n=>(x,.lit (n-c))
   |b=>(.add x (.lit c),b)
 | .sub (.lit c) x=>
   match b with
   | .lit n=>(.lit (c-n),x)
   |b=>(.sub (.lit c) x,b)
 | .lit n=>
   match b with
   | .add x (.lit c)=>(.lit (n-c),x)
   | .sub (.lit c) x=>(x,.lit (c-n))
   |b=>(.lit n,b)
 |a=>(a,b)
theorem Fj(ρ:Env)(a b:IE):(zU a b).1.ev ρ-(zU a b).2.ev ρ=a.ev ρ-b.ev ρ:=by
 unfold zU;split
 ·rename_i x c;split
  ·rename_i n;show x.ev ρ-(n-c)=x.ev ρ+c-n;omega
  ·rfl
 ·rename_i c x;split
  ·rename_i n;show (c-n)-x.ev ρ=c-x.ev ρ-n;omega
  ·rfl
 ·rename_i n;split
  ·rename_i x c;show n-c-x.ev ρ=n-(x.ev ρ+c);omega
  ·rename_i c x;show x.ev ρ-(c-n)=n-(c-x.ev ρ);omega
  ·rfl
 ·rfl
def Nx(a b:IE):IE×IE:=zU (zU a b).1 (zU a b).2
theorem Lc(ρ:Env)(a b:IE):(Nx a b).1.ev ρ-(Nx a b).2.ev ρ=a.ev ρ-b.ev ρ:=(Fj ρ _ _).trans (Fj ρ a b)
def eM:IE->Int->Lin->Int->Lin×Int
 | .lit n,s,l,c=>(l,c+s*n)
 | .add a b,s,l,c=>eM b s (eM a s l c).1 (eM a s l c).2
 | .sub a b,s,l,c=>eM b (-s) (eM a s l c).1 (eM a s l c).2
 | .mul a (.lit n),s,l,c=>eM a (s*n) l c
 |e,s,l,c=>(addAtom e s l,c)
theorem vA(ρ:Env)(e:IE): ∀(s:Int) (l:Lin) (c:Int),aO ρ (eM e s l c).1+(eM e s l c).2=s*e.ev ρ+(aO ρ l+c):=by
 have atom: ∀(e:IE) (s:Int) (l:Lin) (c:Int),aO ρ (addAtom e s l)+c=s*e.ev ρ+(aO ρ l+c):=fun e s l c=>by
  rw [xV]; omega
 induction e with
 |lit n=>intro s l c; show aO ρ l+(c+s*n)=s*n+(aO ρ l+c); omega
 |add a b iha ihb=>
  intro s l c;show aO ρ (eM b s (eM a s l c).1 (eM a s l c).2).1+(eM b s (eM a s l c).1 (eM a s l c).2).2=s*(a.ev ρ+b.ev ρ)+(aO ρ l+c);rw [ihb,iha,Int.mul_add]; omega
 |sub a b iha ihb=>
  intro s l c;show aO ρ (eM b (-s) (eM a s l c).1 (eM a s l c).2).1+(eM b (-s) (eM a s l c).1 (eM a s l c).2).2=s*(a.ev ρ-b.ev ρ)+(aO ρ l+c);rw [ihb,iha,Int.mul_sub,Int.neg_mul]; omega
 |mul a b iha _=>
  intro s l c;cases b with
  |lit n=>
   show aO ρ (eM a (s*n) l c).1+(eM a (s*n) l c).2=s*(a.ev ρ*n)+(aO ρ l+c);rw [iha,Int.mul_assoc,Int.mul_comm n]
  |_=>exact atom _ s l c
 |_=>intro s l c; exact atom _ s l c
def vp:Lin->Bool
 | []=>true
 | (_,s)::l=>
   match aK s 0 with
   |true=>vp l
   |false=>false
theorem GK(ρ:Env): ∀ {l:Lin},vp l=true->aO ρ l=0:=by
 intro l
 induction l with
 |nil=>intro _; rfl
 |cons p l ih=>
  intro h;obtain ⟨a,s⟩:=p;unfold vp at h;split at h
  ·rename_i hs;rw [ar hs,] at*;show 0*a.ev ρ+aO ρ l=0;rw [ih h]; omega
  ·cases h
def Kv(a b:IE):Option Int:=
 match eM b (-1) (eM a 1 [] 0).1 (eM a 1 [] 0).2 with
 | (l,c)=>
   match vp l with
   |true=>some c
   |false=>none
theorem Gf{ρ:Env}{a b:IE}{c:Int}(h:Kv a b=some c):a.ev ρ-b.ev ρ=c:=by
 unfold Kv at h;split at h;rename_i l c' hl;split at h
 ·rename_i hz;cases h;have h1:=vA ρ b (-1) (eM a 1 [] 0).1 (eM a 1 [] 0).2;have h2:=vA ρ a 1 [] 0;rw [hl] at h1;have h1:aO ρ l+c= -1*b.ev ρ+(aO ρ (eM a 1 [] 0).1+(eM a 1 [] 0).2):=h1;rw [h2,GK ρ hz] at h1;have h3:aO ρ []=0:=rfl;rw [h3] at h1;omega
 ·cases h
def F9(bd:Bd)(a b:IE):BE:=
 match Kv a b with
 |some c=> .lit (aK c 0)
 |none=>mkEq bd (Nx a b).1 (Nx a b).2
def xm(bd:Bd)(a b:IE):BE:=
 match Kv a b with
 |some c=> .lit (cC c 0)
 |none=>mkLt bd (Nx a b).1 (Nx a b).2
theorem DL{ρ:Env}{bd:Bd}(hρ:ρ.ok bd)(a b:IE):(F9 bd a b).ev ρ=decide (a.ev ρ=b.ev ρ):=by
 unfold F9;split
 ·rename_i c hc;have:=Gf (ρ:=ρ) hc;show aK c 0=_;rw [om,decide_eq_decide];omega
 ·rw [dU hρ];have:=Lc ρ a b;rw [decide_eq_decide];omega
theorem sr{ρ:Env}{bd:Bd}(hρ:ρ.ok bd)(a b:IE):(xm bd a b).ev ρ=decide (a.ev ρ<b.ev ρ):=by
 unfold xm;split
 ·rename_i c hc;have:=Gf (ρ:=ρ) hc;show cC c 0=_;rw [bj,decide_eq_decide];omega
 ·rw [cK hρ];have:=Lc ρ a b;rw [decide_eq_decide];omega
def IK(bd:Bd)(a b:IE):BE:=
 match a,b with
 | .quo x (.lit (.ofNat (m+1))),.lit (.ofNat k)=>
   match kJ bd x with
   |true=>xm bd x (.lit (.ofNat (Nat.mul k (m+1))))
   |false=>xm bd (.quo x (.lit (.ofNat (m+1)))) (.lit (.ofNat k))
 |a,b=>xm bd a b
theorem MT{ρ:Env}{bd:Bd}(hρ:ρ.ok bd)(a b:IE):(IK bd a b).ev ρ=decide (a.ev ρ<b.ev ρ):=by
 unfold IK;split
 ·rename_i x m k;split
  ·rename_i hx;have hx:=dT hρ hx;rw [sr hρ,decide_eq_decide];show x.ev ρ<((Nat.mul k (m+1):Nat):Int) ↔ (x.ev ρ).tdiv ((m+1:Nat):Int)<((k:Nat):Int);rw [Int.tdiv_eq_ediv_of_nonneg hx,Int.ediv_lt_iff_lt_mul (by omega)]
   have:((Nat.mul k (m+1):Nat):Int)=(k:Int)*((m+1:Nat):Int):=Int.natCast_mul k (m+1);rw [this]
  ·exact sr hρ _ _
 ·exact sr hρ _ _
def GV(bd:Bd)(dec:Dec)(s:Bool)(a b x y:IE):IE:=
 match settle dec (match s with |true=>xm bd a b |false=>F9 bd a b) with
 |some true=>x
 |some false=>y
 |none=>jY bd s a b x y
theorem Mw{ρ:Env}{bd:Bd}(hρ:ρ.ok bd){dec:Dec}(hd:dec.holds ρ)(s:Bool)(a b x y:IE):(GV bd dec s a b x y).ev ρ=aA s (a.ev ρ) (b.ev ρ) (x.ev ρ) (y.ev ρ):=by
 have key:(match s with |true=>xm bd a b |false=>F9 bd a b).ev ρ=(if s then decide (a.ev ρ<b.ev ρ) else decide (a.ev ρ=b.ev ρ)):=by
  cases s
  ·exact DL hρ a b
  ·exact sr hρ a b
 unfold GV;split
 ·rename_i h;have:=aq hd _ _ h;rw [key] at this;cases s<;>simp at this<;>simp [aA]<;>intro h'<;>omega
 ·rename_i h;have:=aq hd _ _ h;rw [key] at this;cases s<;>simp at this<;>simp [aA]<;>intro h'<;>omega
 ·exact gw hρ s a b x y
def XU:Option (Int×Int)->Bool
 |some (l,h)=>aL (-604462909807314587353088) l&&cC h 604462909807314587353088
 |none=>false
theorem SI{ρ:Env}{bd:Bd}(hρ:ρ.ok bd){e:IE}(h:XU (rng bd e)=true): -604462909807314587353088<=e.ev ρ/\e.ev ρ<604462909807314587353088:=by
 unfold XU at h;split at h
 ·rename_i l u hr;obtain ⟨h1,h2⟩:=aa h;have:=bD hρ e l u hr;have h1:(-604462909807314587353088:Int)<=l:=by simpa [ay] using h1
  have h2:u<604462909807314587353088:=by simpa [bj] using h2
  omega
 ·cases h
def VQ:IE->Bool
 | .fn c _ _ _=>Nat.beq c 0
 |_=>false
theorem Mm(d j:Int): -604462909807314587353088<=ag d j/\ag d j<604462909807314587353088:=by
 unfold ag ff;have h:Nat.mod (Nat.shiftRight d.toNat (Nat.mul 80 j.toNat)) 1208925819614629174706176<1208925819614629174706176:=Nat.mod_lt _ (by decide)
 generalize Nat.mod (Nat.shiftRight d.toNat (Nat.mul 80 j.toNat)) 1208925819614629174706176=u at h ⊢;split
 ·rename_i hb;have hb:u<604462909807314587353088:=by simpa [Nat.blt_eq] using hb
  omega
 ·rename_i hb;have hb: ¬u<604462909807314587353088:=by simpa [Nat.blt_eq] using hb
  omega
theorem Pn{ρ:Env}{v:IE}(h:VQ v=true): -604462909807314587353088<=v.ev ρ/\v.ev ρ<604462909807314587353088:=by
 cases v with
 |fn c x y z=>
  have h:c=0:=Nat.eq_of_beq_eq_true h;subst h;exact Mm _ _
 |_=>cases h
def vR(bd:Bd)(i:Nat):IE->IE
 | .fn c d j v=>
   match Nat.beq c 1,j with
   |true,.lit (.ofNat b)=>
    match Nat.beq i b with
    |true=>
     match VQ v||XU (rng bd v) with
     |true=>v
     |false=>dG 0 (.fn c d j v) (.lit (.ofNat i)) (.lit 0)
    |false=>vR bd i d
   |_,.lit (.ofNat b)=>
    match Nat.beq c 5&&Nat.blt i b with
    |true=>vR bd i d
    |false=>dG 0 (.fn c d j v) (.lit (.ofNat i)) (.lit 0)
   |_,_=>dG 0 (.fn c d j v) (.lit (.ofNat i)) (.lit 0)
 |e=>dG 0 e (.lit (.ofNat i)) (.lit 0)
theorem aI(d v:Int){i j:Nat}(h:j≠i):ag (aD d i v) j=ag d j:=by
 rw [bx,gD,K7 _ _ _ _ (nZ v),if_neg h,bx]
theorem M1{ρ:Env}{bd:Bd}(hρ:ρ.ok bd)(i:Nat)(e:IE):(vR bd i e).ev ρ=ag (e.ev ρ) i:=by
 have base: ∀e:IE,(dG 0 e (.lit (.ofNat i)) (.lit 0)).ev ρ=ag (e.ev ρ) i:=fun e=>by rw [cz]; rfl
 induction e with
 |fn c d j v ih _ _=>
  unfold vR;split
  ·have hc:c=1:=Nat.eq_of_beq_eq_true (by assumption)
   rename_i b _ _;subst hc;have e1:(IE.fn 1 d (.lit (.ofNat b)) v).ev ρ=aD (d.ev ρ) b (v.ev ρ):=rfl;split
   ·rename_i hib;have hib:=Nat.eq_of_beq_eq_true hib;subst hib;split
    ·rename_i h8
     obtain ⟨h1,h2⟩: -604462909807314587353088<=v.ev ρ/\v.ev ρ<604462909807314587353088:=by
      rcases Bool.or_eq_true_iff.1 h8 with h8 |h8
      ·exact Pn h8
      ·exact SI hρ h8
     rw [e1,eW _ _ _ _ h1 h2,if_pos rfl]
    ·exact base _
   ·rename_i hib;have hib:i≠b:=by intro e; simp [e] at hib
    rw [e1,aI _ _ hib,ih]
  ·rename_i b _ _;split
   ·rename_i hc;obtain ⟨h1,h2⟩:=Bool.and_eq_true_iff.1 hc;have h1:c=5:=Nat.eq_of_beq_eq_true h1;subst h1;have h2:i<b:=by simpa [Nat.blt_eq] using h2
    rw [ih];exact (HF _ _ _ _ h2).symm
   ·exact base _
  ·exact base _
 |_=>exact base _
def BJ(R lo hi:Nat):Bool:=Nat.beq (Nat.mod (Nat.shiftRight R (Nat.mul 80 lo)) (Nat.shiftLeft 1 (Nat.mul 80 (Nat.sub (Nat.succ hi) lo)))) 0
theorem uw(j:Nat):ag 0 j=0:=by
 rw [bx];show ff (dig 0 j)=0;unfold dig;rw [Nat.zero_div,Nat.zero_mod];rfl
theorem xx{R lo hi:Nat}(h:BJ R lo hi=true){j:Int}(h1:(lo:Int)<=j)(h2:j<=hi):ag (R:Int) j=0:=by
 obtain ⟨k,rfl⟩:=Int.eq_ofNat_of_zero_le (show 0<=j by omega)
 have h:=Nat.eq_of_beq_eq_true h
 have hc:aY (R:Int) lo ((hi+1-lo:Nat):Int)=0:=by
  unfold aY
  have e:((Nat.mod (Nat.shiftRight ((R:Int)).toNat (Nat.mul 80 ((lo:Int)).toNat)) (Nat.shiftLeft 1 (Nat.mul 80 (((hi+1-lo:Nat):Int)).toNat)):Nat):Int)=((0:Nat):Int):=by
   rw [Int.toNat_natCast,Int.toNat_natCast,Int.toNat_natCast];exact congrArg _ h
  exact e
 have:=ch (R:Int) lo (hi+1-lo) (k-lo) (by omega)
 rw [hc,uw,show lo+(k-lo)=k by omega] at this
 exact this.symm
theorem uK{R lo:Nat}(h:Nat.blt R (Nat.shiftLeft 1 (Nat.mul 80 lo))=true){j:Int}(h1:(lo:Int)<=j):aD (R:Int) j 0=R:=by
 obtain ⟨k,rfl⟩:=Int.eq_ofNat_of_zero_le (show 0<=j by omega)
 have h:R<2^(80*lo):=by
  have:R<1 <<< (80*lo):=by simpa [Nat.blt_eq] using h
  rwa [Nat.shiftLeft_eq,Nat.one_mul] at this
 have hk:R<2^(80*k):=Nat.lt_of_lt_of_le h (Nat.pow_le_pow_right (by decide) (by omega))
 have h0:0<=aD (R:Int) k 0:=Int.natCast_nonneg _;have e:=gD (R:Int) 0 k;rw [Int.toNat_natCast] at e;have hd:dig R k=0:=by unfold dig; rw [Nat.div_eq_of_lt hk]
 unfold put at e;rw [hd] at e;have hr:gz 0=0:=rfl;rw [hr] at e;omega
def Ey(bd:Bd)(c:Nat)(x y z:IE):IE:=
 match Nat.beq c 0,y with
 |true,.lit (.ofNat i)=>vR bd i x
 |true,y=>
  match x,rng bd y with
  | .lit (.ofNat R),some (.ofNat lo,.ofNat hi)=>
    match BJ R lo hi with
    |true=> .lit 0
    |false=>dG c (.lit (.ofNat R)) y z
  |x,_=>dG c x y z
 |false,y=>
  match x,rng bd y,z with
  | .lit (.ofNat R),some (.ofNat lo,_),.lit (.ofNat 0)=>
    match Nat.beq c 1&&Nat.blt R (Nat.shiftLeft 1 (Nat.mul 80 lo)) with
    |true=> .lit (.ofNat R)
    |false=>dG c (.lit (.ofNat R)) y (.lit (.ofNat 0))
  |x,_,z=>dG c x y z
theorem wD{ρ:Env}{bd:Bd}(hρ:ρ.ok bd)(c:Nat)(x y z:IE):(Ey bd c x y z).ev ρ=fnI ρ c (x.ev ρ) (y.ev ρ) (z.ev ρ):=by
 unfold Ey;split
 ·rename_i i hc;have hc:=Nat.eq_of_beq_eq_true hc;subst hc;rw [M1 hρ];rfl
 ·rename_i hc _;have hc:=Nat.eq_of_beq_eq_true hc;subst hc;split
  ·rename_i R lo hi hr;split
   ·rename_i hz;obtain ⟨r1,r2⟩:=bD hρ _ _ _ hr;exact (xx hz r1 r2).symm
   ·exact cz _ _ _ _ _
  ·exact cz _ _ _ _ _
 ·split
  ·rename_i R lo _ hr;split
   ·rename_i hz;obtain ⟨h1,h2⟩:=Bool.and_eq_true_iff.1 hz;have h1:=Nat.eq_of_beq_eq_true h1;subst h1;obtain ⟨r1,r2⟩:=bD hρ _ _ _ hr;exact (uK h2 r1).symm
   ·exact cz _ _ _ _ _
  ·exact cz _ _ _ _ _
def X1(bd:Bd)(d R:Nat)(y z:IE):IE:=
 match Nat.beq d 1,z with
 |true,.lit (.ofNat 0)=>
  match rng bd y with
  |some (.ofNat lo,_)=>
   match Nat.blt R (Nat.shiftLeft 1 (Nat.mul 80 lo)) with
   |true=> .lit (.ofNat R)
   |false=> .fn d (.lit (.ofNat R)) y z
  |_=> .fn d (.lit (.ofNat R)) y z
 |_,z=>
  match Nat.beq d 2,y with
  |true,.lit (.ofNat 0)=>
   match rng bd z with
   |some (.ofNat lo,_)=>
    match Nat.blt R (Nat.shiftLeft 1 (Nat.mul 80 lo)) with
    |true=> .lit (.ofNat R)
    |false=> .fn d (.lit (.ofNat R)) (.lit (.ofNat 0)) z
   |_=> .fn d (.lit (.ofNat R)) (.lit (.ofNat 0)) z
  |_,y=> .fn d (.lit (.ofNat R)) y z
theorem HQ{R lo:Nat}(h:Nat.blt R (Nat.shiftLeft 1 (Nat.mul 80 lo))=true){j:Int}(h1:(lo:Int)<=j):aY (R:Int) 0 j=R:=by
 obtain ⟨k,rfl⟩:=Int.eq_ofNat_of_zero_le (show 0<=j by omega)
 have h:R<2^(80*lo):=by
  have:R<1 <<< (80*lo):=by simpa [Nat.blt_eq] using h
  rwa [Nat.shiftLeft_eq,Nat.one_mul] at this
 have hk:R<2^(80*k):=Nat.lt_of_lt_of_le h (Nat.pow_le_pow_right (by decide) (by omega))
 have e:=jg (R:Int) 0 k;have h0:0<=aY (R:Int) 0 k:=Int.natCast_nonneg _;rw [Int.toNat_natCast,Nat.mul_zero,Nat.pow_zero,Nat.div_one,Nat.mod_eq_of_lt hk] at e;have e0:((0:Nat):Int)=0:=rfl;rw [e0] at e;omega
theorem Vs{ρ:Env}{bd:Bd}(hρ:ρ.ok bd)(d R:Nat)(y z:IE):(X1 bd d R y z).ev ρ=fnI ρ d (R:Int) (y.ev ρ) (z.ev ρ):=by
 unfold X1;split
 ·rename_i hd;have hd:=Nat.eq_of_beq_eq_true hd;subst hd;split
  ·rename_i lo _ hr;split
   ·rename_i hz;obtain ⟨r1,r2⟩:=bD hρ _ _ _ hr;exact (uK hz r1).symm
   ·rfl
  ·rfl
 ·split
  ·rename_i hd;have hd:=Nat.eq_of_beq_eq_true hd;subst hd;split
   ·rename_i lo _ hr;split
    ·rename_i hz;obtain ⟨r1,r2⟩:=bD hρ _ _ _ hr;exact (HQ hz r1).symm
    ·rfl
   ·rfl
  ·rfl
def IP(bd:Bd)(dec:Dec)(c:Nat)(x y z:IE):IE:=
 match Ey bd c x y z with
 | .fn d (.lit (.ofNat R)) y' z'=>
   match Nat.beq d 0,rng (bdN bd dec) y' with
   |true,some (.ofNat lo,.ofNat hi)=>
    match BJ R lo hi with
    |true=> .lit 0
    |false=> .fn d (.lit (.ofNat R)) y' z'
   |_,_=>X1 (bdN bd dec) d R y' z'
 |e=>e
theorem MA{ρ:Env}{bd:Bd}(hρ:ρ.ok bd){dec:Dec}(hd:dec.holds ρ)(c:Nat)(x y z:IE):(IP bd dec c x y z).ev ρ=fnI ρ c (x.ev ρ) (y.ev ρ) (z.ev ρ):=by
 rw [<- wD hρ];unfold IP;split
 ·rename_i d R y' z' he;rw [he];split
  ·rename_i lo hi hc hr;have hc:=Nat.eq_of_beq_eq_true hc;subst hc;split
   ·rename_i hz;obtain ⟨r1,r2⟩:=bD (Hn hρ hd) _ _ _ hr;exact (xx hz r1 r2).symm
   ·rfl
  ·exact Vs (Hn hρ hd) _ _ _ _
 ·rfl
def Ho(dec:Dec)(i:Nat):IE:=
 match Dec.num (.var i) dec with
 |some n=> .lit n
 |none=> .var i
theorem Ny{ρ:Env}{dec:Dec}(hd:dec.holds ρ)(i:Nat):(Ho dec i).ev ρ=ρ.i i:=by
 unfold Ho;split
 ·rename_i n h;exact (Dec.PY (.var i) hd h).symm
 ·rfl
def vH(bd:Bd)(a:IE):IE:=
 match rng bd a with
 |some (.ofNat _,_)=>xI bd a (.lit 256)
 |_=> .wrap .u8 a
theorem yW{ρ:Env}{bd:Bd}(hρ:ρ.ok bd)(a:IE):(vH bd a).ev ρ=IntKind.u8.wrap (a.ev ρ):=by
 unfold vH;split
 ·rename_i n m hr;obtain ⟨r1,_⟩:=bD hρ a _ _ hr;have h0:0<=a.ev ρ:=Int.le_trans (Int.natCast_nonneg n) r1;rw [tY hρ,dM];show (a.ev ρ).tmod 256=a.ev ρ % 256;exact Int.tmod_eq_emod_of_nonneg h0
 ·rfl
def Bv(bd:Bd)(k:IntKind)(a:IE):IE:=
 match mkWrap bd k a with
 | .wrap .u8 (.quo x y)=>vH bd (.quo x y)
 | .wrap .u8 (.wrap j x)=>vH bd (.wrap j x)
 |e=>e
theorem Gw{ρ:Env}{bd:Bd}(hρ:ρ.ok bd)(k:IntKind)(a:IE):(Bv bd k a).ev ρ=k.wrap (a.ev ρ):=by
 rw [<- f8 hρ];unfold Bv;split
 ·rename_i x y h;rw [h];exact yW hρ _
 ·rename_i j x h;rw [h];exact yW hρ _
 ·rfl
def IE.nrm(bd:Bd)(dec:Dec):IE->IE
 | .lit n=> .lit n
 | .var i=>Ho dec i
 | .add a b=>HN bd (a.nrm bd dec) (b.nrm bd dec)
 | .sub a b=>mkSub (a.nrm bd dec) (b.nrm bd dec)
 | .mul a b=>mkMul (a.nrm bd dec) (b.nrm bd dec)
 | .wrap k a=>Bv bd k (a.nrm bd dec)
 | .bits op k a b=>Dm bd op k (a.nrm bd dec) (b.nrm bd dec)
 | .quo a b=>Jr bd (a.nrm bd dec) (b.nrm bd dec)
 | .rem a b=>xI bd (a.nrm bd dec) (b.nrm bd dec)
 | .shl k a b=>HD bd k (a.nrm bd dec) (b.nrm bd dec)
 | .shr k a b=>Ic bd k (a.nrm bd dec) (b.nrm bd dec)
 | .fn c x y z=>IP bd dec c (x.nrm bd dec) (y.nrm bd dec) (z.nrm bd dec)
 | .sel s a b x y=>GV bd dec s (a.nrm bd dec) (b.nrm bd dec) (x.nrm bd dec) (y.nrm bd dec)
theorem IE.bX{ρ:Env}{bd:Bd}(hρ:ρ.ok bd){dec:Dec}(hd:dec.holds ρ)(e:IE):(e.nrm bd dec).ev ρ=e.ev ρ:=by
 induction e with
 |lit n=>rfl
 |var i=>exact Ny hd i
 |add a b iha ihb=>simp only [IE.nrm,Ar hρ,IE.ev,iha,ihb]
 |sub a b iha ihb=>simp only [IE.nrm,na,IE.ev,iha,ihb]
 |mul a b iha ihb=>simp only [IE.nrm,fH,IE.ev,iha,ihb]
 |wrap k a iha=>simp only [IE.nrm,Gw hρ,IE.ev,iha]
 |bits op k a b iha ihb=>simp only [IE.nrm,Jo hρ,IE.ev,iha,ihb]
 |quo a b iha ihb=>simp only [IE.nrm,Nh hρ,IE.ev,iha,ihb]
 |rem a b iha ihb=>simp only [IE.nrm,tY hρ,IE.ev,iha,ihb]
 |shl k a b iha ihb=>simp only [IE.nrm,L8 hρ,IE.ev,iha,ihb]
 |shr k a b iha ihb=>simp only [IE.nrm,L7 hρ,IE.ev,iha,ihb]
 |fn c x y z ihx ihy ihz=>simp only [IE.nrm,MA hρ hd,IE.ev,ihx,ihy,ihz]
 |sel s a b x y iha ihb ihx ihy=>simp only [IE.nrm,Mw hρ hd,IE.ev,iha,ihb,ihx,ihy]
def BE.nrm(bd:Bd)(dec:Dec):BE->BE
 | .lit b=> .lit b
 | .var i=> .var i
 | .eq a b=>F9 bd (a.nrm bd dec) (b.nrm bd dec)
 | .lt a b=>IK bd (a.nrm bd dec) (b.nrm bd dec)
 | .not t=> .not (t.nrm bd dec)
theorem BE.bX{ρ:Env}{bd:Bd}(hρ:ρ.ok bd){dec:Dec}(hd:dec.holds ρ)(b:BE):(b.nrm bd dec).ev ρ=b.ev ρ:=by
 induction b with
 |lit v=>rfl
 |var i=>rfl
 |eq a b=>simp only [BE.nrm,DL hρ,BE.ev,IE.bX hρ hd]
 |lt a b=>simp only [BE.nrm,MT hρ,BE.ev,IE.bX hρ hd]
 |not t ih=>simp only [BE.nrm,BE.ev,ih]
def IE.choice:IE->Option BE
 | .lit _=>none
 | .var _=>none
 | .add a b=>match a.choice with |some t=>some t |none=>b.choice
 | .sub a b=>match a.choice with |some t=>some t |none=>b.choice
 | .mul a b=>match a.choice with |some t=>some t |none=>b.choice
 | .wrap _ a=>a.choice
 | .bits _ _ a b=>match a.choice with |some t=>some t |none=>b.choice
 | .quo a b=>match a.choice with |some t=>some t |none=>b.choice
 | .rem a b=>match a.choice with |some t=>some t |none=>b.choice
 | .shl _ a b=>match a.choice with |some t=>some t |none=>b.choice
 | .shr _ a b=>match a.choice with |some t=>some t |none=>b.choice
 | .fn _ x y z=>match x.choice with
   |some t=>some t
   |none=>match y.choice with
    |some t=>some t
    |none=>z.choice
 | .sel s a b _ _=>
   match a.choice with
   |some t=>some t
   |none=>
    match b.choice with
    |some t=>some t
    |none=>some (match s with |true=> .lt a b |false=> .eq a b)
def BE.choice:BE->Option BE
 | .lit _=>none
 | .var _=>none
 | .eq a b=>match a.choice with |some t=>some t |none=>b.choice
 | .lt a b=>match a.choice with |some t=>some t |none=>b.choice
 | .not t=>t.choice
def js(bd:Bd)(e:IE)(d:Dec):Dec:=
 match e with
 | .lit _=>d
 |_=>
  match rng bd e with
  |some (l,h)=>(.lt e (.lit l),false)::(.lt (.lit h) e,false)::d
  |none=>d
def facts(bd:Bd)(t:BE)(d:Dec):Dec:=
 match t with
 | .eq a b=>js bd a (js bd b d)
 | .lt a b=>js bd a (js bd b d)
 |_=>d
theorem jh{ρ:Env}{bd:Bd}(hρ:ρ.ok bd)(e:IE){d:Dec}(hd:d.holds ρ):(js bd e d).holds ρ:=by
 unfold js;split
 ·exact hd
 ·split
  ·rename_i l h hr;have hb:=bD hρ e l h hr;intro p hp
   rcases List.mem_cons.1 hp with rfl |hp
   ·show decide (e.ev ρ<(IE.lit l).ev ρ)=false;exact decide_eq_false (by show ¬(e.ev ρ<l); omega)
   ·rcases List.mem_cons.1 hp with rfl |hp
    ·show decide ((IE.lit h).ev ρ<e.ev ρ)=false;exact decide_eq_false (by show ¬(h<e.ev ρ); omega)
    ·exact hd p hp
  ·exact hd
theorem jz{ρ:Env}{bd:Bd}(hρ:ρ.ok bd)(t:BE){d:Dec}(hd:d.holds ρ):(facts bd t d).holds ρ:=by
 unfold facts;split
 ·exact jh hρ _ (jh hρ _ hd)
 ·exact jh hρ _ (jh hρ _ hd)
 ·exact hd
def Hj(bd:Bd)(a:IE)(s:Int):Option Int:=
 match aK s 0 with
 |true=>some 0
 |false=>
  match rng bd a with
  |some (lo,hi)=>
   match cC s 0 with
   |true=>some (s*hi)
   |false=>some (s*lo)
  |none=>none
theorem M8{ρ:Env}{bd:Bd}(hρ:ρ.ok bd){a:IE}{s m:Int}(h:Hj bd a s=some m):m<=s*a.ev ρ:=by
 unfold Hj at h;split at h
 ·rename_i hs;cases h;rw [ar hs,Int.zero_mul];exact Int.le_refl _
 ·split at h
  ·rename_i lo hi hr;obtain ⟨q1,q2⟩:=bD hρ _ _ _ hr;split at h
   ·rename_i hs;cases h;rw [bj] at hs;exact Int.mul_le_mul_of_nonpos_left (Int.le_of_lt (of_decide_eq_true hs)) q2
   ·rename_i hs;cases h;rw [bj] at hs;exact Int.mul_le_mul_of_nonneg_left q1 (Int.not_lt.1 (of_decide_eq_false hs))
  ·cases h
def Ku(bd:Bd):Lin->Option Int
 | []=>some 0
 | (a,s)::l=>
   match Hj bd a s with
   |some x=>
    match Ku bd l with
    |some y=>some (x+y)
    |none=>none
   |none=>none
theorem Qu{ρ:Env}{bd:Bd}(hρ:ρ.ok bd): ∀ {l:Lin} {m:Int},Ku bd l=some m->m<=aO ρ l:=by
 intro l
 induction l with
 |nil=>intro m h; cases h; exact Int.le_refl _
 |cons p l ih=>
  intro m h;obtain ⟨a,s⟩:=p;unfold Ku at h;split at h
  ·rename_i x hx;split at h
   ·rename_i y hy;cases h;have q1:=M8 hρ hx;have q2:=ih hy;show x+y<=s*a.ev ρ+aO ρ l;omega
   ·cases h
  ·cases h
def geK(bd:Bd)(a b:IE)(k:Int):Bool:=
 match eM b (-1) (eM a 1 [] 0).1 (eM a 1 [] 0).2 with
 | (l,c)=>
   match Ku bd l with
   |some m=>aL k (m+c)
   |none=>false
theorem xA{ρ:Env}{bd:Bd}(hρ:ρ.ok bd){a b:IE}{k:Int}(h:geK bd a b k=true):k<=a.ev ρ-b.ev ρ:=by
 unfold geK at h;split at h;rename_i l c hl;split at h
 ·rename_i m hm;rw [ay] at h;have h:=of_decide_eq_true h;have h0:=Qu hρ hm;have h1:=vA ρ b (-1) (eM a 1 [] 0).1 (eM a 1 [] 0).2;have h2:=vA ρ a 1 [] 0;rw [hl] at h1;have h1:aO ρ l+c= -1*b.ev ρ+(aO ρ (eM a 1 [] 0).1+(eM a 1 [] 0).2):=h1;rw [h2] at h1;have h3:aO ρ []=0:=rfl;rw [h3] at h1;omega
 ·cases h
def BG(bd:Bd)(a b c d:IE):Bool->Option Bool
 |true=>
  match geK bd (.add b c) (.add a d) 0 with
  |true=>some true
  |false=>
   match geK bd (.add a c) (.add b d) (-1) with
   |true=>some false
   |false=>none
 |false=>
  match geK bd (.add b d) (.add a c) 1 with
  |true=>some true
  |false=>
   match geK bd (.add a d) (.add b c) 0 with
   |true=>some false
   |false=>none
theorem Ng{ρ:Env}{bd:Bd}(hρ:ρ.ok bd){a b c d:IE}{v u:Bool}(h:BG bd a b c d v=some u)(hv:(BE.lt c d).ev ρ=v):(BE.lt a b).ev ρ=u:=by
 have hv:decide (c.ev ρ<d.ev ρ)=v:=hv;show decide (a.ev ρ<b.ev ρ)=u;have e: ∀x y:IE,(IE.add x y).ev ρ=x.ev ρ+y.ev ρ:=fun _ _=>rfl
 cases v
 ·have hv:=of_decide_eq_false hv;unfold BG at h;split at h
  ·rename_i _ _ h1;cases h1
  ·split at h
   ·rename_i h2;cases h;have:=xA hρ h2;rw [e,e] at this;exact decide_eq_true (by omega)
   ·split at h
    ·rename_i h2;cases h;have:=xA hρ h2;rw [e,e] at this;exact decide_eq_false (by omega)
    ·cases h
 ·have hv:=of_decide_eq_true hv;unfold BG at h;split at h
  ·split at h
   ·rename_i h2;cases h;have:=xA hρ h2;rw [e,e] at this;exact decide_eq_true (by omega)
   ·split at h
    ·rename_i h2;cases h;have:=xA hρ h2;rw [e,e] at this;exact decide_eq_false (by omega)
    ·cases h
  ·rename_i _ _ h1;cases h1
def lu(bd:Bd)(a b:IE):Dec->Option Bool
 | []=>none
 | (.lt c d,v)::l=>
   match BG bd a b c d v with
   |some u=>some u
   |none=>lu bd a b l
 |_::l=>lu bd a b l
theorem fW{ρ:Env}{bd:Bd}(hρ:ρ.ok bd){a b:IE}{u:Bool}: ∀(dec:Dec),dec.holds ρ->lu bd a b dec=some u->(BE.lt a b).ev ρ=u
 | [],_,h=>by cases h
 | (.lt c d,v)::l,hd,h=>by
   unfold lu at h;split at h
   ·rename_i w hw;cases h;exact Ng hρ hw (hd _ (List.mem_cons_self ..))
   ·exact fW hρ l (fun p hp=>hd p (List.mem_cons_of_mem _ hp)) h
 | (.eq _ _,_)::l,hd,h=>fW hρ l (fun p hp=>hd p (List.mem_cons_of_mem _ hp)) h
 | (.lit _,_)::l,hd,h=>fW hρ l (fun p hp=>hd p (List.mem_cons_of_mem _ hp)) h
 | (.not _,_)::l,hd,h=>fW hρ l (fun p hp=>hd p (List.mem_cons_of_mem _ hp)) h
 | (.var _,_)::l,hd,h=>fW hρ l (fun p hp=>hd p (List.mem_cons_of_mem _ hp)) h
def QE(bd:Bd)(x y:IE):Option BE:=
 match x with
 | .quo a (.lit (.ofNat (m+1)))=>
   match kJ bd a with
   |true=>some (mkLt bd a (mkMul y (.lit (.ofNat (m+1)))))
   |false=>none
 |_=>none
theorem Rz{ρ:Env}{bd:Bd}(hρ:ρ.ok bd){x y:IE}{c:BE}(h:QE bd x y=some c):c.ev ρ=(BE.lt x y).ev ρ:=by
 unfold QE at h;split at h
 ·rename_i a m;split at h
  ·rename_i h0;cases h;rw [cK hρ,fH];have h0:=dT hρ h0;show decide (a.ev ρ<y.ev ρ*((m+1:Nat):Int))=decide ((a.ev ρ).tdiv ((m+1:Nat):Int)<y.ev ρ);rw [Int.tdiv_eq_ediv_of_nonneg h0]
   congr 1
   apply propext;have hm:(0:Int)<((m+1:Nat):Int):=by omega
   exact (Int.ediv_lt_iff_lt_mul hm).symm
  ·cases h
 ·cases h
def qV(bd:Bd)(dec:Dec)(b:BE):Option Bool:=
 match settle dec b with
 |some v=>some v
 |none=>
  match b with
  | .lt x y=>
    match lu bd x y dec with
    |some v=>some v
    |none=>
     match QE bd x y with
     |some c=>settle dec c
     |none=>none
  | .eq x y=>
    match lu bd x y dec with
    |some true=>some false
    |some false=>
     match lu bd y x dec with
     |some true=>some false
     |some false=>some true
     |none=>none
    |none=>none
  |_=>none
theorem pK{ρ:Env}{bd:Bd}(hρ:ρ.ok bd){dec:Dec}(hd:dec.holds ρ)(b:BE)(v:Bool)(h:qV bd dec b=some v):b.ev ρ=v:=by
 unfold qV at h;split at h
 ·rename_i u hu;cases h;exact aq hd _ _ hu
 ·split at h
  ·split at h
   ·rename_i hu;cases h;exact fW hρ dec hd hu
   ·split at h
    ·rename_i c hc;rw [<- Rz hρ hc];exact aq hd _ _ h
    ·cases h
  ·rename_i x y _;have lt: ∀ {x y:IE} {u:Bool},lu bd x y dec=some u->decide (x.ev ρ<y.ev ρ)=u:=fun h=>fW hρ dec hd h
   split at h
   ·rename_i h1;cases h;have h1:=of_decide_eq_true (lt h1);exact decide_eq_false (by omega)
   ·rename_i h1;have h1:=of_decide_eq_false (lt h1);split at h
    ·rename_i h2;cases h;have h2:=of_decide_eq_true (lt h2);exact decide_eq_false (by omega)
    ·rename_i h2;cases h;have h2:=of_decide_eq_false (lt h2);exact decide_eq_true (by omega)
    ·cases h
   ·cases h
  ·cases h
def lV(bd:Bd):Nat->Dec->BE->Option Bool
 |0,dec,b=>qV bd dec (b.nrm bd dec)
 |k+1,dec,b=>
  match b.nrm bd dec with
  | .lit v=>some v
  |b'=>
   match qV bd dec b' with
   |some v=>some v
   |none=>
    match b'.choice with
    |none=>none
    |some t=>
     match qV bd (facts bd t dec) t with
     |some v=>lV bd k ((t,v)::facts bd t dec) b'
     |none=>
      match lV bd k ((t,true)::facts bd t dec) b' with
      |some true=>
       match lV bd k ((t,false)::facts bd t dec) b' with
       |some true=>some true
       |_=>none
      |some false=>
       match lV bd k ((t,false)::facts bd t dec) b' with
       |some false=>some false
       |_=>none
      |none=>none
theorem I0{ρ:Env}{dec:Dec}(h:dec.holds ρ){t:BE}{v:Bool}(ht:t.ev ρ=v):Dec.holds ρ ((t,v)::dec):=by
 intro p hp
 rcases List.mem_cons.1 hp with rfl |hp
 ·exact ht
 ·exact h p hp
theorem LV{ρ:Env}{bd:Bd}(hρ:ρ.ok bd): ∀(k:Nat) (dec:Dec) (b:BE) (v:Bool),dec.holds ρ->lV bd k dec b=some v->b.ev ρ=v:=by
 intro k
 induction k with
 |zero=>
  intro dec b v hd h;rw [<- BE.bX hρ hd b];exact pK hρ hd _ _ h
 |succ k ih=>
  intro dec b v hd h;rw [<- BE.bX hρ hd b];unfold lV at h;split at h
  ·rename_i u hu;cases h;rw [hu];rfl
  ·generalize b.nrm bd dec=b' at h ⊢;split at h
   ·rename_i u hu;cases h;exact pK hρ hd _ _ hu
   ·split at h
    ·cases h
    ·rename_i t _;have hf:=jz (bd:=bd) hρ t hd;split at h
     ·rename_i u hu;exact ih _ _ _ (I0 hf (pK hρ hf _ _ hu)) h
     ·have both: ∀v,lV bd k ((t,true)::facts bd t dec) b'=some v->lV bd k ((t,false)::facts bd t dec) b'=some v->b'.ev ρ=v:=by
       intro v h1 h2;cases ht:t.ev ρ
       ·exact ih _ _ _ (I0 hf ht) h2
       ·exact ih _ _ _ (I0 hf ht) h1
      split at h
      ·rename_i h1;split at h
       ·rename_i h2;cases h;exact both true h1 h2
       ·cases h
      ·rename_i h1;split at h
       ·rename_i h2;cases h;exact both false h1 h2
       ·cases h
      ·cases h
def prove(bd:Bd)(k:Nat)(dec:Dec)(b:BE):Option Bool:=
 match settle dec b with
 |some v=>some v
 |none=>lV bd k dec b
theorem cU{ρ:Env}{bd:Bd}(hρ:ρ.ok bd)(k:Nat)(dec:Dec)(b:BE)(v:Bool)(hd:dec.holds ρ)(h:prove bd k dec b=some v):b.ev ρ=v:=by
 unfold prove at h;split at h
 ·rename_i u hu;cases h;exact aq hd _ _ hu
 ·exact LV hρ k dec b v hd h
end
end Go.Sx
