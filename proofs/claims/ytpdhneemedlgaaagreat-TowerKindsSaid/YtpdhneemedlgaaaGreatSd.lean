/- Part Sd. No condition. -/
import Derived.Test.YtpdhneemedlgaaaGreatSc
import Derived.LoopN
import Derived.Defers
import Derived.Scope
import Derived.Orders
import Derived.ProofKit
import Derived.OpenShut
import Derived.SizedLaws
set_option linter.all false
namespace Go.Sx
open Go.RowKit (Below)
noncomputable section
inductive APlace where
 |val (v:ab)
 |var (i o:Nat)
def UO(ρ:Env)(f:Ren):APlace->Place->Prop
 | .val v,.val v'=>ai ρ f v v'
 | .var i o,.var a=> ∃L,f i=some L/\a=⟨L.blk,L.base+o,none⟩
 |_,_=>False
def Eh(C:Ctx)(h:T ah)(t:TypeId):APlace->Option ab
 | .val v=>some v
 | .var i o=>yR C h t (.ptr (some (i,o)))
theorem rC{C:Ctx}{P:Program}{ρ:Env}(hC:C.Ok P ρ){B:Nat->Prop}{W w:World}{f:Ren}{h:T ah}(hr:au ρ B W f h w){t:TypeId}{x:APlace}{x':Place}{v:ab}(hx:UO ρ f x x')(hv:Eh C h t x=some v):
 ∃v',(x'.get t).run P w= .ok v' w/\ai ρ f v v':=by
 cases x with
 |val a=>cases x' with
  |val b=>cases hv; exact ⟨b,rfl,hx⟩
  |var b=>exact hx.elim
 |var i o=>cases x' with
  |val b=>exact hx.elim
  |var b=>
   obtain ⟨L,hf,rfl⟩:=hx;obtain ⟨v',h1,h2⟩:=rh hC hr (.ptr hf) hv;exact ⟨v',h1,h2⟩
def nS(C:Ctx)(h:T ah):List FieldStep->TypeId->APlace->Option (TypeId×APlace)
 | [],t,x=>some (t,x)
 |s::rest,t,x=>
  match C.und s.struct with
  |some (.struct fs)=>
   match fs[s.index]? with
   |none=>none
   |some fd=>
    match C.size fd.type with
    |some (_+1)=>
     match s.deref with
     |true=>
      match Eh C h t x with
      |some (.ptr (some (i,o)))=>nS C h rest fd.type (.var i (o+fd.offset))
      |_=>none
     |false=>
      match x with
      | .var i o=>nS C h rest fd.type (.var i (o+fd.offset))
      | .val (.agg cs)=>
        match sw C fd.type cs fd.offset with
        |some v=>nS C h rest fd.type (.val v)
        |none=>none
      |_=>none
    |_=>none
  |_=>none
theorem nh{C:Ctx}{P:Program}{ρ:Env}(hC:C.Ok P ρ){fd:Field}{n:Nat}(hn:C.size fd.type=some (n+1))(b o:Nat)(w:World):(fieldPlace ⟨b,o,none⟩ fd).run P w= .ok ⟨b,o+fd.offset,none⟩ w:=by
 simp only [fieldPlace,Sem.run_bind,Ctx.bh hC hn,Result.andThen_ok,Nat.succ_ne_zero,if_false,Sem.run_pure,bG]
theorem H0{C:Ctx}{P:Program}{ρ:Env}(hC:C.Ok P ρ){B:Nat->Prop}{W w:World}{f:Ren}{h:T ah}(hr:au ρ B W f h w): ∀(l:List FieldStep) (t:TypeId) (x:APlace) (x':Place) (r:TypeId×APlace),UO ρ f x x'->nS C h l t x=some r->
 ∃y',(follow l t x').run P w= .ok (r.1,y') w/\UO ρ f r.2 y':=by
 intro l
 induction l with
 |nil=>intro t x x' r hx hv; cases hv; exact ⟨x',rfl,hx⟩
 |cons s rest ih=>
  intro t x x' r hx hv;simp only [nS] at hv;split at hv
  ·rename_i fs hu;have hd:=Ctx.ax hC hu;split at hv
   ·cases hv
   ·rename_i fd hfd;split at hv
    ·rename_i n hn;split at hv
     ·rename_i hdr;split at hv
      ·rename_i i o hg;obtain ⟨v',h1,h2⟩:=rC (P:=P) hC hr hx hg;cases h2; rename_i L hf;obtain ⟨y',h3,h4⟩:=ih fd.type (.var i (o+fd.offset)) (.var ⟨L.blk,L.base+(o+fd.offset),none⟩) r ⟨L,hf,rfl⟩ hv;refine ⟨y',?_,h4⟩;simp only [follow,Sem.run_bind,run_underlying hd,Result.andThen_ok,hfd,hdr,if_true,h1,asAddr,Sem.run_pure,nh hC hn,Nat.add_assoc];exact h3
      ·cases hv
     ·rename_i hdr;split at hv
      ·rename_i i o;cases x' with
       |val b=>exact hx.elim
       |var b=>
        obtain ⟨L,hf,rfl⟩:=hx;obtain ⟨y',h3,h4⟩:=ih fd.type (.var i (o+fd.offset)) (.var ⟨L.blk,L.base+(o+fd.offset),none⟩) r ⟨L,hf,rfl⟩ hv;refine ⟨y',?_,h4⟩;simp only [follow,Sem.run_bind,run_underlying hd,Result.andThen_ok,hfd,hdr,Bool.false_eq_true,if_false,nh hC hn,Nat.add_assoc];exact h3
      ·rename_i cs;split at hv
       ·rename_i v hp;cases x' with
        |var b=>exact hx.elim
        |val b=>
         have hx':ai ρ f (.agg cs) b:=hx;cases hx'; rename_i a' k1 k2;obtain ⟨v',q1,q2⟩:=jK hC (⟨k1,k2⟩:az ρ f cs a') hp w;obtain ⟨y',h3,h4⟩:=ih fd.type (.val v) (.val v') r q2 hv;refine ⟨y',?_,h4⟩;simp only [follow,Sem.run_bind,run_underlying hd,Result.andThen_ok,hfd,hdr,Bool.false_eq_true,if_false,q1];exact h3
       ·cases hv
      ·cases hv
    ·cases hv
  ·cases hv
def GZ:TypeDesc->Option TypeId
 | .pointer e=>some e
 |_=>none
def tn(C:Ctx)(h:T ah)(xt:TypeId)(x:APlace)(ptr:Bool):Option ab:=
 match C.und xt with
 |none=>none
 |some d=>
  match GZ d,ptr with
  |some _,true=>Eh C h xt x
  |some e,false=>
   match Eh C h xt x with
   |some (.ptr (some a))=>yR C h e (.ptr (some a))
   |_=>none
  |none,true=>
   match x with
   | .var i o=>some (.ptr (some (i,o)))
   | .val _=>none
  |none,false=>Eh C h xt x
theorem CL{C:Ctx}{P:Program}{ρ:Env}(hC:C.Ok P ρ){B:Nat->Prop}{W w:World}{f:Ren}{h:T ah}(hr:au ρ B W f h w){xt:TypeId}{x:APlace}{x':Place}{ptr:Bool}{v:ab}(hx:UO ρ f x x')(hv:tn C h xt x ptr=some v)(wr:Option String):
 ∃v',(receiverAt xt x' ptr wr).run P w= .ok v' w/\ai ρ f v v':=by
 unfold tn at hv;split at hv
 ·cases hv
 ·rename_i d hu;have hd:=Ctx.ax hC hu;split at hv
  ·rename_i e he;have:d= .pointer e:=by cases d<;>simp [GZ] at he; rw [he]
   subst this;obtain ⟨v',h1,h2⟩:=rC (P:=P) hC hr hx hv;exact ⟨v',by simp only [receiverAt,Sem.run_bind,run_underlying hd,Result.andThen_ok,h1],h2⟩
  ·rename_i e he;have:d= .pointer e:=by cases d<;>simp [GZ] at he; rw [he]
   subst this;split at hv
   ·rename_i a hg;obtain ⟨i,o⟩:=a;obtain ⟨v',h1,h2⟩:=rC (P:=P) hC hr hx hg;cases h2; rename_i L hf;obtain ⟨v'',h3,h4⟩:=rh hC hr (.ptr hf) hv;have h3':(loadVar e ⟨L.blk,L.base+o,none⟩).run P w= .ok v'' w:=h3;refine ⟨v'',?_,h4⟩;cases wr with
    |none=>simp only [receiverAt,Sem.run_bind,run_underlying hd,Result.andThen_ok,h1,Sem.run_pure,asAddr,h3']
    |some nm=>
     have hw:(Builtin.ssaWrapNilChk_ #[xt] xt #[.pointer (some ⟨L.blk,L.base+o,none⟩),strVal "" ,strVal nm]).run P w= .ok (.pointer (some ⟨L.blk,L.base+o,none⟩)) w:=rfl;simp only [receiverAt,Sem.run_bind,run_underlying hd,Result.andThen_ok,h1,hw,Sem.run_pure,asAddr,h3']
   ·cases hv
  ·rename_i hn;split at hv
   ·rename_i i o;cases hv;cases x' with
    |val b=>exact hx.elim
    |var b=>
     obtain ⟨L,hf,rfl⟩:=hx;refine ⟨.pointer (some ⟨L.blk,L.base+o,none⟩),?_,.ptr hf⟩;simp only [receiverAt,Sem.run_bind,run_underlying hd,Result.andThen_ok];cases d<;>first |rfl | (exfalso; cases hn; done)
   ·cases hv
  ·rename_i hn;obtain ⟨v',h1,h2⟩:=rC (P:=P) hC hr hx hv;refine ⟨v',?_,h2⟩;simp only [receiverAt,Sem.run_bind,run_underlying hd,Result.andThen_ok];cases d<;>first |exact h1 | (exfalso; cases hn; done)
def vC(C:Ctx)(h:T ah)(t:TypeId)(v:ab)(name:String):Option (FuncId×ab):=
 match C.ty.get t with
 |none=>none
 |some i=>
  match i.methods.find? (·.name==name) with
  |none=>none
  |some m=>
   match nS C h m.path.toList t (.val v) with
   |none=>none
   |some (xt,x)=>
    match m.func with
    |none=>none
    |some (f,ptr)=>
     match tn C h xt x ptr with
     |some r=>some (f,r)
     |none=>none
theorem vP{C:Ctx}{P:Program}{ρ:Env}(hC:C.Ok P ρ){B:Nat->Prop}{W w:World}{f:Ren}{h:T ah}(hr:au ρ B W f h w){t:TypeId}{v:ab}{v':Value}{name:String}{r:FuncId×ab}(hx:ai ρ f v v')(hv:vC C h t v name=some r)(n:Nat):
 ∃r',(method (n+1) t v' name).run P w= .ok (r.1,r') w/\ai ρ f r.2 r':=by
 unfold vC at hv;split at hv
 ·cases hv
 ·rename_i i hi;have hti:=hC.ty _ _ hi;split at hv
  ·cases hv
  ·rename_i m hm;split at hv
   ·cases hv
   ·rename_i xt x hf;obtain ⟨y',h1,h2⟩:=H0 (P:=P) hC hr m.path.toList t (.val v) (.val v') _ hx hf;split at hv
    ·cases hv
    ·rename_i fn ptr hfn;split at hv
     ·rename_i rr hrr;cases hv;obtain ⟨r',h3,h4⟩:=CL (P:=P) hC hr h2 hrr (if m.path.isEmpty then some ((name.splitOn "." ).getLastD name) else none)
      refine ⟨r',?_,h4⟩;simp only [method,typeInfo,Sem.run_bind,run_program,Result.andThen_ok,hti,Sem.run_pure,hm,h1,hfn,h3]
     ·cases hv
def wi(fn:Func):Bool:=fn.body.isSome&& !(fn.name== "runtime.NumGoroutine" )
theorem l4{P:Program}{w:World}{g:FuncId}{fn:Func}(hf:P.funcs[g]? =some fn)(hg:wi fn=true)(args:Array Value):(callFunc g args).run P w= .ok (.enter g args) w:=by
 simp only [wi,Bool.and_eq_true,Bool.not_eq_true'] at hg
 have hb:fn.body.isNone=false:=by
  have:=hg.1;cases hh:fn.body<;>simp [hh] at this ⊢
 simp only [callFunc,Sem.run_bind,run_program,Result.andThen_ok,hf,hg.2,Bool.false_eq_true,if_false,hb,Sem.run_pure]
def oC(C:Ctx)(h:T ah)(aev:Operand->Option ab)(c:Call):Option (FuncId×List ab):=
 match evs aev c.args.toList with
 |none=>none
 |some args=>
  match c.callee with
  | .value x=>
    match aev x with
    |some (.func (.func g) first capt)=>some (g,first++args++capt)
    |some (.func (.method name) [.iface t v] [])=>
     match vC C h t v name with
     |some (g,r)=>some (g,r::args)
     |none=>none
    |_=>none
  | .invoke x name=>
    match aev x with
    |some (.iface t v)=>
     match vC C h t v name with
     |some (g,r)=>some (g,r::args)
     |none=>none
    |_=>none
  | .builtin _=>none
theorem az.app{ρ:Env}{f:Ren}{l m:List ab}{a b:Array Value}(h:az ρ f l a)(h':az ρ f m b):az ρ f (l++m) (a++b):=by
 have:=az.append (a:=a.toList) (b:=b.toList) (by simpa using h) (by simpa using h')
 have e:(a.toList++b.toList).toArray=a++b:=by apply Array.ext'; simp
 rwa [e] at this
theorem az.aaa{ρ:Env}{f:Ren}{x:ab}{x':Value}{m:List ab}{b:Array Value}(h:ai ρ f x x')(h':az ρ f m b):az ρ f (x::m) (#[x']++b):=by
 have:=az.cons h (l:=m) (a:=b.toList) (by simpa using h')
 have e:(x'::b.toList).toArray= #[x']++b:=by apply Array.ext'; simp
 rwa [e] at this
theorem zF(x:Value)(a:Array Value):(#[x]++a)[0]? =some x:=by
 rw [Array.getElem?_append_left (by simp)]
 rfl
theorem uC(x:Value)(a:Array Value):(#[x]++a).extract 1 (#[x]++a).size=a:=by
 apply Array.ext';simp
theorem HI{C:Ctx}{P:Program}{ρ:Env}(hC:C.Ok P ρ){B:Nat->Prop}{W w:World}{f:Ren}{h:T ah}(hr:au ρ B W f h w){aev:Operand->Option ab}{ev:Operand->Value}(he:iN ρ f aev ev){o:Oper}{c:Call}(ho:o.op= .call c){g:FuncId}{args:List ab}(hv:oC C h aev c=some (g,args))
 {fn:Func} (hf:P.funcs[g]? =some fn) (hg:wi fn=true): ∃args',(execOp ev o).run P w= .ok (.enter g args') w/\az ρ f args args':=by
 unfold oC at hv;have ex: ∀n,execOp ev o=n->execOp ev o=n:=fun _ h=>h
 split at hv
 ·cases hv
 ·rename_i as has;have hargs:=CF he has;split at hv
  ·rename_i x hc;split at hv
   ·rename_i g' first capt hx
    simp only [Option.some.injEq,Prod.mk.injEq] at hv;obtain ⟨rfl,rfl⟩:=hv;have hxv:=he _ _ hx;generalize hx':ev x=x' at hxv;cases hxv; rename_i a' b' k1 k2 k3 k4;refine ⟨a'++c.args.map ev++b',?_,az.app (az.app ⟨k1,k2⟩ hargs) ⟨k3,k4⟩⟩;unfold execOp;simp only [ho,resolve,hc,hx',Deferred.ofValue,Sem.run_bind,Sem.run_pure,Result.andThen_ok,invoke,l4 hf hg]
   ·rename_i name t v hx;split at hv
    ·rename_i g' r hm;simp only [Option.some.injEq,Prod.mk.injEq] at hv;obtain ⟨rfl,rfl⟩:=hv;have hxv:=he _ _ hx;generalize hx':ev x=x' at hxv;cases hxv; rename_i a' b' k1 k2 k3 k4
     obtain ⟨iv,hiv⟩: ∃iv,a'= #[iv]:=by
      have:a'.size=1:=by simpa using k1
      obtain ⟨l⟩:=a'
      match l,this with
      | [y],_=>exact ⟨y,rfl⟩
     subst hiv;have hb':b'= #[]:=Array.eq_empty_of_size_eq_zero (by simpa using k3)
     subst hb';have hif:=k2 0 (.iface t v) _ (by simp) (by simp:(#[iv]:Array Value)[0]? =some iv)
     cases hif; rename_i v' hv';obtain ⟨r',h1,h2⟩:=vP (P:=P) hC hr hv' hm (P.types.size+99);refine ⟨#[r']++c.args.map ev,?_,?_⟩
     ·unfold execOp;simp only [ho,resolve,hc,hx',Deferred.ofValue,Sem.run_bind,Sem.run_pure,Result.andThen_ok,invoke];have e0:(#[Value.iface t v']++c.args.map ev)[0]? =some (.iface t v'):=zF _ _;simp only [e0,uC,callMethod,Sem.run_bind,run_program,Result.andThen_ok];have h1':(method (P.types.size+Made.depth) t v' name).run P w= .ok (g',r') w:=h1;simp only [h1',Result.andThen_ok,l4 hf hg]
     ·exact az.aaa h2 hargs
    ·cases hv
   ·cases hv
  ·rename_i x name hc;split at hv
   ·rename_i t v hx;split at hv
    ·rename_i g' r hm;simp only [Option.some.injEq,Prod.mk.injEq] at hv;obtain ⟨hgg,rfl⟩:=hv;subst hgg;have hxv:=he _ _ hx;generalize hx':ev x=x' at hxv;cases hxv; rename_i v' hv';obtain ⟨r',h1,h2⟩:=vP (P:=P) hC hr hv' hm (P.types.size+99);refine ⟨#[r']++c.args.map ev,?_,?_⟩
     ·unfold execOp;simp only [ho,resolve,hc,hx',Sem.run_bind,Sem.run_pure,Result.andThen_ok,invoke];have e0:(#[Value.iface t v']++c.args.map ev)[0]? =some (.iface t v'):=zF _ _;simp only [e0,uC,callMethod,Sem.run_bind,run_program,Result.andThen_ok];have h1':(method (P.types.size+Made.depth) t v' name).run P w= .ok (g',r') w:=h1;simp only [h1',Result.andThen_ok,l4 hf hg]
     ·exact az.aaa h2 hargs
    ·cases hv
   ·cases hv
  ·cases hv
abbrev bV:=FuncId->List ab->T ah->Nat->Option (ab×T ah×Nat)
def iF(f:Ren)(a b:Nat):Prop:= ∀j,a<=j->j<b->f j=none
def Outside(f f':Ren)(a b:Nat):Prop:= ∀j,(j<a\/b<=j)->f' j=f j
def cI(P:Program)(ρ:Env)(B:Nat->Prop)(W:World)(call:bV):Prop:=
 ∀g args h nx v h' nx',call g args h nx=some (v,h',nx')->nx<=nx'/\
  ∀f w args',au ρ B W f h w->az ρ f args args'->iF f nx nx'->
   Calls P g args' w fun e w'=> ∃v' f',e= .returned v'/\f.le f'/\Outside f f' nx nx'/\au ρ B W f' h' w'/\ai ρ f' v v'
def aev(tm:T ab):Operand->Option ab
 | .tmp t=>tm.get t
 | .const v=>Qh v
 | .func g=>some (.func (.func g) [] [])
 | .global _=>none
def iE(ρ:Env)(f:Ren)(tm:T ab)(a:Act):Prop:= ∀d v,tm.get d=some v->ai ρ f v (a.tmps.getD d undef)
theorem iE.mono{ρ:Env}{f g:Ren}(h:f.le g){tm:T ab}{a:Act}(ht:iE ρ f tm a):iE ρ g tm a:=fun d v e=>(ht d v e).mono h
theorem iE.ev{ρ:Env}{f:Ren}{tm:T ab}{a:Act}(ht:iE ρ f tm a):iN ρ f (aev tm) a.eval:=by
 intro x v h;cases x with
 |tmp t=>exact ht _ _ h
 |const c=>exact Cw h
 |func g=>cases h; exact .func rfl rfl (by simp) (by simp)
 |global g=>cases h
def qt(tm:T ab)(dst:Option Tmp)(r:Option ab):T ab:=
 match dst with
 |none=>tm
 |some d=>tm.set d (r.getD (.tuple []))
def i5(n:Nat):Option Tmp->Bool
 |none=>true
 |some d=>Nat.blt d n
theorem Act.kB(a:Act)(dst:Option Tmp)(v:Value):(a.put dst v).tmps.size=a.tmps.size:=by
 cases dst<;>simp [Act.put]
theorem Ee:undef= .tuple #[]:=rfl
theorem ai.undef{ρ:Env}{f:Ren}:ai ρ f (.tuple []) Go.undef:= .tuple (a':= #[]) rfl (by simp)
theorem pv{a:Array Value}{d:Nat}{v:Value}(h:d<a.size):(a.setIfInBounds d v).getD d Go.undef=v:=by
 simp [Array.getD_eq_getD_getElem?,Array.getElem?_setIfInBounds,h]
theorem nz{a:Array Value}{d e:Nat}{v:Value}(h:d≠e):(a.setIfInBounds d v).getD e Go.undef=a.getD e Go.undef:=by
 simp [Array.getD_eq_getD_getElem?,Array.getElem?_setIfInBounds_ne h]
theorem iE.put{ρ:Env}{f:Ren}{tm:T ab}{a:Act}(ht:iE ρ f tm a){dst:Option Tmp}(hd:i5 a.tmps.size dst=true){r:Option ab}{v':Value}(hv:ai ρ f (r.getD (.tuple [])) v'):iE ρ f (qt tm dst r) (a.put dst v'):=by
 cases dst with
 |none=>exact ht
 |some d=>
  have hlt:d<a.tmps.size:=by simpa [i5,Nat.blt_eq] using hd
  intro e v h
  rcases T.aB h with ⟨rfl,rfl⟩ | ⟨hne,h⟩
  ·simp only [Act.put];rw [pv hlt];exact hv
  ·simp only [Act.put];rw [nz (Ne.symm hne)];exact ht _ _ h
theorem Act.fV(a:Act)(dst:Option Tmp)(v:Value):(a.put dst v).defers=a.defers:=by
 cases dst<;>rfl
def mq(C:Ctx)(call:bV)(h:T ah)(nx:Nat)(ev:Operand->Option ab)(op:Op):Option (Option ab×T ah×Nat):=
 match K0 C h ev op with
 |some v=>some (some v,h,nx)
 |none=>
  match TL C ev nx op with
  |some (ob,v)=>some (some v,h.set nx ob,nx+1)
  |none=>
   match OP C h nx ev op with
   |some r=>some r
   |none=>
    match op with
    | .build t parts=>
      match Br C ev t parts.toList with
      |some v=>some (some v,h,nx)
      |none=>none
    | .call c=>
      match oC C h ev c with
      |some (g,args)=>
       match C.fn.get g with
       |some fn=>
        match wi fn with
        |true=>
         match call g args h nx with
         |some (v,h',nx')=>some (some v,h',nx')
         |none=>none
        |false=>none
       |none=>none
      |none=>none
    |_=>none
theorem nF{C:Ctx}{P:Program}{ρ:Env}{B:Nat->Prop}{W:World}{call:bV}(hcall:cI P ρ B W call){h h':T ah}{nx nx':Nat}{ev:Operand->Option ab}{op:Op}{r:Option ab}(hv:mq C call h nx ev op=some (r,h',nx')):nx<=nx':=by
 unfold mq at hv;split at hv
 ·cases hv; exact Nat.le_refl _
 ·split at hv
  ·cases hv; omega
  ·split at hv
   ·rename_i r' hr;cases hv;exact UU hr
   ·split at hv
    ·split at hv<;>cases hv; exact Nat.le_refl _
    ·split at hv
     ·split at hv
      ·split at hv
       ·split at hv
        ·rename_i hc;cases hv;exact (hcall _ _ _ _ _ _ _ hc).1
        ·cases hv
       ·cases hv
      ·cases hv
     ·cases hv
    ·cases hv
theorem w9{C:Ctx}{P:Program}{ρ:Env}(hC:C.Ok P ρ){B:Nat->Prop}{W:World}{call:bV}(hcall:cI P ρ B W call){w:World}{f:Ren}{h h':T ah}(hr:au ρ B W f h w){av:Operand->Option ab}{nx nx':Nat}{o:Oper}{r:Option ab}
 (hv:mq C call h nx av o.op=some (r,h',nx')) (hfr:iF f nx nx') {a:Act} (he:iN ρ f av a.eval) {next:Act->World->Prop} {Q:Exit->Act->World->Prop}
 (hn: ∀f' w' v',f.le f'->Outside f f' nx nx'->au ρ B W f' h' w'->ai ρ f' (r.getD (.tuple [])) v'->next (a.put o.dst v') w'):o.wp P a w next Q:=by
 unfold Oper.wp;unfold mq at hv;split at hv
 ·rename_i v hrd;cases hv;obtain ⟨v',h1,h2⟩:=Gt (P:=P) hC hr he hrd;rw [h1];exact hn f w v' (Ren.le_refl f) (fun _ _=>rfl) hr h2
 ·split at hv
  ·rename_i ob v hnw;cases hv;have hfi:f nx=none:=hfr nx (Nat.le_refl _) (by omega)
   obtain ⟨w',L,O,v',h1,h2,h3,h4,h5,h6,h7⟩:=(Km (P:=P) (w:=w) hC (hr.fresh (Nat.le_refl _)) he hfi hnw).step;rw [h1];refine hn (f.put nx L) w' v' (Ren.fv L hfi) (fun j hj=>Ren.bM f L (by omega)) ?_ h6
   exact hr.LO hfi h2 h3 h4 h5 h7 fun j x hx=>by
    rcases T.aB hx with ⟨e1,e2⟩ | ⟨e1,e2⟩
    ·exact .inl ⟨e1,e2.symm⟩
    ·exact .inr ⟨e1,e2⟩
  ·split at hv
   ·rename_i r' hef;cases hv;obtain ⟨f',w',v',h1,h2,h3,h4,h5⟩:=UW (P:=P) hC hr he (o:=o) hfr hef;rw [h1];cases r with
    |none=>
     simp only at h5;subst h5;exact hn f' w' undef h2 h3 h4 ai.undef
    |some v=>
     obtain ⟨u,rfl,hu⟩:=h5;exact hn f' w' u h2 h3 h4 hu
   ·split at hv
    ·rename_i t parts hop;split at hv
     ·rename_i v hb;cases hv;obtain ⟨v',h1,h2⟩:=Aq (P:=P) hC he hb w
      have hs:(execOp a.eval o).run P w= .ok (.value v') w:=by
       unfold execOp;simp only [hop,Sem.run_bind,h1,Result.andThen_ok,Sem.run_pure]
      rw [hs];exact hn f w v' (Ren.le_refl f) (fun _ _=>rfl) hr h2
     ·cases hv
    ·rename_i c hop;split at hv
     ·rename_i g args hcal;split at hv
      ·rename_i fn hfn;split at hv
       ·rename_i hg;split at hv
        ·rename_i v h2 nx2 hc;cases hv;obtain ⟨args',h1,hargs⟩:=HI (P:=P) hC hr he hop hcal (hC.fn _ _ hfn) hg;rw [h1];refine Calls.mono ((hcall _ _ _ _ _ _ _ hc).2 f w args' hr hargs hfr) fun e w' hR=> ?_
         obtain ⟨v',f',rfl,q1,q2,q3,q4⟩:=hR;exact hn f' w' v' q1 q2 q3 q4
        ·cases hv
       ·cases hv
      ·cases hv
     ·cases hv
    ·cases hv
def pX:List Oper->Nat->Option Tmp
 | [],_=>none
 |o::_,0=>o.dst
 |_::l,n+1=>pX l n
theorem AE(l:List Oper)(j:Nat):pX l j=(l[j]?).bind (·.dst):=by
 induction l generalizing j with
 |nil=>simp [pX]
 |cons o l ih=>cases j<;>simp [pX,ih]
def PS(C:Ctx)(tm:T ab)(want:Bool):Option Tmp->Option Bool
 |none=>none
 |some d=>
  match tm.get d with
  |some (.bool t)=>
   match settle C.dec t with
   |some b=>some (b==want)
   |none=>none
  |some (.tuple [])=>some false
  |_=>none
def lY(C:Ctx)(tm:T ab)(all:List Oper)(g:Option (Nat×Bool)):Option Bool:=
 match g with
 |none=>some true
 |some (j,want)=>PS C tm want (pX all j)
theorem l7{C:Ctx}{P:Program}{ρ:Env}(hC:C.Ok P ρ){f:Ren}{tm:T ab}{a:Act}(ht:iE ρ f tm a){ops:Array Oper}{o:Oper}{b:Bool}(h:lY C tm ops.toList o.guard=some b):Region.wanted o (yielded ops a.tmps)=b:=by
 unfold lY at h;unfold Region.wanted;split at h
 ·rename_i hg;cases h;simp [hg]
 ·rename_i j want hg;simp only [hg];rw [AE] at h;have e:ops.toList[j]? =ops[j]? :=by simp
  rw [e] at h;unfold yielded;unfold PS at h;split at h
  ·cases h
  ·rename_i d hd;rw [hd];split at h
   ·rename_i t htm;split at h
    ·rename_i b' hs;cases h;have hv:=ht _ _ htm;generalize hx:a.tmps.getD d Go.undef=x at hv;have hb:=aq hC.dec t _ hs;cases hv;rw [hb] at hx
     have:a.tmps[d]? =some (.bool b'):=by
      rw [Array.getD_eq_getD_getElem?] at hx;cases hq:a.tmps[d]? with
      |none=>rw [hq] at hx; simp [Ee] at hx
      |some y=>rw [hq] at hx; simp at hx; rw [hx]
     simp [this]
    ·cases h
   ·rename_i htm;cases h;have hv:=ht _ _ htm;generalize hx:a.tmps.getD d Go.undef=x at hv;cases hv;rename_i a' h1 h2;rw [Array.getD_eq_getD_getElem?] at hx;cases hq:a.tmps[d]? with
    |none=>simp [hq]
    |some y=>rw [hq] at hx; simp at hx; subst hx; simp [hq]
   ·cases h
structure ASt where
 tm:T ab
 hp:T ah
 nx:Nat
structure eh (ρ:Env) (B:Nat->Prop) (W:World) (n N:Nat) (f:Ren) (s:ASt) (a:Act) (w:World):Prop where
 size:a.tmps.size=n
 tm:iE ρ f s.tm a
 defers:a.defers=[]
 heap:au ρ B W f s.hp w
 fresh:iF f s.nx N
def CY(C:Ctx)(call:bV)(n:Nat)(all:List Oper):List Oper->T ab->T ah->Nat->Option ASt
 | [],tm,hp,nx=>some ⟨tm,hp,nx⟩
 |o::rest,tm,hp,nx=>
  match i5 n o.dst with
  |false=>none
  |true=>
   match lY C tm all o.guard with
   |none=>none
   |some false=>CY C call n all rest (qt tm o.dst none) hp nx
   |some true=>
    match mq C call hp nx (aev tm) o.op with
    |some (r,hp',nx')=>CY C call n all rest (qt tm o.dst r) hp' nx'
    |none=>none
theorem Lm{C:Ctx}{P:Program}{ρ:Env}{B:Nat->Prop}{W:World}{call:bV}(hcall:cI P ρ B W call){n:Nat}{all:List Oper}: ∀(l:List Oper) (tm:T ab) (hp:T ah) (nx:Nat) (s:ASt),CY C call n all l tm hp nx=some s->nx<=s.nx:=by
 intro l
 induction l with
 |nil=>intro tm hp nx s h; cases h; exact Nat.le_refl _
 |cons o l ih=>
  intro tm hp nx s h;unfold CY at h;split at h
  ·cases h
  ·split at h
   ·cases h
   ·exact ih _ _ _ _ h
   ·split at h
    ·rename_i r hp' nx' hs;exact Nat.le_trans (nF hcall hs) (ih _ _ _ _ h)
    ·cases h
theorem iF.sub{f:Ren}{a b a' b':Nat}(h:iF f a b)(ha:a<=a')(hb:b'<=b):iF f a' b':=fun j h1 h2=>h j (Nat.le_trans ha h1) (Nat.lt_of_lt_of_le h2 hb)
theorem iF.step{f f':Ren}{a b c:Nat}(h:iF f a c)(ho:Outside f f' a b)(hab:a<=b):iF f' b c:=fun j h1 h2=>by
 rw [ho j (.inr h1)];exact h j (Nat.le_trans hab h1) h2
theorem Outside.trans{f f' f'':Ren}{a b c:Nat}(h:Outside f f' a b)(h':Outside f' f'' b c)(hab:a<=b)(hbc:b<=c):Outside f f'' a c:=fun j hj=>by
 rw [h' j (by omega),h j (by omega)]
theorem Vn{C:Ctx}{P:Program}{ρ:Env}(hC:C.Ok P ρ){B:Nat->Prop}{W:World}{call:bV}(hcall:cI P ρ B W call){n N:Nat}{ops:Array Oper}{Q:Exit->Act->World->Prop}{s':ASt}(hN:s'.nx<=N){f₀:Ren}{n₀:Nat}
 (hQ: ∀f' a' w',f₀.le f'->Outside f₀ f' n₀ s'.nx->eh ρ B W n N f' s' a' w'->Q .normal a' w'):
 ∀(l:List Oper) (k:Nat),ops.toList.drop k=l-> ∀(tm:T ab) (hp:T ah) (nx:Nat) (f:Ren) (a:Act) (w:World),CY C call n ops.toList l tm hp nx=some s'->n₀<=nx->f₀.le f->Outside f₀ f n₀ nx->eh ρ B W n N f ⟨tm,hp,nx⟩ a w->
  wpOps P ops Q (List.range' k (ops.size-k)) a w:=by
 intro l
 induction l with
 |nil=>
  intro k hk tm hp nx f a w h hn hle hout hs
  have:ops.size-k=0:=by
   have:=congrArg List.length hk
   simpa using this
  rw [this];cases h;exact hQ f a w hle hout hs
 |cons o l ih=>
  intro k hk tm hp nx f a w h hn hle hout hs
  have hlen:ops.size-k=l.length+1:=by
   have:=congrArg List.length hk
   simpa using this
  have ho:ops[k]? =some o:=by
   have:(ops.toList.drop k)[0]? =some o:=by rw [hk]; rfl
   simpa using this
  have hk':ops.toList.drop (k+1)=l:=by
   rw [<- List.drop_drop,hk];rfl
  rw [hlen,List.range'_succ];have hl:l.length=ops.size-(k+1):=by omega
  rw [hl];unfold wpOps;simp only [ho];unfold CY at h;split at h
  ·cases h
  ·rename_i hd;have hd':i5 a.tmps.size o.dst=true:=by rw [hs.size]; exact hd
   split at h
   ·cases h
   ·rename_i hw;rw [l7 hC hs.tm hw];simp only [Bool.false_eq_true,if_false];exact ih (k+1) hk' _ _ _ f _ _ h hn hle hout ⟨by rw [Act.kB]; exact hs.size,hs.tm.put hd' (r:=none) ai.undef,by rw [Act.fV]; exact hs.defers,hs.heap,hs.fresh⟩
   ·rename_i hw;rw [l7 hC hs.tm hw];simp only [if_true];split at h
    ·rename_i r hp' nx' hst;have hnx:=nF hcall hst;have hnx':=Lm hcall _ _ _ _ _ h;refine .inl (w9 hC hcall hs.heap hst (hs.fresh.sub (Nat.le_refl _) (by omega)) hs.tm.ev fun f' w' v' h1 h2 h3 h4=> ?_)
     exact ih (k+1) hk' _ _ _ f' _ _ h (Nat.le_trans hn hnx) (Ren.le_trans hle h1) (hout.trans h2 hn hnx) ⟨by rw [Act.kB]; exact hs.size,(hs.tm.mono h1).put hd' h4,by rw [Act.fV]; exact hs.defers,h3,hs.fresh.step h2 hnx⟩
    ·cases h
abbrev uI:=bV->Nat->List Oper->ASt->Option ASt
def Bo(P:Program)(ρ:Env)(B:Nat->Prop)(W:World)(dr:uI):Prop:=
 ∀call,cI P ρ B W call-> ∀n (ops:Array Oper) s s',dr call n ops.toList s=some s'->s.nx<=s'.nx/\
  ∀N f a w id Q,s'.nx<=N->eh ρ B W n N f s a w->
   (∀ f' a' w',f.le f'->Outside f f' s.nx s'.nx->eh ρ B W n N f' s' a' w'->Q .normal a' w')->(Code.region id ops true).wp P Q a w
inductive aM where
 |normal |exit (id:Nat) |ret
def aM.to:aM->Exit
 | .normal=> .normal
 | .exit i=> .exit i
 | .ret=> .ret
abbrev eX:=ASt->Option (aM×ASt)
def bZ(P:Program)(ρ:Env)(B:Nat->Prop)(W:World)(n:Nat)(c:Code)(g:eX):Prop:=
 ∀s e s',g s=some (e,s')->s.nx<=s'.nx/\
  ∀N f a w Q,s'.nx<=N->eh ρ B W n N f s a w->
   (∀ f' a' w',f.le f'->Outside f f' s.nx s'.nx->eh ρ B W n N f' s' a' w'->Q e.to a' w')->c.wp P Q a w
def Xr(x y:eX):eX:=fun s=>
 match x s with
 |some (.normal,s')=>y s'
 |some (.exit i,s')=>some (.exit i,s')
 |some (.ret,s')=>some (.ret,s')
 |none=>none
def Ri(C:Ctx)(c:Operand)(x y:eX):eX:=fun s=>
 match aev s.tm c with
 |some (.bool t)=>
  match settle C.dec t with
  |some true=>x s
  |some false=>y s
  |none=>none
 |_=>none
def Hl(id:Nat)(x:eX):eX:=fun s=>
 match x s with
 |some (.exit i,s')=>
  match Nat.beq i id with
  |true=>some (.normal,s')
  |false=>some (.exit i,s')
 |some (.normal,s')=>some (.normal,s')
 |some (.ret,s')=>some (.ret,s')
 |none=>none
def T5(x:eX):Nat->eX
 |0,_=>none
 |L+1,s=>
  match x s with
  |some (.normal,s')=>T5 x L s'
  |some (.exit i,s')=>some (.exit i,s')
  |some (.ret,s')=>some (.ret,s')
  |none=>none
def EA(lp x:eX):Nat->eX
 |0,_=>none
 |L+1,s=>
  match lp s with
  |some r=>some r
  |none=>
   match x s with
   |some (.normal,s')=>EA lp x L s'
   |some (.exit i,s')=>some (.exit i,s')
   |some (.ret,s')=>some (.ret,s')
   |none=>none
def qo(P:Program)(ρ:Env)(B:Nat->Prop)(W:World)(n:Nat)(c:Code)(g:eX):Prop:=
 ∀s e s',g s=some (e,s')-> ∃m,s.nx<=s'.nx/\
  ∀N f a w Q,s'.nx<=N->eh ρ B W n N f s a w->(∀ f' a' w',f.le f'->Outside f f' s.nx s'.nx->eh ρ B W n N f' s' a' w'->Q e.to a' w')->Code.rounds P c Q m a w
theorem qo.none{P:Program}{ρ:Env}{B:Nat->Prop}{W:World}{n:Nat}{c:Code}:qo P ρ B W n c (fun _=>Option.none):=by
 intro s e s' hs;cases hs
def ov(C:Ctx)(call:bV)(dr:uI)(n:Nat)(ops:List Oper)(draw:Bool):eX:=fun s=>
 match draw with
 |false=>
  match CY C call n ops ops s.tm s.hp s.nx with
  |some s'=>some (.normal,s')
  |none=>none
 |true=>
  match dr call n ops s with
  |some s'=>some (.normal,s')
  |none=>none
def Code.key(c:Code):Nat:=
 Code.rec (motive:=fun _=>Nat) 0 (fun id _ _=>id+1) (fun _ _ x y=>match x with |0=>y |k=>k) (fun _ _ _ x y=>match x with |0=>y |k=>k) (fun _ _ x=>x) (fun _ x=>x) (fun _ _ _ _ _ _=>0) (fun _=>0) (fun _ x=>x) (fun _=>0) (fun _=>0) 0 (fun _=>0) c
def cS:Code->List Code
 | .seq a b=>cS a++cS b
 | .cond _ a b=>cS a++cS b
 | .block _ c=>cS c
 | .loop c=>c::cS c
 | .scope c=>cS c
 |_=>[]
def Kg(C:Ctx)(call:bV)(lp:Nat->eX)(dr:uI)(n L:Nat)(c:Code):eX:=
 Code.rec (motive:=fun _=>eX)
  (fun s=>some (.normal,s))
  (fun _ ops draw=>ov C call dr n ops.toList draw)
  (fun _ _ x y=>Xr x y)
  (fun c _ _ x y=>Ri C c x y)
  (fun id _ x=>Hl id x)
  (fun c x s=>EA (lp (Code.key c)) x L s)
  (fun _ _ _ _ _ _ _=>none)
  (fun id s=>some (.exit id,s))
  (fun _ x=>x)
  (fun _ s=>some (.normal,s))
  (fun _ _=>none)
  (fun s=>some (.ret,s))
  (fun _ _=>none) c
section
variable{P:Program}{ρ:Env}{B:Nat->Prop}{W:World}{n:Nat}
theorem bZ.here{c:Code}{e:aM}(h: ∀Q a w,Q e.to a w->c.wp P Q a w):bZ P ρ B W n c (fun s=>some (e,s)):=by
 intro s e' s' hs;cases hs;exact ⟨Nat.le_refl _,fun N f a w Q hN hr hq=>h Q a w (hq f a w (Ren.le_refl f) (fun _ _=>rfl) hr)⟩
theorem bZ.none{c:Code}:bZ P ρ B W n c (fun _=>Option.none):=by
 intro s e s' hs;cases hs
theorem bZ.seq{a b:Code}{x y:eX}(hx:bZ P ρ B W n a x)(hy:bZ P ρ B W n b y):bZ P ρ B W n (.seq a b) (Xr x y):=by
 intro s e s' hs;unfold Xr at hs;split at hs
 ·rename_i s1 h1;have q1:=hx _ _ _ h1;have q2:=hy _ _ _ hs;refine ⟨Nat.le_trans q1.1 q2.1,fun N f a w Q hN hr hq=>wp_seq (q1.2 N f a w _ (Nat.le_trans q2.1 hN) hr fun f1 a1 w1 l1 o1 r1=> ?_)⟩
  exact q2.2 N f1 a1 w1 Q hN r1 fun f2 a2 w2 l2 o2 r2=>hq f2 a2 w2 (Ren.le_trans l1 l2) (o1.trans o2 q1.1 q2.1) r2
 ·rename_i i s1 h1;cases hs;have q1:=hx _ _ _ h1;exact ⟨q1.1,fun N f a w Q hN hr hq=>wp_seq (q1.2 N f a w _ hN hr fun f1 a1 w1 l1 o1 r1=>hq f1 a1 w1 l1 o1 r1)⟩
 ·rename_i s1 h1;cases hs;have q1:=hx _ _ _ h1;exact ⟨q1.1,fun N f a w Q hN hr hq=>wp_seq (q1.2 N f a w _ hN hr fun f1 a1 w1 l1 o1 r1=>hq f1 a1 w1 l1 o1 r1)⟩
 ·cases hs
theorem bZ.cond{C:Ctx}(hC:C.Ok P ρ){c:Operand}{a b:Code}{x y:eX}(hx:bZ P ρ B W n a x)(hy:bZ P ρ B W n b y):bZ P ρ B W n (.cond c a b) (Ri C c x y):=by
 intro s e s' hs;unfold Ri at hs;split at hs
 ·rename_i t ht
  have key: ∀v,settle C.dec t=some v-> ∀N f (a:Act) w,eh ρ B W n N f s a w->a.eval c= .bool v:=by
   intro v hv N f a w hr;have hev:=hr.tm.ev _ _ ht;generalize a.eval c=z at hev;cases hev;rw [aq hC.dec t _ hv]
  split at hs
  ·rename_i hv;have q:=hx _ _ _ hs;exact ⟨q.1,fun N f a w Q hN hr hq=>wp_cond_true (key _ hv N f a w hr) (q.2 N f a w Q hN hr hq)⟩
  ·rename_i hv;have q:=hy _ _ _ hs;exact ⟨q.1,fun N f a w Q hN hr hq=>wp_cond_false (key _ hv N f a w hr) (q.2 N f a w Q hN hr hq)⟩
  ·cases hs
 ·cases hs
theorem bZ.block{id:Nat}{c:Code}{x:eX}(hx:bZ P ρ B W n c x):bZ P ρ B W n (.block id c) (Hl id x):=by
 intro s e s' hs;unfold Hl at hs;split at hs
 ·rename_i i s1 h1;have q:=hx _ _ _ h1;split at hs
  ·rename_i hi;cases hs;have hi':i=id:=Nat.eq_of_beq_eq_true hi
   exact ⟨q.1,fun N f a w Q hN hr hq=>wp_block (q.2 N f a w _ hN hr fun f1 a1 w1 l1 o1 r1=>by
    show Exit.inBlock id Q (.exit i) a1 w1;simp only [Exit.inBlock,hi',if_true];exact hq f1 a1 w1 l1 o1 r1)⟩
  ·rename_i hi;cases hs;have hi':i≠id:=Nat.ne_of_beq_eq_false hi
   exact ⟨q.1,fun N f a w Q hN hr hq=>wp_block (q.2 N f a w _ hN hr fun f1 a1 w1 l1 o1 r1=>by
    show Exit.inBlock id Q (.exit i) a1 w1;simp only [Exit.inBlock,hi',if_false];exact hq f1 a1 w1 l1 o1 r1)⟩
 ·rename_i s1 h1;cases hs;have q:=hx _ _ _ h1;exact ⟨q.1,fun N f a w Q hN hr hq=>wp_block (q.2 N f a w _ hN hr fun f1 a1 w1 l1 o1 r1=>hq f1 a1 w1 l1 o1 r1)⟩
 ·rename_i s1 h1;cases hs;have q:=hx _ _ _ h1;exact ⟨q.1,fun N f a w Q hN hr hq=>wp_block (q.2 N f a w _ hN hr fun f1 a1 w1 l1 o1 r1=>hq f1 a1 w1 l1 o1 r1)⟩
 ·cases hs
theorem Ot{c:Code}{lp x:eX}(hl:qo P ρ B W n c lp)(hx:bZ P ρ B W n c x): ∀L,qo P ρ B W n c (EA lp x L):=by
 intro L
 induction L with
 |zero=>intro s e s' hs; cases hs
 |succ L ih=>
  intro s e s' hs;unfold EA at hs;split at hs
  ·rename_i r hr;cases hs;exact hl _ _ _ hr
  ·split at hs
   ·rename_i s1 h1;have q1:=hx _ _ _ h1;obtain ⟨m,q2⟩:=ih _ _ _ hs;refine ⟨m+1,Nat.le_trans q1.1 q2.1,fun N f a w Q hN hr hq=>q1.2 N f a w _ (Nat.le_trans q2.1 hN) hr fun f1 a1 w1 l1 o1 r1=> ?_⟩
    exact q2.2 N f1 a1 w1 Q hN r1 fun f2 a2 w2 l2 o2 r2=>hq f2 a2 w2 (Ren.le_trans l1 l2) (o1.trans o2 q1.1 q2.1) r2
   ·rename_i i s1 h1;cases hs;have q1:=hx _ _ _ h1;exact ⟨1,q1.1,fun N f a w Q hN hr hq=>q1.2 N f a w _ hN hr fun f1 a1 w1 l1 o1 r1=>hq f1 a1 w1 l1 o1 r1⟩
   ·rename_i s1 h1;cases hs;have q1:=hx _ _ _ h1;exact ⟨1,q1.1,fun N f a w Q hN hr hq=>q1.2 N f a w _ hN hr fun f1 a1 w1 l1 o1 r1=>hq f1 a1 w1 l1 o1 r1⟩
   ·cases hs
theorem bZ.region{C:Ctx}(hC:C.Ok P ρ){call:bV}(hcall:cI P ρ B W call){dr:uI}(hdr:Bo P ρ B W dr)(id:Nat)(ops:Array Oper)(draw:Bool):bZ P ρ B W n (.region id ops draw) (ov C call dr n ops.toList draw):=by
 intro s e s' hs;unfold ov at hs;split at hs
 ·split at hs
  ·rename_i s1 h1;cases hs;have hnx:=Lm hcall _ _ _ _ _ h1;refine ⟨hnx,fun N f a w Q hN hr hq=>wp_region ?_⟩
   have:=Vn hC hcall (n:=n) (ops:=ops) hN (f₀:=f) (n₀:=s.nx) hq ops.toList 0 rfl s.tm s.hp s.nx f a w h1 (Nat.le_refl _) (Ren.le_refl f) (fun _ _=>rfl) hr
   rw [List.range_eq_range'];exact this
  ·cases hs
 ·split at hs
  ·rename_i s1 h1;cases hs;have q:=hdr call hcall n ops s _ h1;exact ⟨q.1,fun N f a w Q hN hr hq=>q.2 N f a w id Q hN hr hq⟩
  ·cases hs
theorem OZ{C:Ctx}(hC:C.Ok P ρ){call:bV}(hcall:cI P ρ B W call){lp:Nat->eX}{dr:uI}(hdr:Bo P ρ B W dr)(L:Nat)(c:Code)(hlp: ∀b∈cS c,qo P ρ B W n b (lp (Code.key b))):bZ P ρ B W n c (Kg C call lp dr n L c):=by
 induction c with
 |skip=>exact bZ.here (e:= .normal) fun Q a w h=>wp_skip h
 |region id ops draw=>exact bZ.region hC hcall hdr id ops draw
 |seq a b ha hb=>exact bZ.seq (ha fun x hx=>hlp x (List.mem_append.2 (.inl hx))) (hb fun x hx=>hlp x (List.mem_append.2 (.inr hx)))
 |cond c a b ha hb=>exact bZ.cond hC (ha fun x hx=>hlp x (List.mem_append.2 (.inl hx))) (hb fun x hx=>hlp x (List.mem_append.2 (.inr hx)))
 |block id c hc=>exact bZ.block (hc hlp)
 |loop c hc=>
  intro s e s' hs;have hs:EA (lp (Code.key c)) (Kg C call lp dr n L c) L s=some (e,s'):=hs;obtain ⟨m,q⟩:=Ot (hlp c (List.mem_cons_self ..)) (hc fun x hx=>hlp x (List.mem_cons_of_mem _ hx)) L s e s' hs
  exact ⟨q.1,fun N f a w Q hN hr hq=>wp_loop_rounds m (q.2 N f a w Q hN hr hq)⟩
 |rangeFunc=>exact bZ.none
 |exit id=>exact bZ.here (e:= .exit id) fun Q a w h=>wp_exit h
 |scope c hc=>
  intro s e s' hs;have q:=hc hlp s e s' hs
  exact ⟨q.1,fun N f a w Q hN hr hq=>wp_scope_straight (q.2 N f a w _ hN hr fun f1 a1 w1 l1 o1 r1=>by
   have:=hq f1 a1 w1 l1 o1 r1;cases e<;>exact this)⟩
 |label=>exact bZ.here (e:= .normal) fun Q a w h=>wp_label h
 |goto=>exact bZ.none
 |ret=>exact bZ.here (e:= .ret) fun Q a w h=>wp_ret h
 |refuse=>exact bZ.none
end
def Yz(C:Ctx)(tm:T ab)(h:T ah):ResultVar->Option ab
 | .tmp t=>tm.get t
 | .cell a t=>
   match tm.get a with
   |some x=>yR C h t x
   |none=>none
def uu(C:Ctx)(tm:T ab)(h:T ah):List ResultVar->Option (List ab)
 | []=>some []
 |x::l=>
  match Yz C tm h x,uu C tm h l with
  |some v,some vs=>some (v::vs)
  |_,_=>none
def j6:List ab->ab
 | [v]=>v
 |l=> .tuple l
def AJ(tmps:Array Value):ResultVar->Sem Value
 | .tmp t=>pure (tmps.getD t Go.undef)
 | .cell b t=>do loadVar t (<- asAddr (tmps.getD b Go.undef))
theorem GL(fn:Func)(tmps:Array Value):results fn tmps=(do
 let vs<-fn.results.mapM (AJ tmps)
 pure (if h:vs.size=1 then vs[0] else .tuple vs)):=rfl
theorem Tn{C:Ctx}{P:Program}{ρ:Env}(hC:C.Ok P ρ){B:Nat->Prop}{W w:World}{f:Ren}{h:T ah}(hr:au ρ B W f h w){tm:T ab}{a:Act}(ht:iE ρ f tm a){x:ResultVar}{v:ab}(hv:Yz C tm h x=some v):
 ∃v',(AJ a.tmps x).run P w= .ok v' w/\ai ρ f v v':=by
 cases x with
 |tmp t=>exact ⟨_,rfl,ht _ _ hv⟩
 |cell b t=>
  simp only [Yz] at hv;split at hv
  ·rename_i x hx;have hx':=ht _ _ hx;obtain ⟨v',h1,h2⟩:=rh hC hr hx' hv;refine ⟨v',?_,h2⟩;have e:AJ a.tmps (.cell b t)=(do loadVar t (<- asAddr (a.tmps.getD b Go.undef))):=rfl
   rw [e];generalize a.tmps.getD b Go.undef=y at hx' h1 ⊢;unfold yR at hv;split at hv
   ·cases hx';simp only [asAddr,Sem.run_bind,Sem.run_pure,Result.andThen_ok];exact h1
   ·cases hv
  ·cases hv
theorem D0{C:Ctx}{P:Program}{ρ:Env}(hC:C.Ok P ρ){B:Nat->Prop}{W w:World}{f:Ren}{h:T ah}(hr:au ρ B W f h w){tm:T ab}{a:Act}(ht:iE ρ f tm a): ∀(l:List ResultVar) (vs:List ab),uu C tm h l=some vs->
 ∃vs',(l.mapM (AJ a.tmps)).run P w= .ok vs' w/\az ρ f vs vs'.toArray:=by
 intro l
 induction l with
 |nil=>intro vs hv; cases hv; exact ⟨[],rfl,az.nil⟩
 |cons x l ih=>
  intro vs hv;simp only [uu] at hv;split at hv
  ·rename_i v vs' h1 h2;cases hv;obtain ⟨v',q1,q2⟩:=Tn (P:=P) hC hr ht h1;obtain ⟨us,q3,q4⟩:=ih _ h2;refine ⟨v'::us,?_,az.cons q2 q4⟩;simp only [List.mapM_cons,Sem.run_bind,q1,Result.andThen_ok,q3,Sem.run_pure]
  ·cases hv
theorem xZ{ρ:Env}{f:Ren}{vs:List ab}{us:List Value}(h:az ρ f vs us.toArray):ai ρ f (j6 vs) (if h:us.toArray.size=1 then us.toArray[0] else .tuple us.toArray):=by
 have hs:us.length=vs.length:=by simpa using h.1
 match vs,us,hs with
 | [],[],_=>exact .tuple h.1 h.2
 | [v],[u],_=>exact h.2 0 v u rfl rfl
 |v::v2::vs,u::u2::us,_=>
  rw [dif_neg (by simp)]
  exact .tuple h.1 h.2
theorem ue{P:Program}{w:World}{fn:Func}{tmps:Array Value}{us:List Value}
 (h:(fn.results.toList.mapM (AJ tmps)).run P w= .ok us w):
 (results fn tmps).run P w= .ok (if h:us.toArray.size=1 then us.toArray[0] else .tuple us.toArray) w:=by
 rw [GL,Array.mapM_eq_mapM_toList];simp only [Sem.run_bind]
 have e:((List.toArray <$> (fn.results.toList.mapM (AJ tmps))).run P w)= .ok us.toArray w:=by
  rw [map_eq_pure_bind,Sem.run_bind,h];simp only [Result.andThen_ok,Sem.run_pure]
 rw [e];simp only [Result.andThen_ok,Sem.run_pure]
structure Sums where
 call:bV
 loop:FuncId->Nat->Nat->eX
structure SumsOk (P:Program) (ρ:Env) (B:Nat->Prop) (W:World) (sm:Sums):Prop where
 call:cI P ρ B W sm.call
 loop: ∀g fn c,P.funcs[g]? =some fn->fn.body=some c-> ∀b∈cS c,∀n,qo P ρ B W n b (sm.loop g n (Code.key b))
def yi(C:Ctx)(dr:uI)(sm:Sums)(L:Nat):Nat->bV
 |0,_,_,_,_=>none
 |d+1,g,args,h,nx=>
  match sm.call g args h nx with
  |some r=>some r
  |none=>
  match C.fn.get g with
  |none=>none
  |some fn=>
   match fn.body with
   |none=>none
   |some c=>
    match Kg C (yi C dr sm L d) (sm.loop g (args.length+(fn.ntmps-args.length))) dr (args.length+(fn.ntmps-args.length)) L c ⟨aF args 0 .nil,h,nx⟩ with
    |some (.normal,s)=>
     match uu C s.tm s.hp fn.results.toList with
     |some vs=>some (j6 vs,s.hp,s.nx)
     |none=>none
    |some (.ret,s)=>
     match uu C s.tm s.hp fn.results.toList with
     |some vs=>some (j6 vs,s.hp,s.nx)
     |none=>none
    |_=>none
theorem LR{C:Ctx}{P:Program}{ρ:Env}(hC:C.Ok P ρ){B:Nat->Prop}{W:World}{dr:uI}(hdr:Bo P ρ B W dr){sm:Sums}(hsm:SumsOk P ρ B W sm)(L:Nat): ∀d,cI P ρ B W (yi C dr sm L d):=by
 intro d
 induction d with
 |zero=>intro g args h nx v h' nx' hc; cases hc
 |succ d ih=>
  intro g args h nx v h' nx' hc;unfold yi at hc;split at hc
  ·rename_i r hr;cases hc;exact hsm.call _ _ _ _ _ _ _ hr
  split at hc
  ·cases hc
  ·rename_i fn hfn;split at hc
   ·cases hc
   ·rename_i c hb
    have key: ∀e s,Kg C (yi C dr sm L d) (sm.loop g (args.length+(fn.ntmps-args.length))) dr (args.length+(fn.ntmps-args.length)) L c ⟨aF args 0 .nil,h,nx⟩=some (e,s)->(e= .normal\/e= .ret)-> ∀vs,uu C s.tm s.hp fn.results.toList=some vs->nx<=s.nx/\
     ∀f w args',au ρ B W f h w->az ρ f args args'->iF f nx s.nx->
     Calls P g args' w fun e w'=> ∃v' f',e= .returned v'/\f.le f'/\Outside f f' nx s.nx/\au ρ B W f' s.hp w'/\ai ρ f' (j6 vs) v':=by
     intro e s hs he vs hvs;have q:=OZ hC ih hdr L c (fun b hbl=>hsm.loop g fn c (hC.fn _ _ hfn) hb b hbl _) _ _ _ hs
     refine ⟨q.1,fun f w args' hr ha hf=>calls_of_wp (hC.fn _ _ hfn) hb (q.2 s.nx f _ w _ (Nat.le_refl _) ⟨?_,?_,rfl,hr,hf⟩ fun f' a' w' l1 o1 r1=> ?_)⟩
     ·simp [ha.1]
     ·intro j v hj
      rcases eK _ _ _ _ _ hj with ⟨_,hj⟩ |hj
      ·obtain ⟨v',h1,h2⟩:=ha.get (by simpa using hj)
       have:(args'++Array.replicate (fn.ntmps-args'.size) Go.undef).getD j Go.undef=v':=by
        rw [Array.getD_eq_getD_getElem?,Array.getElem?_append_left (Array.getElem?_eq_some_iff.1 h1).1,h1];rfl
       rw [this];exact h2
      · (rw [T.get_nil] at hj; cases hj)
     ·obtain ⟨us,h1,h2⟩:=D0 (P:=P) hC r1.heap r1.tm _ _ hvs
      have hpost:a'.defers=[]/\ ∃v,(results fn a'.tmps).run P w'= .ok v w'/\ ∃v' f'',(Ending.returned v)= .returned v'/\f.le f''/\Outside f f'' nx s.nx/\au ρ B W f'' s.hp w'/\ai ρ f'' (j6 vs) v':=
       ⟨r1.defers,_,ue h1,_,f',rfl,l1,o1,r1.heap,xZ h2⟩
      rcases he with rfl |rfl
      ·exact hpost
      ·exact hpost
    split at hc
    ·rename_i s hs;split at hc
     ·rename_i vs hvs;cases hc;exact key _ _ hs (.inl rfl) _ hvs
     ·cases hc
    ·rename_i s hs;split at hc
     ·rename_i vs hvs;cases hc;exact key _ _ hs (.inr rfl) _ hvs
     ·cases hc
    ·cases hc
end
end Go.Sx
namespace Go.Sx
noncomputable section
theorem T.gW{α:Type}(x:Option α): ∀(f:Nat) (t:T α) (k:Nat),k+1<2^f-> ∃v l r,T.dx x f t k= .node v l r:=by
 intro f
 induction f with
 |zero=>intro t k h; simp at h
 |succ f ih=>
  intro t k h;have hp:2^(f+1)=2*2^f:=by rw [Nat.pow_succ,Nat.mul_comm]
  cases hk:Nat.beq k 0
  ·have hk0:k≠0:=by intro e; simp [e] at hk
   have hs:(k-1) / 2+1<2^f:=by omega
   cases t with
   |nil=>
    obtain ⟨v,l,r,e⟩:=ih .nil _ hs;cases ho:Nat.beq (k % 2) 1<;>simp [T.dx,hk,ho,e]
   |node v l r=>
    obtain ⟨v1,l1,r1,e1⟩:=ih l _ hs;obtain ⟨v2,l2,r2,e2⟩:=ih r _ hs;cases ho:Nat.beq (k % 2) 1<;>simp [T.dx,hk,ho,e1,e2]
  ·cases t<;>simp [T.dx,hk]
theorem T.oQ{α:Type}(x:Option α): ∀(f:Nat) (t:T α) (k j:Nat),k+1<2^f->j≠k->(T.dx x f t k).cw j=t.cw j:=by
 intro f
 induction f with
 |zero=>intro t k j h; simp at h
 |succ f ih=>
  intro t k j h hj;have hp:2^(f+1)=2*2^f:=by rw [Nat.pow_succ,Nat.mul_comm]
  have hget0: ∀j,(T.nil:T α).cw j=none:=fun _=>rfl
  cases hk:Nat.beq k 0
  ·have hk0:k≠0:=by intro e; simp [e] at hk
   have hs:(k-1) / 2+1<2^f:=by omega
   have sub: ∀(u:T α),j≠0->j % 2=k % 2->(T.dx x f u ((k-1) / 2)).cw ((j-1) / 2)=u.cw ((j-1) / 2):=fun u h0 hm=>ih u _ _ hs (by omega)
   cases t with
   |nil=>
    obtain ⟨v1,l1,r1,e1⟩:=T.gW x f .nil _ hs;have sub':=sub .nil;rw [e1] at sub';cases ho:Nat.beq (k % 2) 1
    ·have ho':k % 2≠1:=by intro e; simp [e] at ho
     simp only [T.dx,hk,ho,e1,T.cw];cases hj0:Nat.beq j 0
     ·have hj0':j≠0:=by intro e; simp [e] at hj0
      cases hjo:Nat.beq (j % 2) 1
      ·have hjo':j % 2≠1:=by intro e; simp [e] at hjo
       simp only [];have:=sub' hj0' (by omega)
       simpa only [T.cw] using this
      ·rfl
     ·rfl
    ·have ho':k % 2=1:=Nat.eq_of_beq_eq_true ho;simp only [T.dx,hk,ho,e1,T.cw];cases hj0:Nat.beq j 0
     ·have hj0':j≠0:=by intro e; simp [e] at hj0
      cases hjo:Nat.beq (j % 2) 1
      ·rfl
      ·have hjo':j % 2=1:=Nat.eq_of_beq_eq_true hjo;simp only [];have:=sub' hj0' (by omega)
       simpa only [T.cw] using this
     ·rfl
   |node v l r=>
    cases ho:Nat.beq (k % 2) 1
    ·have ho':k % 2≠1:=by intro e; simp [e] at ho
     obtain ⟨v1,l1,r1,e1⟩:=T.gW x f r _ hs;have sub':=sub r;rw [e1] at sub';simp only [T.dx,hk,ho,e1,T.cw];cases hj0:Nat.beq j 0
     ·have hj0':j≠0:=by intro e; simp [e] at hj0
      cases hjo:Nat.beq (j % 2) 1
      ·have hjo':j % 2≠1:=by intro e; simp [e] at hjo
       simp only [];have:=sub' hj0' (by omega)
       simpa only [T.cw] using this
      ·rfl
     ·rfl
    ·have ho':k % 2=1:=Nat.eq_of_beq_eq_true ho;obtain ⟨v1,l1,r1,e1⟩:=T.gW x f l _ hs;have sub':=sub l;rw [e1] at sub';simp only [T.dx,hk,ho,e1,T.cw];cases hj0:Nat.beq j 0
     ·have hj0':j≠0:=by intro e; simp [e] at hj0
      cases hjo:Nat.beq (j % 2) 1
      ·rfl
      ·have hjo':j % 2=1:=Nat.eq_of_beq_eq_true hjo;simp only [];have:=sub' hj0' (by omega)
       simpa only [T.cw] using this
     ·rfl
  ·have hk0:k=0:=Nat.eq_of_beq_eq_true hk;subst hk0
   have hj0:Nat.beq j 0=false:=by
    cases h0:Nat.beq j 0
    ·rfl
    ·exact absurd (Nat.eq_of_beq_eq_true h0) hj
   cases t<;>simp only [T.dx,T.cw,hj0]
   cases Nat.beq (j % 2) 1<;>rfl
theorem T.bp{α:Type}{t:T α}{k j:Nat}{x:α}(hk:k<4611686018427387904)(hj:j≠k):(t.set k x).get j=t.get j:=by
 have h:(2:Nat)^64=18446744073709551616:=by decide
 have e:=T.oQ (some x) 64 t k j (by omega) hj
 rw [<- T.vw,<-T.get_eq,<-T.get_eq] at e;exact e
theorem T.uY{α:Type}(x:Option α): ∀(f:Nat) (t:T α) (k:Nat),k+1<2^f->(T.dx x f t k).cw k=x:=by
 intro f
 induction f with
 |zero=>intro t k h; simp at h
 |succ f ih=>
  intro t k h;have hp:2^(f+1)=2*2^f:=by rw [Nat.pow_succ,Nat.mul_comm]
  cases hk:Nat.beq k 0
  ·have hk0:k≠0:=by intro e; simp [e] at hk
   have hs:(k-1) / 2+1<2^f:=by omega
   cases t with
   |nil=>
    have q:=ih .nil _ hs;obtain ⟨v1,l1,r1,e1⟩:=T.gW x f .nil _ hs;rw [e1] at q;cases ho:Nat.beq (k % 2) 1<;>simp only [T.dx,hk,ho,e1,T.cw]<;>simpa only [T.cw] using q
   |node v l r=>
    have q1:=ih l _ hs;have q2:=ih r _ hs;obtain ⟨v1,l1,r1,e1⟩:=T.gW x f l _ hs;obtain ⟨v2,l2,r2,e2⟩:=T.gW x f r _ hs;rw [e1] at q1;rw [e2] at q2;cases ho:Nat.beq (k % 2) 1<;>simp only [T.dx,hk,ho,e1,e2,T.cw]
    ·simpa only [T.cw] using q2
    ·simpa only [T.cw] using q1
  ·cases t<;>simp only [T.dx,hk,T.cw]
theorem T.cu{α:Type}{t:T α}{k:Nat}{x:α}(hk:k<4611686018427387904):(t.set k x).get k=some x:=by
 have h:(2:Nat)^64=18446744073709551616:=by decide
 have e:=T.uY (some x) 64 t k (by omega)
 rw [<- T.vw,<-T.get_eq] at e;exact e
theorem aa{a b:Bool}(h:(a&&b)=true):a=true/\b=true:=by
 cases a<;>cases b<;>simp at h ⊢
def xk:List IE->List IE->Bool
 | [],[]=>true
 |a::l,b::m=>
  match a.eq b with
  |true=>xk l m
  |false=>false
 |_,_=>false
theorem z5: ∀ {l m:List IE},xk l m=true->l=m:=by
 intro l
 induction l with
 |nil=>intro m h; cases m with
  |nil=>rfl
  |cons b m=>cases h
 |cons a l ih=>
  intro m h;cases m with
  |nil=>cases h
  |cons b m=>
   simp only [xk] at h;split at h
   ·rename_i e;rw [IE.eq_eq e,ih h]
   ·cases h
def C3:Fn->Fn->Bool
 | .func a,.func b=>Nat.beq a b
 | .method a,.method b=>a==b
 |_,_=>false
theorem zX{a b:Fn}(h:C3 a b=true):a=b:=by
 unfold C3 at h;split at h
 ·rw [Nat.eq_of_beq_eq_true h]
 ·rw [eq_of_beq h]
 ·cases h
def lO:Option (Nat×Nat)->Option (Nat×Nat)->Bool
 |none,none=>true
 |some (a,b),some (c,d)=>Nat.beq a c&&Nat.beq b d
 |_,_=>false
theorem eZ{a b:Option (Nat×Nat)}(h:lO a b=true):a=b:=by
 unfold lO at h;split at h
 ·rfl
 ·obtain ⟨h1,h2⟩:=aa h;rw [Nat.eq_of_beq_eq_true h1,Nat.eq_of_beq_eq_true h2]
 ·cases h
mutual
def ab.same:ab->ab->Bool
 | .bool a,.bool b=>a.same b
 | .int k a,.int j b=>bf k j&&a.eq b
 | .str a,.str b=>xk a b
 | .ptr a,.ptr b=>lO a b
 | .slice a l c g,.slice b l' c' g'=>lO a b&&(Nat.beq l l'&&(Nat.beq c c'&&Nat.beq g g'))
 | .map none,.map none=>true
 | .map (some a),.map (some b)=>Nat.beq a b
 | .func a l m,.func b l' m'=>C3 a b&&(sameList l l'&&sameList m m')
 | .nilFunc,.nilFunc=>true
 | .iface t a,.iface u b=>Nat.beq t u&&a.same b
 | .nilIface,.nilIface=>true
 | .agg l,.agg m=>sameList l m
 | .tuple l,.tuple m=>sameList l m
 | .ptrE i a s c,.ptrE j b t d=>Nat.beq i j&&(a.eq b&&(Nat.beq s t&&Nat.beq c d))
 | .sliceS i a b s nn,.sliceS j c d t nn'=>Nat.beq i j&&(a.eq c&&(b.eq d&&(Nat.beq s t&&(nn==nn'))))
 | .strS a b,.strS c d=>a.eq c&&b.eq d
 | .sliceA i a s,.sliceA j b t=>Nat.beq i j&&(a.eq b&&Nat.beq s t)
 |_,_=>false
def sameList:List ab->List ab->Bool
 | [],[]=>true
 |a::l,b::m=>
  match a.same b with
  |true=>sameList l m
  |false=>false
 |_,_=>false
end
mutual
theorem ab.cT: ∀ {a b:ab},a.same b=true->a=b:=by
 intro a b h;cases a with
 |bool a=>cases b<;>simp only [ab.same] at h<;>first | (cases h; done) |rw [BE.cT h]
 |int k a=>cases b<;>simp only [ab.same] at h<;>first | (cases h; done) | (obtain ⟨h1,h2⟩:=aa h; rw [aH h1,IE.eq_eq h2])
 |str a=>cases b<;>simp only [ab.same] at h<;>first | (cases h; done) |rw [z5 h]
 |ptr a=>cases b<;>simp only [ab.same] at h<;>first | (cases h; done) |rw [eZ h]
 |slice a l c g=>cases b<;>simp only [ab.same] at h<;>first | (cases h; done) | (obtain ⟨h1,h2⟩:=aa h; obtain ⟨h2,h3⟩:=aa h2; obtain ⟨h3,h4⟩:=aa h3; rw [eZ h1,Nat.eq_of_beq_eq_true h2,Nat.eq_of_beq_eq_true h3,Nat.eq_of_beq_eq_true h4])
 |map a=>
  cases b with
  |map b=>cases a<;>cases b<;>simp only [ab.same] at h<;>first |rfl | (cases h; done) |rw [Nat.eq_of_beq_eq_true h]
  |_=>cases a<;>simp only [ab.same] at h<;>cases h
 |func a l m=>cases b<;>simp only [ab.same] at h<;>first | (cases h; done) | (obtain ⟨h1,h2⟩:=aa h; obtain ⟨h2,h3⟩:=aa h2; rw [zX h1,sameList_eq h2,sameList_eq h3])
 |nilFunc=>cases b<;>simp only [ab.same] at h<;>first | (cases h; done) |rfl
 |iface t a=>cases b<;>simp only [ab.same] at h<;>first | (cases h; done) | (obtain ⟨h1,h2⟩:=aa h; rw [Nat.eq_of_beq_eq_true h1,ab.cT h2])
 |nilIface=>cases b<;>simp only [ab.same] at h<;>first | (cases h; done) |rfl
 |agg l=>cases b<;>simp only [ab.same] at h<;>first | (cases h; done) |rw [sameList_eq h]
 |tuple l=>cases b<;>simp only [ab.same] at h<;>first | (cases h; done) |rw [sameList_eq h]
 |ptrE i a s c=>cases b<;>simp only [ab.same] at h<;>first | (cases h; done) | (obtain ⟨h1,h2⟩:=aa h; obtain ⟨h2,h3⟩:=aa h2; obtain ⟨h3,h4⟩:=aa h3; rw [Nat.eq_of_beq_eq_true h1,IE.eq_eq h2,Nat.eq_of_beq_eq_true h3,Nat.eq_of_beq_eq_true h4])
 |sliceS i a c s nn=>cases b<;>simp only [ab.same] at h<;>first | (cases h; done) | (obtain ⟨h1,h2⟩:=aa h; obtain ⟨h2,h3⟩:=aa h2; obtain ⟨h3,h4⟩:=aa h3; obtain ⟨h4,h5⟩:=aa h4; rw [Nat.eq_of_beq_eq_true h1,IE.eq_eq h2,IE.eq_eq h3,Nat.eq_of_beq_eq_true h4,eq_of_beq h5])
 |strS a c=>cases b<;>simp only [ab.same] at h<;>first | (cases h; done) | (obtain ⟨h1,h2⟩:=aa h; rw [IE.eq_eq h1,IE.eq_eq h2])
 |sliceA i a s=>cases b<;>simp only [ab.same] at h<;>first | (cases h; done) | (obtain ⟨h1,h2⟩:=aa h; obtain ⟨h2,h3⟩:=aa h2; rw [Nat.eq_of_beq_eq_true h1,IE.eq_eq h2,Nat.eq_of_beq_eq_true h3])
theorem sameList_eq: ∀ {l m:List ab},sameList l m=true->l=m:=by
 intro l m h;cases l with
 |nil=>cases m<;>simp only [sameList] at h<;>first | (cases h; done) |rfl
 |cons a l=>
  cases m with
  |nil=>simp only [sameList] at h; cases h
  |cons b m=>
   simp only [sameList] at h;split at h
   ·rename_i e;rw [ab.cT e,sameList_eq h]
   ·cases h
end
def Bk:Option ab->Option ab->Bool
 |none,none=>true
 |some a,some b=>a.same b
 |_,_=>false
theorem GP{a b:Option ab}(h:Bk a b=true):a=b:=by
 unfold Bk at h;split at h
 ·rfl
 ·rw [ab.cT h]
 ·cases h
def T.same:T ab->T ab->Bool
 | .nil,.nil=>true
 | .node a l r,.node b l' r'=>Bk a b&&(l.same l'&&r.same r')
 |_,_=>false
theorem T.cT: ∀ {t u:T ab},t.same u=true->t=u:=by
 intro t
 induction t with
 |nil=>intro u h; cases u<;>simp only [T.same] at h<;>first |rfl | (cases h; done)
 |node v l r ihl ihr=>
  intro u h;cases u<;>simp only [T.same] at h
  ·cases h
  ·obtain ⟨h1,h2⟩:=aa h;obtain ⟨h2,h3⟩:=aa h2;rw [GP h1,ihl h2,ihr h3]
def bEq:Bool->Bool->Bool
 |true,true=>true
 |false,false=>true
 |_,_=>false
def ah.same:ah->ah->Bool
 | .cells c e o t,.cells c' e' o' t'=>c.same c'&&(Nat.beq e e'&&(bEq o o'&&Nat.beq t t'))
 | .arr ks c n o,.arr ks' c' n' o'=>eH ks ks'&&(c.eq c'&&(n.eq n'&&bEq o o'))
 | .ghost k vs c,.ghost k' vs' c'=>Nat.beq k k'&&(xk vs vs'&&c.same c')
 | .win i s c e o,.win i' s' c' e' o'=>i.eq i'&&(Nat.beq s s'&&(c.same c'&&(Nat.beq e e'&&bEq o o')))
 |_,_=>false
theorem dt{a b:Bool}(h:bEq a b=true):a=b:=by cases a<;>cases b<;>simp [bEq] at h ⊢
theorem ah.cT{a b:ah}(h:a.same b=true):a=b:=by
 cases a with
 |map es=>cases b<;>simp only [ah.same] at h<;>cases h
 |ghost k vs c=>
  cases b<;>simp only [ah.same] at h<;>first
   | (cases h; done)
   | (obtain ⟨h1,h2⟩:=aa h
      obtain ⟨h2,h3⟩:=aa h2;rw [Nat.eq_of_beq_eq_true h1,z5 h2,T.cT h3])
 |col s c k code m d n=>cases b<;>simp only [ah.same] at h<;>cases h
 |it0=>cases b<;>simp only [ah.same] at h<;>cases h
 |win idx s c e o=>
  cases b<;>simp only [ah.same] at h<;>first
   | (cases h; done)
   | (obtain ⟨h1,h2⟩:=aa h
      obtain ⟨h2,h3⟩:=aa h2;obtain ⟨h3,h4⟩:=aa h3;obtain ⟨h4,h5⟩:=aa h4;rw [IE.eq_eq h1,Nat.eq_of_beq_eq_true h2,T.cT h3,Nat.eq_of_beq_eq_true h4,dt h5])
 |arr ks c n o=>
  cases b<;>simp only [ah.same] at h<;>first
   | (cases h; done)
   | (obtain ⟨h1,h2⟩:=aa h
      obtain ⟨h2,h3⟩:=aa h2;obtain ⟨h3,h4⟩:=aa h3;rw [fm h1,IE.eq_eq h2,IE.eq_eq h3,dt h4])
 |cells c e o t=>
  cases b<;>simp only [ah.same] at h<;>first
   | (cases h; done)
   | (obtain ⟨h1,h2⟩:=aa h
      obtain ⟨h2,h3⟩:=aa h2;obtain ⟨h3,h4⟩:=aa h3;rw [T.cT h1,Nat.eq_of_beq_eq_true h2,dt h3,Nat.eq_of_beq_eq_true h4])
end
end Go.Sx
namespace Go.Sx
open Go.RowKit (Below)
noncomputable section
def Kd(C:Ctx)(want:Bool):Option ab->Option Bool
 |some (.bool t)=>
  match settle C.dec t with
  |some b=>some (b==want)
  |none=>none
 |some (.tuple [])=>some false
 |_=>none
def Bg(C:Ctx)(ev:Operand->Option ab)(all:List Oper)(g:Option (Nat×Bool)):Option Bool:=
 match g with
 |none=>some true
 |some (j,want)=>
  match pX all j with
  |none=>none
  |some d=>Kd C want (ev (.tmp d))
theorem n7{C:Ctx}{P:Program}{ρ:Env}(hC:C.Ok P ρ){f:Ren}{ev:Operand->Option ab}{a:Act}(ht:iN ρ f ev a.eval){ops:Array Oper}{o:Oper}{b:Bool}(h:Bg C ev ops.toList o.guard=some b):Region.wanted o (yielded ops a.tmps)=b:=by
 unfold Bg at h;unfold Region.wanted;split at h
 ·rename_i hg;cases h;simp [hg]
 ·rename_i j want hg;simp only [hg];rw [AE] at h;have e:ops.toList[j]? =ops[j]? :=by simp
  rw [e] at h;unfold yielded;split at h
  ·cases h
  ·rename_i d hd;rw [hd];unfold Kd at h;split at h
   ·rename_i t htm;split at h
    ·rename_i b' hs;cases h;have hv:=ht _ _ htm;have hx0:a.eval (.tmp d)=a.tmps.getD d Go.undef:=rfl;rw [hx0] at hv;generalize hx:a.tmps.getD d Go.undef=x at hv;have hb:=aq hC.dec t _ hs;cases hv;rw [hb] at hx
     have:a.tmps[d]? =some (.bool b'):=by
      rw [Array.getD_eq_getD_getElem?] at hx;cases hq:a.tmps[d]? with
      |none=>rw [hq] at hx; simp [Ee] at hx
      |some y=>rw [hq] at hx; simp at hx; rw [hx]
     simp [this]
    ·cases h
   ·rename_i htm;cases h;have hv:=ht _ _ htm;have hx0:a.eval (.tmp d)=a.tmps.getD d Go.undef:=rfl;rw [hx0] at hv;generalize hx:a.tmps.getD d Go.undef=x at hv;cases hv;rename_i a' h1 h2;rw [Array.getD_eq_getD_getElem?] at hx;cases hq:a.tmps[d]? with
    |none=>simp [hq]
    |some y=>rw [hq] at hx; simp at hx; subst hx; simp [hq]
   ·cases h
def kL:Op->Bool
 | .store .. | .mapUpdate .. | .insert .. | .entryStore .. =>true
 | .call c=>
   match c.callee with
   | .builtin .len | .builtin .cap | .builtin .min | .builtin .max=>false
   |_=>true
 |_=>false
def BF:List Oper->Nat->List Nat
 | [],_=>[]
 |o::l,i=>
  match kL o.op with
  |true=>i::BF l (i+1)
  |false=>BF l (i+1)
theorem R7: ∀(l:List Oper) (k i:Nat) (o:Oper),l[i]? =some o->kL o.op=true->k+i∈BF l k:=by
 intro l
 induction l with
 |nil=>intro k i o h; simp at h
 |cons x l ih=>
  intro k i o h he;cases i with
  |zero=>
   simp at h;subst h;simp [BF,he]
  |succ i=>
   have:=ih (k+1) i o (by simpa using h) he
   have e:k+1+i=k+(i+1):=by omega
   rw [e] at this;unfold BF;split
   ·exact List.mem_cons_of_mem _ this
   ·exact this
inductive Dom (ops:Array Oper):Nat->Nat->Prop where
 |one {i:Nat} {o:Oper} {e:Edge} (h:ops[i]? =some o) (he:e∈o.after) (hb:Region.binds .any e=true):Dom ops i e.on
 |trans {i:Nat} {o:Oper} {e:Edge} {b:Nat} (h:ops[i]? =some o) (he:e∈o.after) (hb:Region.binds .any e=true) (hd:Dom ops e.on b):Dom ops i b
def mk(ms:T Nat)(i:Nat):Nat:=
 match ms.get i with
 |some m=>m
 |none=>0
def jD(ms:T Nat):List Edge->Nat
 | []=>0
 |e::l=>
  match Region.binds .any e with
  |true=>(1 <<< e.on ||| mk ms e.on) ||| jD ms l
  |false=>jD ms l
def jE(i:Nat):List Edge->Bool
 | []=>true
 |e::l=>
  match Region.binds .any e with
  |true=>Nat.blt e.on i&&jE i l
  |false=>jE i l
def KE:List Oper->Nat->T Nat->Option (T Nat)
 | [],_,ms=>some ms
 |o::l,i,ms=>
  match jE i o.after.toList with
  |true=>KE l (i+1) (ms.set i (jD ms o.after.toList))
  |false=>none
theorem zp{i:Nat}: ∀ {l:List Edge},jE i l=true-> ∀e∈l,Region.binds .any e=true->e.on<i:=by
 intro l
 induction l with
 |nil=>intro _ e he; cases he
 |cons x l ih=>
  intro h e he hb;unfold jE at h;split at h
  ·obtain ⟨h1,h2⟩:=aa h
   rcases List.mem_cons.1 he with rfl |he
   ·simpa [Nat.blt_eq] using h1
   ·exact ih h2 e he hb
  ·rename_i hx
   rcases List.mem_cons.1 he with rfl |he
   ·rw [hb] at hx; cases hx
   ·exact ih h e he hb
theorem F0{ms:T Nat}: ∀ {l:List Edge} {b:Nat},Nat.testBit (jD ms l) b=true-> ∃e∈l,Region.binds .any e=true/\(e.on=b\/Nat.testBit (mk ms e.on) b=true):=by
 intro l
 induction l with
 |nil=>intro b h; simp [jD] at h
 |cons x l ih=>
  intro b h;unfold jD at h;split at h
  ·rename_i hb;rw [Nat.testBit_or,Nat.testBit_or,Bool.or_eq_true,Bool.or_eq_true] at h
   rcases h with (h |h) |h
   ·refine ⟨x,List.mem_cons_self ..,hb,.inl ?_⟩;rw [Nat.testBit_shiftLeft] at h;simp at h;obtain ⟨h1,h2⟩:=h
    have:b-x.on=0:=by
     rcases Nat.eq_zero_or_pos (b-x.on) with h0 |h0
     ·exact h0
     ·exfalso;rw [Nat.testBit_one_eq_true_iff_self_eq_zero] at h2;omega
    omega
   ·exact ⟨x,List.mem_cons_self ..,hb,.inr h⟩
   ·obtain ⟨e,he,q⟩:=ih h;exact ⟨e,List.mem_cons_of_mem _ he,q⟩
  ·obtain ⟨e,he,q⟩:=ih h;exact ⟨e,List.mem_cons_of_mem _ he,q⟩
def sV(ops:Array Oper)(ms:T Nat):Prop:= ∀i m,ms.get i=some m-> ∀b,Nat.testBit m b=true->Dom ops i b
theorem sV.mk{ops:Array Oper}{ms:T Nat}(h:sV ops ms){i b:Nat}(hb:Nat.testBit (Sx.mk ms i) b=true):Dom ops i b:=by
 unfold Sx.mk at hb;split at hb
 ·rename_i m hm;exact h i m hm b hb
 ·simp at hb
theorem RK{ops:Array Oper}: ∀(l:List Oper) (k:Nat) (ms ms':T Nat),ops.toList.drop k=l->KE l k ms=some ms'->sV ops ms->
 sV ops ms'/\ ∀i o,k<=i->ops[i]? =some o-> ∀e∈o.after,Region.binds .any e=true->e.on<i:=by
 intro l
 induction l with
 |nil=>
  intro k ms ms' hk h hm;cases h;refine ⟨hm,fun i o hi ho=> ?_⟩
  have h1:ops.size<=k:=by simpa using hk
  have h2:=(Array.getElem?_eq_some_iff.1 ho).1;omega
 |cons x l ih=>
  intro k ms ms' hk h hm;unfold KE at h;split at h
  ·rename_i hb
   have hx:ops[k]? =some x:=by
    have:(ops.toList.drop k)[0]? =some x:=by rw [hk]; rfl
    simpa using this
   have hk':ops.toList.drop (k+1)=l:=by
    rw [<- List.drop_drop,hk];rfl
   have hm':sV ops (ms.set k (jD ms x.after.toList)):=by
    intro i m hi b hbit
    rcases T.aB hi with ⟨rfl,rfl⟩ | ⟨_,hi⟩
    ·obtain ⟨e,he,hb1,hb2⟩:=F0 hbit;have he':e∈x.after:=Array.mem_toList_iff.1 he
     rcases hb2 with rfl |hb2
     ·exact .one hx he' hb1
     ·exact .trans hx he' hb1 (hm.mk hb2)
    ·exact hm i m hi b hbit
   obtain ⟨q1,q2⟩:=ih (k+1) _ _ hk' h hm';refine ⟨q1,fun i o hi ho=> ?_⟩
   rcases Nat.lt_or_ge k i with hlt |hge
   ·exact q2 i o hlt ho
   ·have:i=k:=by omega
    subst this;rw [hx] at ho;cases ho;exact fun e he hb'=>zp hb e (Array.mem_toList_iff.2 he) hb'
  ·cases h
def m6:List Oper->Nat->T Nat->T Nat
 | [],_,t=>t
 |o::l,i,t=>
  match o.dst with
  |none=>m6 l (i+1) t
  |some d=>m6 l (i+1) (t.set d i)
def zP(own:T Nat):List Oper->Nat->Bool
 | [],_=>true
 |o::l,i=>
  match o.dst with
  |none=>zP own l (i+1)
  |some d=>
   match own.get d with
   |some j=>
    match Nat.beq j i with
    |true=>zP own l (i+1)
    |false=>false
   |none=>false
theorem MC{ops:Array Oper}: ∀(l:List Oper) (k:Nat) (t:T Nat),ops.toList.drop k=l->(∀ d m,t.get d=some m-> ∃o,ops[m]? =some o/\o.dst=some d)-> ∀d m,(m6 l k t).get d=some m-> ∃o,ops[m]? =some o/\o.dst=some d:=by
 intro l
 induction l with
 |nil=>intro k t hk h; exact h
 |cons x l ih=>
  intro k t hk h
  have hx:ops[k]? =some x:=by
   have:(ops.toList.drop k)[0]? =some x:=by rw [hk]; rfl
   simpa using this
  have hk':ops.toList.drop (k+1)=l:=by
   rw [<- List.drop_drop,hk];rfl
  unfold m6;split
  ·exact ih (k+1) t hk' h
  ·rename_i d hd;refine ih (k+1) _ hk' fun d' m hm=> ?_
   rcases T.aB hm with ⟨rfl,rfl⟩ | ⟨_,hm⟩
   ·exact ⟨x,hx,hd⟩
   ·exact h d' m hm
theorem QT{ops:Array Oper}{own:T Nat}: ∀(l:List Oper) (k:Nat),ops.toList.drop k=l->zP own l k=true-> ∀i o d,k<=i->ops[i]? =some o->o.dst=some d->own.get d=some i:=by
 intro l
 induction l with
 |nil=>
  intro k hk h i o d hi ho;have h1:ops.size<=k:=by simpa using hk
  have h2:=(Array.getElem?_eq_some_iff.1 ho).1;omega
 |cons x l ih=>
  intro k hk h i o d hi ho hd
  have hx:ops[k]? =some x:=by
   have:(ops.toList.drop k)[0]? =some x:=by rw [hk]; rfl
   simpa using this
  have hk':ops.toList.drop (k+1)=l:=by
   rw [<- List.drop_drop,hk];rfl
  rcases Nat.lt_or_ge k i with hlt |hge
  ·unfold zP at h;split at h
   ·exact ih (k+1) hk' h i o d hlt ho hd
   ·split at h
    ·split at h
     ·exact ih (k+1) hk' h i o d hlt ho hd
     ·cases h
    ·cases h
  ·have:i=k:=by omega
   subst this;rw [hx] at ho;cases ho;unfold zP at h;split at h
   ·rename_i h0; rw [hd] at h0; cases h0
   ·rename_i d' h0;rw [hd] at h0;cases h0;split at h
    ·rename_i j hj;split at h
     ·rename_i hji;rw [hj,Nat.eq_of_beq_eq_true hji]
     ·cases h
    ·cases h
def mE(ms own:T Nat)(tm0 vt:T ab)(i:Nat):Operand->Option ab
 | .tmp d=>
   match own.get d with
   |none=>tm0.get d
   |some m=>
    match Nat.testBit (mk ms i) m with
    |true=>vt.get m
    |false=>
     match Nat.testBit (mk ms m) i with
     |true=>tm0.get d
     |false=>none
 | .const v=>Qh v
 | .func g=>some (.func (.func g) [] [])
 | .global _=>none
def zb(a b:T ab):Prop:= ∀i v,a.get i=some v->b.get i=some v
theorem Ai{ms own:T Nat}{tm0 vt vt':T ab}(h:zb vt vt'){i:Nat}{x:Operand}{v:ab}(hv:mE ms own tm0 vt i x=some v):mE ms own tm0 vt' i x=some v:=by
 cases x with
 |tmp d=>
  simp only [mE] at hv ⊢;cases ho:own.get d with
  |none=>simp only [ho] at hv ⊢; exact hv
  |some m=>
   simp only [ho] at hv ⊢;cases hb:Nat.testBit (mk ms i) m with
   |true=>simp only [hb] at hv ⊢; exact h _ _ hv
   |false=>simp only [hb] at hv ⊢; exact hv
 |const c=>exact hv
 |func g=>exact hv
 |global g=>exact hv
def UN(C:Ctx)(h:T ah)(id:Nat)(ev:Operand->Option ab)(all:List Oper)(o:Oper):Option (ab×Option ah):=
 match Bg C ev all o.guard with
 |none=>none
 |some false=>some (.tuple [],none)
 |some true=>
  match K0 C h ev o.op with
  |some v=>some (v,none)
  |none=>
   match TL C ev id o.op with
   |some (ob,v)=>some (v,some ob)
   |none=>
    match o.op with
    | .build t parts=>
      match Br C ev t parts.toList with
      |some v=>some (v,none)
      |none=>none
    |_=>none
theorem SP{C:Ctx}{P:Program}{ρ:Env}(hC:C.Ok P ρ){B:Nat->Prop}{W w:World}{f:Ren}{h:T ah}(hr:au ρ B W f h w){ev:Operand->Option ab}{a:Act}(he:iN ρ f ev a.eval){ops:Array Oper}{i id:Nat}{o:Oper}(ho:ops[i]? =some o){v:ab}{ob:Option ah}
 (hv:UN C h id ev ops.toList o=some (v,ob)) (hid:f id=none) {K:Act->World->Prop} {Q:Exit->Act->World->Prop}
 (h1:ob=none-> ∀v',ai ρ f v v'->K (a.put o.dst v') w)
 (h2: ∀x,ob=some x-> ∀w' L O v',w'.heap=w.heap.push O->(w'.os=w.os/\w'.tape=w.tape/\w'.output=w.output)->L.blk=w.heap.size->c9 ρ (f.put id L) B w' L x->ai ρ (f.put id L) v v'->(∀ b,x.aZ ρ w' L b->b=L.blk)->K (a.put o.dst v') w'):wpOp P ops Q i K a w:=by
 unfold wpOp;simp only [ho];unfold UN at hv;split at hv
 ·cases hv
 ·rename_i hw;cases hv;rw [n7 hC he hw];simp only [Bool.false_eq_true,if_false];exact h1 rfl _ ai.undef
 ·rename_i hw;rw [n7 hC he hw];simp only [if_true];refine .inl ?_;unfold Oper.wp;split at hv
  ·rename_i u hrd;cases hv;obtain ⟨v',q1,q2⟩:=Gt (P:=P) hC hr he hrd;rw [q1];exact h1 rfl _ q2
  ·split at hv
   ·rename_i x u hnw;cases hv;obtain ⟨w',L,O,v',q1,q2,q3,q4,q5,q6,q7⟩:=(Km (P:=P) (w:=w) hC (hr.fresh (Nat.le_refl _)) he hid hnw).step;rw [q1];exact h2 x rfl w' L O v' q2 q3 q4 q5 q6 q7
   ·split at hv
    ·rename_i t parts hop;split at hv
     ·rename_i u hb;cases hv;obtain ⟨v',q1,q2⟩:=Aq (P:=P) hC he hb w
      have hs:(execOp a.eval o).run P w= .ok (.value v') w:=by
       unfold execOp;simp only [hop,Sem.run_bind,q1,Result.andThen_ok,Sem.run_pure]
      rw [hs];exact h1 rfl _ q2
     ·cases hv
    ·cases hv
def AH(C:Ctx)(call:bV)(h:T ah)(nx:Nat)(ev:Operand->Option ab)(all:List Oper)(o:Oper):Option (Option ab×T ah×Nat):=
 match Bg C ev all o.guard with
 |none=>none
 |some false=>some (none,h,nx)
 |some true=>mq C call h nx ev o.op
theorem Sh{C:Ctx}{P:Program}{ρ:Env}{B:Nat->Prop}{W:World}{call:bV}(hcall:cI P ρ B W call){h h':T ah}{nx nx':Nat}{ev:Operand->Option ab}{all:List Oper}{o:Oper}{r:Option ab}(hv:AH C call h nx ev all o=some (r,h',nx')):nx<=nx':=by
 unfold AH at hv;split at hv
 ·cases hv
 ·cases hv; exact Nat.le_refl _
 ·exact nF hcall hv
theorem QY{C:Ctx}{P:Program}{ρ:Env}(hC:C.Ok P ρ){B:Nat->Prop}{W:World}{call:bV}(hcall:cI P ρ B W call){w:World}{f:Ren}{h h':T ah}(hr:au ρ B W f h w){av:Operand->Option ab}{nx nx':Nat}{ops:Array Oper}{i:Nat}{o:Oper}(ho:ops[i]? =some o){r:Option ab}
 (hv:AH C call h nx av ops.toList o=some (r,h',nx')) (hfr:iF f nx nx') {a:Act} (he:iN ρ f av a.eval) {K:Act->World->Prop} {Q:Exit->Act->World->Prop}
 (hn: ∀f' w' v',f.le f'->Outside f f' nx nx'->au ρ B W f' h' w'->ai ρ f' (r.getD (.tuple [])) v'->K (a.put o.dst v') w'):wpOp P ops Q i K a w:=by
 unfold wpOp;simp only [ho];unfold AH at hv;split at hv
 ·cases hv
 ·rename_i hw;cases hv;rw [n7 hC he hw];simp only [Bool.false_eq_true,if_false];exact hn f w _ (Ren.le_refl f) (fun _ _=>rfl) hr ai.undef
 ·rename_i hw;rw [n7 hC he hw];simp only [if_true];exact .inl (w9 hC hcall hr hv hfr he hn)
def bound:Nat:=4611686018427387000
def vu(ms:T Nat)(prev:Option Nat)(i:Nat):Bool:=
 match prev with
 |some p=>
  match Nat.testBit (mk ms p) i with
  |true=>false
  |false=>true
 |none=>true
def lQ(ms:T Nat)(prev next:Option Nat)(i:Nat):Bool:=
 match next with
 |some e=>
  match Nat.testBit (mk ms i) e with
  |true=>false
  |false=>vu ms prev i
 |none=>vu ms prev i
def Cc(ms:T Nat)(prev:Option Nat)(i:Nat):Bool:=
 match prev with
 |some p=>Nat.testBit (mk ms i) p
 |none=>true
def J1(h:T ah)(id:Nat):Option ah->Bool
 |none=>true
 |some ob=>
  match h.get id with
  |none=>true
  |some x=>x.same ob
def putObj(h:T ah)(id:Nat):Option ah->Option (T ah)
 |none=>some h
 |some ob=>
  match h.get id with
  |none=>some (h.set id ob)
  |some _=>none
def mc(C:Ctx)(n:Nat)(all:List Oper)(ms own:T Nat)(tm0:T ab)(nx0:Nat)(prev next:Option Nat):List Oper->Nat->T ab->T ah->Option (T ab×T ah)
 | [],_,vt,hp=>some (vt,hp)
 |o::l,i,vt,hp=>
  match kL o.op with
  |true=>mc C n all ms own tm0 nx0 prev next l (i+1) vt hp
  |false=>
   match lQ ms prev next i with
   |false=>mc C n all ms own tm0 nx0 prev next l (i+1) vt hp
   |true=>
    match i5 n o.dst with
    |false=>none
    |true=>
     match UN C hp (nx0+i) (mE ms own tm0 vt i) all o with
     |none=>none
     |some (v,ob)=>
      match vt.get i with
      |none=>
       match Cc ms prev i with
       |false=>none
       |true=>
        match putObj hp (nx0+i) ob with
        |some hp'=>mc C n all ms own tm0 nx0 prev next l (i+1) (vt.set i v) hp'
        |none=>none
      |some u=>
       match u.same v with
       |false=>none
       |true=>
        match J1 hp (nx0+i) ob with
        |true=>mc C n all ms own tm0 nx0 prev next l (i+1) vt hp
        |false=>none
section
variable(C:Ctx)(n:Nat)(ops:Array Oper)(ms own:T Nat)(tm0:T ab)(nx0:Nat)
def Flo(i:Nat)(o:Oper)(G:T ah)(vtF:T ab):Prop:=
 i5 n o.dst=true/\ ∃vt0 h0 v ob,zb vt0 vtF/\(∀ j x,h0.get j=some x->G.get j=some x)/\UN C h0 (nx0+i) (mE ms own tm0 vt0 i) ops.toList o=some (v,ob)/\vtF.get i=some v/\ ∀b,ob=some b-> ∀x,G.get (nx0+i)=some x->x=b
end
theorem Flo.mono{C:Ctx}{n:Nat}{ops:Array Oper}{ms own:T Nat}{tm0:T ab}{nx0 i:Nat}{o:Oper}{G:T ah}{vt vt':T ab}(h:Flo C n ops ms own tm0 nx0 i o G vt)(hs:zb vt vt'):Flo C n ops ms own tm0 nx0 i o G vt':=by
 obtain ⟨h1,vt0,h0,v,ob,q1,q2,q3,q4,q5⟩:=h;exact ⟨h1,vt0,h0,v,ob,fun i v e=>hs _ _ (q1 i v e),q2,q3,hs _ _ q4,q5⟩
theorem zy{C:Ctx}{n:Nat}{ops:Array Oper}{ms own:T Nat}{tm0:T ab}{nx0:Nat}(hbd:nx0+ops.size<=bound){prev next:Option Nat}:
 ∀(l:List Oper) (k:Nat) (vt:T ab) (hp:T ah) (vt':T ab) (G:T ah),ops.toList.drop k=l->mc C n ops.toList ms own tm0 nx0 prev next l k vt hp=some (vt',G)->
 (∀ j x,hp.get j=some x->G.get j=some x)/\
 (∀ j x,G.get j=some x->hp.get j=some x\/ ∃i,k<=i/\i<ops.size/\j=nx0+i/\Cc ms prev i=true)/\
 zb vt vt'/\
 (∀ i o,k<=i->ops[i]? =some o->kL o.op=false->lQ ms prev next i=true->Flo C n ops ms own tm0 nx0 i o G vt'):=by
 intro l
 induction l with
 |nil=>
  intro k vt hp vt' G hk h;cases h;refine ⟨fun _ _ h=>h,fun _ _ h=> .inl h,fun _ _ h=>h,fun i o hi ho=> ?_⟩
  have h1:ops.size<=k:=by simpa using hk
  have h2:=(Array.getElem?_eq_some_iff.1 ho).1;omega
 |cons x l ih=>
  intro k vt hp vt' G hk h
  have hx:ops[k]? =some x:=by
   have:(ops.toList.drop k)[0]? =some x:=by rw [hk]; rfl
   simpa using this
  have hlt:k<ops.size:=(Array.getElem?_eq_some_iff.1 hx).1
  have hk':ops.toList.drop (k+1)=l:=by
   rw [<- List.drop_drop,hk];rfl
  have skip: ∀ {vt hp},(kL x.op=true\/lQ ms prev next k=false)->mc C n ops.toList ms own tm0 nx0 prev next l (k+1) vt hp=some (vt',G)->(∀ j x,hp.get j=some x->G.get j=some x)/\
   (∀ j x,G.get j=some x->hp.get j=some x\/ ∃i,k<=i/\i<ops.size/\j=nx0+i/\Cc ms prev i=true)/\zb vt vt'/\
   (∀ i o,k<=i->ops[i]? =some o->kL o.op=false->lQ ms prev next i=true->Flo C n ops ms own tm0 nx0 i o G vt'):=by
   intro vt hp hsk h;obtain ⟨q1,q2,q3,q4⟩:=ih (k+1) vt hp vt' G hk' h;refine ⟨q1,fun j y hj=>(q2 j y hj).imp id fun ⟨i,a,b,c⟩=>⟨i,by omega,b,c⟩,q3,fun i o hi ho he hm=> ?_⟩
   rcases Nat.lt_or_ge k i with hgt |hge
   ·exact q4 i o hgt ho he hm
   ·have:i=k:=by omega
    subst this;rw [hx] at ho;cases ho
    rcases hsk with h1 |h1
    ·rw [he] at h1; cases h1
    ·rw [hm] at h1; cases h1
  unfold mc at h;split at h
  ·rename_i hE;exact skip (.inl hE) h
  ·split at h
   ·rename_i hM;exact skip (.inr hM) h
   ·split at h
    ·cases h
    ·rename_i hd;split at h
     ·cases h
     ·rename_i v ob hf;split at h
      ·rename_i hvt;split at h
       ·cases h
       ·rename_i hnew;split at h
        ·rename_i hp' hput;obtain ⟨q1,q2,q3,q4⟩:=ih (k+1) _ _ vt' G hk' h
         have hsub:zb vt (vt.set k v):=fun i u hi=>by
          have hne:i≠k:=fun e=>by rw [e,hvt] at hi; cases hi
          rw [T.bp (by unfold bound at hbd; omega) hne]
          exact hi
         have hsame:(vt.set k v).get k=some v:=T.cu (by unfold bound at hbd; omega)
         have hpp:(∀ j y,hp.get j=some y->hp'.get j=some y)/\(∀ j y,hp'.get j=some y->hp.get j=some y\/j=nx0+k)/\ ∀b,ob=some b->hp'.get (nx0+k)=some b:=by
          unfold putObj at hput;split at hput
          ·cases hput;exact ⟨fun _ _ h=>h,fun _ _ h=> .inl h,fun b hb=>by cases hb⟩
          ·split at hput
           ·rename_i b hno;cases hput;refine ⟨fun j y hj=> ?_,fun j y hj=> ?_,fun b' hb'=> ?_⟩
            ·have hne:j≠nx0+k:=fun e=>by rw [e,hno] at hj; cases hj
             rw [T.bp (by unfold bound at hbd; omega) hne]
             exact hj
            ·rcases T.aB hj with ⟨e,_⟩ | ⟨_,e⟩
             ·exact .inr e
             ·exact .inl e
            ·cases hb';exact T.cu (by unfold bound at hbd; omega)
           ·cases hput
         refine ⟨fun j y hj=>q1 j y (hpp.1 j y hj),fun j y hj=> ?_,fun i u hi=>q3 i u (hsub i u hi),fun i o hi ho he hm=> ?_⟩
         ·rcases q2 j y hj with hj | ⟨i,a,b,c⟩
          ·rcases hpp.2.1 j y hj with hj |rfl
           ·exact .inl hj
           ·exact .inr ⟨k,Nat.le_refl _,hlt,rfl,hnew⟩
          ·exact .inr ⟨i,by omega,b,c⟩
         ·rcases Nat.lt_or_ge k i with hgt |hge
          ·exact q4 i o hgt ho he hm
          ·have:i=k:=by omega
           subst this;rw [hx] at ho;cases ho;refine ⟨hd,vt,hp,v,ob,fun j u hj=>q3 j u (hsub j u hj),fun j y hj=>q1 j y (hpp.1 j y hj),hf,q3 i v hsame,fun b hb y hy=> ?_⟩
           have:=q1 _ _ (hpp.2.2 b hb);rw [this] at hy;exact (Option.some.inj hy).symm
        ·cases h
      ·rename_i u hvt;split at h
       ·cases h
       ·rename_i hsm;split at h
        ·rename_i hso;obtain ⟨q1,q2,q3,q4⟩:=ih (k+1) _ _ vt' G hk' h;refine ⟨q1,fun j y hj=>(q2 j y hj).imp id fun ⟨i,a,b,c⟩=>⟨i,by omega,b,c⟩,q3,fun i o hi ho he hm=> ?_⟩
         rcases Nat.lt_or_ge k i with hgt |hge
         ·exact q4 i o hgt ho he hm
         ·have:i=k:=by omega
          subst this;rw [hx] at ho;cases ho;refine ⟨hd,vt,hp,v,ob,q3,q1,hf,q3 i v (by rw [hvt,ab.cT hsm]),fun b hb y hy=> ?_⟩
          subst hb
          rcases q2 _ _ hy with hy' | ⟨i',a,b',c,_⟩
          ·unfold J1 at hso;rw [hy'] at hso;exact ah.cT hso
          ·omega
        ·cases h
def A4(ms:T Nat)(e:Nat):List Nat->Bool
 | []=>true
 |x::l=>
  match Nat.testBit (mk ms x) e with
  |true=>A4 ms e l
  |false=>false
theorem LQ{ms:T Nat}{e:Nat}: ∀ {l:List Nat},A4 ms e l=true-> ∀x∈l,Nat.testBit (mk ms x) e=true:=by
 intro l
 induction l with
 |nil=>intro _ x hx; cases hx
 |cons y l ih=>
  intro h x hx;unfold A4 at h;split at h
  ·rename_i hy
   rcases List.mem_cons.1 hx with rfl |hx
   ·exact hy
   ·exact ih h x hx
  ·cases h
def FG:List Oper->Nat->Option Oper
 | [],_=>none
 |o::_,0=>some o
 |_::l,n+1=>FG l n
theorem OH(l:List Oper)(j:Nat):FG l j=l[j]? :=by
 induction l generalizing j with
 |nil=>simp [FG]
 |cons o l ih=>cases j<;>simp [FG,ih]
def DY(C:Ctx)(call:bV)(n:Nat)(all:List Oper)(ms own:T Nat)(tm0:T ab)(nx0:Nat):Option Nat->List Nat->T ab->T ah->Nat->Option (T ab×T ah×Nat)
 |prev,[],vt,hp,nx=>
  match mc C n all ms own tm0 nx0 prev none all 0 vt hp with
  |some (vt',G)=>some (vt',G,nx)
  |none=>none
 |prev,e::E,vt,hp,nx=>
  match A4 ms e E with
  |false=>none
  |true=>
   match mc C n all ms own tm0 nx0 prev (some e) all 0 vt hp with
   |none=>none
   |some (vt1,G)=>
    match FG all e with
    |none=>none
    |some o=>
     match i5 n o.dst with
     |false=>none
     |true=>
      match Nat.blt e 1000000 with
      |false=>none
      |true=>
       match vt1.get e with
       |some _=>none
       |none=>
        match AH C call G nx (mE ms own tm0 vt1 e) all o with
        |some (r,H,nx')=>DY C call n all ms own tm0 nx0 (some e) E (vt1.set e (r.getD (.tuple []))) H nx'
        |none=>none
section
variable(C:Ctx)(call:bV)(n:Nat)(ops:Array Oper)(ms own:T Nat)(tm0:T ab)(nx0:Nat)(vtF:T ab)(GF:T ah)(nxF:Nat)
inductive Run:Option Nat->List Nat->T ah->Nat->Prop where
 |done {prev:Option Nat} (h: ∀i o,ops[i]? =some o->kL o.op=false->lQ ms prev none i=true->Flo C n ops ms own tm0 nx0 i o GF vtF):Run prev [] GF nxF
 |step {prev:Option Nat} {e:Nat} {E:List Nat} {G H G':T ah} {nx nx':Nat} {o:Oper} {r:Option ab} {vt0:T ab}
  (h: ∀i o,ops[i]? =some o->kL o.op=false->lQ ms prev (some e) i=true->Flo C n ops ms own tm0 nx0 i o G vtF)
  (hE: ∀x∈E,Nat.testBit (mk ms x) e=true) (ho:ops[e]? =some o) (hd:i5 n o.dst=true) (hs:zb vt0 vtF)
  (ha:AH C call G nx (mE ms own tm0 vt0 e) ops.toList o=some (r,H,nx')) (hv:vtF.get e=some (r.getD (.tuple [])))
  (hg: ∀j x,G'.get j=some x->H.get j=some x\/ ∃i,i<ops.size/\j=nx0+i/\Nat.testBit (mk ms i) e=true)
  (hnx:nx<=nx') (hrun:Run (some e) E G' nx'):Run prev (e::E) G nx
end
theorem Run.nx{C:Ctx}{call:bV}{n:Nat}{ops:Array Oper}{ms own:T Nat}{tm0:T ab}{nx0:Nat}{vtF:T ab}{GF:T ah}{nxF:Nat}{prev:Option Nat}{E:List Nat}{G:T ah}{nx:Nat}(h:Run C call n ops ms own tm0 nx0 vtF GF nxF prev E G nx):nx<=nxF:=by
 induction h with
 |done=>exact Nat.le_refl _
 |step h hE ho hd hs ha hv hg hnx hrun ih=>exact Nat.le_trans hnx ih
theorem Pf{C:Ctx}{P:Program}{ρ:Env}{B:Nat->Prop}{W:World}{call:bV}(hcall:cI P ρ B W call){n:Nat}{ops:Array Oper}{ms own:T Nat}{tm0:T ab}{nx0:Nat}(hbd:nx0+ops.size<=bound){vtF:T ab}{GF:T ah}{nxF:Nat}:
 ∀(E:List Nat) (prev:Option Nat) (vt:T ab) (hp:T ah) (nx:Nat),DY C call n ops.toList ms own tm0 nx0 prev E vt hp nx=some (vtF,GF,nxF)->
 ∃G,Run C call n ops ms own tm0 nx0 vtF GF nxF prev E G nx/\(∀ j x,G.get j=some x->hp.get j=some x\/ ∃i,i<ops.size/\j=nx0+i/\Cc ms prev i=true)/\zb vt vtF:=by
 intro E
 induction E with
 |nil=>
  intro prev vt hp nx h;unfold DY at h;split at h
  ·rename_i vt' G hst;cases h;obtain ⟨q1,q2,q3,q4⟩:=zy hbd _ 0 _ _ _ _ rfl hst;exact ⟨GF,.done fun i o ho he hm=>q4 i o (Nat.zero_le _) ho he hm,fun j x hj=>(q2 j x hj).imp id fun ⟨i,a,b,c⟩=>⟨i,b,c⟩,q3⟩
  ·cases h
 |cons e E ih=>
  intro prev vt hp nx h;unfold DY at h;split at h
  ·cases h
  ·rename_i hall;split at h
   ·cases h
   ·rename_i vt1 G hst;split at h
    ·cases h
    ·rename_i o ho;split at h
     ·cases h
     ·rename_i hd;split at h
      ·cases h
      ·rename_i hlt;split at h
       ·cases h
       ·rename_i hno;split at h
        ·rename_i r H nx' ha;obtain ⟨q1,q2,q3,q4⟩:=zy hbd _ 0 _ _ _ _ rfl hst;obtain ⟨G',r1,r2,r3⟩:=ih _ _ _ _ h
         have hlt':e<4611686018427387904:=by
          have:e<1000000:=by simpa [Nat.blt_eq] using hlt
          omega
         have hsub:zb vt1 (vt1.set e (r.getD (.tuple []))):=fun i u hi=>by
          have hne:i≠e:=fun e'=>by rw [e',hno] at hi; cases hi
          rw [T.bp hlt' hne];exact hi
         have hs1:zb vt1 vtF:=fun i u hi=>r3 i u (hsub i u hi)
         refine ⟨G,.step (fun i o ho he hm=>(q4 i o (Nat.zero_le _) ho he hm).mono hs1) (LQ hall) (by rw [OH] at ho; simpa using ho) hd hs1 ha (r3 e _ (T.cu hlt')) r2 (Sh hcall ha) r1,fun j x hj=>(q2 j x hj).imp id fun ⟨i,a,b,c⟩=>⟨i,b,c⟩,fun i u hi=>hs1 i u (q3 i u hi)⟩
        ·cases h
def ym(vt:T ab):List Oper->Nat->T ab->Option (T ab)
 | [],_,tm=>some tm
 |o::l,i,tm=>
  match o.dst with
  |none=>ym vt l (i+1) tm
  |some d=>
   match vt.get i with
   |some v=>ym vt l (i+1) (tm.set d v)
   |none=>none
theorem O5{ops:Array Oper}{vt tm0:T ab}: ∀(l:List Oper) (k:Nat) (tm tm':T ab),ops.toList.drop k=l->ym vt l k tm=some tm'->
 (∀ d v,tm.get d=some v->(∃ (i:Nat) (o:Oper),ops[i]? =some o/\o.dst=some d/\vt.get i=some v)\/((∀ (i:Nat) (o:Oper),i<k->ops[i]? =some o->o.dst≠some d)/\tm0.get d=some v))->
 (∀ d v,tm'.get d=some v->(∃ (i:Nat) (o:Oper),ops[i]? =some o/\o.dst=some d/\vt.get i=some v)\/((∀ (i:Nat) (o:Oper),ops[i]? =some o->o.dst≠some d)/\tm0.get d=some v)):=by
 intro l
 induction l with
 |nil=>
  intro k tm tm' hk h hI d v hv;cases h;refine (hI d v hv).imp id fun ⟨a,b⟩=>⟨fun i o ho=>a i o ?_ ho,b⟩
  have h1:ops.size<=k:=by simpa using hk
  have h2:=(Array.getElem?_eq_some_iff.1 ho).1;omega
 |cons x l ih=>
  intro k tm tm' hk h hI
  have hx:ops[k]? =some x:=by
   have:(ops.toList.drop k)[0]? =some x:=by rw [hk]; rfl
   simpa using this
  have hk':ops.toList.drop (k+1)=l:=by
   rw [<- List.drop_drop,hk];rfl
  unfold ym at h;split at h
  ·rename_i hno;refine ih (k+1) tm tm' hk' h fun d v hv=>(hI d v hv).imp id fun ⟨a,b⟩=>⟨fun i o hi ho hd=> ?_,b⟩
   rcases Nat.lt_or_ge i k with h1 |h1
   ·exact a i o h1 ho hd
   ·have:i=k:=by omega
    subst this;rw [hx] at ho;cases ho;rw [hno] at hd;cases hd
  ·rename_i d hd;split at h
   ·rename_i v hv;refine ih (k+1) _ tm' hk' h fun d' v' hv'=> ?_
    rcases T.aB hv' with ⟨rfl,rfl⟩ | ⟨hne,hv'⟩
    ·exact .inl ⟨k,x,hx,hd,hv⟩
    ·refine (hI d' v' hv').imp id fun ⟨a,b⟩=>⟨fun i o hi ho hd'=> ?_,b⟩
     rcases Nat.lt_or_ge i k with h1 |h1
     ·exact a i o h1 ho hd'
     ·have:i=k:=by omega
      subst this;rw [hx] at ho;cases ho;rw [hd] at hd';cases hd';exact hne rfl
   ·cases h
def xp(C:Ctx):uI:=fun call n ops s=>
 match KE ops 0 .nil with
 |none=>none
 |some ms=>
  match zP (m6 ops 0 .nil) ops 0,Nat.ble (s.nx+ops.length) bound with
  |true,true=>
   match DY C call n ops ms (m6 ops 0 .nil) s.tm s.nx none (BF ops 0) .nil s.hp (s.nx+ops.length) with
   |some (vt,G,nx)=>
    match ym vt ops 0 s.tm with
    |some tm=>some ⟨tm,G,nx⟩
    |none=>none
   |none=>none
  |_,_=>none
theorem au.sub{ρ:Env}{B:Nat->Prop}{W w:World}{f:Ren}{h h':T ah}(hr:au ρ B W f h w)(hs: ∀j x L,f j=some L->h'.get j=some x->h.get j=some x):au ρ B W f h' w:=
 ⟨hr.below,hr.bsize,hr.lt,fun i j Li Lj oi oj hi hj gi gj=>hr.apart i j Li Lj oi oj hi hj (hs i _ _ hi gi) (hs j _ _ hj gj),fun i L o hi hg=>hr.obj i L o hi (hs i _ _ hi hg)⟩
theorem Ns{p q:Nat->Bool}{i:Nat}(hpq: ∀j,q j=true->p j=true)(hp:p i=true)(hq:q i=false): ∀(l:List Nat),i∈l->l.countP q<l.countP p:=by
 intro l
 induction l with
 |nil=>intro h; cases h
 |cons x l ih=>
  intro h;rw [List.countP_cons,List.countP_cons];have hle:l.countP q<=l.countP p:=List.countP_mono_left fun a _ ha=>hpq a ha
  by_cases hx:x=i
  ·subst hx;simp only [hp,hq,if_true,Bool.false_eq_true,if_false];omega
  ·have hm:i∈l:=by
    rcases List.mem_cons.1 h with h |h
    ·exact absurd h.symm hx
    ·exact h
   have:=ih hm;cases hqx:q x
   ·simp only [Bool.false_eq_true,if_false];cases p x<;>simp<;>omega
   ·simp only [hpq x hqx,if_true];omega
section
variable(C:Ctx)(n:Nat)(ops:Array Oper)(own:T Nat)(tm0:T ab)(nx0:Nat)(vtF:T ab)(ρ:Env)(B:Nat->Prop)(W:World)(N:Nat)(f0:Ren)
def qq(aC:Array Bool)(d:Nat):Option ab:=
 match own.get d with
 |none=>tm0.get d
 |some m=>
  match aC.getD m false with
  |true=>vtF.get m
  |false=>tm0.get d
structure Inv (aC:Array Bool) (f:Ren) (a:Act) (w:World) (prev:Option Nat) (E:List Nat) (G:T ah) (nx:Nat):Prop where
 lsize:aC.size=ops.size
 closed: ∀i o,ops[i]? =some o->aC.getD i false=true-> ∀e∈o.after,Region.binds .any e=true->aC.getD e.on false=true
 esuf: ∀e∈E,aC.getD e false=false
 eeff: ∀e∈E,∃o,ops[e]? =some o/\kL o.op=true
 eall: ∀i o,ops[i]? =some o->kL o.op=true->aC.getD i false=false->i∈E
 prev: ∀p,prev=some p->aC.getD p false=true
 size:a.tmps.size=n
 defers:a.defers=[]
 tm: ∀d v,qq own tm0 vtF aC d=some v->ai ρ f v (a.tmps.getD d Go.undef)
 heap:au ρ B W f G w
 pend: ∀i,i<ops.size->aC.getD i false=false->f (nx0+i)=none
 fresh:iF f nx N
 le:f0.le f
 out:Outside f0 f nx0 nx
 low:nx0+ops.size<=nx
end
theorem jP{aC:Array Bool}{i j:Nat}(hi:i<aC.size):(aC.setIfInBounds i true).getD j false=if j=i then true else aC.getD j false:=by
 by_cases h:j=i
 ·subst h;simp [hi]
 ·rw [if_neg h,getD_set_ne false (Ne.symm h)]
theorem mr{aC:Array Bool}{i:Nat}(h:aC.getD i true=false):aC.getD i false=false:=by
 rcases Nat.lt_or_ge i aC.size with hl |hl
 ·simp [hl] at h ⊢;exact h
 ·simp [Array.getElem?_eq_none hl] at h
theorem uW{aC:Array Bool}{i:Nat}(hl:i<aC.size)(h:aC.getD i false=false):aC.getD i true=false:=by
 simp [hl] at h ⊢;exact h
theorem Dom.aC{ops:Array Oper}{S:Nat->Prop}(hc: ∀i o,ops[i]? =some o->S i-> ∀e∈o.after,Region.binds .any e=true->S e.on){i b:Nat}(h:Dom ops i b):S i->S b:=by
 induction h with
 |one h he hb=>intro hi; exact hc _ _ h hi _ he hb
 |trans h he hb hd ih=>intro hi; exact ih (hc _ _ h hi _ he hb)
theorem Qc{own:T Nat}{tm0 vtF:T ab}{ρ:Env}{f f':Ren}{ops:Array Oper}{aC:Array Bool}{a:Act}(hsz:aC.size=ops.size)(hown1: ∀d m,own.get d=some m-> ∃o,ops[m]? =some o/\o.dst=some d)(hown2: ∀i o d,ops[i]? =some o->o.dst=some d->own.get d=some i)
 (htm: ∀d v,qq own tm0 vtF aC d=some v->ai ρ f v (a.tmps.getD d Go.undef)) (hle:f.le f') {i:Nat} {o:Oper} (ho:ops[i]? =some o) (hd:i5 a.tmps.size o.dst=true) {v:ab} (hv:vtF.get i=some v) {v':Value} (hvv:ai ρ f' v v'):
 ∀d u,qq own tm0 vtF (aC.setIfInBounds i true) d=some u->ai ρ f' u ((a.put o.dst v').tmps.getD d Go.undef):=by
 have hi:i<aC.size:=by rw [hsz]; exact (Array.getElem?_eq_some_iff.1 ho).1
 intro d u hu
 by_cases hdd:o.dst=some d
 ·have e:=hown2 i o d ho hdd;unfold qq at hu;rw [e] at hu;simp only [jP hi,if_true] at hu;rw [hv] at hu;cases hu;have hlt:d<a.tmps.size:=by rw [hdd] at hd; simpa [i5,Nat.blt_eq] using hd
  rw [hdd];simp only [Act.put];rw [pv hlt];exact hvv
 ·have hsame:(a.put o.dst v').tmps.getD d Go.undef=a.tmps.getD d Go.undef:=by
   cases hq:o.dst with
   |none=>rfl
   |some d'=>
    have:d'≠d:=fun e=>hdd (by rw [hq,e])
    simp only [Act.put];exact nz this
  rw [hsame];refine (htm d u ?_).mono hle;unfold qq at hu ⊢;cases hq:own.get d with
  |none=>rw [hq] at hu; exact hu
  |some m=>
   rw [hq] at hu
   have hm:m≠i:=by
    intro e;obtain ⟨o',h1,h2⟩:=hown1 d m hq;rw [e,ho] at h1;cases h1;exact hdd h2
   simp only [jP hi,if_neg hm] at hu;exact hu
theorem R9{C:Ctx}{P:Program}{ρ:Env}(hC:C.Ok P ρ){B:Nat->Prop}{W:World}{call:bV}(hcall:cI P ρ B W call){n N:Nat}{ops:Array Oper}{ms own:T Nat}{tm0:T ab}{nx0:Nat}{vtF:T ab}{GF:T ah}{nxF:Nat}(hms:sV ops ms)
 (hback: ∀i o,ops[i]? =some o-> ∀e∈o.after,Region.binds .any e=true->e.on<i)
 (hown1: ∀d m,own.get d=some m-> ∃o,ops[m]? =some o/\o.dst=some d) (hown2: ∀i o d,ops[i]? =some o->o.dst=some d->own.get d=some i) (hN:nxF<=N) {f0:Ren} {Q:Exit->Act->World->Prop}
 (hQ: ∀f a w,f0.le f->Outside f0 f nx0 nxF->a.tmps.size=n->a.defers=[]->(∀ d v,(match own.get d with
    |none=>tm0.get d
    |some m=>vtF.get m)=some v->ai ρ f v (a.tmps.getD d Go.undef))->au ρ B W f GF w->iF f nxF N->Q .normal a w):
 ∀(fuel:Nat) (aC:Array Bool) (a:Act) (w:World) (f:Ren) (prev:Option Nat) (E:List Nat) (G:T ah) (nx:Nat),Run C call n ops ms own tm0 nx0 vtF GF nxF prev E G nx->Inv n ops own tm0 nx0 vtF ρ B W N f0 aC f a w prev E G nx->
  (List.range ops.size).countP (fun i=> !aC.getD i false)<=fuel->wpAny P .any ops Q fuel aC a w:=by
 -- all aC: the end
 have fin: ∀(aC:Array Bool) (a:Act) (w:World) (f:Ren) (prev:Option Nat) (E:List Nat) (G:T ah) (nx:Nat),Run C call n ops ms own tm0 nx0 vtF GF nxF prev E G nx->Inv n ops own tm0 nx0 vtF ρ B W N f0 aC f a w prev E G nx->(∀ i,i<ops.size->aC.getD i false=true)->Q .normal a w:=by
  intro aC a w f prev E G nx hrun hI hall;cases hrun with
  |done h=>
   refine hQ f a w hI.le hI.out hI.size hI.defers (fun d v hv=>hI.tm d v ?_) hI.heap hI.fresh
   unfold qq;cases hq:own.get d with
   |none=>rw [hq] at hv; exact hv
   |some m=>
    rw [hq] at hv;obtain ⟨o,h1,_⟩:=hown1 d m hq;simp only [hall m (Array.getElem?_eq_some_iff.1 h1).1];exact hv
  | @step _ e _ _ _ _ _ _ _ _ _ h hE ho hd hs ha hv hg hnx hrun=>
    have h1:=hI.esuf e (List.mem_cons_self ..);rw [hall e (Array.getElem?_eq_some_iff.1 ho).1] at h1;cases h1
 have none_ready: ∀(aC:Array Bool),aC.size=ops.size->Region.ready .any ops aC=[]-> ∀i,i<ops.size->aC.getD i false=true:=by
  intro aC hsz hr i
  induction i using Nat.strongRecOn with
  |_ i ih=>
   intro hi;cases hl:aC.getD i false
   ·exfalso
    have:i∈Region.ready .any ops aC:=mem_ready.2 ⟨uW (by omega) hl,ops[i],by simp [hi],fun e he hb=>by
     have hlt:=hback i ops[i] (by simp [hi]) e he hb
     exact ih e.on hlt (by omega)⟩
    rw [hr] at this;cases this
   ·rfl
 intro fuel
 induction fuel with
 |zero=>
  intro aC a w f prev E G nx hrun hI hc
  have hall: ∀i,i<ops.size->aC.getD i false=true:=by
   intro i hi;cases hl:aC.getD i false
   ·exfalso;have:0<(List.range ops.size).countP (fun i=> !aC.getD i false):=List.countP_pos_iff.2 ⟨i,List.mem_range.2 hi,by simp only [hl]; rfl⟩
    omega
   ·rfl
  refine ⟨?_,fin aC a w f prev E G nx hrun hI hall⟩;cases hr:Region.ready .any ops aC with
  |nil=>rfl
  |cons x xs=>
   exfalso;have hx:x∈Region.ready .any ops aC:=by rw [hr]; exact List.mem_cons_self ..
   obtain ⟨h1,o,h2,_⟩:=mem_ready.1 hx;have h3:=hall x (Array.getElem?_eq_some_iff.1 h2).1;rw [mr h1] at h3;cases h3
 |succ fuel ih=>
  intro aC a w f prev E G nx hrun hI hc;refine ⟨fun hr=>fin aC a w f prev E G nx hrun hI (none_ready aC hI.lsize hr),fun i hi=> ?_⟩
  obtain ⟨hun',o,ho,hpre⟩:=mem_ready.1 hi;have hun:=mr hun';have hisz:i<ops.size:=(Array.getElem?_eq_some_iff.1 ho).1;have hil:i<aC.size:=by rw [hI.lsize]; exact hisz
  -- what must come before is aC
  have hdom: ∀b,Dom ops i b->aC.getD b false=true:=by
   intro b hb;cases hb with
   |one h he hb=>
    rw [ho] at h; cases h;exact hpre _ he hb
   |trans h he hb hd=>
    rw [ho] at h; cases h;exact hd.aC (S:=fun i=>aC.getD i false=true) hI.closed (hpre _ he hb)
  have hdomS: ∀m b,aC.getD m false=true->Dom ops m b->aC.getD b false=true:=fun m b hm hb=>hb.aC (S:=fun i=>aC.getD i false=true) hI.closed hm
  -- what it sees
  have hev:iN ρ f (mE ms own tm0 vtF i) a.eval:=by
   intro x v hx;cases x with
   |tmp d=>
    refine hI.tm d v ?_;simp only [mE] at hx;unfold qq;cases hq:own.get d with
    |none=>simp only [hq] at hx ⊢; exact hx
    |some m=>
     simp only [hq] at hx ⊢;cases hb:Nat.testBit (mk ms i) m with
     |true=>
      simp only [hb] at hx;rw [hdom m (hms.mk hb)];exact hx
     |false=>
      simp only [hb] at hx;cases hb2:Nat.testBit (mk ms m) i with
      |true=>
       simp only [hb2] at hx;cases hl:aC.getD m false
       ·exact hx
       ·have:=hdomS m i hl (hms.mk hb2);rw [hun] at this;cases this
      |false=>
       simp only [hb2] at hx;cases hx
   |const c=>exact Cw hx
   |func g=>cases hx; exact .func rfl rfl (by simp) (by simp)
   |global g=>cases hx
  have hcount:(List.range ops.size).countP (fun j=> !(aC.setIfInBounds i true).getD j false)<=fuel:=by
   have:=Ns (p:=fun j=> !aC.getD j false) (q:=fun j=> !(aC.setIfInBounds i true).getD j false) (i:=i) (fun j hj=>by
    simp only [jP hil] at hj;split at hj
    ·cases hj
    ·exact hj) (by simp only [hun]; rfl) (by simp only [jP hil,if_true]; rfl) (List.range ops.size) (List.mem_range.2 hisz)
   omega
  have hlset: ∀j,(aC.setIfInBounds i true).getD j false=if j=i then true else aC.getD j false:=fun j=>jP hil
  have hclosed: ∀j o',ops[j]? =some o'->(aC.setIfInBounds i true).getD j false=true-> ∀e∈o'.after,Region.binds .any e=true->(aC.setIfInBounds i true).getD e.on false=true:=by
   intro j o' ho' hj e he hb;rw [hlset] at hj ⊢
   by_cases hji:j=i
   ·subst hji;rw [ho] at ho';cases ho';rw [hpre e he hb];simp
   ·rw [if_neg hji] at hj;rw [hI.closed j o' ho' hj e he hb];simp
  cases hE:kL o.op with
  |false=>
   -- a floater
   have flo: ∀next,(∀ j o,ops[j]? =some o->kL o.op=false->lQ ms prev next j=true->Flo C n ops ms own tm0 nx0 j o G vtF)->(∀ e,next=some e->aC.getD e false=false)->wpOp P ops Q i (wpAny P .any ops Q fuel (aC.setIfInBounds i true)) a w:=by
    intro next hst hnext
    have hnd:vu ms prev i=true:=by
     unfold vu;split
     ·rename_i p;split
      ·rename_i hb;have:=hdomS p i (hI.prev p rfl) (hms.mk hb);rw [hun] at this;cases this
      ·rfl
     ·rfl
    have hmay:lQ ms prev next i=true:=by
     unfold lQ;split
     ·rename_i e;split
      ·rename_i hb;have:=hdom e (hms.mk hb);rw [hnext e rfl] at this;cases this
      ·exact hnd
     ·exact hnd
    obtain ⟨hd,vt0,h0,v,ob,q1,q2,q3,q4,q5⟩:=hst i o ho hE hmay;have hd':i5 a.tmps.size o.dst=true:=by rw [hI.size]; exact hd
    have hr0:au ρ B W f h0 w:=hI.heap.sub fun j x L _ hj=>q2 j x hj
    have he0:iN ρ f (mE ms own tm0 vt0 i) a.eval:=fun x u hx=>hev x u (Ai q1 hx)
    have hid:=hI.pend i hisz hun
    have stepF: ∀f' w' v',f.le f'->(∀ j,j≠nx0+i->f' j=f j)->au ρ B W f' G w'->ai ρ f' v v'->wpAny P .any ops Q fuel (aC.setIfInBounds i true) (a.put o.dst v') w':=by
     intro f' w' v' hle hsame hrel hv';have hlow:=hI.low;refine ih _ _ _ f' prev E G nx hrun ⟨by simp [hI.lsize],hclosed,fun e he=> ?_,hI.eeff,fun j o' ho' hj hl=> ?_,fun p hp=> ?_,by rw [Act.kB]; exact hI.size,by rw [Act.fV]; exact hI.defers,Qc hI.lsize hown1 hown2 hI.tm hle ho hd' q4 hv',hrel,fun j hj hl=> ?_,fun j h1 h2=> ?_,Ren.le_trans hI.le hle,fun j hj=> ?_,hI.low⟩ hcount
     ·rw [hlset]
      have hei:e≠i:=by
       intro hei;obtain ⟨o',h1,h2⟩:=hI.eeff e he;rw [hei,ho] at h1;cases h1;rw [hE] at h2;cases h2
      rw [if_neg hei];exact hI.esuf e he
     ·rw [hlset] at hl;split at hl
      ·cases hl
      ·exact hI.eall j o' ho' hj hl
     ·rw [hlset,hI.prev p hp]; simp
     ·rw [hlset] at hl;split at hl
      ·cases hl
      ·rename_i hji;rw [hsame (nx0+j) (by omega)]
       exact hI.pend j hj hl
     ·rw [hsame j (by omega)]
      exact hI.fresh j h1 h2
     ·rw [hsame j (by omega)]
      exact hI.out j hj
    refine SP hC hr0 he0 ho q3 hid (fun hob v' hv'=>stepF f w v' (Ren.le_refl f) (fun _ _=>rfl) hI.heap hv') (fun x hob w' L O v' k1 k2 k3 k4 k5 k6=>stepF (f.put (nx0+i) L) w' v' (Ren.fv L hid) (fun j hj=>Ren.bM f L hj) ?_ k5)
    exact hI.heap.LO hid k1 k2 k3 k4 k6 fun j y hj=>by
     by_cases hji:j=nx0+i
     ·subst hji;exact .inl ⟨rfl,q5 x hob y hj⟩
     ·exact .inr ⟨hji,hj⟩
   cases hrun with
   |done h=>exact flo none h (fun e he=>by cases he)
   | @step _ e _ _ _ _ _ _ _ _ _ h hE' ho' hd hs ha hv hg hnx hrun'=>exact flo (some e) h (fun e' he'=>by cases he'; exact hI.esuf e (List.mem_cons_self ..))
  |true=>
   have hiE:=hI.eall i o ho hE hun;cases hrun with
   |done h=>cases hiE
   | @step _ e E' _ H G' _ nx' o2 r vt0 h hE' ho' hd hs ha hv hg hnx hrun'=>
     have hie:i=e:=by
      rcases List.mem_cons.1 hiE with h1 |h1
      ·exact h1
      ·have:=hdom e (hms.mk (hE' i h1));rw [hI.esuf e (List.mem_cons_self ..)] at this;cases this
     subst hie;rw [ho] at ho';cases ho';have hd':i5 a.tmps.size o.dst=true:=by rw [hI.size]; exact hd
     have he0:iN ρ f (mE ms own tm0 vt0 i) a.eval:=fun x u hx=>hev x u (Ai hs hx)
     have hnxF:=hrun'.nx;refine QY hC hcall hI.heap ho ha (hI.fresh.sub (Nat.le_refl _) (by omega)) he0 fun f' w' v' hle hout hrel hv'=> ?_
     have hlow:=hI.low;refine ih _ _ _ f' (some i) E' G' nx' hrun' ⟨by simp [hI.lsize],hclosed,fun e he=> ?_,fun e he=>hI.eeff e (List.mem_cons_of_mem _ he),fun j o' ho' hj hl=> ?_,fun p hp=> ?_,by rw [Act.kB]; exact hI.size,by rw [Act.fV]; exact hI.defers,Qc hI.lsize hown1 hown2 hI.tm hle ho hd' hv hv',?_,fun j hj hl=> ?_,hI.fresh.step hout hnx,Ren.le_trans hI.le hle,hI.out.trans hout (by omega) hnx,by omega⟩ hcount
     ·rw [hlset]
      have hei:e≠i:=by
       intro hei;rw [hei] at he;have:=hdom i (hms.mk (hE' i he));rw [hun] at this;cases this
      rw [if_neg hei];exact hI.esuf e (List.mem_cons_of_mem _ he)
     ·rw [hlset] at hl;split at hl
      ·cases hl
      ·rename_i hji
       rcases List.mem_cons.1 (hI.eall j o' ho' hj hl) with h1 |h1
       ·exact absurd h1 hji
       ·exact h1
     ·cases hp;rw [hlset];simp
     ·refine hrel.sub fun j x L hfj hgj=> ?_
      rcases hg j x hgj with h1 | ⟨i',h1,rfl,h2⟩
      ·exact h1
      ·exfalso
       have hl:aC.getD i' false=false:=by
        cases hl:aC.getD i' false
        ·rfl
        ·have:=hdomS i' i hl (hms.mk h2);rw [hun] at this;cases this
       rw [hout (nx0+i') (.inl (by omega)),hI.pend i' h1 hl] at hfj
       cases hfj
     ·rw [hlset] at hl;split at hl
      ·cases hl
      ·rw [hout (nx0+j) (.inl (by omega))]
       exact hI.pend j hj hl
theorem OB: ∀(l:List Oper) (k e:Nat),e∈BF l k-> ∃i o,e=k+i/\l[i]? =some o/\kL o.op=true:=by
 intro l
 induction l with
 |nil=>intro k e h; cases h
 |cons x l ih=>
  intro k e h;unfold BF at h;split at h
  ·rename_i hx
   rcases List.mem_cons.1 h with rfl |h
   ·exact ⟨0,x,rfl,rfl,hx⟩
   ·obtain ⟨i,o,h1,h2,h3⟩:=ih _ _ h;exact ⟨i+1,o,by omega,by simpa using h2,h3⟩
  ·obtain ⟨i,o,h1,h2,h3⟩:=ih _ _ h;exact ⟨i+1,o,by omega,by simpa using h2,h3⟩
theorem au.drawn{ρ:Env}{B:Nat->Prop}{W w:World}{f:Ren}{h:T ah}(hr:au ρ B W f h w):au ρ B W f h {w with drawn:=w.drawn+1}:=
 hr.drew _
theorem Es{C:Ctx}{P:Program}{ρ:Env}(hC:C.Ok P ρ){B:Nat->Prop}{W:World}:Bo P ρ B W (xp C):=by
 intro call hcall n ops s s' h;unfold xp at h;split at h
 ·cases h
 ·rename_i ms hms;split at h
  ·rename_i hown hbd;split at h
   ·rename_i vt G nx hp;split at h
    ·rename_i tm hft;cases h;have hbd':s.nx+ops.size<=bound:=by simpa [Nat.ble_eq] using hbd
     obtain ⟨m1,m2⟩:=RK ops.toList 0 .nil ms rfl hms (fun i m hi=>by (rw [T.get_nil] at hi; cases hi))
     have o1:=MC (ops:=ops) ops.toList 0 .nil rfl (fun d m hd=>by (rw [T.get_nil] at hd; cases hd))
     have o2:=QT (ops:=ops) ops.toList 0 rfl hown;obtain ⟨G0,hrun,hg0,hsub⟩:=Pf hcall hbd' _ _ _ _ _ hp;have hlen:ops.toList.length=ops.size:=by simp
     rw [hlen] at hrun;have hnx:=hrun.nx;refine ⟨by show s.nx<=nx; omega,fun N f a w id Q hN hr hQ=>wp_region_any hC.mixed ?_⟩
     have hN':nx<=N:=hN;refine R9 hC hcall (n:=n) (N:=N) m1 (fun i o ho e he hb=>m2 i o (Nat.zero_le _) ho e he hb) o1 (fun i o d ho hd=>o2 i o d (Nat.zero_le _) ho hd) hN (f0:=f) (fun f' a' w' l1 ou sz df htm hh hfr=> ?_) ops.size _ a _ f none (BF ops.toList 0) G0 _ hrun ?_ ?_
     ·refine hQ f' a' w' l1 ou ⟨sz,?_,df,hh,hfr⟩;intro d v hd;refine htm d v ?_
      rcases O5 ops.toList 0 s.tm tm rfl hft (fun d v hd=> .inr ⟨fun i o hi=>by omega,hd⟩) d v hd with ⟨i,o,h1,h2,h3⟩ | ⟨h1,h2⟩
      ·rw [o2 i o d (Nat.zero_le _) h1 h2];exact h3
      ·cases hq:(m6 ops.toList 0 .nil).get d with
       |none=>exact h2
       |some m=>
        obtain ⟨o,k1,k2⟩:=o1 d m hq;exact absurd k2 (h1 m o k1)
     ·have hun: ∀i,(Array.replicate ops.size false).getD i false=false:=fun i=>by
       rcases Nat.lt_or_ge i ops.size with hi |hi
       ·simp [hi]
       ·simp [hi]
      refine ⟨by simp,fun i o ho hl=>(by rw [hun] at hl; cases hl),fun e _=>hun e,fun e he=> ?_,fun i o ho he _=> ?_,fun p hp=>(by cases hp),hr.size,hr.defers,fun d v hd=> ?_,?_,fun i hi _=> ?_,fun j h1 h2=>hr.fresh j (by omega) h2,Ren.le_refl f,fun _ _=>rfl,Nat.le_refl _⟩
      ·obtain ⟨i,o,h1,h2,h3⟩:=OB _ _ _ he;exact ⟨o,by rw [h1]; simpa using h2,h3⟩
      ·have:=R7 ops.toList 0 i o (by simpa using ho) he
       simpa using this
      ·refine hr.tm d v ?_;unfold qq at hd;cases hq:(m6 ops.toList 0 .nil).get d with
       |none=>rw [hq] at hd; exact hd
       |some m=>
        rw [hq] at hd;simp only [hun] at hd;exact hd
      ·refine (hr.heap.drawn).sub fun j x L hfj hgj=> ?_
       rcases hg0 j x hgj with h1 | ⟨i,h1,rfl,_⟩
       ·exact h1
       ·rw [hr.fresh (s.nx+i) (by omega) (by omega)] at hfj
        cases hfj
      ·exact hr.fresh (s.nx+i) (by omega) (by omega)
     ·have:=List.countP_le_length (p:=fun i=> !(Array.replicate ops.size false).getD i false) (l:=List.range ops.size)
      simpa using this
    ·cases h
   ·cases h
  ·cases h
end
end Go.Sx
namespace Go.Sx
open Go.RowKit (Below)
open Go.ChangeShapes Go.WideShapes Go.ChangeAt
noncomputable section
inductive PK where
 |int (k:IntKind)
 |agg (ks:List IntKind)
def PK.kinds:PK->List IntKind
 | .int k=>[k]
 | .agg ks=>ks
def sH(P:Program):List TypeId->List IntKind->Bool
 | [],[]=>true
 |t::ts,k::ks=>
  match P.underlying t with
  |some (.int j)=>
   match bf k j with
   |true=>sH P ts ks
   |false=>false
  |_=>false
 |_,_=>false
theorem IA{P:Program}: ∀ {ts:List TypeId} {ks:List IntKind},sH P ts ks=true->ts.length=ks.length/\ ∀(i:Nat) (t:TypeId),ts[i]? =some t-> ∃k,ks[i]? =some k/\P.underlying t=some (.int k):=by
 intro ts
 induction ts with
 |nil=>
  intro ks h;cases ks with
  |nil=>exact ⟨rfl,fun i t h=>by simp at h⟩
  |cons k ks=>cases h
 |cons t ts ih=>
  intro ks h;cases ks with
  |nil=>cases h
  |cons k ks=>
   unfold sH at h;split at h
   ·rename_i j hj;split at h
    ·rename_i he;obtain ⟨h1,h2⟩:=ih h;refine ⟨by simp [h1],fun i t' hi=> ?_⟩
     cases i with
     |zero=>
      simp at hi;subst hi;exact ⟨k,rfl,by rw [aH he]; exact hj⟩
     |succ i=>exact h2 i t' (by simpa using hi)
    ·cases h
   ·cases h
def Ol(P:Program)(t:TypeId):PK->Bool
 | .int k=>
   match P.underlying t with
   |some (.int j)=>bf k j
   |_=>false
 | .agg ks=>
   match P.underlying t with
   |some (.struct _) |some (.array _ _)=>
    match P.cellTypes P.depth t with
    |some ts=>sH P ts ks&&Nat.beq (P.cellsOf t) ks.length
    |none=>false
   |_=>false
def gv:List IntKind->Nat->List ab
 | [],_=>[]
 |k::ks,off=> .int k (.var off)::gv ks (off+1)
def PK.sym(off:Nat):PK->ab
 | .int k=> .int k (.var off)
 | .agg ks=> .agg (gv ks off)
theorem Be: ∀(ks:List IntKind) (off j:Nat) (v:ab),(gv ks off)[j]? =some v-> ∃k,ks[j]? =some k/\v= .int k (.var (off+j)):=by
 intro ks
 induction ks with
 |nil=>intro off j v h; simp [gv] at h
 |cons k ks ih=>
  intro off j v h;cases j with
  |zero=>simp [gv] at h; exact ⟨k,rfl,h.symm⟩
  |succ j=>
   obtain ⟨k',h1,h2⟩:=ih (off+1) j v (by simpa [gv] using h)
   exact ⟨k',by simpa using h1,by rw [h2]; congr 2; omega⟩
theorem vc(ks:List IntKind)(off:Nat):(gv ks off).length=ks.length:=by
 induction ks generalizing off with
 |nil=>rfl
 |cons k ks ih=>simp [gv,ih]
theorem nD{P:Program}{W:World}{r:Reach}{base:Nat}{t:TypeId}{k:IntKind}{v:Value}(hu:P.underlying t=some (.int k))(h:Cell.okWide P W r base t v): ∃n,v= .int k n/\k.min<=n/\n<=k.max:=by
 unfold Cell.okWide at h;rw [hu] at h;simp only at h;unfold Cell.ok at h;rw [hu] at h;cases v<;>simp only at h
 obtain ⟨rfl,h⟩:=h;exact ⟨_,rfl,h.1,h.2⟩
theorem DJ{P:Program}{W:World}{base:Nat}{t:TypeId}{pk:PK}{v:Value}(hp:Ol P t pk=true)(h:Value.okWide P W .any base t v):
 ∃ns:List Int,ns.length=pk.kinds.length/\(∀ (j:Nat) (k:IntKind) (n:Int),pk.kinds[j]? =some k->ns[j]? =some n->k.min<=n/\n<=k.max)/\
  ∀(ρ:Env) (f:Ren) (off:Nat),(∀ (j:Nat) (n:Int),ns[j]? =some n->ρ.i (off+j)=n)->ai ρ f (pk.sym off) v:=by
 cases pk with
 |int k=>
  unfold Ol at hp;simp only at hp;split at hp
  ·rename_i j hu;have:=aH hp;subst this;unfold Value.okWide at h;rw [hu] at h;obtain ⟨n,rfl,h1,h2⟩:=nD hu h;refine ⟨[n],rfl,fun j k' n' hk hn=> ?_,fun ρ f off hρ=> ?_⟩
   ·cases j with
    |zero=>simp [PK.kinds] at hk hn; subst hk; subst hn; exact ⟨h1,h2⟩
    |succ j=>simp at hn
   ·have e:=hρ 0 n rfl;have:ai ρ f (.int k (.var off)) (.int k ((IE.var off).ev ρ)):= .int k (.var off);simp only [IE.ev] at this;rw [Nat.add_zero] at e;rw [e] at this;exact this
  ·cases hp
 |agg ks=>
  have key: ∀ts,P.cellTypes P.depth t=some ts->sH P ts ks=true->P.cellsOf t=ks.length->(∃ cs,v= .agg cs/\cs.size=P.cellsOf t/\Row.okWide P W .any base t cs)->
   ∃ns:List Int,ns.length=(PK.agg ks).kinds.length/\(∀ (j:Nat) (k:IntKind) (n:Int),(PK.agg ks).kinds[j]? =some k->ns[j]? =some n->k.min<=n/\n<=k.max)/\
   ∀(ρ:Env) (f:Ren) (off:Nat),(∀ (j:Nat) (n:Int),ns[j]? =some n->ρ.i (off+j)=n)->ai ρ f ((PK.agg ks).sym off) v:=by
   intro ts hts hk hc ⟨cs,hv,hsz,ts',hts',_,hrow⟩;rw [hts] at hts';cases hts';subst hv;obtain ⟨hlen,hks⟩:=IA hk
   have hcell: ∀i,i<ks.length-> ∃k n,ks[i]? =some k/\cs[i]? =some (.int k n)/\k.min<=n/\n<=k.max:=by
    intro i hi;have hi':i<cs.size:=by rw [hsz,hc]; exact hi
    obtain ⟨u,hu,hok⟩:=hrow i cs[i] (by simp [hi'])
    rw [Nat.mod_eq_of_lt (by rw [hlen]; exact hi)] at hu
    obtain ⟨k,hk1,hk2⟩:=hks i u hu;obtain ⟨n,hn,h1,h2⟩:=nD hk2 hok;exact ⟨k,n,hk1,by simp [hi',hn],h1,h2⟩
   let val:Value->Int:=fun v=>match v with
    | .int _ n=>n
    |_=>0
   have hns: ∀(i:Nat) (n:Int),(cs.toList.map val)[i]? =some n-> ∃k,ks[i]? =some k/\cs[i]? =some (.int k n)/\k.min<=n/\n<=k.max:=by
    intro i n hi
    have hlt:i<ks.length:=by
     have:=(List.getElem?_eq_some_iff.1 hi).1;simp at this;omega
    obtain ⟨k,m,a,b,c,d⟩:=hcell i hlt;have:(cs.toList.map val)[i]? =some m:=by simp [b,val]
    rw [this] at hi;cases hi;exact ⟨k,a,b,c,d⟩
   refine ⟨cs.toList.map val,by simp [PK.kinds,hsz,hc],fun j k n hk hn=> ?_,fun ρ f off hρ=> ?_⟩
   ·obtain ⟨k',a,_,c⟩:=hns j n hn;have hk:ks[j]? =some k:=hk;rw [a] at hk;cases hk;exact c
   ·refine .agg (by rw [vc,hsz,hc]) fun i x x' hx hx'=> ?_
    obtain ⟨k,h1,rfl⟩:=Be ks off i x hx;have hlt:i<ks.length:=(List.getElem?_eq_some_iff.1 h1).1;obtain ⟨k',m,a,b,_⟩:=hcell i hlt;rw [h1] at a;cases a;rw [b] at hx';cases hx';have e:=hρ i m (by simp [b,val])
    have:ai ρ f (.int k (.var (off+i))) (.int k ((IE.var (off+i)).ev ρ)):= .int k _;simp only [IE.ev] at this;rw [e] at this;exact this
  unfold Ol at hp;simp only at hp;split at hp
  ·rename_i fs hu;split at hp
   ·rename_i ts hts;obtain ⟨h1,h2⟩:=aa hp;unfold Value.okWide at h;rw [hu] at h;exact key ts hts h1 (Nat.eq_of_beq_eq_true h2) h
   ·cases hp
  ·rename_i n e hu;split at hp
   ·rename_i ts hts;obtain ⟨h1,h2⟩:=aa hp;unfold Value.okWide at h;rw [hu] at h;exact key ts hts h1 (Nat.eq_of_beq_eq_true h2) h
   ·cases hp
  ·cases hp
def mG(P:Program):List TypeId->List PK->Bool
 | [],[]=>true
 |t::ts,p::ps=>
  match Ol P t p with
  |true=>mG P ts ps
  |false=>false
 |_,_=>false
def lD:List PK->Nat->List ab
 | [],_=>[]
 |p::ps,off=>p.sym off::lD ps (off+p.kinds.length)
def cH:List PK->List IntKind
 | []=>[]
 |p::ps=>p.kinds++cH ps
theorem vz{P:Program}{W:World}{base:Nat}: ∀(ts:List TypeId) (ps:List PK) (args:List Value),mG P ts ps=true->args.length=ts.length->(∀ (j:Nat) t v,ts[j]? =some t->args[j]? =some v->Value.okWide P W .any base t v)->
 ∃ns:List Int,ns.length=(cH ps).length/\(∀ (j:Nat) (k:IntKind) (n:Int),(cH ps)[j]? =some k->ns[j]? =some n->k.min<=n/\n<=k.max)/\
  ∀(ρ:Env) (f:Ren) (off:Nat),(∀ (j:Nat) (n:Int),ns[j]? =some n->ρ.i (off+j)=n)->az ρ f (lD ps off) args.toArray:=by
 intro ts
 induction ts with
 |nil=>
  intro ps args h hl hv;cases ps with
  |nil=>
   have:args=[]:=List.length_eq_zero_iff.1 hl;subst this;exact ⟨[],rfl,fun j k n h=>by simp [cH] at h,fun ρ f off _=>az.nil⟩
  |cons p ps=>cases h
 |cons t ts ih=>
  intro ps args h hl hv;cases ps with
  |nil=>cases h
  |cons p ps=>
   cases args with
   |nil=>simp at hl
   |cons v args=>
    unfold mG at h;split at h
    ·rename_i hp;obtain ⟨ns1,l1,b1,r1⟩:=DJ hp (hv 0 t v rfl rfl);obtain ⟨ns2,l2,b2,r2⟩:=ih ps args h (by simpa using hl) (fun j t' v' h1 h2=>hv (j+1) t' v' (by simpa using h1) (by simpa using h2))
     refine ⟨ns1++ns2,by simp [cH,l1,l2],fun j k n hk hn=> ?_,fun ρ f off hρ=> ?_⟩
     ·unfold cH at hk
      by_cases hj:j<ns1.length
      ·rw [List.getElem?_append_left hj] at hn;rw [List.getElem?_append_left (by omega)] at hk
       exact b1 j k n hk hn
      ·rw [List.getElem?_append_right (by omega)] at hn hk
       rw [<- l1] at hk;exact b2 _ k n hk hn
     ·refine az.cons (r1 ρ f off fun j n hn=>hρ j n ?_) (r2 ρ f (off+p.kinds.length) fun j n hn=> ?_)
      ·rw [List.getElem?_append_left (List.getElem?_eq_some_iff.1 hn).1];exact hn
      ·rw [Nat.add_assoc];refine hρ _ n ?_;rw [List.getElem?_append_right (by omega)]
       have e:p.kinds.length+j-ns1.length=j:=by omega
       rw [e];exact hn
    ·cases h
def DK(ps:List PK):Bd:=fun i=>
 match (aF (cH ps) 0 .nil).get i with
 |some k=>some (k.min,k.max)
 |none=>none
theorem sj{P:Program}{W:World}{base:Nat}{ts:List TypeId}{ps:List PK}{args:Array Value}(h:mG P ts ps=true)(hl:args.size=ts.length)(hv: ∀(j:Nat) t v,ts[j]? =some t->args[j]? =some v->Value.okWide P W .any base t v):
 ∃I:Nat->Int,(∀ ρ:Env,(∀ i,i<(cH ps).length->ρ.i i=I i)->(∀ i lo hi,DK ps i=some (lo,hi)->lo<=ρ.i i/\ρ.i i<=hi)/\ ∀f,az ρ f (lD ps 0) args):=by
 obtain ⟨ns,l,b,r⟩:=vz (W:=W) (base:=base) ts ps args.toList h (by simpa using hl) (fun j t v h1 h2=>hv j t v h1 (by simpa using h2))
 refine ⟨fun i=>ns.getD i 0,fun ρ hρ=>⟨fun i lo hi hb=> ?_,fun f=> ?_⟩⟩
 ·unfold DK at hb;split at hb
  ·rename_i k hk;cases hb
   rcases eK _ _ _ _ _ hk with ⟨_,hk⟩ |hk
   ·have hk:(cH ps)[i]? =some k:=by simpa using hk
    have hlt0:=(List.getElem?_eq_some_iff.1 hk).1;have hlt:i<ns.length:=by rw [l]; exact hlt0
    have:=b i k ns[i] hk (by simp [hlt])
    rw [hρ i hlt0];simp [hlt];exact this
   · (rw [T.get_nil] at hk; cases hk)
  ·cases hb
 ·have:=r ρ f 0 (fun j n hn=>by
   simp only [Nat.zero_add];have hlt:j<(cH ps).length:=by rw [<- l]; exact (List.getElem?_eq_some_iff.1 hn).1
   rw [hρ j hlt];simp [List.getD,hn])
  simpa using this
theorem au.start(ρ:Env)(W:World):au ρ (· <W.heap.size) W (fun _=>none) .nil W:=
 ⟨Kept.refl _ _,fun _ h=>h,fun i L h=>(by cases h),fun i j Li Lj oi oj h=>(by cases h),fun i L o h=>(by cases h)⟩
theorem au.after{ρ:Env}{B:Nat->Prop}{W w w':World}{f:Ren}{h:T ah}(hr:au ρ B W f h w)(hb:Below w.heap.size w w'):au ρ B W f h w':=
 hr.of_same (hr.below.trans (Below.kept hb fun b hB=>Nat.lt_of_lt_of_le (hr.bsize b hB) hr.below.size)) hb.size fun i L o hi hg b hf=>hb.block b ((hr.obj i L o hi hg).lz hf)
inductive DT where
 |leaf
 |split (b:BE) (y n:DT)
 |fix (i:Nat) (v:Int) (y n:DT)
 |range (e:IE) (t:DT)
mutual
def ab.subst(i:Nat)(n:Int):ab->ab
 | .int k (.var j)=>
   match Nat.beq i j with
   |true=> .int k (.lit n)
   |false=> .int k (.var j)
 | .agg cs=> .agg (substList i n cs)
 |v=>v
def substList(i:Nat)(n:Int):List ab->List ab
 | []=>[]
 |v::l=>v.subst i n::substList i n l
end
def Ctx.with(C:Ctx)(dec:Dec):Ctx:={C with dec:=dec}
theorem Ctx.Ok.with{C:Ctx}{P:Program}{ρ:Env}(h:C.Ok P ρ){dec:Dec}(hd:dec.holds ρ):(C.with dec).Ok P ρ:=
 ⟨h.ty,h.fn,h.bd,hd,h.plain,h.mixed⟩
def eF(P:Program)(bd:Bd):Ctx:=⟨OV P,P7 P,bd,[],fun t=> !(P.stoodInHeld t)&& !(P.eqGuardType P.depth t)⟩
theorem xg{P:Program}(hm:P.follows .mixedOrders=true){bd:Bd}{ρ:Env}(hρ:ρ.ok bd):(eF P bd).Ok P ρ:=
 ⟨MR P,Nd P,hρ,fun p hp=>(by cases hp),fun t h=>⟨by simpa using (aa h).1,by simpa using (aa h).2⟩,hm⟩
theorem Below.trodAll{H:Type}{enc:TypeId×Value->H}{P:Program}(hl:laidOutB P=true){W W':World}(hb:Below W.heap.size W W'): ∀(ts:List TypeId) (vs:List Value) (ds:List (DataW H)) (ps:List MemPlace),(∀ t∈ts,P.readableRec t=true/\t<P.types.size)->
 DataW.TrodAll enc P W 0 (fun _=>true) true ts vs ds ps->(∀ x∈ps,x.block<W.heap.size)->DataW.TrodAll enc P W' 0 (fun b=>decide (b<W.heap.size)) true ts vs ds ps:=by
 intro ts
 induction ts with
 |nil=>
  intro vs ds ps _ h _;cases vs<;>cases ds<;>simp only [DataW.TrodAll] at h ⊢
  exact h
 |cons t ts ih=>
  intro vs ds ps ht h hlt;cases vs with
  |nil=>cases ds<;>simp only [DataW.TrodAll] at h
  |cons v vs=>
   cases ds with
   |nil=>simp only [DataW.TrodAll] at h
   |cons d ds=>
    simp only [DataW.TrodAll] at h ⊢;obtain ⟨p,q,h1,h2,rfl⟩:=h;obtain ⟨a,b⟩:=ht t (List.mem_cons_self ..);exact ⟨p,q,Below.trod hl a b h1 hb (fun x hx=>hlt x (List.mem_append.2 (.inl hx))),ih vs ds q (fun t' ht'=>ht t' (List.mem_cons_of_mem _ ht')) h2 (fun x hx=>hlt x (List.mem_append.2 (.inr hx))),rfl⟩
theorem Ov{H:Type}{enc:TypeId×Value->H}{P:Program}{w:World}{base:Nat}{sp:Nat->Bool}{hd:Bool}: ∀(ts:List TypeId) (vs:List Value) (ds:List (DataW H)) (ps:List MemPlace),DataW.TrodAll enc P w base sp hd ts vs ds ps->vs.length=ts.length/\ds.length=ts.length:=by
 intro ts
 induction ts with
 |nil=>intro vs ds ps h; cases vs<;>cases ds<;>simp only [DataW.TrodAll] at h<;>exact ⟨rfl,rfl⟩
 |cons t ts ih=>
  intro vs ds ps h;cases vs with
  |nil=>cases ds<;>simp only [DataW.TrodAll] at h
  |cons v vs=>
   cases ds with
   |nil=>simp only [DataW.TrodAll] at h
   |cons d ds=>
    simp only [DataW.TrodAll] at h;obtain ⟨p,q,h1,h2,rfl⟩:=h;obtain ⟨a,b⟩:=ih vs ds q h2;exact ⟨by simp [a],by simp [b]⟩
theorem YC{H:Type}{enc:TypeId×Value->H}{P:Program}{f:Func}{s:ChangeSpec}{tb:TypeId}(hl:laidOutB P=true)(hts: ∀t∈f.params.toList,P.readableRec t=true/\t<P.types.size)(hres:f.resultTypes= #[tb])(hub:P.underlying tb=some .bool)(hvars:s.vars=[])
 {W W':World} {args:Array Value} {ds gs:List (DataW H)} {before:List MemPlace} (hW:DataW.Whole enc P f.params.toList s.vars false W args.toList ds gs before) (hs:s.fn H (ds++gs)={results:=[.lit (.bool true)],args:=ds}) (hb:Below W.heap.size W W'):
 s.post enc P f false true false false W args (.bool true) W':=by
 have hlt: ∀x∈before,x.block<W.heap.size:=fun x hx=>hW.lt x hx
 have hW0:=hW;obtain ⟨p,q,hA,hV,rfl,hfz,hnd⟩:=hW0;refine ⟨ds,gs,p++q,[],p,[],hW,?_,?_,?_,hb.frame _,fun h=>by cases h⟩
 ·rw [hs,hres];exact trodAll_mk1 (RowKit.shut_bool hub true)
 ·rw [hs];exact Below.trodAll hl hb _ _ _ _ hts hA (fun x hx=>hlt x (List.mem_append.2 (.inl hx)))
 ·rw [hs,hvars];rfl
end
end Go.Sx
