/- Part Sc. No condition. -/
import Derived.Test.YtpdhneemedlgaaaGreatSb
set_option linter.all false
namespace Go.Sx
open Go.RowKit (Below)
noncomputable section
def zT(C:Ctx)(k:IntKind)(e x:IE)(s c:Nat):Nat->Nat->T ab->Option (T ab)
 |0,_,_=>none
 |n+1,j,c0=>
  match c0.get (j*s+c) with
  |some (.int k' y)=>
   match bf k k' with
   |true=>
    match n with
    |0=>some (c0.set (j*s+c) (.int k (jY C.bd false e (.lit (.ofNat j)) x y)))
    |m=>zT C k e x s c m (j+1) (c0.set (j*s+c) (.int k (jY C.bd false e (.lit (.ofNat j)) x y)))
   |false=>none
  |_=>none
theorem Rr{C:Ctx}{P:Program}{ρ:Env}(hC:C.Ok P ρ){k:IntKind}{e x:IE}{s c:Nat}(hs:0<s): ∀(n j:Nat) (c0 c1:T ab),zT C k e x s c n j c0=some c1-> ∀p v,c1.get p=some v->
 (∃ m y,j<=m/\m<j+n/\p=m*s+c/\c0.get p=some (.int k y)/\ ∃z,v= .int k z/\z.ev ρ=if e.ev ρ=(m:Int) then x.ev ρ else y.ev ρ)\/((∀ m,j<=m->m<j+n->p≠m*s+c)/\c0.get p=some v):=by
 intro n
 induction n with
 |zero=>intro j c0 c1 h; cases h
 |succ n ih=>
  intro j c0 c1 h p v hv;have inj: ∀a b:Nat,a*s+c=b*s+c->a=b:=fun a b hab=>Nat.eq_of_mul_eq_mul_right hs (by omega)
  unfold zT at h;split at h
  ·rename_i k' y hy;split at h
   ·rename_i hk;have hkk:=aH hk;subst hkk
    have hz: ∀z,(jY C.bd false e (.lit (.ofNat j)) x y)=z->z.ev ρ=if e.ev ρ=(j:Int) then x.ev ρ else y.ev ρ:=fun z hz=>by
     rw [<- hz,gw hC.bd];simp [aA,IE.ev]
    have one: ∀c2:T ab,c2=c0.set (j*s+c) (.int k (jY C.bd false e (.lit (.ofNat j)) x y))-> ∀p v,c2.get p=some v->
     (p=j*s+c/\c0.get p=some (.int k y)/\ ∃z,v= .int k z/\z.ev ρ=if e.ev ρ=(j:Int) then x.ev ρ else y.ev ρ)\/(p≠j*s+c/\c0.get p=some v):=by
     intro c2 e2 p v hp;subst e2
     rcases T.aB hp with ⟨rfl,e3⟩ | ⟨e3,e4⟩
     ·exact .inl ⟨rfl,hy,_,e3.symm,hz _ rfl⟩
     ·exact .inr ⟨e3,e4⟩
    split at h
    ·cases h
     rcases one _ rfl p v hv with ⟨q1,q2,q3⟩ | ⟨q1,q2⟩
     ·exact .inl ⟨j,y,Nat.le_refl _,by omega,q1,q2,q3⟩
     ·refine .inr ⟨fun m h1 h2=> ?_,q2⟩
      obtain rfl:m=j:=by omega
      exact q1
    ·rename_i m hm
     rcases ih _ _ _ h p v hv with ⟨m',y',q1,q2,q3,q4,q5⟩ | ⟨q1,q2⟩
     ·rcases one _ rfl p _ q4 with ⟨r1,r2,r3⟩ | ⟨r1,r2⟩
      ·exfalso;have:=inj m' j (by omega)
       omega
      ·exact .inl ⟨m',y',by omega,by omega,q3,r2,q5⟩
     ·rcases one _ rfl p v q2 with ⟨r1,r2,r3⟩ | ⟨r1,r2⟩
      ·exact .inl ⟨j,y,Nat.le_refl _,by omega,r1,r2,r3⟩
      ·refine .inr ⟨fun m' h1 h2=> ?_,r2⟩
       by_cases hj:m'=j
       ·subst hj; exact r1
       ·exact q1 m' (by omega) (by omega)
   ·cases h
  ·cases h
def Bx(C:Ctx)(h:T ah)(i:Nat)(e:IE)(s c:Nat)(v:ab):Option (T ah):=
 match v with
 | .int k x=>
   match h.get i with
   |some (.arr ks code n true)=>
    match Nat.beq s ks.length,bnd C e n,fits k (rng C.bd x),ks[c]? with
    |true,true,true,some k'=>
     match bf k k' with
     |true=>some (h.set i (.arr ks (dG 1 code (mkAdd (mkMul e (.lit (.ofNat s))) (.lit (.ofNat c))) x) n true))
     |false=>none
    |_,_,_,_=>none
   |some (.cells c0 el true top)=>
    match P6 C e,Nat.blt 0 s with
    |some (a,b),true=>
     match zT C k e x s c (b-a+1) a c0 with
     |some c1=>some (h.set i (.cells c1 el true top))
     |none=>none
    |_,_=>none
   |_=>none
 | .bool t=>
   match h.get i,t.num with
   |some (.cells c0 el true top),some x=>
    match P6 C e,Nat.blt 0 s with
    |some (a,b),true=>
     match Mo C e x s c (b-a+1) a c0 with
     |some c1=>some (h.set i (.cells c1 el true top))
     |none=>none
    |_,_=>none
   |_,_=>none
 |_=>none
theorem HU{C:Ctx}{P:Program}{ρ:Env}(hC:C.Ok P ρ){B:Nat->Prop}{W w:World}{f:Ren}{h h':T ah}(hr:au ρ B W f h w){i:Nat}{L:Loc}(hf:f i=some L){e:IE}{s c:Nat}(h0:0<=e.ev ρ){v:ab}{v':Value}(hv:ai ρ f v v')
 (hs:Bx C h i e s c v=some h'):
 au ρ B W f h' (w.setCell ⟨L.blk,L.base+((e.ev ρ).toNat*s+c),none⟩ v')/\(store ⟨L.blk,L.base+((e.ev ρ).toNat*s+c),none⟩ v').run P w= .ok () (w.setCell ⟨L.blk,L.base+((e.ev ρ).toNat*s+c),none⟩ v'):=by
 unfold Bx at hs;split at hs
 ·rename_i k x;cases hv
  have runs: ∀(cs:Array Value) (el:TypeId) (fr:Nat×Nat) (u:Value) (p:Nat),w.heap[L.blk]? =some (.cells cs el fr)->cs[p]? =some u-> ¬(fr.1<=p/\p<fr.2)->(store ⟨L.blk,p,none⟩ (.int k (x.ev ρ))).run P w= .ok () (w.setCell ⟨L.blk,p,none⟩ (.int k (x.ev ρ))):=by
   intro cs el fr u p h1 h2 h3;have hcell:w.cell? ⟨L.blk,p,none⟩=some u:=by simp [World.cell?,h1,h2]
   have hfro:w.frozen? ⟨L.blk,p,none⟩=false:=by
    simp only [World.frozen?,h1]
    simpa using h3
   rw [run_store P w _ _ _ rfl,hcell];simp [hfro]
  split at hs
  ·rename_i ks code n hg;obtain ⟨cs,el,fr,h1,h2,h3,h4⟩:=hr.obj i L _ hf hg;obtain ⟨hB,hfr⟩:=h3 rfl;split at hs
   ·rename_i k' hss hb hft hk;have hss:=Nat.eq_of_beq_eq_true hss;have hb:=lU hC hb;have hx:=ep hC.bd hft;split at hs
    ·rename_i hkk;have:=aH hkk;subst this;subst hss;cases hs;obtain ⟨q1,_,_⟩:=h4 (e.ev ρ).toNat c k (by omega) hk
     have hc:c<ks.length:=(List.getElem?_eq_some_iff.1 hk).1;have hlt:L.base+((e.ev ρ).toNat*ks.length+c)<cs.size:=(Array.getElem?_eq_some_iff.1 q1).1;refine ⟨?_,runs cs el fr _ _ h1 q1 (hfr _ (by omega))⟩
     refine hr.A7 hf hg rfl hB (fun _ _=>Iff.rfl) (fun _ _=>Iff.rfl) ⟨rfl,rfl,rfl⟩ (by simp [World.setCell]) (fun b hb=>Below.heap_setCell _ _ _ _ hb) ?_
     refine ⟨_,el,fr,bQ w _ _ cs el fr _ h1,by simpa using h2,h3,fun j d kd hj hd=> ?_⟩
     have hd':d<ks.length:=(List.getElem?_eq_some_iff.1 hd).1
     have ecode:(dG 1 code (mkAdd (mkMul e (.lit (.ofNat ks.length))) (.lit (.ofNat c))) x).ev ρ=aD (code.ev ρ) ((e.ev ρ).toNat*ks.length+c:Nat) (x.ev ρ):=by
      rw [cz,I4 h0];rfl
     rw [ecode,fF _ _ _ _ hx.1 hx.2]
     by_cases hp:j*ks.length+d=(e.ev ρ).toNat*ks.length+c
     ·have hdc:d=c:=by
       have:=congrArg (· % ks.length) hp
       simpa [Nat.mul_add_mod_self_right,Nat.mod_eq_of_lt hd',Nat.mod_eq_of_lt hc] using this
      subst hdc;rw [hk] at hd;cases hd;rw [hp,if_pos rfl];exact ⟨by simp [hlt],hx⟩
     ·rw [if_neg hp,Array.getElem?_setIfInBounds_ne (by omega)]
      exact h4 j d kd hj hd
    ·cases hs
   ·cases hs
  ·rename_i c0 el top hg;obtain ⟨cs,fr,h1,h2,h3,h4⟩:=hr.obj i L _ hf hg;obtain ⟨hB,hfr⟩:=h3 rfl;split at hs
   ·rename_i a b hi hs0;have hs0:0<s:=by simpa [Nat.blt_eq] using hs0
    obtain ⟨r1,r2,r3,_⟩:=CS hC hi;split at hs
    ·rename_i c1 hu;cases hs;have key:=Rr hC hs0 _ _ _ _ hu
     -- the cell written was there
     have hthere: ∃y,c0.get ((e.ev ρ).toNat*s+c)=some (.int k y):=by
      have: ∀(n j:Nat) (c0 c1:T ab),zT C k e x s c n j c0=some c1-> ∀m,j<=m->m<j+n-> ∃y,c0.get (m*s+c)=some (.int k y):=by
       intro n
       induction n with
       |zero=>intro j c0 c1 h; cases h
       |succ n ih=>
        intro j c0 c1 h m hm1 hm2;unfold zT at h;split at h
        ·rename_i k' y hy;split at h
         ·rename_i hk;have hkk:=aH hk;subst hkk
          by_cases hj:m=j
          ·subst hj; exact ⟨y,hy⟩
          ·split at h
           ·omega
           ·obtain ⟨y',hy'⟩:=ih _ _ _ h m (by omega) (by omega)
            rcases T.aB hy' with ⟨e1,e2⟩ | ⟨_,e2⟩
            ·exact absurd (Nat.eq_of_mul_eq_mul_right hs0 (by omega)) hj
            ·exact ⟨y',e2⟩
         ·cases h
        ·cases h
      exact this _ _ _ _ hu _ r1 (by omega)
     obtain ⟨y0,hy0⟩:=hthere;obtain ⟨hlt0,u',hu1,_⟩:=h4 _ _ hy0;have hlt:L.base+((e.ev ρ).toNat*s+c)<cs.size:=(Array.getElem?_eq_some_iff.1 hu1).1;refine ⟨?_,runs cs el fr _ _ h1 hu1 (hfr _ (by omega))⟩
     refine hr.A7 hf hg rfl hB (fun _ _=>Iff.rfl) (fun _ _=>Iff.rfl) ⟨rfl,rfl,rfl⟩ (by simp [World.setCell]) (fun b hb=>Below.heap_setCell _ _ _ _ hb) ?_
     refine ⟨_,fr,bQ w _ _ cs el fr _ h1,by simpa using h2,h3,fun j v hj=> ?_⟩
     rcases key j v hj with ⟨m,y,q1,q2,rfl,q4,z,rfl,q6⟩ | ⟨q1,q2⟩
     ·obtain ⟨p1,p2,p3,p4⟩:=h4 _ _ q4;refine ⟨p1,?_⟩
      by_cases hm:m=(e.ev ρ).toNat
      ·subst hm;refine ⟨.int k (x.ev ρ),by simp [hlt],?_⟩
       rw [if_pos (by omega)] at q6
       rw [<- q6];exact .int k z
      ·have hne:m*s+c≠(e.ev ρ).toNat*s+c:=fun e1=>hm (Nat.eq_of_mul_eq_mul_right hs0 (by omega))
       refine ⟨p2,by rw [Array.getElem?_setIfInBounds_ne (by omega)]; exact p3,?_⟩
       cases p4;rw [if_neg (by omega)] at q6
       rw [<- q6];exact .int k z
     ·obtain ⟨p1,p2,p3,p4⟩:=h4 _ _ q2;refine ⟨p1,p2,?_,p4⟩;have:=q1 (e.ev ρ).toNat r1 (by omega)
      rw [Array.getElem?_setIfInBounds_ne (by omega)]
      exact p3
    ·cases hs
   ·cases hs
  ·cases hs
 ·rename_i t;cases hv
  have runs: ∀(cs:Array Value) (el:TypeId) (fr:Nat×Nat) (u:Value) (p:Nat),w.heap[L.blk]? =some (.cells cs el fr)->cs[p]? =some u-> ¬(fr.1<=p/\p<fr.2)->(store ⟨L.blk,p,none⟩ (.bool (t.ev ρ))).run P w= .ok () (w.setCell ⟨L.blk,p,none⟩ (.bool (t.ev ρ))):=by
   intro cs el fr u p h1 h2 h3;have hcell:w.cell? ⟨L.blk,p,none⟩=some u:=by simp [World.cell?,h1,h2]
   have hfro:w.frozen? ⟨L.blk,p,none⟩=false:=by
    simp only [World.frozen?,h1]
    simpa using h3
   rw [run_store P w _ _ _ rfl,hcell];simp [hfro]
  split at hs
  ·rename_i c0 el top x hg hx;obtain ⟨cs,fr,h1,h2,h3,h4⟩:=hr.obj i L _ hf hg;obtain ⟨hB,hfr⟩:=h3 rfl;split at hs
   ·rename_i a b hi hs0;have hs0:0<s:=by simpa [Nat.blt_eq] using hs0
    obtain ⟨r1,r2,r3,_⟩:=CS hC hi;split at hs
    ·rename_i c1 hu;cases hs;have key:=Tj hC hx hs0 _ _ _ _ hu;obtain ⟨y0,hy0⟩:=Ig hs0 _ _ _ _ hu (e.ev ρ).toNat r1 (by omega)
     obtain ⟨hlt0,u',hu1,_⟩:=h4 _ _ hy0;have hlt:L.base+((e.ev ρ).toNat*s+c)<cs.size:=(Array.getElem?_eq_some_iff.1 hu1).1;refine ⟨?_,runs cs el fr _ _ h1 hu1 (hfr _ (by omega))⟩
     refine hr.A7 hf hg rfl hB (fun _ _=>Iff.rfl) (fun _ _=>Iff.rfl) ⟨rfl,rfl,rfl⟩ (by simp [World.setCell]) (fun b hb=>Below.heap_setCell _ _ _ _ hb) ?_
     refine ⟨_,fr,bQ w _ _ cs el fr _ h1,by simpa using h2,h3,fun j v hj=> ?_⟩
     rcases key j v hj with ⟨m,y,q1,q2,rfl,q4,z,rfl,q6⟩ | ⟨q1,q2⟩
     ·obtain ⟨p1,p2,p3,p4⟩:=h4 _ _ q4;refine ⟨p1,?_⟩
      by_cases hm:m=(e.ev ρ).toNat
      ·subst hm;refine ⟨.bool (t.ev ρ),by simp [hlt],?_⟩
       rw [if_pos (by omega)] at q6
       rw [<- q6];exact .bool z
      ·have hne:m*s+c≠(e.ev ρ).toNat*s+c:=fun e1=>hm (Nat.eq_of_mul_eq_mul_right hs0 (by omega))
       refine ⟨p2,by rw [Array.getElem?_setIfInBounds_ne (by omega)]; exact p3,?_⟩
       cases p4;rw [if_neg (by omega)] at q6
       rw [<- q6];exact .bool z
     ·obtain ⟨p1,p2,p3,p4⟩:=h4 _ _ q2;refine ⟨p1,p2,?_,p4⟩;have:=q1 (e.ev ρ).toNat r1 (by omega)
      rw [Array.getElem?_setIfInBounds_ne (by omega)]
      exact p3
    ·cases hs
   ·cases hs
  ·cases hs
 ·cases hs
def Bu(C:Ctx)(h:T ah)(i:Nat)(e:IE)(s c:Nat)(v:ab):Option (T ah):=
 match h.get i with
 |some (.win idx s' c0 el true)=>
  match Nat.beq s s'&&Nat.blt c s,e.eq idx,c0.get c,v.one with
  |true,true,some _,true=>some (h.set i (.win idx s' (c0.set c v) el true))
  |_,_,_,_=>none
 |_=>Bx C h i e s c v
theorem Jq{C:Ctx}{P:Program}{ρ:Env}(hC:C.Ok P ρ){B:Nat->Prop}{W w:World}{f:Ren}{h h':T ah}(hr:au ρ B W f h w){i:Nat}{L:Loc}(hf:f i=some L){e:IE}{s c:Nat}(h0:0<=e.ev ρ){v:ab}{v':Value}(hv:ai ρ f v v')
 (hs:Bu C h i e s c v=some h'):
 au ρ B W f h' (w.setCell ⟨L.blk,L.base+((e.ev ρ).toNat*s+c),none⟩ v')/\(store ⟨L.blk,L.base+((e.ev ρ).toNat*s+c),none⟩ v').run P w= .ok () (w.setCell ⟨L.blk,L.base+((e.ev ρ).toNat*s+c),none⟩ v'):=by
 unfold Bu at hs;split at hs
 ·rename_i idx s' c0 el hg;split at hs
  ·rename_i u q1 q2 q3 q4;cases hs
   have q0:Nat.beq s s'=true/\c<s:=by
    simp only [Bool.and_eq_true,Nat.blt_eq] at q1;exact q1
   have q1:=Nat.eq_of_beq_eq_true q0.1;have q2:=IE.eq_eq q2;have hcs:=q0.2;clear q0;subst q1 q2;obtain ⟨cs,fr,h1,h2,h3,h0',h4⟩:=hr.obj i L _ hf hg;obtain ⟨hB,hfr⟩:=h3 rfl;obtain ⟨u',p1,p2⟩:=h4 _ _ q3;have hlt:L.base+((e.ev ρ).toNat*s+c)<cs.size:=(Array.getElem?_eq_some_iff.1 p1).1;refine ⟨?_,?_⟩
   ·refine hr.A7 hf hg rfl hB (fun _ _=>Iff.rfl) (fun _ _=>Iff.rfl) ⟨rfl,rfl,rfl⟩ (by simp [World.setCell]) (fun b hb=>Below.heap_setCell _ _ _ _ hb) ?_
    refine ⟨_,fr,bQ w _ _ cs el fr _ h1,by simpa using h2,h3,fun j hj=> ?_,fun j x hj=> ?_⟩
    ·rw [Array.getElem?_setIfInBounds_ne (by omega)]
     exact h0' j hj
    rcases T.aB hj with ⟨rfl,rfl⟩ | ⟨hjc,hj⟩
    ·exact ⟨v',by simp [hlt],hv⟩
    ·obtain ⟨x',r1,r2⟩:=h4 _ _ hj;refine ⟨x',?_,r2⟩;rw [Array.getElem?_setIfInBounds_ne (by omega)]
     exact r1
   ·have hcell:w.cell? ⟨L.blk,L.base+((e.ev ρ).toNat*s+c),none⟩=some u':=by simp [World.cell?,h1,p1]
    have hfro:w.frozen? ⟨L.blk,L.base+((e.ev ρ).toNat*s+c),none⟩=false:=by
     have:=hfr _ (by rw [<- h2]; exact hlt)
     simp only [World.frozen?,h1]
     simpa using this
    rw [run_store P w _ v' _ (hv.one q4),hcell];simp [hfro]
  ·cases hs
 ·exact HU hC hr hf h0 hv hs
def rM(C:Ctx)(i:Nat)(e:IE)(s:Nat):T ah->Nat->List ab->Option (T ah)
 |h,_,[]=>some h
 |h,c,v::l=>
  match Bu C h i e s c v with
  |none=>none
  |some h'=>rM C i e s h' (c+1) l
theorem IH{C:Ctx}{P:Program}{ρ:Env}(hC:C.Ok P ρ){B:Nat->Prop}{W:World}{f:Ren}{i:Nat}{L:Loc}(hf:f i=some L){e:IE}{s c:Nat}(h0:0<=e.ev ρ):
 ∀(l:List ab) (k:Nat) (h h':T ah) (w:World) (cs:List Value),au ρ B W f h w->az ρ f l cs.toArray->rM C i e s h (c+k) l=some h'->
  ∃w',(storeCells ⟨L.blk,L.base+((e.ev ρ).toNat*s+c),none⟩ cs k).run P w= .ok () w'/\au ρ B W f h' w':=by
 intro l
 induction l with
 |nil=>
  intro k h h' w cs hr hl hs;have:cs=[]:=by have:=hl.1; simpa using this
  subst this;simp only [rM] at hs;cases hs;exact ⟨w,rfl,hr⟩
 |cons v l ih=>
  intro k h h' w cs hr hl hs;simp only [rM] at hs;split at hs
  ·cases hs
  ·rename_i h1 he;cases cs with
   |nil=>have:=hl.1; simp at this
   |cons v' cs=>
    have hv:ai ρ f v v':=hl.2 0 v v' (by simp) (by simp)
    obtain ⟨a,b⟩:=Jq (P:=P) hC hr hf h0 hv he;have hl':az ρ f l cs.toArray:=⟨by have:=hl.1; simp at this ⊢; exact this,fun j x x' hx hx'=>hl.2 (j+1) x x' (by simpa using hx) (by simpa using hx')⟩
    obtain ⟨w',c1,c2⟩:=ih (k+1) h1 h' _ cs a hl' (by rw [<- Nat.add_assoc]; exact hs)
    refine ⟨w',?_,c2⟩
    have hadd:(⟨L.blk,L.base+((e.ev ρ).toNat*s+c),none⟩:Addr).add k=⟨L.blk,L.base+((e.ev ρ).toNat*s+(c+k)),none⟩:=by
     rw [bG,Nat.add_assoc,Nat.add_assoc]
    simp only [storeCells,Sem.run_bind,hadd,b,Result.andThen_ok];exact c1
def Bm(C:Ctx)(h:T ah)(t:TypeId)(x v:ab):Option (T ah):=
 match x,C.size t with
 | .ptrE i e s c,some n=>
   match Nat.beq v.cells.length n with
   |true=>rM C i e s h c v.cells
   |false=>none
 |_,_=>none
theorem H5{C:Ctx}{P:Program}{ρ:Env}(hC:C.Ok P ρ){B:Nat->Prop}{W w:World}{f:Ren}{h h':T ah}(hr:au ρ B W f h w){t:TypeId}{x v:ab}{x' v':Value}(hx:ai ρ f x x')(hv:ai ρ f v v')(hs:Bm C h t x v=some h'):
 ∃w',(Instr.storeAt t x' v').run P w= .ok () w'/\au ρ B W f h' w':=by
 unfold Bm at hs;split at hs
 ·rename_i i e s c n hn;cases hx; rename_i L hf h0;split at hs
  ·rename_i hl;have hl:=Nat.eq_of_beq_eq_true hl;have hc:=az.cells hv;have hsz:v'.cells.size=n:=by rw [hc.1,hl]
   obtain ⟨w',h1,h2⟩:=IH (P:=P) hC hf h0 v.cells 0 h h' w v'.cells.toList hr (by simpa using hc) hs
   exact ⟨w',by simp only [Instr.storeAt,Instr.sureAddr,Sem.run_bind,Sem.run_pure,Result.andThen_ok,storeVar,Ctx.bh hC hn,hsz,ne_eq,not_true_eq_false,if_false]; exact h1,h2⟩
  ·cases hs
 ·cases hs
def qW(P:Program)(ρ:Env)(B:Nat->Prop)(W:World)(f:Ren)(nx nx':Nat)(h':T ah)(res:Option ab)(s:Sem Next)(w:World):Prop:=
 ∃f' w' r',s.run P w= .ok r' w'/\f.le f'/\(∀ j,(j<nx\/nx'<=j)->f' j=f j)/\au ρ B W f' h' w'/\
  match res with
  |none=>r'= .skip
  |some v=> ∃v',r'= .value v'/\ai ρ f' v v'
theorem qW.same{P:Program}{ρ:Env}{B:Nat->Prop}{W:World}{f:Ren}{nx:Nat}{h':T ah}{res:Option ab}{s:Sem Next}{w w':World}{r':Next}(hs:s.run P w= .ok r' w')(hr:au ρ B W f h' w')
 (hres:match res with
 |none=>r'= .skip
 |some v=> ∃v',r'= .value v'/\ai ρ f v v'):qW P ρ B W f nx nx h' res s w:=
 ⟨f,w',r',hs,Ren.le_refl f,fun _ _=>rfl,hr,hres⟩
theorem au.wa{ρ:Env}{B:Nat->Prop}{W w:World}{f:Ren}{h:T ah}(hr:au ρ B W f h w){i:Nat}{L:Loc}(hf:f i=some L){es0 es1:List (ab×ab)}(he:h.get i=some (.map es0)){es1':Array MapEntry}{cl:Nat}(h1:i6 ρ f es1 es1'.toList):
 au ρ B W f (h.set i (.map es1)) {w with heap:=w.heap.setIfInBounds L.blk (.map es1' cl)}:=by
 obtain ⟨hB,es0',cl0,q1,q2,q3⟩:=hr.obj i L _ hf he;have hlt:=hr.lt i L hf;have other: ∀k,k≠L.blk->(w.heap.setIfInBounds L.blk (.map es1' cl))[k]? =w.heap[k]? :=fun k hk=>Array.getElem?_setIfInBounds_ne (Ne.symm hk)
 refine hr.A7 hf he rfl hB (fun _ _=>Iff.rfl) (fun _ _=>Iff.rfl) ⟨rfl,rfl,rfl⟩ (by simp) other ?_
 exact ⟨hB,es1',cl,by simp [hlt],by simpa using h1.1,fun a e e' x y=>h1.2 a e e' x (by simpa using y)⟩
def B9(C:Ctx)(h:T ah)(t:TypeId)(x v:ab):Option (T ah):=
 match x,C.size t with
 | .ptr (some (i,o)),some n=>
   match Nat.beq v.cells.length n with
   |true=>pd i h o v.cells
   |false=>none
 |_,_=>none
theorem HR{C:Ctx}{P:Program}{ρ:Env}(hC:C.Ok P ρ){B:Nat->Prop}{W w:World}{f:Ren}{h h':T ah}(hr:au ρ B W f h w){t:TypeId}{x v:ab}{x' v':Value}(hx:ai ρ f x x')(hv:ai ρ f v v')(hs:B9 C h t x v=some h'):
 ∃w',(Instr.storeAt t x' v').run P w= .ok () w'/\au ρ B W f h' w':=by
 unfold B9 at hs;split at hs
 ·rename_i i o n hn;cases hx; rename_i L hf;split at hs
  ·rename_i hl;have hl:=Nat.eq_of_beq_eq_true hl;have hc:=az.cells hv;have hsz:v'.cells.size=n:=by rw [hc.1,hl]
   obtain ⟨w',h1,h2,_⟩:=rz hf P o v.cells 0 h h' w v'.cells.toList hr (by simpa using hc) hs
   exact ⟨w',by simp only [Instr.storeAt,Instr.sureAddr,Sem.run_bind,Sem.run_pure,Result.andThen_ok,storeVar,Ctx.bh hC hn,hsz,ne_eq,not_true_eq_false,if_false]; exact h1,h2⟩
  ·cases hs
 ·cases hs
def GU(C:Ctx)(h:T ah)(t:TypeId)(x v:ab):Option (T ah):=
 match B9 C h t x v with
 |some h'=>some h'
 |none=>Bm C h t x v
theorem Lu{C:Ctx}{P:Program}{ρ:Env}(hC:C.Ok P ρ){B:Nat->Prop}{W w:World}{f:Ren}{h h':T ah}(hr:au ρ B W f h w){t:TypeId}{x v:ab}{x' v':Value}(hx:ai ρ f x x')(hv:ai ρ f v v')(hs:GU C h t x v=some h'):
 ∃w',(Instr.storeAt t x' v').run P w= .ok () w'/\au ρ B W f h' w':=by
 unfold GU at hs;split at hs
 ·cases hs;rename_i hs;exact HR hC hr hx hv hs
 ·exact H5 hC hr hx hv hs
def vD(C:Ctx)(h:T ah)(t:TypeId)(m k v:ab):Option (T ah):=
 match C.und t,m with
 |some (.map key _),.map (some r)=>
  match h.get r,rQ C key k with
  |some (.map es),true=>
   match uy C k es 0 with
   |some (some (i,_))=>some (h.set r (.map (es.set i (k,v))))
   |some none=>some (h.set r (.map (es++[(k,v)])))
   |none=>none
  |_,_=>none
 |_,_=>none
theorem run_setObj_map{P:Program}{w:World}{b:Nat}{es:Array MapEntry}{cl:Nat}(h:w.heap[b]? =some (.map es cl))(o:Obj):(setObj b o).run P w= .ok () {w with heap:=w.heap.setIfInBounds b o}:=by
 simp only [setObj,Sem.run,h]
theorem run_getObj_map{P:Program}{w:World}{b:Nat}{es:Array MapEntry}{cl:Nat}(h:w.heap[b]? =some (.map es cl)):(getObj b).run P w= .ok (.map es cl) w:=by
 simp only [getObj,Sem.run,h]
theorem i6.set{ρ:Env}{f:Ren}{es:List (ab×ab)}{es':Array MapEntry}(he:i6 ρ f es es'.toList)(i:Nat){k v:ab}{k' v':Value}(hk:ai ρ f k k')(hv:ai ρ f v v'):
 i6 ρ f (es.set i (k,v)) (es'.modify i fun e=>{e with key:=k',val:=v'}).toList:=by
 refine ⟨by have:=he.1; simpa using this,fun j e e' a b=> ?_⟩
 rw [Array.getElem?_toList,Array.getElem?_modify] at b;rw [List.getElem?_set] at a
 by_cases hij:i=j
 ·subst hij;simp only [if_true] at a b;split at a
  ·cases a;rw [Option.map_eq_some_iff] at b;obtain ⟨e0,_,rfl⟩:=b;exact ⟨hk,hv⟩
  ·cases a
 ·rw [if_neg hij] at a b;exact he.2 j e e' a (by simpa using b)
theorem i6.push{ρ:Env}{f:Ren}{es:List (ab×ab)}{es':Array MapEntry}(he:i6 ρ f es es'.toList){k v:ab}{k' v':Value}(b:Nat)(hk:ai ρ f k k')(hv:ai ρ f v v'):
 i6 ρ f (es++[(k,v)]) (es'.push {key:=k',val:=v',born:=b}).toList:=by
 have h1:=he.1;simp at h1;refine ⟨by simp [h1],fun j e e' a c=> ?_⟩
 rw [Array.toList_push] at c
 by_cases hj:j<es.length
 ·rw [List.getElem?_append_left hj] at a;rw [List.getElem?_append_left (by simp; omega)] at c
  exact he.2 j e e' a c
 ·rw [List.getElem?_append_right (by omega)] at a
  rw [List.getElem?_append_right (by simp; omega)] at c
  have h0:j-es.length=0:=by
   have:=(List.getElem?_eq_some_iff.1 a).1;simp at this; omega
  simp only [Array.length_toList,h1,h0] at a c;simp at a c;subst a; subst c;exact ⟨hk,hv⟩
theorem yS{C:Ctx}{P:Program}{ρ:Env}(hC:C.Ok P ρ){B:Nat->Prop}{W w:World}{f:Ren}{h h':T ah}(hr:au ρ B W f h w){t:TypeId}{m k v:ab}{m' k' v':Value}(hm:ai ρ f m m')(hk:ai ρ f k k')(hv:ai ρ f v v')(hs:vD C h t m k v=some h'):
 ∃w',(Instr.mapUpdate t m' k' v').run P w= .ok () w'/\au ρ B W f h' w':=by
 unfold vD at hs;split at hs
 ·rename_i key elem r hu;have hd:=Ctx.ax hC hu;cases hm; rename_i L hf;split at hs
  ·rename_i es hes hkf;obtain ⟨hB,es',cl,q1,q2,q3⟩:=hr.obj _ L _ hf hes;have he:i6 ρ f es es'.toList:=⟨by simpa using q2,by simpa using q3⟩
   split at hs
   ·rename_i i u hfd;cases hs;obtain ⟨h1,h2⟩:=ny hC hk hkf w he hfd
    rcases h2 with ⟨h2,_⟩ | ⟨i',u',v'',e',h2,h3,h4,h5,h6,h7⟩
    ·cases h2
    ·cases h2;refine ⟨_,?_,hr.wa hf hes (he.set i hk hv) (cl:=cl)⟩;have h5':es'[i]? =some e':=by simpa using h5
     have hsb:Instr.sameBits 10000 (((es'[i]?).map (·.key)).getD k') k'=true:=by rw [h5']; exact h7
     simp only [Instr.mapUpdate,Sem.run_bind,run_underlying hd,Result.andThen_ok,run_getObj_map q1,h1,h3,Instr.keyThatStays,hsb,if_true,Sem.run_pure,run_setObj_map q1]
   ·rename_i hfd;cases hs;obtain ⟨h1,h2⟩:=ny hC hk hkf w he hfd
    rcases h2 with ⟨_,h3⟩ | ⟨i',u',v'',e',h2,_⟩
    ·refine ⟨_,?_,hr.wa hf hes (he.push cl hk hv) (cl:=cl+1)⟩;simp only [Instr.mapUpdate,Sem.run_bind,run_underlying hd,Result.andThen_ok,run_getObj_map q1,h1,h3,Sem.run_pure,run_setObj_map q1]
    ·cases h2
   ·cases hs
  ·cases hs
 ·cases hs
def CA(C:Ctx)(h:T ah)(t:TypeId)(m k:ab):Option (T ah):=
 match C.und t,m with
 |some (.map key _),.map (some r)=>
  match h.get r,rQ C key k with
  |some (.map es),true=>
   match uy C k es 0 with
   |some (some (i,_))=>some (h.set r (.map (es.eraseIdx i)))
   |some none=>some (h.set r (.map es))
   |none=>none
  |_,_=>none
 |_,_=>none
theorem i6.erase{ρ:Env}{f:Ren}{es:List (ab×ab)}{es':Array MapEntry}(he:i6 ρ f es es'.toList)(i:Nat):i6 ρ f (es.eraseIdx i) (es'.eraseIdxIfInBounds i).toList:=by
 have h1:=he.1;simp at h1;have e:(es'.eraseIdxIfInBounds i).toList=es'.toList.eraseIdx i:=by simp
 rw [e];refine ⟨by simp [List.length_eraseIdx,h1],fun j x x' a b=> ?_⟩
 rw [List.getElem?_eraseIdx] at a b;split at a
 ·rename_i hj; rw [if_pos hj] at b; exact he.2 j x x' a b
 ·rename_i hj; rw [if_neg hj] at b; exact he.2 _ x x' a b
theorem I6{C:Ctx}{P:Program}{ρ:Env}(hC:C.Ok P ρ){B:Nat->Prop}{W w:World}{f:Ren}{h h':T ah}(hr:au ρ B W f h w){t ty:TypeId}{m k:ab}{m' k':Value}(hm:ai ρ f m m')(hk:ai ρ f k k')(hs:CA C h t m k=some h')(ts:Array TypeId)(xs:Array Value)(h0:ts[0]? =some t)(hx0:xs[0]? =some m')(hx1:xs[1]? =some k'):
 ∃w',(Builtin.delete_ ts ty xs).run P w= .ok (.tuple #[]) w'/\au ρ B W f h' w':=by
 unfold CA at hs;split at hs
 ·rename_i key elem r hu;have hd:=Ctx.ax hC hu;cases hm; rename_i L hf;split at hs
  ·rename_i es hes hkf;obtain ⟨hB,es',cl,q1,q2,q3⟩:=hr.obj _ L _ hf hes;have he:i6 ρ f es es'.toList:=⟨by simpa using q2,by simpa using q3⟩
   split at hs
   ·rename_i i u hfd;cases hs;obtain ⟨h1,h2⟩:=ny hC hk hkf w he hfd
    rcases h2 with ⟨h2,_⟩ | ⟨i',u',v'',e',h2,h3,h4,h5,h6,h7⟩
    ·cases h2
    ·cases h2;refine ⟨_,?_,hr.wa hf hes (he.erase i) (cl:=cl)⟩;simp only [Builtin.delete_,h0,hx0,hx1,Sem.run_bind,run_underlying hd,Result.andThen_ok,run_getObj_map q1,h1,h3,Sem.run_pure,run_setObj_map q1]
   ·rename_i hfd;cases hs;obtain ⟨h1,h2⟩:=ny hC hk hkf w he hfd
    rcases h2 with ⟨_,h3⟩ | ⟨i',u',v'',e',h2,_⟩
    ·refine ⟨_,?_,hr.wa hf hes he (cl:=cl)⟩;simp only [Builtin.delete_,h0,hx0,hx1,Sem.run_bind,run_underlying hd,Result.andThen_ok,run_getObj_map q1,h1,h3,Sem.run_pure,run_setObj_map q1]
    ·cases h2
   ·cases hs
  ·cases hs
 ·cases hs
def qv:ab->Option Nat
 | .slice _ n _ _=>some n
 | .str l=>some l.length
 |_=>none
def mV(h:T ah)(size n:Nat):ab->Option (List ab)
 | .slice none _ _ _=>some []
 | .slice (some (i,o)) _ _ _=>kU h i o (n*size)
 | .str l=>some (iu (l.take n))
 |_=>none
theorem tZ{P:Program}{ρ:Env}{f:Ren}{x:ab}{x':Value}{n:Nat}(hx:ai ρ f x x')(h:qv x=some n)(w:World):(Builtin.lenOf x').run P w= .ok n w:=by
 unfold qv at h;split at h
 ·cases h; cases hx<;>rfl
 ·cases h; cases hx; rename_i s hs; simp only [Builtin.lenOf,Sem.run_pure,hs.size]
 ·cases h
theorem nN{P:Program}{ρ:Env}{B:Nat->Prop}{W w:World}{f:Ren}{h:T ah}(hr:au ρ B W f h w){size n:Nat}{x:ab}{x':Value}{l:List ab}(hx:ai ρ f x x')(hn: ∃m,qv x=some m/\n<=m)(hl:mV h size n x=some l):
 ∃cs:List Value,(∀ d,(Builtin.firstCells size n x').run P {w with drawn:=d}= .ok cs.toArray {w with drawn:=d})/\az ρ f l cs.toArray:=by
 unfold mV at hl;split at hl
 ·cases hl; cases hx;exact ⟨[],fun _=>rfl,az.nil⟩
 ·rename_i i o m c g
  have main: ∀(L:Loc),f i=some L-> ∀(a b:Nat),∃cs:List Value,(∀ d,(Builtin.firstCells size n (.slice (some ⟨L.blk,L.base+o,none⟩) a b)).run P {w with drawn:=d}= .ok cs.toArray {w with drawn:=d})/\az ρ f l cs.toArray:=by
   intro L hf a b;obtain ⟨cs,h1,h2,h3⟩:=qw hr hf _ o l hl;exact ⟨cs,fun d=>bo (w:={w with drawn:=d}) h2 h3,h1⟩
  cases hx with
  |slice hf=>exact main _ hf _ _
  |sliceG hf _ _ _=>exact main _ hf _ _
  |sliceE hf _ _=>
   obtain ⟨m,hm,hle⟩:=hn;simp [qv] at hm;have h0:n*size=0:=by rw [show n=0 by omega]; simp
   rw [h0] at hl;simp [kU] at hl;subst hl;exact ⟨[],fun d=>by simp only [Builtin.firstCells,h0]; rfl,az.nil⟩
 ·rename_i s;cases hl; cases hx; rename_i st hst;have h1:=hst.extract 0 n;simp only [List.drop_zero,Nat.sub_zero] at h1;have h2:=qB (f:=f) h1;refine ⟨((st.extract 0 n).data.map fun b=> .int .u8 b.toNat).toList,?_,by rw [Array.toArray_toList]; exact h2⟩
  intro d;simp only [Builtin.firstCells,Sem.run_pure,Array.toArray_toList]
 ·cases hl
def tp:List ab->Bool
 | []=>true
 |v::l=>
  match v.one with
  |true=>tp l
  |false=>false
theorem tv{ρ:Env}{f:Ren}: ∀(l:List ab) (cs:List Value),tp l=true->az ρ f l cs.toArray-> ∀u∈cs,u.oneCell'=true:=by
 intro l
 induction l with
 |nil=>
  intro cs _ h u hu;have:cs=[]:=by have:=h.1; simpa using this
  subst this; cases hu
 |cons v l ih=>
  intro cs ho h u hu;cases cs with
  |nil=>cases hu
  |cons c cs=>
   simp only [tp] at ho;split at ho
   ·rename_i h1
    rcases List.mem_cons.1 hu with rfl |hu
    ·exact (h.2 0 v u (by simp) (by simp)).one h1
    ·exact ih cs ho ⟨by have:=h.1; simp at this ⊢; exact this,fun j a a' ha ha'=>h.2 (j+1) a a' (by simpa using ha) (by simpa using ha')⟩ u hu
   ·cases ho
def Oy(C:Ctx)(h:T ah)(t:TypeId)(d s:ab):Option (ab×T ah):=
 match C.und t,d with
 |some (.slice e),.slice a dn _ _=>
  match C.size e,qv s with
  |some sz,some sn=>
   let n:=Nat.min sn dn
   match mV h sz n s with
   |none=>none
   |some l=>
    match a with
    |none=>some (.int .i64 (.lit (.ofNat n)),h)
    |some (i,o)=>
     match pd i h o l with
     |some h'=>some (.int .i64 (.lit (.ofNat n)),h')
     |none=>none
  |_,_=>none
 |_,_=>none
theorem Sj{C:Ctx}{P:Program}{ρ:Env}(hC:C.Ok P ρ){B:Nat->Prop}{W w:World}{f:Ren}{h h':T ah}(hr:au ρ B W f h w){t ty:TypeId}{d s v:ab}{d' s':Value}(hd:ai ρ f d d')(hs:ai ρ f s s')(hc:Oy C h t d s=some (v,h'))(ts:Array TypeId)(xs:Array Value)(h0:ts[0]? =some t)(hx0:xs[0]? =some d')(hx1:xs[1]? =some s'):
 ∃w' v',(Builtin.copy_ ts ty xs).run P w= .ok v' w'/\au ρ B W f h' w'/\ai ρ f v v':=by
 unfold Oy at hc;split at hc
 ·rename_i e a dn dc g hu;have hut:=Ctx.ax hC hu;split at hc
  ·rename_i sz sn hsz hsn;simp only at hc;split at hc
   ·cases hc
   ·rename_i l hl;obtain ⟨cs,q0,q2⟩:=nN (P:=P) hr hs ⟨sn,hsn,Nat.min_le_left _ _⟩ hl;have q1:=q0 w.drawn;have hln:=tZ (P:=P) hs hsn w;have ival:ai ρ f (.int .i64 (.lit (.ofNat (Nat.min sn dn)))) (goInt (Nat.min sn dn:Nat)):= .int _ (.lit _);split at hc
    ·cases hc;cases hd;refine ⟨w,_,?_,hr,ival⟩;simp only [Builtin.copy_,h0,hx0,hx1,Sem.run_bind,run_underlying hut,Result.andThen_ok,hln,Ctx.bh hC hsz,q1,Sem.run_pure]
    ·rename_i i o;split at hc
     ·rename_i h1 hset;cases hc
      have main: ∀(L:Loc),f i=some L-> ∀c',xs[0]? =some (.slice (some ⟨L.blk,L.base+o,none⟩) dn c')-> ∃w' v',(Builtin.copy_ ts ty xs).run P w= .ok v' w'/\au ρ B W f h' w'/\ai ρ f (.int .i64 (.lit (.ofNat (Nat.min sn dn)))) v':=by
       intro L hf c' hx0;obtain ⟨w',p1,p2,_⟩:=rz hf P o l 0 h h' w cs hr q2 hset;refine ⟨w',_,?_,p2,ival⟩;simp only [Builtin.copy_,h0,hx0,hx1,Sem.run_bind,run_underlying hut,Result.andThen_ok,hln,Ctx.bh hC hsz,q1,Sem.run_pure,p1]
      cases hd with
      |slice hf=>exact main _ hf _ hx0
      |sliceG hf _ _ _=>exact main _ hf _ hx0
      |sliceE hf _ _=>
       have hl0:l=[]:=by
        have h00:Nat.min sn 0=0:=Nat.min_zero _;rw [h00] at hl;unfold mV at hl;split at hl
        ·cases hl; rfl
        ·simp [kU] at hl; exact hl
        ·simp [iu] at hl; exact hl
        ·cases hl
       subst hl0;simp [pd] at hset;subst hset;have hcs:cs=[]:=by have:=q2.1; simpa using this
       subst hcs;refine ⟨w,_,?_,hr,ival⟩;simp only [Builtin.copy_,h0,hx0,hx1,Sem.run_bind,run_underlying hut,Result.andThen_ok,hln,Ctx.bh hC hsz,q1,Sem.run_pure,storeCells]
     ·cases hc
  ·cases hc
 ·cases hc
def fT:TypeDesc->Bool
 | .slice _ | .string=>true
 |_=>false
def vi(C:Ctx)(h:T ah)(nx:Nat)(t xt:TypeId)(s x:ab):Option (ab×T ah×Nat):=
 match C.und t,C.und xt with
 |some (.slice e),some xd=>
  match fT xd with
  |false=>none
  |true=>
   match s with
   | .slice a n c g=>
     match C.size e,C.bytes e,qv x,kA C e with
     |some sz,some by_,some m,some z=>
      match mV h sz m x with
      |none=>none
      |some l=>
       match tp l,Nat.ble n c,Nat.ble (n+m) 1073741824,Nat.ble by_ 4096,Nat.ble 1 sz with
       |true,true,true,true,true=>
        match Nat.ble (n+m) c with
        |true=>
         match a with
         |none=>some (s,h,nx)
         |some (i,o)=>
          match pd i h (o+n*sz) l with
          |some h'=>some (.slice (some (i,o)) (n+m) c g,h',nx)
          |none=>none
        |false=>
         match Nat.beq l.length (m*sz),Nat.beq z.cells.length sz with
         |true,true=>
          match g with
          |0=>
           match mV h sz n s with
           |none=>none
           |some old=>
            match Nat.beq old.length (n*sz) with
            |false=>none
            |true=>some (.slice (some (nx,0)) (n+m) (n+m) sz,h.set nx (.cells (cellsOf (old++l)) e true (old++l).length),nx+1)
          |g+1=>
           match a with
           |some (i,0)=>
            match h.get i,Nat.beq sz (g+1) with
            |some (.cells c0 e' true top),true=>
             match Nat.beq e e',Nat.beq top (n*sz) with
             |true,true=>some (.slice (some (nx,0)) (n+m) (n+m) sz,(h.del i).set nx (.cells (aF l (n*sz) c0) e true (n*sz+l.length)),nx+1)
             |_,_=>none
            |_,_=>none
           |_=>none
         |_,_=>none
       |_,_,_,_,_=>none
     |_,_,_,_=>none
   |_=>none
 |_,_=>none
theorem gH(P:Program)(b:Nat)(t:TypeId)(fr:Nat×Nat)(o:Nat): ∀(vs:List Value) (k:Nat) (cur:Array Value) (w:World),w.heap[b]? =some (.cells cur t fr)->o+k+vs.length<=cur.size->
 (∀ j,j<cur.size-> ¬(fr.1<=j/\j<fr.2))->(∀ v∈vs,v.oneCell'=true)->
 ∃w' cur',(storeCells ⟨b,o,none⟩ vs k).run P w= .ok () w'/\w'.heap[b]? =some (.cells cur' t fr)/\cur'.size=cur.size/\(∀ j,cur'[j]? =if o+k<=j/\j<o+k+vs.length then vs[j-(o+k)]? else cur[j]?)/\
  (∀ c,c≠b->w'.heap[c]? =w.heap[c]?)/\w'.heap.size=w.heap.size/\(w'.os=w.os/\w'.tape=w.tape/\w'.output=w.output):=by
 intro vs
 induction vs with
 |nil=>
  intro k cur w hw _ _ _;exact ⟨w,cur,rfl,hw,rfl,fun j=>by rw [if_neg (by simp only [List.length_nil]; omega)],fun _ _=>rfl,rfl,rfl,rfl,rfl⟩
 |cons v vs ih=>
  intro k cur w hw hl hfr h1;simp only [List.length_cons] at hl;have hlt:o+k<cur.size:=by omega
  have hcell:w.cell? ⟨b,o+k,none⟩=some cur[o+k]:=by simp [World.cell?,hw,hlt]
  have hfro:w.frozen? ⟨b,o+k,none⟩=false:=by
   have:=hfr (o+k) hlt;simp only [World.frozen?,hw]
   simpa using this
  have hst:(store ⟨b,o+k,none⟩ v).run P w= .ok () (w.setCell ⟨b,o+k,none⟩ v):=by
   rw [run_store P w _ v _ (h1 v (by simp)),hcell]; simp [hfro]
  obtain ⟨w',cur',e1,e2,e3,e4,e5,e6,e7⟩:=ih (k+1) (cur.setIfInBounds (o+k) v) (w.setCell ⟨b,o+k,none⟩ v) (bQ w b (o+k) cur t fr v hw) (by simp; omega) (fun j hj=>hfr j (by simpa using hj)) (fun u hu=>h1 u (by simp [hu]))
  refine ⟨w',cur',by simp only [storeCells,Sem.run_bind,bG,hst,Result.andThen_ok]; exact e1,e2,by simpa using e3,fun j=> ?_,fun c hc=>(e5 c hc).trans (Below.heap_setCell _ _ _ _ hc),by rw [e6]; simp [World.setCell],by simpa [World.setCell] using e7⟩
  rw [e4 j];simp only [List.length_cons]
  by_cases hj:j=o+k
  ·subst hj;rw [if_neg (by omega),if_pos (by omega)]
   simp [hlt]
  ·by_cases hj2:o+(k+1)<=j/\j<o+(k+1)+vs.length
   ·rw [if_pos hj2,if_pos (by omega),show j-(o+k)=(j-(o+(k+1)))+1 by omega]
    simp
   ·rw [if_neg hj2,if_neg (by omega),Array.getElem?_setIfInBounds_ne (by omega)]
theorem az.append{ρ:Env}{f:Ren}{l m:List ab}{a b:List Value}(h:az ρ f l a.toArray)(h':az ρ f m b.toArray):az ρ f (l++m) (a++b).toArray:=by
 have h1:=h.1;have h2:=h'.1;simp at h1 h2;refine ⟨by simp [h1,h2],fun i v v' hv hv'=> ?_⟩
 have hv'':(a++b)[i]? =some v':=by simpa using hv'
 by_cases hi:i<l.length
 ·rw [List.getElem?_append_left hi] at hv;rw [List.getElem?_append_left (by omega)] at hv''
  exact h.2 i v v' hv (by simpa using hv'')
 ·rw [List.getElem?_append_right (by omega)] at hv
  rw [List.getElem?_append_right (by omega),h1] at hv''
  exact h'.2 _ v v' hv (by simpa using hv'')
theorem Hv(need c:Nat)(h:c<need):Builtin.nextslicecap need c<=3*need+4000:=by
 unfold Builtin.nextslicecap;split
 ·omega
 ·split
  ·omega
  ·simp only [Builtin.growBy]
   repeat' split
   all_goals omega
theorem au.inPlace{ρ:Env}{B:Nat->Prop}{W w w':World}{f:Ren}{h:T ah}(hr:au ρ B W f h w){i nx:Nat}{L:Loc}{o:ah}(hf:f i=some L)(hg:h.get i=some o)(hown:o.own=true)(hB: ¬B L.blk)(hnx:f nx=none){L':Loc}(hL':L'.blk=L.blk){ob:ah}
 (hfoot: ∀b,o.aZ ρ w L b ↔ b=L.blk) (hfoot': ∀b,ob.aZ ρ w' L' b ↔ b=L'.blk)
 (ho:c9 ρ (f.put nx L') B w' L' ob) (hc: ∀c,c≠L.blk->w'.heap[c]? =w.heap[c]?) (hs:w'.heap.size=w.heap.size) (hb:w'.os=w.os/\w'.tape=w.tape/\w'.output=w.output):
 au ρ B W (f.put nx L') ((h.del i).set nx ob) w':=by
 have hne:nx≠i:=fun e=>by rw [e,hf] at hnx; cases hnx
 have other: ∀j M ok,f j=some M->h.get j=some ok->j≠i->(∀ b,ok.aZ ρ w M b->w'.heap[b]? =w.heap[b]?)/\ ¬ok.aZ ρ w M L.blk:=by
  intro j M ok hj hgj hji;have:=hr.apart i j L M o ok hf hj hg hgj (Ne.symm hji) hown L.blk ((hfoot _).2 rfl);exact ⟨fun b hb=>hc b (fun e=>this (e▸hb)),this⟩
 have cO:=fun j M ok hj hgj hji=>(hr.obj j M ok hj hgj).rP (Nat.le_of_eq hs.symm) (other j M ok hj hgj hji).1
 refine ⟨hr.below.trans ⟨hb.1,hb.2.1,hb.2.2,by omega,fun k hk=>hc k (fun e=>hB (e▸hk))⟩,hr.bsize,?_,?_,?_⟩
 ·intro j M ej
  by_cases hj:j=nx
  ·subst hj; rw [Ren.cn] at ej; cases ej; rw [hL',hs]; exact hr.lt i L hf
  ·rw [Ren.bM f L' hj] at ej; rw [hs]; exact hr.lt j M ej
 ·intro a b La Lb oa ob' ha hb' hga hgb hab hao x hx hx'
  rcases T.aB hga with ⟨ea,eo⟩ | ⟨han,hga⟩
  ·subst eo;rw [ea,Ren.cn] at ha; cases ha
   rcases T.aB hgb with ⟨eb,_⟩ | ⟨hbn,hgb⟩
   ·exact hab (ea.trans eb.symm)
   ·rw [Ren.bM f L' hbn] at hb';obtain ⟨hbi,hgb⟩:=T.eU hgb;have e:=(hfoot' x).1 hx;rw [hL'] at e;subst e;exact (other b Lb ob' hb' hgb hbi).2 ((cO b Lb ob' hb' hgb hbi).2 _ hx')
  ·rw [Ren.bM f L' han] at ha;obtain ⟨hai,hga2⟩:=T.eU hga
   rcases T.aB hgb with ⟨eb,eo⟩ | ⟨hbn,hgb⟩
   ·subst eo;rw [eb,Ren.cn] at hb'; cases hb';have e:=(hfoot' x).1 hx';rw [hL'] at e;subst e;exact (other a La oa ha hga2 hai).2 ((cO a La oa ha hga2 hai).2 _ hx)
   ·rw [Ren.bM f L' hbn] at hb';obtain ⟨hbi,hgb⟩:=T.eU hgb;exact hr.apart a b La Lb oa ob' ha hb' hga2 hgb hab hao x ((cO a La oa ha hga2 hai).2 x hx) ((cO b Lb ob' hb' hgb hbi).2 x hx')
 ·intro j M ok hj hgj
  rcases T.aB hgj with ⟨rfl,rfl⟩ | ⟨hjn,hgj⟩
  ·rw [Ren.cn] at hj; cases hj; exact ho
  ·rw [Ren.bM f L' hjn] at hj;obtain ⟨hji,hgj⟩:=T.eU hgj;exact (cO j M ok hj hgj hji).1.mono (Ren.fv L' hnx)
theorem Ctx.Qs{C:Ctx}{P:Program}{ρ:Env}(hC:C.Ok P ρ){e:TypeId}{n:Nat}(h:C.bytes e=some n){it:TypeInfo}(hit:P.info? e=some it):it.bytes=n:=by
 unfold Ctx.bytes at h;split at h
 ·cases h
 ·rename_i i2 hi2;have:=hC.ty _ _ hi2;rw [hit] at this;cases this;cases h; rfl
theorem pA{C:Ctx}{P:Program}{ρ:Env}(hC:C.Ok P ρ){w:World}{t xt ty e:TypeId}{xd:TypeDesc}(ht:P.underlying t=some (.slice e))(hxt:P.underlying xt=some xd)(hxd:fT xd=true)
 {sz by_ n m c':Nat} (hsz:C.size e=some sz) (hby:C.bytes e=some by_) {z:Value} {it:TypeInfo} (hit:P.info? e=some it) (hz:it.zero=some z) {base:Option Addr} {x':Value} (hm:(Builtin.lenOf x').run P w= .ok m w)
 {old new:List Value} (h1: ∀d,(Builtin.firstCells sz n (.slice base n c')).run P {w with drawn:=d}= .ok old.toArray {w with drawn:=d}) (h2: ∀d,(Builtin.firstCells sz m x').run P {w with drawn:=d}= .ok new.toArray {w with drawn:=d})
 (hnm: ¬((n+m:Nat):Int) > IntKind.i64.max) (hbig0: ¬Builtin.nextslicecap (n+m) c'*by_ > 2^48) (hgt: ¬n+m<=c') (ts:Array TypeId) (xs:Array Value) (hts0:ts[0]? =some t) (hts1:ts[1]? =some xt) (hx0:xs[0]? =some (.slice base n c')) (hx1:xs[1]? =some x'):
 ∃newCap,n+m<=newCap/\(Builtin.append_ ts ty xs).run P w= .ok (.slice (some ⟨w.heap.size,0,none⟩) (n+m) newCap)
  {w with drawn:=w.drawn+1,heap:=w.heap.push (.cells (old.toArray++new.toArray++Builtin.zeroCells z.cells (newCap-(n+m))) e)}:=by
 have hbytes:=Ctx.Qs hC hby hit
 obtain ⟨newCap,hcap,hle⟩: ∃cap,(choose (.appendCap (n+m) c' e)).run P w= .ok cap {w with drawn:=w.drawn+1}/\n+m<=cap:=by
  refine ⟨_,by rw [run_choose]; simp only [Question.forced,Bool.false_eq_true,if_false]; rfl,?_⟩
  simp only [Question.cut];omega
 refine ⟨newCap,hle,?_⟩;have hbig: ¬Builtin.nextslicecap (n+m) c'*it.bytes > 2^48:=by rw [hbytes]; exact hbig0
 have hti: ∀w',(typeInfo e).run P w'= .ok it w':=fun w'=>by simp [typeInfo,hit]
 have hzr: ∀w',(zeroValue e).run P w'= .ok z w':=fun w'=>by simp [zeroValue,typeInfo,hit,hz]
 have hcond: ¬(((n+m:Nat):Int) > IntKind.i64.max/\(false=true\/it.bytes=0)):=fun h=>hnm h.1
 have h1':=h1 (w.drawn+1);have h2':=h2 (w.drawn+1);unfold Builtin.append_;simp only [hts0,hts1,hx0,hx1,Sem.run_bind,run_underlying ht,run_underlying hxt,Result.andThen_ok,Sem.run_pure,Ctx.bh hC hsz]
 cases xd<;>first
  | (exfalso; cases hxd; done)
  | (simp only [Sem.run_bind,hm,Result.andThen_ok,Sem.run_pure,Sem.run_ite,Bool.false_eq_true,if_false,if_neg hgt,hti,if_neg hcond,if_neg hbig,hcap,run_askRoom,h1',h2',Bool.not_false,if_true,hzr,fQ]
     exact if_neg (fun h=>hnm h.1))
theorem mh{C:Ctx}{P:Program}{ρ:Env}(hC:C.Ok P ρ){w:World}{t xt ty e:TypeId}{xd:TypeDesc}(ht:P.underlying t=some (.slice e))(hxt:P.underlying xt=some xd)(hxd:fT xd=true)
 {sz by_ n m c':Nat} (hsz:C.size e=some sz) (hby:C.bytes e=some by_) {z:Value} {it:TypeInfo} (hit:P.info? e=some it) (hz:it.zero=some z) {base:Option Addr} {x':Value} (hm:(Builtin.lenOf x').run P w= .ok m w)
 {old new:List Value} (h1: ∀d,(Builtin.firstCells sz n (.slice base n c')).run P {w with drawn:=d}= .ok old.toArray {w with drawn:=d}) (h2: ∀d,(Builtin.firstCells sz m x').run P {w with drawn:=d}= .ok new.toArray {w with drawn:=d})
 (hneed:n+m<=1073741824) (hby4:by_<=4096) (hgt: ¬n+m<=c') (ts:Array TypeId) (xs:Array Value) (hts0:ts[0]? =some t) (hts1:ts[1]? =some xt) (hx0:xs[0]? =some (.slice base n c')) (hx1:xs[1]? =some x'):
 ∃newCap,n+m<=newCap/\(Builtin.append_ ts ty xs).run P w= .ok (.slice (some ⟨w.heap.size,0,none⟩) (n+m) newCap)
  {w with drawn:=w.drawn+1,heap:=w.heap.push (.cells (old.toArray++new.toArray++Builtin.zeroCells z.cells (newCap-(n+m))) e)}:=by
 have hnc:=Hv (n+m) c' (by omega)
 refine pA hC ht hxt hxd hsz hby hit hz hm h1 h2 ?_ ?_ hgt ts xs hts0 hts1 hx0 hx1
 ·have hmax:IntKind.i64.max=9223372036854775807:=by decide
  rw [hmax]; omega
 ·have:Builtin.nextslicecap (n+m) c'*by_<=(3*1073741824+4000)*4096:=Nat.mul_le_mul (by omega) hby4
  omega
theorem dN{C:Ctx}{P:Program}{ρ:Env}(hC:C.Ok P ρ){w w':World}{t xt ty e:TypeId}{xd:TypeDesc}(ht:P.underlying t=some (.slice e))(hxt:P.underlying xt=some xd)(hxd:fT xd=true)
 {sz n m c':Nat} (hsz:C.size e=some sz) {base:Option Addr} {x':Value} (hm:(Builtin.lenOf x').run P w= .ok m w)
 {new:List Value} (h2:(Builtin.firstCells sz m x').run P w= .ok new.toArray w) (hle:n+m<=c')
 (hst: ∀a,base=some a->(storeCells (a.add (n*sz)) new).run P w= .ok () w') (hno:base=none->w'=w)
 (ts:Array TypeId) (xs:Array Value) (hts0:ts[0]? =some t) (hts1:ts[1]? =some xt) (hx0:xs[0]? =some (.slice base n c')) (hx1:xs[1]? =some x'):
 (Builtin.append_ ts ty xs).run P w= .ok (.slice base (n+m) c') w':=by
 unfold Builtin.append_;simp only [hts0,hts1,hx0,hx1,Sem.run_bind,run_underlying ht,run_underlying hxt,Result.andThen_ok,Sem.run_pure,Ctx.bh hC hsz];cases base with
 |none=>
  obtain rfl:=hno rfl
  cases xd<;>first
   | (exfalso; cases hxd; done)
   | (simp only [Sem.run_bind,hm,Result.andThen_ok,Sem.run_pure,Sem.run_ite,Bool.false_eq_true,if_false,if_pos hle,h2,Bool.not_false,if_true])
 |some a=>
  have hst':=hst a rfl
  cases xd<;>first
   | (exfalso; cases hxd; done)
   | (simp only [Sem.run_bind,hm,Result.andThen_ok,Sem.run_pure,Sem.run_ite,Bool.false_eq_true,if_false,if_pos hle,h2,Bool.not_false,if_true,hst'])
theorem au.grown{ρ:Env}{B:Nat->Prop}{W w w':World}{f:Ren}{h h':T ah}(hr:au ρ B W f h w){nx:Nat}(hnx:f nx=none){xs:List Value}{rest:Array Value}{e:TypeId}{tr:T ab}{top:Nat}
 (hw:w'.heap=w.heap.push (.cells (xs.toArray++rest) e)) (hb:w'.os=w.os/\w'.tape=w.tape/\w'.output=w.output)
 (htr: ∀(j:Nat) (v:ab),tr.get j=some v->j<top/\ ∃v',xs[j]? =some v'/\ai ρ f v v')
 (hh: ∀j x,h'.get j=some x->(j=nx/\x= .cells tr e true top)\/(j≠nx/\h.get j=some x)):
 au ρ B W (f.put nx ⟨w.heap.size,0,(xs.toArray++rest).size⟩) h' w':=by
 have hbs:=hr.bsize;have hws:=hr.below.size;refine hr.LO (L:=⟨w.heap.size,0,(xs.toArray++rest).size⟩) (o:= .cells tr e true top) hnx hw hb rfl ?_ (fun _ h=>h) hh
 refine ⟨xs.toArray++rest,(0,0),by rw [hw]; simp,rfl,fun _=>⟨hr.fresh (Nat.le_refl _),fun j _=>by simp⟩,fun j v hj=> ?_⟩
 obtain ⟨hlt,v',h1,h2⟩:=htr j v hj;have hl:=(List.getElem?_eq_some_iff.1 h1).1;exact ⟨hlt,v',by rw [Nat.zero_add,Array.getElem?_append_left (by simpa using hl)]; simpa using h1,h2.mono (Ren.fv _ hnx)⟩
theorem size_zeroCells(z:Array Value)(n:Nat):(Builtin.zeroCells z n).size=n*z.size:=by simp [Builtin.zeroCells]
theorem G9{C:Ctx}{P:Program}{ρ:Env}(hC:C.Ok P ρ){B:Nat->Prop}{W w:World}{f:Ren}{h h':T ah}(hr:au ρ B W f h w){nx nx':Nat}(hfr: ∀j,nx<=j->j<nx'->f j=none){t xt ty:TypeId}{s x v:ab}{s' x':Value}(hs:ai ρ f s s')(hx:ai ρ f x x')(ha:vi C h nx t xt s x=some (v,h',nx'))
 (ts:Array TypeId) (xs:Array Value) (hts0:ts[0]? =some t) (hts1:ts[1]? =some xt) (hx0:xs[0]? =some s') (hx1:xs[1]? =some x'):
 ∃f' w' v',(Builtin.append_ ts ty xs).run P w= .ok v' w'/\f.le f'/\(∀ j,(j<nx\/nx'<=j)->f' j=f j)/\au ρ B W f' h' w'/\ai ρ f' v v':=by
 have hbs:=hr.bsize;have hws:=hr.below.size;unfold vi at ha;split at ha
 ·rename_i e xd hut hux;have ht:=Ctx.ax hC hut;have hxt:=Ctx.ax hC hux;split at ha
  ·cases ha
  ·rename_i hxd;split at ha
   ·rename_i a n c g;split at ha
    ·rename_i sz by_ m z hsz hby hm hz;obtain ⟨z',-,hz2,it,hit,hzz⟩:=fI hC (f:=f) hz w;have hlen:=tZ (P:=P) hx hm w;split at ha
     ·cases ha
     ·rename_i l hl;obtain ⟨new,q0,q2⟩:=nN (P:=P) hr hx ⟨m,hm,Nat.le_refl _⟩ hl;split at ha
      ·rename_i g1 g2 g3 g4 g5;replace g2:=Nat.le_of_ble_eq_true g2;replace g3:=Nat.le_of_ble_eq_true g3;replace g4:=Nat.le_of_ble_eq_true g4;replace g5:=Nat.le_of_ble_eq_true g5;have hone:=tv l new g1 q2;split at ha
       · -- room
         rename_i hfit;replace hfit:=Nat.le_of_ble_eq_true hfit;split at ha
         ·cases ha;cases hs;have hm0:m=0:=by omega
          subst hm0;exact ⟨f,w,_,dN hC ht hxt hxd hsz hlen (q0 w.drawn) (Nat.le_refl _) (fun a e=>by cases e) (fun _=>rfl) ts xs hts0 hts1 hx0 hx1,Ren.le_refl f,fun _ _=>rfl,hr,.nilSlice⟩
         ·rename_i i o;split at ha
          ·rename_i h1 hset;cases ha
           have main: ∀(L:Loc),f i=some L-> ∀c',c<=c'->xs[0]? =some (.slice (some ⟨L.blk,L.base+o,none⟩) n c')->ai ρ f (.slice (some (i,o)) (n+m) c g) (.slice (some ⟨L.blk,L.base+o,none⟩) (n+m) c')->
            ∃f' w' v',(Builtin.append_ ts ty xs).run P w= .ok v' w'/\f.le f'/\(∀ j,(j<nx\/nx<=j)->f' j=f j)/\au ρ B W f' h' w'/\ai ρ f' (.slice (some (i,o)) (n+m) c g) v':=by
            intro L hf c' hcc hx0 hv;obtain ⟨w',p1,p2,_⟩:=rz hf P (o+n*sz) l 0 h h' w new hr q2 hset;refine ⟨f,w',_,dN hC ht hxt hxd hsz hlen (q0 w.drawn) (by omega) (fun a e=> ?_) (fun e=>by cases e) ts xs hts0 hts1 hx0 hx1,Ren.le_refl f,fun _ _=>rfl,p2,hv⟩
            cases e;rw [bG,Nat.add_assoc];exact p1
           cases hs with
           |slice hf=>exact main _ hf _ (Nat.le_refl _) hx0 (.slice hf)
           |sliceG hf hn hc hss=>exact main _ hf _ hc hx0 (.sliceG hf hfit hc hss)
           |sliceE hf hg hss=>
            rename_i o' c' L;have hm0:m=0:=by omega
            subst hm0
            have hl0:l=[]:=by
             unfold mV at hl;split at hl
             ·cases hl; rfl
             ·simp [kU] at hl; exact hl
             ·simp [iu] at hl; exact hl
             ·cases hl
            subst hl0;have hcs:new=[]:=by have:=q2.1; simpa using this
            subst hcs;simp [pd] at hset;subst hset;exact ⟨f,w,_,dN hC ht hxt hxd hsz hlen (q0 w.drawn) (Nat.zero_le _) (fun a e=>rfl) (fun e=>by cases e) ts xs hts0 hts1 hx0 hx1,Ren.le_refl f,fun _ _=>rfl,hr,.sliceE hf hg hss⟩
          ·cases ha
       · -- it must grow
         rename_i hfit;have hfit': ¬n+m<=c:=fun e=>by rw [Nat.ble_eq.mpr e] at hfit; cases hfit
         split at ha
         ·rename_i hll hzl;replace hll:=Nat.eq_of_beq_eq_true hll;replace hzl:=Nat.eq_of_beq_eq_true hzl;have hzs:z'.cells.size=sz:=by rw [(az.cells hz2).1]; exact hzl
          have hnl:new.length=m*sz:=by have:=q2.1; simp at this; omega
          -- a new block
          have grow: ∀(base:Option Addr) (c':Nat) (oldc:List Value) (tr:T ab) (top:Nat),s'= .slice base n c'-> ¬n+m<=c'->nx'=nx+1->
           (∀ d,(Builtin.firstCells sz n (.slice base n c')).run P {w with drawn:=d}= .ok oldc.toArray {w with drawn:=d})->oldc.length=n*sz->
           (∀ (j:Nat) (v:ab),tr.get j=some v->j<top/\ ∃v',(oldc++new)[j]? =some v'/\ai ρ f v v')->
           (∀ j x,h'.get j=some x->(j=nx/\x= .cells tr e true top)\/(j≠nx/\h.get j=some x))->v= .slice (some (nx,0)) (n+m) (n+m) sz->
           ∃f' w' v',(Builtin.append_ ts ty xs).run P w= .ok v' w'/\f.le f'/\(∀ j,(j<nx\/nx'<=j)->f' j=f j)/\au ρ B W f' h' w'/\ai ρ f' v v':=by
           intro base c' oldc tr top hs' hgt hnx p0 hol htr hh' hvv;have hnone:f nx=none:=hfr nx (Nat.le_refl _) (by omega)
           rw [hs'] at hx0;obtain ⟨newCap,hcap,hrun⟩:=mh hC (ty:=ty) ht hxt hxd hsz hby hit hzz hlen p0 q0 g3 g4 hgt ts xs hts0 hts1 hx0 hx1;have hap:oldc.toArray++new.toArray=(oldc++new).toArray:=by simp
           rw [hap] at hrun
           have hsize:newCap*sz=((oldc++new).toArray++Builtin.zeroCells z'.cells (newCap-(n+m))).size:=by
            simp only [Array.size_append,List.size_toArray,List.length_append,size_zeroCells,hzs,hol,hnl];rw [<- Nat.add_mul,<-Nat.add_mul]
            congr 1; omega
           refine ⟨f.put nx _,_,_,hrun,Ren.fv _ hnone,fun j hj=>Ren.bM f _ (by omega),hr.grown hnone (xs:=oldc++new) (rest:=Builtin.zeroCells z'.cells (newCap-(n+m))) rfl ⟨rfl,rfl,rfl⟩ htr hh',?_⟩
           rw [hvv];obtain ⟨sz',rfl⟩: ∃k,sz=k+1:=⟨sz-1,by omega⟩
           exact ai.sliceG (ρ:=ρ) (o:=0) (n:=n+m) (c:=n+m) (c':=newCap) (g:=sz') (Ren.cn f nx _) (Nat.le_refl _) hcap (by simp only [Nat.zero_add]; omega)
          split at ha
          · -- the old capacity is known
            split at ha
            ·cases ha
            ·rename_i old hold;split at ha
             ·cases ha
             ·rename_i hol;replace hol:=Nat.eq_of_beq_eq_true hol;simp only [Option.some.injEq,Prod.mk.injEq] at ha;obtain ⟨hv1,hh1,hn1⟩:=ha;obtain ⟨oldc,p0,p2⟩:=nN (P:=P) hr hs ⟨n,rfl,Nat.le_refl _⟩ hold;have hol':oldc.length=n*sz:=by have:=p2.1; simp at this; omega
              have hlr:az ρ f (old++l) (oldc++new).toArray:=az.append p2 q2
              have htr: ∀(j:Nat) (v:ab),(cellsOf (old++l)).get j=some v->j<(old++l).length/\ ∃v',(oldc++new)[j]? =some v'/\ai ρ f v v':=fun j v hj=>by
               obtain ⟨v',h1,h2⟩:=hlr.get (fR hj);exact ⟨(List.getElem?_eq_some_iff.1 (fR hj)).1,v',by simpa using h1,h2⟩
              have hset: ∀j x,h'.get j=some x->(j=nx/\x= .cells (cellsOf (old++l)) e true (old++l).length)\/(j≠nx/\h.get j=some x):=fun j x hj=>by
               rw [<- hh1] at hj
               rcases T.aB hj with ⟨a1,a2⟩ |a1
               ·exact .inl ⟨a1,a2.symm⟩
               ·exact .inr a1
              cases hs with
              |nilSlice=>exact grow _ _ oldc _ _ rfl hfit' hn1.symm p0 hol' htr hset hv1.symm
              |slice hf=>exact grow _ _ oldc _ _ rfl hfit' hn1.symm p0 hol' htr hset hv1.symm
              |sliceE hf hg hss=>
               obtain rfl:=hg rfl;exact grow _ _ oldc _ _ rfl hfit' hn1.symm p0 hol' htr hset hv1.symm
          · -- it isn't
            rename_i g;split at ha
            ·rename_i i;split at ha
             ·rename_i c0 e' top hgi hsg;replace hsg:=Nat.eq_of_beq_eq_true hsg;split at ha
              ·rename_i hee htop;replace hee:=Nat.eq_of_beq_eq_true hee;replace htop:=Nat.eq_of_beq_eq_true htop;subst hee; subst htop;simp only [Option.some.injEq,Prod.mk.injEq] at ha;obtain ⟨hv1,hh1,hn1⟩:=ha
               have hset: ∀j x,h'.get j=some x->(j=nx/\x= .cells (aF l (n*sz) c0) e true (n*sz+l.length))\/(j≠nx/\h.get j=some x):=fun j x hj=>by
                rw [<- hh1] at hj
                rcases T.aB hj with ⟨a1,a2⟩ | ⟨a1,a2⟩
                ·exact .inl ⟨a1,a2.symm⟩
                ·exact .inr ⟨a1,(T.eU a2).2⟩
               have main: ∀(L:Loc) (b0 c':Nat),f i=some L->s'= .slice (some ⟨L.blk,b0,none⟩) n c'->n<=c'->b0+c'*sz<=L.sz->(b0=L.base\/n=0)->
                ∃f' w' v',(Builtin.append_ ts ty xs).run P w= .ok v' w'/\f.le f'/\(∀ j,(j<nx\/nx'<=j)->f' j=f j)/\au ρ B W f' h' w'/\ai ρ f' v v':=by
                intro L b0 c' hf hs' hnc' hbig hbase;obtain ⟨cs,fr,k1,k2,k3,k4⟩:=hr.obj i L _ hf hgi;obtain ⟨k3a,k3b⟩:=k3 rfl;have hmono:n*sz<=c'*sz:=Nat.mul_le_mul_right _ hnc'
                have hcell: ∀(j:Nat) (v:ab),c0.get j=some v->j<n*sz/\ ∃v',cs[b0+j]? =some v'/\ai ρ f v v':=fun j v hj=>by
                 obtain ⟨a1,v',a2,a3⟩:=k4 j v hj
                 rcases hbase with rfl |h0
                 ·exact ⟨a1,v',a2,a3⟩
                 ·exfalso; rw [h0] at a1; simp at a1
                have hnone:f nx=none:=hfr nx (Nat.le_refl _) (by omega)
                by_cases hroom:n+m<=c'
                ·have hroom2:(n+m)*sz<=c'*sz:=Nat.mul_le_mul_right _ hroom;rw [Nat.add_mul] at hroom2;obtain ⟨w',cur',e1,e2,e3,e4,e5,e6,e7⟩:=gH P L.blk e fr (b0+n*sz) new 0 cs w k1 (by omega) (fun j hj=>k3b j (by omega)) hone
                 rw [hs'] at hx0;refine ⟨f.put nx ⟨L.blk,b0,L.sz⟩,w',_,dN hC ht hxt hxd hsz hlen (q0 w.drawn) hroom (fun a ea=> ?_) (fun ea=>by cases ea) ts xs hts0 hts1 hx0 hx1,Ren.fv _ hnone,fun j hj=>Ren.bM f _ (by omega),?_,?_⟩
                 ·cases ea;rw [bG];exact e1
                 ·rw [<- hh1];refine hr.inPlace hf hgi rfl k3a hnone (L':=⟨L.blk,b0,L.sz⟩) rfl (fun _=>Iff.rfl) (fun _=>Iff.rfl) ?_ e5 e6 e7
                  refine ⟨cur',fr,e2,by rw [e3]; exact k2,fun _=>⟨k3a,k3b⟩,fun j v hj=> ?_⟩
                  show j<n*sz+l.length/\ ∃v',cur'[b0+j]? =some v'/\ai ρ _ v v'
                  rcases eK _ _ _ _ _ hj with ⟨a1,a2⟩ |a1
                  ·obtain ⟨v',b1,b2⟩:=q2.get a2;have hlt:=(List.getElem?_eq_some_iff.1 a2).1;refine ⟨by omega,v',?_,b2.mono (Ren.fv _ hnone)⟩
                   rw [e4,if_pos (by omega),<-List.getElem?_toArray]
                   rw [show b0+j-(b0+n*sz+0)=j-n*sz by omega]
                   exact b1
                  ·obtain ⟨b1,v',b2,b3⟩:=hcell j v a1;refine ⟨by omega,v',?_,b3.mono (Ren.fv _ hnone)⟩
                   rw [e4,if_neg (by omega)]
                   exact b2
                 ·rw [<- hv1];obtain ⟨sz',rfl⟩: ∃k,sz=k+1:=⟨sz-1,by omega⟩
                  exact ai.sliceG (ρ:=ρ) (f:=f.put nx ⟨L.blk,b0,L.sz⟩) (i:=nx) (o:=0) (n:=n+m) (c:=n+m) (c':=c') (g:=sz') (Ren.cn f nx ⟨L.blk,b0,L.sz⟩) (Nat.le_refl _) hroom (by simpa using hbig)
                ·have hol:(cs.extract b0 (b0+n*sz)).toList.length=n*sz:=by simp; omega
                 have hoc: ∀j v',(cs.extract b0 (b0+n*sz)).toList[j]? =some v'->cs[b0+j]? =some v':=fun j v' hj=>by
                  rw [Array.getElem?_toList,Array.getElem?_extract] at hj;split at hj
                  ·exact hj
                  ·cases hj
                 refine grow _ _ (cs.extract b0 (b0+n*sz)).toList (aF l (n*sz) c0) (n*sz+l.length) hs' hroom hn1.symm (fun d=> ?_) hol (fun j v hj=> ?_) hset hv1.symm
                 ·refine bo hol fun j v' hj=> ?_
                  have:=hoc j v' hj;simp only [World.cell?,k1]
                  simpa using this
                 ·rcases eK _ _ _ _ _ hj with ⟨a1,a2⟩ |a1
                  ·obtain ⟨v',b1,b2⟩:=q2.get a2;have hlt:=(List.getElem?_eq_some_iff.1 a2).1;refine ⟨by omega,v',?_,b2⟩
                   rw [List.getElem?_append_right (by omega),hol,<-List.getElem?_toArray]
                   exact b1
                  ·obtain ⟨b1,v',b2,b3⟩:=hcell j v a1;refine ⟨by omega,v',?_,b3⟩
                   rw [List.getElem?_append_left (by omega),Array.getElem?_toList,Array.getElem?_extract,if_pos (by omega)]
                   exact b2
               cases hs with
               |sliceG hf hn hc hss=>
                rename_i c' L;exact main L (L.base+0) c' hf rfl (by omega) (by rw [hsg]; exact hss) (.inl rfl)
               |sliceE hf hg hss=>
                rename_i o' c' L;exact main L o' c' hf rfl (by omega) (by rw [hsg]; exact hss) (.inr rfl)
              ·cases ha
             ·cases ha
            ·cases ha
         ·cases ha
      ·cases ha
    ·cases ha
   ·cases ha
 ·cases ha
theorem au.extra{ρ:Env}{B:Nat->Prop}{W w:World}{f:Ren}{h:T ah}(hr:au ρ B W f h w){i:Nat}(hi:f i=none)(o:ah):au ρ B W f (h.set i o) w:=by
 have key: ∀j L x,f j=some L->(h.set i o).get j=some x->h.get j=some x:=by
  intro j L x hj hx
  rcases T.aB hx with ⟨rfl,_⟩ | ⟨_,hx⟩
  ·rw [hi] at hj; cases hj
  ·exact hx
 exact ⟨hr.below,hr.bsize,hr.lt,fun a b La Lb oa ob ha hb ga gb=>hr.apart a b La Lb oa ob ha hb (key a La oa ha ga) (key b Lb ob hb gb),fun j L x hj hx=>hr.obj j L x hj (key j L x hj hx)⟩
def P5(C:Ctx)(len:IE):Option Nat:=
 match rng C.bd len with
 |some (_,.ofNat n)=>some n
 |_=>none
def rZ(C:Ctx)(h:T ah)(nx:Nat)(t xt:TypeId)(s x:ab):Option (ab×T ah×Nat):=
 match C.und t,C.und xt with
 |some (.slice e),some (.slice _)=>
  match s,x with
  | .slice a 0 0 0,.sliceS i (.lit (.ofNat 0)) len sz _=>
    match C.size e,C.bytes e,kA C e,h.get i,P5 C len with
    |some sz',some by_,some z,some (.arr ks code n _),some top=>
     match Nat.beq sz sz',Nat.beq sz ks.length,Nat.beq z.cells.length sz,settle C.dec (mkLt C.bd n len),Nat.ble (top*by_) 281474976710656,Nat.ble top 9223372036854775807 with
     |true,true,true,some false,true,true=>some (.sliceA nx len sz,h.set nx (.arr ks code len true),nx+1)
     |_,_,_,_,_,_=>none
    |_,_,_,_,_=>none
  |_,_=>none
 |_,_=>none
theorem EM{C:Ctx}{P:Program}{ρ:Env}(hC:C.Ok P ρ){B:Nat->Prop}{W w:World}{f:Ren}{h h':T ah}(hr:au ρ B W f h w){nx nx':Nat}(hfr: ∀j,nx<=j->j<nx'->f j=none){t xt ty:TypeId}{s x v:ab}{s' x':Value}(hs:ai ρ f s s')(hx:ai ρ f x x')(ha:rZ C h nx t xt s x=some (v,h',nx'))
 (ts:Array TypeId) (xs:Array Value) (hts0:ts[0]? =some t) (hts1:ts[1]? =some xt) (hx0:xs[0]? =some s') (hx1:xs[1]? =some x'):
 ∃f' w' v',(Builtin.append_ ts ty xs).run P w= .ok v' w'/\f.le f'/\(∀ j,(j<nx\/nx'<=j)->f' j=f j)/\au ρ B W f' h' w'/\ai ρ f' v v':=by
 unfold rZ at ha;split at ha
 ·rename_i e e2 hut hux;have ht:=Ctx.ax hC hut;have hxt:=Ctx.ax hC hux;split at ha
  ·rename_i a i len sz nn;split at ha
   ·rename_i sz' by_ z ks code n own top hsz hby hz hg htop;split at ha
    ·rename_i h1 h2 h3 h4 h5 h6;have h1:=Nat.eq_of_beq_eq_true h1;have h2:=Nat.eq_of_beq_eq_true h2;have h3:=Nat.eq_of_beq_eq_true h3;have h4:=aq hC.dec _ _ h4;rw [cK hC.bd] at h4;have h4:=of_decide_eq_false h4;have h5:=Nat.le_of_ble_eq_true h5;have h6:=Nat.le_of_ble_eq_true h6;subst h1;cases ha;obtain ⟨z',-,hz2,it,hit,hzz⟩:=fI hC (f:=f) hz w
     have htl:len.ev ρ<=top:=by
      unfold P5 at htop;split at htop
      ·rename_i l m hr';cases htop;exact (bD hC.bd _ _ _ hr').2
      ·cases htop
     have hnone:f nx=none:=hfr nx (Nat.le_refl _) (by omega)
     obtain ⟨base,rfl⟩: ∃base,s'= .slice base 0 0:=by
      cases hs with
      |nilSlice=>exact ⟨_,rfl⟩
      |slice hf=>exact ⟨_,rfl⟩
      |sliceE hf hg' hs'=>rename_i o' c' L; obtain rfl:=hg' rfl; exact ⟨_,rfl⟩
     -- nothing to append
     have empty: ∀b c,x'= .slice b 0 c->len.ev ρ=0-> ∃f' w' v',(Builtin.append_ ts ty xs).run P w= .ok v' w'/\f.le f'/\(∀ j,(j<nx\/nx+1<=j)->f' j=f j)/\au ρ B W f' (h.set nx (.arr ks code len true)) w'/\ai ρ f' (.sliceA nx len sz) v':=by
      intro b c hx' hl;subst hx';refine ⟨f,w,.slice base (0+0) 0,dN hC ht hxt rfl hsz (n:=0) (m:=0) (c':=0) (new:=[]) rfl ?_ (Nat.le_refl _) (fun a _=>rfl) (fun _=>rfl) ts xs hts0 hts1 hx0 hx1,Ren.le_refl f,fun _ _=>rfl,hr.extra hnone _,.sliceN hl⟩
      cases b with
      |none=>rfl
      |some b=>
       simp only [Builtin.firstCells,Nat.zero_mul];exact run_loadCells_list w b [] (fun j v hv=>by simp at hv)
     cases hx with
     |sliceZ hl hz'=>exact empty _ _ rfl hl
     |sliceS hf h0 hl hc=>
      rename_i L c
      by_cases hl0:len.ev ρ=0
      ·exact empty _ c (by rw [hl0]; rfl) hl0
      ·obtain ⟨m,hm⟩:=Int.eq_ofNat_of_zero_le hl;have hm0:0<m:=by omega
       obtain ⟨cs,el,fr,k1,k2,k3,k4⟩:=hr.obj i L _ hf hg;have hst:((IE.lit (.ofNat 0)).ev ρ).toNat=0:=rfl;have hmn:(len.ev ρ).toNat=m:=by rw [hm]; rfl
       rw [hst,hmn,Nat.zero_mul,Nat.add_zero] at hx1
       let new:List Value:=(cs.toList.drop L.base).take (m*sz)
       have cell: ∀j c k,j<m->ks[c]? =some k->cs[L.base+(j*sz+c)]? =some (.int k (ag (code.ev ρ) (j*sz+c:Nat)))/\kLo k<=ag (code.ev ρ) (j*sz+c:Nat)/\ag (code.ev ρ) (j*sz+c:Nat)<=kHi k:=by
        intro j c k hj hk;have:=k4 j c k (by omega) hk
        rw [<- h2] at this;exact this
       have hks:0<ks.length\/ks.length=0:=by omega
       have hnewlen:new.length=m*sz:=by
        rcases Nat.eq_zero_or_pos sz with hsz0 |hsz0
        ·simp [new,hsz0]
        ·have hk:ks[sz-1]? =some (ks[sz-1]'(by omega)):=by simp
         have:=(cell (m-1) (sz-1) _ (by omega) hk).1
         have hlt:=(Array.getElem?_eq_some_iff.1 this).1
         have e1:(m-1)*sz+(sz-1)+1=m*sz:=by
          obtain ⟨m',rfl⟩: ∃m',m=m'+1:=⟨m-1,by omega⟩
          rw [Nat.add_sub_cancel,Nat.add_mul];omega
         simp only [new,List.length_take,List.length_drop,Array.length_toList];omega
       have hnew: ∀j v,new[j]? =some v->cs[L.base+j]? =some v:=by
        intro j v hv;simp only [new,List.getElem?_take,List.getElem?_drop] at hv;split at hv
        ·simpa using hv
        ·cases hv
       have hfirst: ∀d,(Builtin.firstCells sz m (.slice (some ⟨L.blk,L.base,none⟩) m c)).run P {w with drawn:=d}= .ok new.toArray {w with drawn:=d}:=by
        intro d;simp only [Builtin.firstCells];refine bo hnewlen fun j v hv=> ?_
        simp [World.cell?,k1,hnew j v hv]
       have hnc:Builtin.nextslicecap (0+m) 0=m:=by
        unfold Builtin.nextslicecap;rw [if_pos (by omega),Nat.zero_add]
       have hmt:m<=top:=by omega
       obtain ⟨newCap,hcap,hrun⟩:=pA (ρ:=ρ) hC ht hxt rfl (w:=w) (n:=0) (m:=m) (c':=0) (base:=base) hsz hby hit hzz (x':= .slice (some ⟨L.blk,L.base,none⟩) m c) (old:=[]) (new:=new) rfl (fun d=>by
        cases base with
        |none=>rfl
        |some b=>
         simp only [Builtin.firstCells,Nat.zero_mul];exact run_loadCells_list _ b [] (fun j v hv=>by simp at hv)) hfirst (by
         have hmax:IntKind.i64.max=9223372036854775807:=by decide
         rw [hmax]; omega) (by
         rw [hnc];have:m*by_<=top*by_:=Nat.mul_le_mul_right _ hmt;omega) (by omega) ts xs hts0 hts1 hx0 hx1 (ty:=ty)
       have hzc:z'.cells.size=sz:=by
        have:=(az.cells hz2).1;omega
       refine ⟨f.put nx ⟨w.heap.size,0,(#[]++new.toArray++Builtin.zeroCells z'.cells (newCap-(0+m))).size⟩,_,_,hrun,Ren.fv _ hnone,fun j hj=>Ren.bM f _ (by omega),?_,?_⟩
       ·refine hr.LO hnone (o:= .arr ks code len true) (O:= .cells (#[]++new.toArray++Builtin.zeroCells z'.cells (newCap-(0+m))) e) rfl ⟨rfl,rfl,rfl⟩ rfl ?_ (fun _ h=>h) (fun j x hx=> ?_)
        ·refine ⟨#[]++new.toArray++Builtin.zeroCells z'.cells (newCap-(0+m)),e,(0,0),by simp,rfl,fun _=>⟨hr.fresh (Nat.le_refl _),fun j _=>by simp⟩,fun j c k hj hk=> ?_⟩
         have hj:j<m:=by omega
         obtain ⟨q1,q2⟩:=cell j c k hj hk;rw [<- h2];refine ⟨?_,q2⟩;have hcl:c<sz:=by rw [h2]; exact (List.getElem?_eq_some_iff.1 hk).1
         have hlt:j*sz+c<m*sz:=by
          have:(j+1)*sz<=m*sz:=Nat.mul_le_mul_right _ hj;rw [Nat.add_mul] at this;omega
         have hnj:new[j*sz+c]? =cs[L.base+(j*sz+c)]? :=by
          simp only [new,List.getElem?_take,List.getElem?_drop,if_pos hlt];simp
         rw [<- q1,<-hnj];show (#[]++new.toArray++Builtin.zeroCells z'.cells (newCap-(0+m)))[0+(j*sz+c)]? =_;rw [Nat.zero_add,Array.getElem?_append_left (by simp; omega)]
         simp
        ·rcases T.aB hx with ⟨e1,e2⟩ | ⟨e1,e2⟩
         ·exact .inl ⟨e1,e2.symm⟩
         ·exact .inr ⟨e1,e2⟩
       ·have hsize:newCap*sz=(#[]++new.toArray++Builtin.zeroCells z'.cells (newCap-(0+m))).size:=by
         simp only [Array.size_append,List.size_toArray,size_zeroCells,hzc,hnewlen,List.length_nil];rw [Nat.zero_add,<-Nat.add_mul]
         congr 1; omega
        have hv:=ai.sliceA (ρ:=ρ) (f:=f.put nx ⟨w.heap.size,0,(#[]++new.toArray++Builtin.zeroCells z'.cells (newCap-(0+m))).size⟩) (i:=nx) (s:=sz) (len:=len) (c:=newCap) (Ren.cn f nx _) hl (by rw [hmn]; omega) (by simp only [Nat.zero_add]; simpa using Nat.le_of_eq hsize)
        rw [hmn] at hv;have em:0+m=m:=Nat.zero_add m;simp only [em] at hv ⊢;exact hv
    ·cases ha
   ·cases ha
  ·cases ha
 ·cases ha
def mO(C:Ctx)(h:T ah)(nx:Nat)(t xt:TypeId)(s x:ab):Option (ab×T ah×Nat):=
 match vi C h nx t xt s x with
 |some r=>some r
 |none=>rZ C h nx t xt s x
theorem Fv{C:Ctx}{P:Program}{ρ:Env}(hC:C.Ok P ρ){B:Nat->Prop}{W w:World}{f:Ren}{h h':T ah}(hr:au ρ B W f h w){nx nx':Nat}(hfr: ∀j,nx<=j->j<nx'->f j=none){t xt ty:TypeId}{s x v:ab}{s' x':Value}(hs:ai ρ f s s')(hx:ai ρ f x x')(ha:mO C h nx t xt s x=some (v,h',nx'))
 (ts:Array TypeId) (xs:Array Value) (hts0:ts[0]? =some t) (hts1:ts[1]? =some xt) (hx0:xs[0]? =some s') (hx1:xs[1]? =some x'):
 ∃f' w' v',(Builtin.append_ ts ty xs).run P w= .ok v' w'/\f.le f'/\(∀ j,(j<nx\/nx'<=j)->f' j=f j)/\au ρ B W f' h' w'/\ai ρ f' v v':=by
 unfold mO at ha;split at ha
 ·rename_i r hr';cases ha;exact G9 hC hr hfr hs hx hr' ts xs hts0 hts1 hx0 hx1
 ·exact EM hC hr hfr hs hx ha ts xs hts0 hts1 hx0 hx1
theorem Gl{C:Ctx}{h h':T ah}{nx nx':Nat}{t xt:TypeId}{s x v:ab}(hs:mO C h nx t xt s x=some (v,h',nx')):nx<=nx':=by
 unfold mO at hs;split at hs
 ·rename_i r hr;cases hs;unfold vi at hr
  repeat' split at hr
  all_goals first
   | (cases hr; done)
   | (simp only [Option.some.injEq,Prod.mk.injEq] at hr; omega)
 ·unfold rZ at hs
  repeat' split at hs
  all_goals first
   | (cases hs; done)
   | (simp only [Option.some.injEq,Prod.mk.injEq] at hs; omega)
theorem iK{a b:Bool}(h:(a&&b)=true):a=true/\b=true:=by
 cases a<;>cases b<;>first |exact ⟨rfl,rfl⟩ |cases h
def Pe(C:Ctx)(len:IE):Option Nat:=
 match rng C.bd len with
 |some (_,h)=>
  match lN (narrow len C.dec).2 h with
  |some (.ofNat n)=>some n
  |_=>none
 |none=>
  match (narrow len C.dec).2 with
  |some (.ofNat n)=>some n
  |_=>none
theorem A8{C:Ctx}{P:Program}{ρ:Env}(hC:C.Ok P ρ){len:IE}{n:Nat}(h:Pe C len=some n):len.ev ρ<=n:=by
 have hw:=gY (ρ:=ρ) len hC.dec;unfold Pe at h;split at h
 ·rename_i l hh hr;split at h
  ·rename_i m hm;cases h;exact jt hw.2 (bD hC.bd _ _ _ hr).2 _ hm
  ·cases h
 ·split at h
  ·rename_i m hm;cases h;exact hw.2 _ hm
  ·cases h
def VH(ks:List IntKind)(bd:Bd)(off:IE):Nat->List ab->IE->Option IE
 |_,[],code=>some code
 |j,v::l,code=>
  match v with
  | .int k e=>
    match ks[Nat.mod j ks.length]? with
    |some k'=>
     match bf k k'&&fits k (rng bd e) with
     |true=>VH ks bd off (j+1) l (dG 1 code (mkAdd off (.lit (.ofNat j))) e)
     |false=>none
    |none=>none
  |_=>none
theorem SO{ρ:Env}{bd:Bd}(hρ:ρ.ok bd){f:Ren}{ks:List IntKind}{off:IE}{o:Nat}(ho:off.ev ρ=o): ∀(l:List ab) (j:Nat) (code code':IE) (cs:List Value),az ρ f l cs.toArray->VH ks bd off j l code=some code'->
 (∀ i:Nat,(i<o+j\/o+j+l.length<=i)->ag (code'.ev ρ) i=ag (code.ev ρ) i)/\
 ∀(t:Nat) (v:Value),cs[t]? =some v-> ∃k,ks[(j+t) % ks.length]? =some k/\v= .int k (ag (code'.ev ρ) (o+j+t:Nat))/\kLo k<=ag (code'.ev ρ) (o+j+t:Nat)/\ag (code'.ev ρ) (o+j+t:Nat)<=kHi k:=by
 intro l
 induction l with
 |nil=>
  intro j code code' cs hr h;cases h;have:cs=[]:=by have:=hr.1; simpa using this
  subst this;exact ⟨fun i _=>rfl,fun t v hv=>by simp at hv⟩
 |cons v l ih=>
  intro j code code' cs hr h;unfold VH at h;split at h
  ·rename_i k e;split at h
   ·rename_i k' hk;split at h
    ·rename_i hc;obtain ⟨h1,h2⟩:=iK hc;have h1:=aH h1;subst h1;have hb:=ep hρ h2;have hl:=hr.1
     obtain ⟨u,cs,rfl⟩: ∃u cs',cs=u::cs':=by
      cases cs with
      |nil=>simp at hl
      |cons u cs=>exact ⟨u,cs,rfl⟩
     have hu:u= .int k (e.ev ρ):=by
      have:=hr.2 0 (.int k e) u rfl rfl;cases this; rfl
     have hr':az ρ f l cs.toArray:=by
      refine ⟨by simpa using hl,fun i w w' hw hw'=>hr.2 (i+1) w w' (by simpa using hw) (by simpa using hw')⟩
     obtain ⟨q1,q2⟩:=ih (j+1) _ code' cs hr' h
     have hset:(dG 1 code (mkAdd off (.lit (.ofNat j))) e).ev ρ=aD (code.ev ρ) ((o+j:Nat):Int) (e.ev ρ):=by
      rw [cz,bE,ho];rfl
     have here:ag (code'.ev ρ) (o+j:Nat)=e.ev ρ:=by
      rw [q1 (o+j) (.inl (by omega)),hset,fF _ _ _ _ hb.1 hb.2,if_pos rfl]
     refine ⟨fun i hi=> ?_,fun t w hw=> ?_⟩
     ·simp only [List.length_cons] at hi;rw [q1 i (by omega),hset,fF _ _ _ _ hb.1 hb.2,if_neg (by omega)]
     ·cases t with
      |zero=>
       have hw:u=w:=by simpa using hw
       subst hw;rw [Nat.add_zero,Nat.add_zero,here];exact ⟨k,hk,hu,hb.1,hb.2⟩
      |succ t=>
       have:=q2 t w (by simpa using hw)
       rw [show j+1+t=j+(t+1) by omega,show o+(j+1)+t=o+j+(t+1) by omega] at this
       exact this
    ·cases h
   ·cases h
  ·cases h
def nf(C:Ctx)(h:T ah)(nx:Nat)(t xt:TypeId)(s x:ab):Option (ab×T ah×Nat):=
 match C.und t,C.und xt with
 |some (.slice e),some xd=>
  match fT xd with
  |false=>none
  |true=>
   match s with
   | .sliceA i len sz'=>
     match C.size e,C.bytes e,qv x,kA C e,h.get i,Pe C len with
     |some sz,some by_,some m,some z,some (.arr ks code n true),some top=>
      match mV h sz m x with
      |none=>none
      |some l=>
       match tp l&&(Nat.beq sz sz'&&(Nat.beq sz ks.length&&(Nat.beq z.cells.length sz&&(Nat.beq l.length (m*sz)&&(Nat.ble 1 sz&&(Nat.ble (top+m) 1073741824&&Nat.ble by_ 4096)))))),settle C.dec (mkLt C.bd n len),VH ks C.bd (mkMul len (.lit (.ofNat sz))) 0 l code with
       |true,some false,some code'=>some (.sliceA nx (mkAdd len (.lit (.ofNat m))) sz,(h.del i).set nx (.arr ks code' (mkAdd len (.lit (.ofNat m))) true),nx+1)
       |_,_,_=>none
     |_,_,_,_,_,_=>none
   |_=>none
 |_,_=>none
theorem E9{C:Ctx}{P:Program}{ρ:Env}(hC:C.Ok P ρ){B:Nat->Prop}{W w:World}{f:Ren}{h h':T ah}(hr:au ρ B W f h w){nx nx':Nat}(hfr: ∀j,nx<=j->j<nx'->f j=none){t xt ty:TypeId}{s x v:ab}{s' x':Value}(hs:ai ρ f s s')(hx:ai ρ f x x')(ha:nf C h nx t xt s x=some (v,h',nx'))
 (ts:Array TypeId) (xs:Array Value) (hts0:ts[0]? =some t) (hts1:ts[1]? =some xt) (hx0:xs[0]? =some s') (hx1:xs[1]? =some x'):
 ∃f' w' v',(Builtin.append_ ts ty xs).run P w= .ok v' w'/\f.le f'/\(∀ j,(j<nx\/nx'<=j)->f' j=f j)/\au ρ B W f' h' w'/\ai ρ f' v v':=by
 have hbs:=hr.bsize;have hws:=hr.below.size;unfold nf at ha;split at ha
 ·rename_i e xd hut hux;have ht:=Ctx.ax hC hut;have hxt:=Ctx.ax hC hux;split at ha
  ·cases ha
  ·rename_i hxd;split at ha
   ·rename_i i len sz';split at ha
    ·rename_i sz by_ m z ks code n top hsz hby hm hz hg htop;obtain ⟨z',-,hz2,it,hit,hzz⟩:=fI hC (f:=f) hz w;have hlen:=tZ (P:=P) hx hm w;split at ha
     ·cases ha
     ·rename_i l hl;obtain ⟨new,q0,q2⟩:=nN (P:=P) hr hx ⟨m,hm,Nat.le_refl _⟩ hl;split at ha
      ·rename_i code' hc hle hput;obtain ⟨g1,hc⟩:=iK hc;obtain ⟨g2,hc⟩:=iK hc;obtain ⟨g3,hc⟩:=iK hc;obtain ⟨g4,hc⟩:=iK hc;obtain ⟨g5,hc⟩:=iK hc;obtain ⟨g6,hc⟩:=iK hc;obtain ⟨g7,g8⟩:=iK hc;replace g2:=Nat.eq_of_beq_eq_true g2;replace g3:=Nat.eq_of_beq_eq_true g3;replace g4:=Nat.eq_of_beq_eq_true g4;replace g5:=Nat.eq_of_beq_eq_true g5;replace g6:=Nat.le_of_ble_eq_true g6;replace g7:=Nat.le_of_ble_eq_true g7;replace g8:=Nat.le_of_ble_eq_true g8;subst g2;cases ha;have htl:=A8 hC htop;have hln:=aq hC.dec _ _ hle;rw [cK hC.bd] at hln;have hln:=of_decide_eq_false hln;have hone:=tv l new g1 q2;have hnl:new.length=m*sz:=by have:=q2.1; simp at this; omega
       have hzs:z'.cells.size=sz:=by rw [(az.cells hz2).1]; exact g4
       have hnone:f nx=none:=hfr nx (Nat.le_refl _) (by omega)
       have hlev: ∀k:Nat,len.ev ρ=k->(mkAdd len (.lit (.ofNat m))).ev ρ=((k+m:Nat):Int):=fun k hk=>by
        rw [bE,hk]; rfl
       have hoff: ∀k:Nat,len.ev ρ=k->(mkMul len (.lit (.ofNat sz))).ev ρ=((k*sz:Nat):Int):=fun k hk=>by
        rw [fH,hk]; rfl
       -- the digits
       have digits: ∀(k:Nat),len.ev ρ=k-> ∀(cs:Array Value) (b0:Nat),(∀ j c kk,j<k->ks[c]? =some kk->cs[b0+(j*ks.length+c)]? =some (.int kk (ag (code.ev ρ) (j*ks.length+c:Nat)))/\kLo kk<=ag (code.ev ρ) (j*ks.length+c:Nat)/\ag (code.ev ρ) (j*ks.length+c:Nat)<=kHi kk)->
        (∀ t u,new[t]? =some u->cs[b0+(k*sz+t)]? =some u)-> ∀(j c:Nat) (kk:IntKind),(j:Int)<(mkAdd len (.lit (.ofNat m))).ev ρ->ks[c]? =some kk->cs[b0+(j*ks.length+c)]? =some (.int kk (ag (code'.ev ρ) (j*ks.length+c:Nat)))/\kLo kk<=ag (code'.ev ρ) (j*ks.length+c:Nat)/\ag (code'.ev ρ) (j*ks.length+c:Nat)<=kHi kk:=by
        intro k hk cs b0 hold hnew j c kk hj hkk;rw [hlev k hk] at hj;obtain ⟨d1,d2⟩:=SO hC.bd (hoff k hk) l 0 code code' new q2 hput;have hcl:c<ks.length:=(List.getElem?_eq_some_iff.1 hkk).1
        by_cases hjk:j<k
        ·have hlt:j*ks.length+c<k*sz:=by
          have:(j+1)*ks.length<=k*ks.length:=Nat.mul_le_mul_right _ hjk;rw [Nat.add_mul] at this;rw [g3]; omega
         rw [d1 _ (.inl (by omega))]
         exact hold j c kk hjk hkk
        ·obtain ⟨d,rfl⟩: ∃d,j=k+d:=⟨j-k,by omega⟩
         have hdm:d<m:=by omega
         have hlt:d*sz+c<m*sz:=by
          have:(d+1)*sz<=m*sz:=Nat.mul_le_mul_right _ hdm;rw [Nat.add_mul] at this;omega
         have heq:(k+d)*ks.length+c=k*sz+0+(d*sz+c):=by rw [<- g3,Nat.add_mul]; omega
         obtain ⟨u,hu⟩: ∃u,new[d*sz+c]? =some u:=⟨_,List.getElem?_eq_getElem (by omega)⟩
         obtain ⟨k2,e1,e2,e3,e4⟩:=d2 _ u hu
         have hmod:(0+(d*sz+c)) % ks.length=c:=by
          rw [Nat.zero_add,g3,Nat.mul_comm,Nat.mul_add_mod,Nat.mod_eq_of_lt hcl]
         rw [hmod,hkk] at e1;cases e1;rw [heq];refine ⟨?_,e3,e4⟩;rw [<- e2,Nat.add_zero];exact hnew _ u hu
       -- a new block
       have grow: ∀(k c':Nat) (base:Option Addr) (oldc:List Value),len.ev ρ=k->s'= .slice base k c'-> ¬k+m<=c'->(∀ d,(Builtin.firstCells sz k (.slice base k c')).run P {w with drawn:=d}= .ok oldc.toArray {w with drawn:=d})->oldc.length=k*sz->
        (∀ j c kk,j<k->ks[c]? =some kk->oldc[j*ks.length+c]? =some (.int kk (ag (code.ev ρ) (j*ks.length+c:Nat)))/\kLo kk<=ag (code.ev ρ) (j*ks.length+c:Nat)/\ag (code.ev ρ) (j*ks.length+c:Nat)<=kHi kk)->
        ∃f' w' v',(Builtin.append_ ts ty xs).run P w= .ok v' w'/\f.le f'/\(∀ j,(j<nx\/nx+1<=j)->f' j=f j)/\au ρ B W f' ((h.del i).set nx (.arr ks code' (mkAdd len (.lit (.ofNat m))) true)) w'/\ai ρ f' (.sliceA nx (mkAdd len (.lit (.ofNat m))) sz) v':=by
        intro k c' base oldc hk hs' hgt p0 hol hold;rw [hs'] at hx0;obtain ⟨newCap,hcap,hrun⟩:=mh hC (ty:=ty) ht hxt hxd hsz hby hit hzz hlen p0 q0 (by omega) g8 hgt ts xs hts0 hts1 hx0 hx1
        have hsize:newCap*sz=(oldc.toArray++new.toArray++Builtin.zeroCells z'.cells (newCap-(k+m))).size:=by
         simp only [Array.size_append,List.size_toArray,size_zeroCells,hzs,hol,hnl];rw [<- Nat.add_mul,<-Nat.add_mul]
         congr 1; omega
        refine ⟨f.put nx ⟨w.heap.size,0,(oldc.toArray++new.toArray++Builtin.zeroCells z'.cells (newCap-(k+m))).size⟩,_,_,hrun,Ren.fv _ hnone,fun j hj=>Ren.bM f _ (by omega),?_,?_⟩
        ·refine hr.LO hnone (o:= .arr ks code' (mkAdd len (.lit (.ofNat m))) true) (O:= .cells (oldc.toArray++new.toArray++Builtin.zeroCells z'.cells (newCap-(k+m))) e) rfl ⟨rfl,rfl,rfl⟩ rfl ?_ (fun _ h=>h) (fun j y hy=> ?_)
         ·refine ⟨_,e,(0,0),by simp,rfl,fun _=>⟨hr.fresh (Nat.le_refl _),fun j _=>by simp⟩,?_⟩
          refine digits k hk (oldc.toArray++new.toArray++Builtin.zeroCells z'.cells (newCap-(k+m))) 0 (fun j c kk hj hkk=> ?_) (fun t u hu=> ?_)
          ·obtain ⟨a1,a2⟩:=hold j c kk hj hkk;refine ⟨?_,a2⟩;have hlt:=(List.getElem?_eq_some_iff.1 a1).1;rw [Nat.zero_add,Array.append_assoc,Array.getElem?_append_left (by simpa using hlt)]
           simpa using a1
          ·have hlt:=(List.getElem?_eq_some_iff.1 hu).1;rw [Nat.zero_add,Array.append_assoc,Array.getElem?_append_right (by simp; omega),Array.getElem?_append_left (by simp [hol]; omega)]
           simp only [List.size_toArray,hol,Nat.add_sub_cancel_left]
           simpa using hu
         ·rcases T.aB hy with ⟨e1,e2⟩ | ⟨e1,e2⟩
          ·exact .inl ⟨e1,e2.symm⟩
          ·exact .inr ⟨e1,(T.eU e2).2⟩
        ·have hv:=ai.sliceA (ρ:=ρ) (f:=f.put nx ⟨w.heap.size,0,(oldc.toArray++new.toArray++Builtin.zeroCells z'.cells (newCap-(k+m))).size⟩) (i:=nx) (s:=sz) (len:=mkAdd len (.lit (.ofNat m))) (c:=newCap) (Ren.cn f nx _) (by rw [hlev k hk]; omega) (by rw [hlev k hk,Int.toNat_natCast]; exact hcap) (by simp only [Nat.zero_add]; exact Nat.le_of_eq hsize)
         rw [hlev k hk,Int.toNat_natCast] at hv;exact hv
       cases hs with
       |sliceA hf h0 hcap hcs=>
        rename_i c' L;obtain ⟨k,hk⟩:=Int.eq_ofNat_of_zero_le h0;have hkn:(len.ev ρ).toNat=k:=by rw [hk]; rfl
        rw [hkn] at hcap;obtain ⟨cs,el,fr,k1,k2,k3,k4⟩:=hr.obj i L _ hf hg;obtain ⟨k3a,k3b⟩:=k3 rfl;have hold: ∀j c kk,j<k->ks[c]? =some kk->cs[L.base+(j*ks.length+c)]? =some (.int kk (ag (code.ev ρ) (j*ks.length+c:Nat)))/\kLo kk<=ag (code.ev ρ) (j*ks.length+c:Nat)/\ag (code.ev ρ) (j*ks.length+c:Nat)<=kHi kk:=fun j c kk hj hkk=>k4 j c kk (by omega) hkk
        have hkc:k*sz<=c'*sz:=Nat.mul_le_mul_right _ hcap
        by_cases hroom:k+m<=c'
        ·have hroom2:(k+m)*sz<=c'*sz:=Nat.mul_le_mul_right _ hroom;rw [Nat.add_mul] at hroom2;obtain ⟨w',cur',e1,e2,e3,e4,e5,e6,e7⟩:=gH P L.blk el fr (L.base+k*sz) new 0 cs w k1 (by omega) (fun j hj=>k3b j (by omega)) hone
         rw [hkn] at hx0;refine ⟨f.put nx L,w',_,dN hC ht hxt hxd hsz hlen (q0 w.drawn) hroom (fun a ea=> ?_) (fun ea=>by cases ea) ts xs hts0 hts1 hx0 hx1,Ren.fv _ hnone,fun j hj=>Ren.bM f _ (by omega),?_,?_⟩
         ·cases ea;rw [bG];exact e1
         ·refine hr.inPlace hf hg rfl k3a hnone (L':=L) rfl (fun _=>Iff.rfl) (fun _=>Iff.rfl) ?_ e5 e6 e7
          refine ⟨cur',el,fr,e2,by rw [e3]; exact k2,fun _=>⟨k3a,k3b⟩,?_⟩
          refine digits k hk cur' L.base (fun j c kk hj hkk=> ?_) (fun t u hu=> ?_)
          ·obtain ⟨a1,a2⟩:=hold j c kk hj hkk;refine ⟨?_,a2⟩;have hcl:c<ks.length:=(List.getElem?_eq_some_iff.1 hkk).1
           have hlt:j*ks.length+c<k*sz:=by
            have:(j+1)*ks.length<=k*ks.length:=Nat.mul_le_mul_right _ hj;rw [Nat.add_mul] at this;rw [g3]; omega
           rw [e4,if_neg (by omega)]
           exact a1
          ·have hlt:=(List.getElem?_eq_some_iff.1 hu).1;rw [e4,if_pos (by omega),show L.base+(k*sz+t)-(L.base+k*sz+0)=t by omega]
           exact hu
         ·have hv:=ai.sliceA (ρ:=ρ) (f:=f.put nx L) (i:=nx) (s:=sz) (len:=mkAdd len (.lit (.ofNat m))) (c:=c') (Ren.cn f nx _) (by rw [hlev k hk]; omega) (by rw [hlev k hk,Int.toNat_natCast]; exact hroom) hcs
          rw [hlev k hk,Int.toNat_natCast] at hv;exact hv
        ·have hol:(cs.extract L.base (L.base+k*sz)).toList.length=k*sz:=by simp; omega
         have hoc: ∀j v',(cs.extract L.base (L.base+k*sz)).toList[j]? =some v'->cs[L.base+j]? =some v':=fun j v' hj=>by
          rw [Array.getElem?_toList,Array.getElem?_extract] at hj;split at hj
          ·exact hj
          ·cases hj
         refine grow k c' _ (cs.extract L.base (L.base+k*sz)).toList hk (by rw [hkn]) hroom (fun d=> ?_) hol (fun j c kk hj hkk=> ?_)
         ·refine bo hol fun j v' hj=> ?_
          have:=hoc j v' hj;simp only [World.cell?,k1]
          simpa using this
         ·obtain ⟨a1,a2⟩:=hold j c kk hj hkk;refine ⟨?_,a2⟩;have hcl:c<ks.length:=(List.getElem?_eq_some_iff.1 hkk).1
          have hlt:j*ks.length+c<k*sz:=by
           have:(j+1)*ks.length<=k*ks.length:=Nat.mul_le_mul_right _ hj;rw [Nat.add_mul] at this;rw [g3]; omega
          rw [Array.getElem?_toList,Array.getElem?_extract,if_pos (by omega)]
          exact a1
       |sliceN hl0=>
        rename_i base
        by_cases hm0:m=0
        ·subst hm0;have hcs:new=[]:=List.eq_nil_of_length_eq_zero (by omega)
         subst hcs;refine ⟨f,w,_,dN hC ht hxt hxd hsz (n:=0) hlen (q0 w.drawn) (Nat.le_refl _) (fun a ea=>rfl) (fun _=>rfl) ts xs hts0 hts1 hx0 hx1,Ren.le_refl f,fun _ _=>rfl,(hr.less (fun j o hj=>(T.eU hj).2)).extra hnone _,.sliceN (by rw [hlev 0 hl0]; rfl)⟩
        ·refine grow 0 0 base [] hl0 rfl (by omega) (fun d=> ?_) (by simp) (fun j c kk hj _=>by omega)
         cases base with
         |none=>rfl
         |some b=>
          simp only [Builtin.firstCells,Nat.zero_mul];exact run_loadCells_list _ b [] (fun j v hv=>by simp at hv)
      ·cases ha
    ·cases ha
   ·cases ha
 ·cases ha
theorem rY{C:Ctx}{P:Program}{ρ:Env}(hC:C.Ok P ρ){B:Nat->Prop}{W w:World}{f:Ren}{h:T ah}(hr:au ρ B W f h w){nx:Nat}(hnone:f nx=none){t xt ty e:TypeId}{xd:TypeDesc}(ht:P.underlying t=some (.slice e))(hxt:P.underlying xt=some xd)(hxd:fT xd=true)
 {i sz by_:Nat} {len n code:IE} {ks:List IntKind} (hg: ∀L,f i=some L->h.get i=some (.arr ks code n true)) (hsz:C.size e=some sz) (hby:C.bytes e=some by_) {z:ab} (hz:kA C e=some z) (g4:z.cells.length=sz) (g3:sz=ks.length) (g6:1<=sz) (g8:by_<=4096)
 {m:Nat} {s' x':Value} (hlen:(Builtin.lenOf x').run P w= .ok m w) {new:List Value} (q0: ∀d,(Builtin.firstCells sz m x').run P {w with drawn:=d}= .ok new.toArray {w with drawn:=d}) (hnl:new.length=m*sz) (hone: ∀v∈new,v.oneCell'=true)
 (hbig: ∀k:Nat,len.ev ρ=k->k+m<=1073741824) (hln:len.ev ρ<=n.ev ρ) {L' code':IE} (hL':L'.ev ρ=len.ev ρ+m)
 (hd1: ∀k:Nat,len.ev ρ=k-> ∀i:Nat,i<k*sz->ag (code'.ev ρ) i=ag (code.ev ρ) i)
 (hd2: ∀k:Nat,len.ev ρ=k-> ∀(t:Nat) (v:Value),new[t]? =some v-> ∃kk,ks[t % ks.length]? =some kk/\v= .int kk (ag (code'.ev ρ) (k*sz+t:Nat))/\kLo kk<=ag (code'.ev ρ) (k*sz+t:Nat)/\ag (code'.ev ρ) (k*sz+t:Nat)<=kHi kk)
 (hs:ai ρ f (.sliceA i len sz) s') (ts:Array TypeId) (xs:Array Value) (hts0:ts[0]? =some t) (hts1:ts[1]? =some xt) (hx0:xs[0]? =some s') (hx1:xs[1]? =some x'):
 ∃f' w' v',(Builtin.append_ ts ty xs).run P w= .ok v' w'/\f.le f'/\(∀ j,(j<nx\/nx+1<=j)->f' j=f j)/\au ρ B W f' ((h.del i).set nx (.arr ks code' L' true)) w'/\ai ρ f' (.sliceA nx L' sz) v':=by
 obtain ⟨z',-,hz2,it,hit,hzz⟩:=fI hC (f:=f) hz w;have hzs:z'.cells.size=sz:=by rw [(az.cells hz2).1]; exact g4
 have hlev: ∀k:Nat,len.ev ρ=k->L'.ev ρ=((k+m:Nat):Int):=fun k hk=>by rw [hL',hk]; rfl
 have digits: ∀(k:Nat),len.ev ρ=k-> ∀(cs:Array Value) (b0:Nat),(∀ j c kk,j<k->ks[c]? =some kk->cs[b0+(j*ks.length+c)]? =some (.int kk (ag (code.ev ρ) (j*ks.length+c:Nat)))/\kLo kk<=ag (code.ev ρ) (j*ks.length+c:Nat)/\ag (code.ev ρ) (j*ks.length+c:Nat)<=kHi kk)->
  (∀ t u,new[t]? =some u->cs[b0+(k*sz+t)]? =some u)-> ∀(j c:Nat) (kk:IntKind),(j:Int)<L'.ev ρ->ks[c]? =some kk->cs[b0+(j*ks.length+c)]? =some (.int kk (ag (code'.ev ρ) (j*ks.length+c:Nat)))/\kLo kk<=ag (code'.ev ρ) (j*ks.length+c:Nat)/\ag (code'.ev ρ) (j*ks.length+c:Nat)<=kHi kk:=by
  intro k hk cs b0 hold hnew j c kk hj hkk;rw [hlev k hk] at hj;have hcl:c<ks.length:=(List.getElem?_eq_some_iff.1 hkk).1
  by_cases hjk:j<k
  ·have hlt:j*ks.length+c<k*sz:=by
    have:(j+1)*ks.length<=k*ks.length:=Nat.mul_le_mul_right _ hjk;rw [Nat.add_mul] at this;rw [g3]; omega
   rw [hd1 k hk _ hlt];exact hold j c kk hjk hkk
  ·obtain ⟨d,rfl⟩: ∃d,j=k+d:=⟨j-k,by omega⟩
   have hdm:d<m:=by omega
   have hlt:d*sz+c<m*sz:=by
    have:(d+1)*sz<=m*sz:=Nat.mul_le_mul_right _ hdm;rw [Nat.add_mul] at this;omega
   have heq:(k+d)*ks.length+c=k*sz+(d*sz+c):=by rw [<- g3,Nat.add_mul]; omega
   obtain ⟨u,hu⟩: ∃u,new[d*sz+c]? =some u:=⟨_,List.getElem?_eq_getElem (by omega)⟩
   obtain ⟨k2,e1,e2,e3,e4⟩:=hd2 k hk _ u hu
   have hmod:(d*sz+c) % ks.length=c:=by
    rw [g3,Nat.mul_comm,Nat.mul_add_mod,Nat.mod_eq_of_lt hcl]
   rw [hmod,hkk] at e1;cases e1;rw [heq];refine ⟨?_,e3,e4⟩;rw [<- e2];exact hnew _ u hu
 have grow: ∀(k c':Nat) (base:Option Addr) (oldc:List Value),len.ev ρ=k->s'= .slice base k c'-> ¬k+m<=c'->(∀ d,(Builtin.firstCells sz k (.slice base k c')).run P {w with drawn:=d}= .ok oldc.toArray {w with drawn:=d})->oldc.length=k*sz->
  (∀ j c kk,j<k->ks[c]? =some kk->oldc[j*ks.length+c]? =some (.int kk (ag (code.ev ρ) (j*ks.length+c:Nat)))/\kLo kk<=ag (code.ev ρ) (j*ks.length+c:Nat)/\ag (code.ev ρ) (j*ks.length+c:Nat)<=kHi kk)->
  ∃f' w' v',(Builtin.append_ ts ty xs).run P w= .ok v' w'/\f.le f'/\(∀ j,(j<nx\/nx+1<=j)->f' j=f j)/\au ρ B W f' ((h.del i).set nx (.arr ks code' L' true)) w'/\ai ρ f' (.sliceA nx L' sz) v':=by
  intro k c' base oldc hk hs' hgt p0 hol hold;rw [hs'] at hx0;obtain ⟨newCap,hcap,hrun⟩:=mh hC (ty:=ty) ht hxt hxd hsz hby hit hzz hlen p0 q0 (hbig k hk) g8 hgt ts xs hts0 hts1 hx0 hx1
  have hsize:newCap*sz=(oldc.toArray++new.toArray++Builtin.zeroCells z'.cells (newCap-(k+m))).size:=by
   simp only [Array.size_append,List.size_toArray,size_zeroCells,hzs,hol,hnl];rw [<- Nat.add_mul,<-Nat.add_mul]
   congr 1; omega
  refine ⟨f.put nx ⟨w.heap.size,0,(oldc.toArray++new.toArray++Builtin.zeroCells z'.cells (newCap-(k+m))).size⟩,_,_,hrun,Ren.fv _ hnone,fun j hj=>Ren.bM f _ (by omega),?_,?_⟩
  ·refine hr.LO hnone (o:= .arr ks code' L' true) (O:= .cells (oldc.toArray++new.toArray++Builtin.zeroCells z'.cells (newCap-(k+m))) e) rfl ⟨rfl,rfl,rfl⟩ rfl ?_ (fun _ h=>h) (fun j y hy=> ?_)
   ·refine ⟨_,e,(0,0),by simp,rfl,fun _=>⟨hr.fresh (Nat.le_refl _),fun j _=>by simp⟩,?_⟩
    refine digits k hk (oldc.toArray++new.toArray++Builtin.zeroCells z'.cells (newCap-(k+m))) 0 (fun j c kk hj hkk=> ?_) (fun t u hu=> ?_)
    ·obtain ⟨a1,a2⟩:=hold j c kk hj hkk;refine ⟨?_,a2⟩;have hlt:=(List.getElem?_eq_some_iff.1 a1).1;rw [Nat.zero_add,Array.append_assoc,Array.getElem?_append_left (by simpa using hlt)]
     simpa using a1
    ·have hlt:=(List.getElem?_eq_some_iff.1 hu).1;rw [Nat.zero_add,Array.append_assoc,Array.getElem?_append_right (by simp; omega),Array.getElem?_append_left (by simp [hol]; omega)]
     simp only [List.size_toArray,hol,Nat.add_sub_cancel_left]
     simpa using hu
   ·rcases T.aB hy with ⟨e1,e2⟩ | ⟨e1,e2⟩
    ·exact .inl ⟨e1,e2.symm⟩
    ·exact .inr ⟨e1,(T.eU e2).2⟩
  ·have hv:=ai.sliceA (ρ:=ρ) (f:=f.put nx ⟨w.heap.size,0,(oldc.toArray++new.toArray++Builtin.zeroCells z'.cells (newCap-(k+m))).size⟩) (i:=nx) (s:=sz) (len:=L') (c:=newCap) (Ren.cn f nx _) (by rw [hlev k hk]; omega) (by rw [hlev k hk,Int.toNat_natCast]; exact hcap) (by simp only [Nat.zero_add]; exact Nat.le_of_eq hsize)
   rw [hlev k hk,Int.toNat_natCast] at hv;exact hv
 cases hs with
 |sliceA hf h0 hcap hcs=>
  rename_i c' L;have hg:=hg L hf;obtain ⟨k,hk⟩:=Int.eq_ofNat_of_zero_le h0;have hkn:(len.ev ρ).toNat=k:=by rw [hk]; rfl
  rw [hkn] at hcap;obtain ⟨cs,el,fr,k1,k2,k3,k4⟩:=hr.obj i L _ hf hg;obtain ⟨k3a,k3b⟩:=k3 rfl;have hold: ∀j c kk,j<k->ks[c]? =some kk->cs[L.base+(j*ks.length+c)]? =some (.int kk (ag (code.ev ρ) (j*ks.length+c:Nat)))/\kLo kk<=ag (code.ev ρ) (j*ks.length+c:Nat)/\ag (code.ev ρ) (j*ks.length+c:Nat)<=kHi kk:=fun j c kk hj hkk=>k4 j c kk (by omega) hkk
  have hkc:k*sz<=c'*sz:=Nat.mul_le_mul_right _ hcap
  by_cases hroom:k+m<=c'
  ·have hroom2:(k+m)*sz<=c'*sz:=Nat.mul_le_mul_right _ hroom;rw [Nat.add_mul] at hroom2;obtain ⟨w',cur',e1,e2,e3,e4,e5,e6,e7⟩:=gH P L.blk el fr (L.base+k*sz) new 0 cs w k1 (by omega) (fun j hj=>k3b j (by omega)) hone
   rw [hkn] at hx0;refine ⟨f.put nx L,w',_,dN hC ht hxt hxd hsz hlen (q0 w.drawn) hroom (fun a ea=> ?_) (fun ea=>by cases ea) ts xs hts0 hts1 hx0 hx1,Ren.fv _ hnone,fun j hj=>Ren.bM f _ (by omega),?_,?_⟩
   ·cases ea;rw [bG];exact e1
   ·refine hr.inPlace hf hg rfl k3a hnone (L':=L) rfl (fun _=>Iff.rfl) (fun _=>Iff.rfl) ?_ e5 e6 e7
    refine ⟨cur',el,fr,e2,by rw [e3]; exact k2,fun _=>⟨k3a,k3b⟩,?_⟩
    refine digits k hk cur' L.base (fun j c kk hj hkk=> ?_) (fun t u hu=> ?_)
    ·obtain ⟨a1,a2⟩:=hold j c kk hj hkk;refine ⟨?_,a2⟩;have hcl:c<ks.length:=(List.getElem?_eq_some_iff.1 hkk).1
     have hlt:j*ks.length+c<k*sz:=by
      have:(j+1)*ks.length<=k*ks.length:=Nat.mul_le_mul_right _ hj;rw [Nat.add_mul] at this;rw [g3]; omega
     rw [e4,if_neg (by omega)]
     exact a1
    ·have hlt:=(List.getElem?_eq_some_iff.1 hu).1;rw [e4,if_pos (by omega),show L.base+(k*sz+t)-(L.base+k*sz+0)=t by omega]
     exact hu
   ·have hv:=ai.sliceA (ρ:=ρ) (f:=f.put nx L) (i:=nx) (s:=sz) (len:=L') (c:=c') (Ren.cn f nx _) (by rw [hlev k hk]; omega) (by rw [hlev k hk,Int.toNat_natCast]; exact hroom) hcs
    rw [hlev k hk,Int.toNat_natCast] at hv;exact hv
  ·have hol:(cs.extract L.base (L.base+k*sz)).toList.length=k*sz:=by simp; omega
   have hoc: ∀j v',(cs.extract L.base (L.base+k*sz)).toList[j]? =some v'->cs[L.base+j]? =some v':=fun j v' hj=>by
    rw [Array.getElem?_toList,Array.getElem?_extract] at hj;split at hj
    ·exact hj
    ·cases hj
   refine grow k c' _ (cs.extract L.base (L.base+k*sz)).toList hk (by rw [hkn]) hroom (fun d=> ?_) hol (fun j c kk hj hkk=> ?_)
   ·refine bo hol fun j v' hj=> ?_
    have:=hoc j v' hj;simp only [World.cell?,k1]
    simpa using this
   ·obtain ⟨a1,a2⟩:=hold j c kk hj hkk;refine ⟨?_,a2⟩;have hcl:c<ks.length:=(List.getElem?_eq_some_iff.1 hkk).1
    have hlt:j*ks.length+c<k*sz:=by
     have:(j+1)*ks.length<=k*ks.length:=Nat.mul_le_mul_right _ hj;rw [Nat.add_mul] at this;rw [g3]; omega
    rw [Array.getElem?_toList,Array.getElem?_extract,if_pos (by omega)]
    exact a1
 |sliceN hl0=>
  rename_i base
  by_cases hm0:m=0
  ·subst hm0;have hcs:new=[]:=List.eq_nil_of_length_eq_zero (by omega)
   subst hcs;refine ⟨f,w,_,dN hC ht hxt hxd hsz (n:=0) hlen (q0 w.drawn) (Nat.le_refl _) (fun a ea=>rfl) (fun _=>rfl) ts xs hts0 hts1 hx0 hx1,Ren.le_refl f,fun _ _=>rfl,(hr.less (fun j o hj=>(T.eU hj).2)).extra hnone _,.sliceN (by rw [hlev 0 hl0]; rfl)⟩
  ·refine grow 0 0 base [] hl0 rfl (by omega) (fun d=> ?_) (by simp) (fun j c kk hj _=>by omega)
   cases base with
   |none=>rfl
   |some b=>
    simp only [Builtin.firstCells,Nat.zero_mul];exact run_loadCells_list _ b [] (fun j v hv=>by simp at hv)
def m9(C:Ctx)(h:T ah)(nx:Nat)(t xt:TypeId)(s x:ab):Option (ab×T ah×Nat):=
 match C.und t,C.und xt with
 |some (.slice e),some xd=>
  match fT xd with
  |false=>none
  |true=>
   match x with
   | .sliceS j st len2 sz2 _=>
     match C.size e,C.bytes e,kA C e,h.get j,Pe C len2 with
     |some sz,some by_,some z,some (.arr ks2 code2 n2 _),some top2=>
      match Nat.beq sz sz2&&(Nat.beq sz ks2.length&&(Nat.beq z.cells.length sz&&(Nat.ble 1 sz&&Nat.ble by_ 4096))),settle C.dec (mkLt C.bd n2 (mkAdd st len2)),settle C.dec (mkLt C.bd len2 (.lit 0)),settle C.dec (mkLt C.bd st (.lit 0)) with
      |true,some false,some false,some false=>
       match s with
       | .sliceA i len sz'=>
         match h.get i,Pe C len with
         |some (.arr ks code n true),some top=>
          match Nat.beq sz sz'&&(eH ks ks2&&Nat.ble (top+top2) 1073741824),settle C.dec (mkLt C.bd n len),settle C.dec (mkLt C.bd len (.lit 0)) with
          |true,some false,some false=>some (.sliceA nx (mkAdd len len2) sz,(h.del i).set nx (.arr ks (dG 3 (dG 2 code (.lit 0) (mkMul len (.lit (.ofNat sz)))) (mkMul len (.lit (.ofNat sz))) (dG 2 code2 (mkMul st (.lit (.ofNat sz))) (mkMul len2 (.lit (.ofNat sz))))) (mkAdd len len2) true),nx+1)
          |_,_,_=>none
         |_,_=>none
       | .slice _ 0 0 0=>
         match Nat.ble top2 1073741824 with
         |true=>some (.sliceA nx len2 sz,(h.del nx).set nx (.arr ks2 (dG 2 code2 (mkMul st (.lit (.ofNat sz))) (mkMul len2 (.lit (.ofNat sz)))) len2 true),nx+1)
         |false=>none
       |_=>none
      |_,_,_,_=>none
     |_,_,_,_,_=>none
   |_=>none
 |_,_=>none
def kV(ks:List IntKind)(code:Int)(o n:Nat):List Value:=(List.range n).map fun t=> .int (ks.getD (t % ks.length) .i8) (ag code (o+t:Nat))
theorem Ph{ρ:Env}{B:Nat->Prop}{W w:World}{f:Ren}{h:T ah}(hr:au ρ B W f h w){j sz:Nat}{st len:IE}{nn:Bool}{ks:List IntKind}{code n:IE}{own:Bool}{P:Program}(hg:h.get j=some (.arr ks code n own))(hsz:sz=ks.length)(h1:1<=sz)(h0:0<=st.ev ρ)(hl:0<=len.ev ρ)(hn:st.ev ρ+len.ev ρ<=n.ev ρ){x':Value}(hx:ai ρ f (.sliceS j st len sz nn) x'):
 (Builtin.lenOf x').run P w= .ok (len.ev ρ).toNat w/\(∀ d,(Builtin.firstCells sz (len.ev ρ).toNat x').run P {w with drawn:=d}= .ok (kV ks (code.ev ρ) ((st.ev ρ).toNat*sz) ((len.ev ρ).toNat*sz)).toArray {w with drawn:=d})/\
 (len.ev ρ≠0-> ∀t:Nat,t<(len.ev ρ).toNat*sz-> ∃kk,ks[t % ks.length]? =some kk/\kLo kk<=ag (code.ev ρ) ((st.ev ρ).toNat*sz+t:Nat)/\ag (code.ev ρ) ((st.ev ρ).toNat*sz+t:Nat)<=kHi kk):=by
 obtain ⟨a,ha⟩:=Int.eq_ofNat_of_zero_le h0;obtain ⟨m,hm⟩:=Int.eq_ofNat_of_zero_le hl;rw [ha,hm] at hn;rw [ha,hm];simp only [Int.toNat_natCast]
 have empty: ∀(b:Option Addr) (c:Nat),m=0->(∀ d,(Builtin.firstCells sz m (.slice b 0 c)).run P {w with drawn:=d}= .ok (kV ks (code.ev ρ) (a*sz) (m*sz)).toArray {w with drawn:=d}):=by
  intro b c hm0 d;subst hm0;have:kV ks (code.ev ρ) (a*sz) (0*sz)=[]:=by rw [Nat.zero_mul]; rfl
  rw [this];cases b with
  |none=>rfl
  |some b=>
   simp only [Builtin.firstCells,Nat.zero_mul];exact run_loadCells_list _ b [] (fun j v hv=>by simp at hv)
 cases hx with
 |sliceS hf p0 pl pc=>
  rename_i L c;obtain ⟨cs,el,fr,k1,k2,k3,k4⟩:=hr.obj j L _ hf hg;have e1:(st.ev ρ).toNat=a:=by rw [ha]; rfl
  have e2:(len.ev ρ).toNat=m:=by rw [hm]; rfl
  rw [e1,e2]
  have cell: ∀t:Nat,t<m*sz-> ∃kk,ks[t % ks.length]? =some kk/\cs[L.base+(a*sz+t)]? =some (.int kk (ag (code.ev ρ) (a*sz+t:Nat)))/\kLo kk<=ag (code.ev ρ) (a*sz+t:Nat)/\ag (code.ev ρ) (a*sz+t:Nat)<=kHi kk:=by
   intro t ht;have hc:t % sz<ks.length:=by rw [<- hsz]; exact Nat.mod_lt _ h1
   have hq:t / sz<m:=Nat.div_lt_of_lt_mul (by rw [Nat.mul_comm]; exact ht)
   obtain ⟨kk,hkk⟩: ∃kk,ks[t % sz]? =some kk:=⟨_,List.getElem?_eq_getElem hc⟩;have:=k4 (a+t / sz) (t % sz) kk (by omega) hkk
   have e3:(a+t / sz)*ks.length+t % sz=a*sz+t:=by
    rw [<- hsz,Nat.add_mul];have:=Nat.div_add_mod' t sz;omega
   rw [e3] at this;exact ⟨kk,by rw [<- hsz]; exact hkk,this.1,this.2.1,this.2.2⟩
  refine ⟨rfl,fun d=> ?_,fun _ t ht=> ?_⟩
  ·show (loadCells ⟨L.blk,L.base+a*sz,none⟩ (m*sz)).run P {w with drawn:=d}=_
   refine bo (by simp [kV]) fun t v hv=> ?_
   have ht:t<m*sz:=by
    have:=(List.getElem?_eq_some_iff.1 hv).1
    simpa [kV] using this
   obtain ⟨kk,q1,q2,_⟩:=cell t ht
   have hv:v= .int kk (ag (code.ev ρ) (a*sz+t:Nat)):=by
    unfold kV at hv;rw [List.getElem?_map,List.getElem?_range ht] at hv;simp only [Option.map_some,Option.some.injEq] at hv;rw [<- hv];simp [List.getD_eq_getElem?_getD,q1]
   rw [hv,Nat.add_assoc];simp only [World.cell?,k1]
   simpa using q2
  ·obtain ⟨kk,q1,q2,q3⟩:=cell t ht;exact ⟨kk,q1,q3⟩
 |sliceZ hz _=>
  rename_i b c;have hm0:m=0:=by rw [hm] at hz; omega
  refine ⟨by subst hm0; rfl,empty _ _ hm0,fun hne=>absurd (show (m:Int)=0 by omega) hne⟩
theorem Ay{ks:List IntKind}{code:Int}{o n t:Nat}{v:Value}(h:(kV ks code o n)[t]? =some v):t<n/\v= .int (ks.getD (t % ks.length) .i8) (ag code (o+t:Nat)):=by
 have ht:t<n:=by
  have:=(List.getElem?_eq_some_iff.1 h).1
  simpa [kV] using this
 unfold kV at h;rw [List.getElem?_map,List.getElem?_range ht] at h;exact ⟨ht,by simpa using h.symm⟩
theorem F2{C:Ctx}{P:Program}{ρ:Env}(hC:C.Ok P ρ){B:Nat->Prop}{W w:World}{f:Ren}{h h':T ah}(hr:au ρ B W f h w){nx nx':Nat}(hfr: ∀j,nx<=j->j<nx'->f j=none){t xt ty:TypeId}{s x v:ab}{s' x':Value}(hs:ai ρ f s s')(hx:ai ρ f x x')(ha:m9 C h nx t xt s x=some (v,h',nx'))
 (ts:Array TypeId) (xs:Array Value) (hts0:ts[0]? =some t) (hts1:ts[1]? =some xt) (hx0:xs[0]? =some s') (hx1:xs[1]? =some x'):
 ∃f' w' v',(Builtin.append_ ts ty xs).run P w= .ok v' w'/\f.le f'/\(∀ j,(j<nx\/nx'<=j)->f' j=f j)/\au ρ B W f' h' w'/\ai ρ f' v v':=by
 unfold m9 at ha;split at ha
 ·rename_i e xd hut hux;have ht:=Ctx.ax hC hut;have hxt:=Ctx.ax hC hux;split at ha
  ·cases ha
  ·rename_i hxd;split at ha
   ·rename_i j st len2 sz2 nn;split at ha
    ·rename_i sz by_ z ks2 code2 n2 own2 top2 hsz hby hz hg2 htop2;split at ha
     ·rename_i hc s1 s2 s3;obtain ⟨g1,hc⟩:=iK hc;obtain ⟨g2,hc⟩:=iK hc;obtain ⟨g4,hc⟩:=iK hc;obtain ⟨g6,g8⟩:=iK hc;replace g1:=Nat.eq_of_beq_eq_true g1;replace g2:=Nat.eq_of_beq_eq_true g2;replace g4:=Nat.eq_of_beq_eq_true g4;replace g6:=Nat.le_of_ble_eq_true g6;replace g8:=Nat.le_of_ble_eq_true g8;subst g1;have b1:=aq hC.dec _ _ s1;have b2:=aq hC.dec _ _ s2;have b3:=aq hC.dec _ _ s3;rw [cK hC.bd] at b1 b2 b3;have b1:=of_decide_eq_false b1;have b2:=of_decide_eq_false b2;have b3:=of_decide_eq_false b3;rw [bE] at b1;have b2:0<=len2.ev ρ:=by have: ¬len2.ev ρ<0:=b2; omega
      have b3:0<=st.ev ρ:=by have: ¬st.ev ρ<0:=b3; omega
      obtain ⟨p1,p2,p3⟩:=Ph (P:=P) hr hg2 g2 g6 b3 b2 (by omega) hx
      have ht2:=A8 hC htop2
      have one: ∀v∈kV ks2 (code2.ev ρ) ((st.ev ρ).toNat*sz) ((len2.ev ρ).toNat*sz),v.oneCell'=true:=fun v hv=>by
       obtain ⟨i,hi⟩:=List.getElem?_of_mem hv;rw [(Ay hi).2];rfl
      have plen:(kV ks2 (code2.ev ρ) ((st.ev ρ).toNat*sz) ((len2.ev ρ).toNat*sz)).length=(len2.ev ρ).toNat*sz:=by simp [kV]
      obtain ⟨q,hq⟩:=Int.eq_ofNat_of_zero_le b3;obtain ⟨m,hm⟩:=Int.eq_ofNat_of_zero_le b2;have em:(mkMul len2 (.lit (.ofNat sz))).ev ρ=((m*sz:Nat):Int):=by rw [fH,hm]; rfl
      have eq:(mkMul st (.lit (.ofNat sz))).ev ρ=((q*sz:Nat):Int):=by rw [fH,hq]; rfl
      have ecut:(dG 2 code2 (mkMul st (.lit (.ofNat sz))) (mkMul len2 (.lit (.ofNat sz)))).ev ρ=aY (code2.ev ρ) ((q*sz:Nat):Int) ((m*sz:Nat):Int):=by
       rw [cz,em,eq];rfl
      have tm:(len2.ev ρ).toNat=m:=by rw [hm]; rfl
      have tq:(st.ev ρ).toNat=q:=by rw [hq]; rfl
      rw [tm,tq] at p2 p3 one plen;rw [tm] at p1
      have kin: ∀(t:Nat) (v:Value),(kV ks2 (code2.ev ρ) (q*sz) (m*sz))[t]? =some v->t<m*sz/\ ∃kk,ks2[t % ks2.length]? =some kk/\v= .int kk (ag (code2.ev ρ) (q*sz+t:Nat))/\kLo kk<=ag (code2.ev ρ) (q*sz+t:Nat)/\ag (code2.ev ρ) (q*sz+t:Nat)<=kHi kk:=by
       intro t v hv;obtain ⟨h1,h2⟩:=Ay hv
       have hne:len2.ev ρ≠0:=by
        intro h0;rw [hm] at h0;have:m=0:=by omega
        subst this;omega
       obtain ⟨kk,a1,a2,a3⟩:=p3 hne t h1;refine ⟨h1,kk,a1,?_,a2,a3⟩;rw [h2];simp [List.getD_eq_getElem?_getD,a1]
      split at ha
      ·rename_i i len sz';split at ha
       ·rename_i ks code n top hg htop;split at ha
        ·rename_i hc s4 s5;cases ha;obtain ⟨c1,hc⟩:=iK hc;obtain ⟨c2,c3⟩:=iK hc;replace c1:=Nat.eq_of_beq_eq_true c1;replace c2:=fm c2;replace c3:=Nat.le_of_ble_eq_true c3;subst c1;subst c2;have b4:=aq hC.dec _ _ s4;have b5:=aq hC.dec _ _ s5;rw [cK hC.bd] at b4 b5;have b4:=of_decide_eq_false b4;have b5:=of_decide_eq_false b5;have b5:0<=len.ev ρ:=by have: ¬len.ev ρ<0:=b5; omega
         have ht1:=A8 hC htop;obtain ⟨k,hk⟩:=Int.eq_ofNat_of_zero_le b5;have ek:(mkMul len (.lit (.ofNat sz))).ev ρ=((k*sz:Nat):Int):=by rw [fH,hk]; rfl
         have ecode:(dG 3 (dG 2 code (.lit 0) (mkMul len (.lit (.ofNat sz)))) (mkMul len (.lit (.ofNat sz))) (dG 2 code2 (mkMul st (.lit (.ofNat sz))) (mkMul len2 (.lit (.ofNat sz))))).ev ρ=lS (aY (code.ev ρ) ((0:Nat):Int) ((k*sz:Nat):Int)) ((k*sz:Nat):Int) (aY (code2.ev ρ) ((q*sz:Nat):Int) ((m*sz:Nat):Int)):=by
          rw [cz,ecut,ek,cz,ek];rfl
         refine rY hC hr (hfr nx (Nat.le_refl _) (by omega)) ht hxt hxd (fun _ _=>hg) hsz hby hz g4 g2 g6 g8 p1 p2 plen one (fun k' hk'=>by rw [hk] at hk'; omega) (by omega) (by rw [bE,hm]) (fun k' hk' i' hi'=> ?_) (fun k' hk' t v hv=> ?_) hs ts xs hts0 hts1 hx0 hx1
         ·have:k=k':=by rw [hk] at hk'; omega
          subst this;rw [ecode,mf _ _ _ _ hi',ch _ _ _ _ hi',Nat.zero_add]
         ·have:k=k':=by rw [hk] at hk'; omega
          subst this;obtain ⟨h1,kk,a1,a2,a3,a4⟩:=kin t v hv
          have e9:ag (lS (aY (code.ev ρ) ((0:Nat):Int) ((k*sz:Nat):Int)) ((k*sz:Nat):Int) (aY (code2.ev ρ) ((q*sz:Nat):Int) ((m*sz:Nat):Int))) (k*sz+t:Nat)=ag (code2.ev ρ) (q*sz+t:Nat):=by
           rw [qy _ _ _ _ (Am _ _ _) (Nat.le_add_right _ _),Nat.add_sub_cancel_left,ch _ _ _ _ h1]
          rw [ecode,e9];exact ⟨kk,a1,a2,a3,a4⟩
        ·cases ha
       ·cases ha
      ·split at ha
       ·rename_i c3;cases ha;replace c3:=Nat.le_of_ble_eq_true c3;have hnone:=hfr nx (Nat.le_refl _) (by omega)
        have hsn:ai ρ f (.sliceA nx (.lit 0) sz) s':=by
         cases hs with
         |nilSlice=>exact .sliceN rfl
         |slice _=>exact .sliceN rfl
         |sliceE _ hg _=>
          rw [hg rfl];exact .sliceN rfl
        refine rY hC hr hnone ht hxt hxd (code:= .lit 0) (n:= .lit 0) (fun L hL=>by rw [hnone] at hL; cases hL) hsz hby hz g4 g2 g6 g8 p1 p2 plen one (fun k' hk'=> ?_) (Int.le_refl _) ?_ (fun k' hk' i' hi'=> ?_) (fun k' hk' t v hv=> ?_) hsn ts xs hts0 hts1 hx0 hx1
        ·have:(0:Int)=k':=hk';omega
        ·show len2.ev ρ=0+(m:Int);omega
        ·have:(0:Int)=k':=hk';have:k'=0:=by omega
         subst this;omega
        ·have:(0:Int)=k':=hk';have:k'=0:=by omega
         subst this;obtain ⟨h1,kk,a1,a2,a3,a4⟩:=kin t v hv;rw [ecut,Nat.zero_mul,Nat.zero_add,ch _ _ _ _ h1];exact ⟨kk,a1,a2,a3,a4⟩
       ·cases ha
      ·cases ha
     ·cases ha
    ·cases ha
   ·cases ha
 ·cases ha
theorem DU{C:Ctx}{h h':T ah}{nx nx':Nat}{t xt:TypeId}{s x v:ab}(hs:m9 C h nx t xt s x=some (v,h',nx')):nx<=nx':=by
 unfold m9 at hs
 repeat' split at hs
 all_goals first
  | (cases hs; done)
  | (simp only [Option.some.injEq,Prod.mk.injEq] at hs; omega)
def mP(C:Ctx)(h:T ah)(nx:Nat)(t xt:TypeId)(s x:ab):Option (ab×T ah×Nat):=
 match mO C h nx t xt s x.soft with
 |some r=>some r
 |none=>
  match nf C h nx t xt s x with
  |some r=>some r
  |none=>m9 C h nx t xt s x.soft
theorem FU{C:Ctx}{P:Program}{ρ:Env}(hC:C.Ok P ρ){B:Nat->Prop}{W w:World}{f:Ren}{h h':T ah}(hr:au ρ B W f h w){nx nx':Nat}(hfr: ∀j,nx<=j->j<nx'->f j=none){t xt ty:TypeId}{s x v:ab}{s' x':Value}(hs:ai ρ f s s')(hx:ai ρ f x x')(ha:mP C h nx t xt s x=some (v,h',nx'))
 (ts:Array TypeId) (xs:Array Value) (hts0:ts[0]? =some t) (hts1:ts[1]? =some xt) (hx0:xs[0]? =some s') (hx1:xs[1]? =some x'):
 ∃f' w' v',(Builtin.append_ ts ty xs).run P w= .ok v' w'/\f.le f'/\(∀ j,(j<nx\/nx'<=j)->f' j=f j)/\au ρ B W f' h' w'/\ai ρ f' v v':=by
 unfold mP at ha;split at ha
 ·rename_i r hr';cases ha;exact Fv hC hr hfr hs hx.soft hr' ts xs hts0 hts1 hx0 hx1
 ·split at ha
  ·rename_i r hr';cases ha;exact E9 hC hr hfr hs hx hr' ts xs hts0 hts1 hx0 hx1
  ·exact F2 hC hr hfr hs hx.soft ha ts xs hts0 hts1 hx0 hx1
theorem Ea{C:Ctx}{h h':T ah}{nx nx':Nat}{t xt:TypeId}{s x v:ab}(hs:nf C h nx t xt s x=some (v,h',nx')):nx<=nx':=by
 unfold nf at hs
 repeat' split at hs
 all_goals first
  | (cases hs; done)
  | (simp only [Option.some.injEq,Prod.mk.injEq] at hs; omega)
theorem D2{C:Ctx}{h h':T ah}{nx nx':Nat}{t xt:TypeId}{s x v:ab}(hs:mP C h nx t xt s x=some (v,h',nx')):nx<=nx':=by
 unfold mP at hs;split at hs
 ·rename_i r hr;cases hs;exact Gl hr
 ·split at hs
  ·rename_i r hr;cases hs;exact Ea hr
  ·exact DU hs
def J9(k:IntKind)(x:IE):Nat->List ab->Bool
 |_,[]=>true
 |j,v::l=>
  match v with
  | .int k1 (.wrap k2 (.fn c y (.lit (.ofNat i)) _))=>
    match Nat.beq c 0&&(bf k k1&&(bf k k2&&(Nat.beq i j&&x.eq y))) with
    |true=>J9 k x (j+1) l
    |false=>false
  |_=>false
theorem PU{ρ:Env}{f:Ren}{k:IntKind}{x:IE}: ∀ {l:List ab} {j:Nat} {cs:List Value},J9 k x j l=true->az ρ f l cs.toArray-> ∀(t:Nat) (v:Value),cs[t]? =some v->v= .int k (k.wrap (ag (x.ev ρ) (j+t:Nat))):=by
 intro l
 induction l with
 |nil=>
  intro j cs _ hr t v hv;have:cs=[]:=by have:=hr.1; simpa using this
  subst this;simp at hv
 |cons u l ih=>
  intro j cs h hr t v hv;unfold J9 at h;split at h
  ·rename_i k1 k2 c y i z;split at h
   ·rename_i hc;obtain ⟨h1,hc⟩:=iK hc;obtain ⟨h2,hc⟩:=iK hc;obtain ⟨h3,hc⟩:=iK hc;obtain ⟨h4,h5⟩:=iK hc;have h1:=Nat.eq_of_beq_eq_true h1;have h2:=aH h2;have h3:=aH h3;have h4:=Nat.eq_of_beq_eq_true h4;have h5:=IE.eq_eq h5;subst h1; subst h2; subst h3; subst h4; subst h5;have hl:=hr.1
    obtain ⟨v0,cs,rfl⟩: ∃u cs',cs=u::cs':=by
     cases cs with
     |nil=>simp at hl
     |cons u cs=>exact ⟨u,cs,rfl⟩
    cases t with
    |zero=>
     have hv:v0=v:=by simpa using hv
     subst hv;have:=hr.2 0 _ v0 rfl rfl;cases this;rfl
    |succ t=>
     have hr':az ρ f l cs.toArray:=⟨by simpa using hl,fun i w w' hw hw'=>hr.2 (i+1) w w' (by simpa using hw) (by simpa using hw')⟩
     have:=ih h hr' t v (by simpa using hv)
     rw [this,show i+1+t=i+(t+1) by omega]
   ·cases h
  ·cases h
def Uz:List ab->Option (IntKind×IE)
 | .int k (.wrap _ (.fn _ x _ _))::_=>some (k,x)
 |_=>none
def C5(C:Ctx)(h:T ah)(t:TypeId)(p v:ab):Option (T ah):=
 match p,v with
 | .ptr (some (i,o)),.agg cs=>
   match Uz cs,C.size t,h.get i with
   |some (k,x),some n,some (.cells c elem true top)=>
    match Nat.ble 64 n&&(Nat.beq o 0&&(Nat.beq cs.length n&&(Nat.beq n top&&J9 k x 0 cs))),c.get (n-1) with
    |true,some _=>some (h.set i (.arr [k] (.fn 4 x (.lit (.ofNat n)) (.lit (.ofNat (l5 k)))) (.lit (.ofNat n)) true))
    |_,_=>none
   |_,_,_=>none
 |_,_=>none
theorem HX{C:Ctx}{P:Program}{ρ:Env}(hC:C.Ok P ρ){B:Nat->Prop}{W w:World}{f:Ren}{h h':T ah}(hr:au ρ B W f h w){t:TypeId}{x v:ab}{x' v':Value}(hx:ai ρ f x x')(hv:ai ρ f v v')(hs:C5 C h t x v=some h'):
 ∃w',(Instr.storeAt t x' v').run P w= .ok () w'/\au ρ B W f h' w':=by
 unfold C5 at hs;split at hs
 ·rename_i i o cs;split at hs
  ·rename_i k y n c elem top hk hn hg;split at hs
   ·rename_i hc hlast;rename_i u;obtain ⟨g1,hc⟩:=iK hc;obtain ⟨g2,hc⟩:=iK hc;obtain ⟨g3,hc⟩:=iK hc;obtain ⟨g4,g5⟩:=iK hc;have g1:=Nat.le_of_ble_eq_true g1;have g2:=Nat.eq_of_beq_eq_true g2;have g3:=Nat.eq_of_beq_eq_true g3;have g4:=Nat.eq_of_beq_eq_true g4;subst g2; subst g4;cases hs;cases hx;rename_i L hf;have hcl:=az.cells hv;have hsz:v'.cells.size=n:=by rw [hcl.1]; exact g3
    obtain ⟨cs0,fr,k1,k2,k3,k4⟩:=hr.obj i L _ hf hg;obtain ⟨k3a,k3b⟩:=k3 rfl;obtain ⟨_,v0,hv0,_⟩:=k4 (n-1) u hlast;have hlt:=(Array.getElem?_eq_some_iff.1 hv0).1;have hlen:v'.cells.toList.length=n:=by simpa using hsz
    have hrel:az ρ f cs v'.cells.toList.toArray:=by simpa [ab.cells] using hcl
    have dig:=PU g5 hrel
    have hone: ∀w∈v'.cells.toList,w.oneCell'=true:=fun w hw=>by
     obtain ⟨j,hj⟩:=List.getElem?_of_mem hw;rw [dig j w hj];rfl
    obtain ⟨w',cur',e1,e2,e3,e4,e5,e6,e7⟩:=gH P L.blk elem fr (L.base+0) v'.cells.toList 0 cs0 w k1 (by omega) (fun j hj=>k3b j (by omega)) hone
    refine ⟨w',by simp only [Instr.storeAt,Instr.sureAddr,Sem.run_bind,Sem.run_pure,Result.andThen_ok,storeVar,Ctx.bh hC hn,hsz,ne_eq,not_true_eq_false,if_false]; exact e1,?_⟩
    refine hr.A7 hf hg rfl k3a (fun _ _=>Iff.rfl) (fun _ _=>Iff.rfl) e7 e6 e5 ?_
    refine ⟨cur',elem,fr,e2,by rw [e3]; exact k2,fun _=>⟨k3a,k3b⟩,fun j c2 kk hj hkk=> ?_⟩
    have hc0:c2=0:=by
     have:=(List.getElem?_eq_some_iff.1 hkk).1;simp at this;exact this
    subst hc0;have hkk:k=kk:=by simpa using hkk
    subst hkk
    have hj:j<n:=by
     have:((IE.lit (.ofNat n)).ev ρ)=(n:Int):=rfl;omega
    have hcode:(IE.fn 4 y (.lit (.ofNat n)) (.lit (.ofNat (l5 k)))).ev ρ=qS (y.ev ρ) n (l5 k):=rfl
    have hget:ag (qS (y.ev ρ) n (l5 k)) (j:Nat)=k.wrap (ag (y.ev ρ) (j:Nat)):=by
     rw [uB _ _ _ _ (by simpa using hj),Xs]
    have e0:j*[k].length+0=j:=by simp
    rw [e0,hcode,hget];refine ⟨?_,wrap_mem k _⟩;obtain ⟨w0,hw0⟩: ∃w0,v'.cells.toList[j]? =some w0:=⟨_,List.getElem?_eq_getElem (by omega)⟩
    rw [e4,if_pos (by omega),show L.base+j-(L.base+0+0)=j by omega,hw0,dig j w0 hw0,Nat.zero_add]
   ·cases hs
  ·cases hs
 ·cases hs
def jU(C:Ctx)(h:T ah)(t:TypeId)(p v:ab):Option (T ah):=
 match p,v with
 | .ptr (some (i,o)),.agg cs=>
   match Uz cs,C.size t,h.get i with
   |some (k,x),some n,some (.arr [k'] _ (.lit (.ofNat top)) true)=>
    match Nat.ble 64 n&&(Nat.beq o 0&&(Nat.beq cs.length n&&(Nat.beq n top&&(bf k' k&&J9 k x 0 cs)))) with
    |true=>some (h.set i (.arr [k] (.fn 4 x (.lit (.ofNat n)) (.lit (.ofNat (l5 k)))) (.lit (.ofNat n)) true))
    |false=>none
   |_,_,_=>none
 |_,_=>none
theorem oM{C:Ctx}{P:Program}{ρ:Env}(hC:C.Ok P ρ){B:Nat->Prop}{W w:World}{f:Ren}{h h':T ah}(hr:au ρ B W f h w){t:TypeId}{x v:ab}{x' v':Value}(hx:ai ρ f x x')(hv:ai ρ f v v')(hs:jU C h t x v=some h'):
 ∃w',(Instr.storeAt t x' v').run P w= .ok () w'/\au ρ B W f h' w':=by
 unfold jU at hs;split at hs
 ·rename_i i o cs;split at hs
  ·rename_i k y n k' code top hk hn hg;split at hs
   ·rename_i hc;obtain ⟨g1,hc⟩:=iK hc;obtain ⟨g2,hc⟩:=iK hc;obtain ⟨g3,hc⟩:=iK hc;obtain ⟨g4,hc⟩:=iK hc;obtain ⟨g6,g5⟩:=iK hc;have g6:=(aH g6).symm;subst g6;have g1:=Nat.le_of_ble_eq_true g1;have g2:=Nat.eq_of_beq_eq_true g2;have g3:=Nat.eq_of_beq_eq_true g3;have g4:=Nat.eq_of_beq_eq_true g4;subst g2; subst g4;cases hs;cases hx;rename_i L hf;have hcl:=az.cells hv;have hsz:v'.cells.size=n:=by rw [hcl.1]; exact g3
    obtain ⟨cs0,elem,fr,k1,k2,k3,k4⟩:=hr.obj i L _ hf hg;obtain ⟨k3a,k3b⟩:=k3 rfl;have hv0:=(k4 (n-1) 0 _ (by show ((n-1:Nat):Int)<(n:Nat); omega) rfl).1
    have hlt:=(Array.getElem?_eq_some_iff.1 hv0).1;have hlt:L.base+(n-1)<cs0.size:=by simpa using hlt
    have hlen:v'.cells.toList.length=n:=by simpa using hsz
    have hrel:az ρ f cs v'.cells.toList.toArray:=by simpa [ab.cells] using hcl
    have dig:=PU g5 hrel
    have hone: ∀w∈v'.cells.toList,w.oneCell'=true:=fun w hw=>by
     obtain ⟨j,hj⟩:=List.getElem?_of_mem hw;rw [dig j w hj];rfl
    obtain ⟨w',cur',e1,e2,e3,e4,e5,e6,e7⟩:=gH P L.blk elem fr (L.base+0) v'.cells.toList 0 cs0 w k1 (by omega) (fun j hj=>k3b j (by omega)) hone
    refine ⟨w',by simp only [Instr.storeAt,Instr.sureAddr,Sem.run_bind,Sem.run_pure,Result.andThen_ok,storeVar,Ctx.bh hC hn,hsz,ne_eq,not_true_eq_false,if_false]; exact e1,?_⟩
    refine hr.A7 hf hg rfl k3a (fun _ _=>Iff.rfl) (fun _ _=>Iff.rfl) e7 e6 e5 ?_
    refine ⟨cur',elem,fr,e2,by rw [e3]; exact k2,fun _=>⟨k3a,k3b⟩,fun j c2 kk hj hkk=> ?_⟩
    have hc0:c2=0:=by
     have:=(List.getElem?_eq_some_iff.1 hkk).1;simp at this;exact this
    subst hc0;have hkk:k=kk:=by simpa using hkk
    subst hkk
    have hj:j<n:=by
     have:((IE.lit (.ofNat n)).ev ρ)=(n:Int):=rfl;omega
    have hcode:(IE.fn 4 y (.lit (.ofNat n)) (.lit (.ofNat (l5 k)))).ev ρ=qS (y.ev ρ) n (l5 k):=rfl
    have hget:ag (qS (y.ev ρ) n (l5 k)) (j:Nat)=k.wrap (ag (y.ev ρ) (j:Nat)):=by
     rw [uB _ _ _ _ (by simpa using hj),Xs]
    have e0:j*[k].length+0=j:=by simp
    rw [e0,hcode,hget];refine ⟨?_,wrap_mem k _⟩;obtain ⟨w0,hw0⟩: ∃w0,v'.cells.toList[j]? =some w0:=⟨_,List.getElem?_eq_getElem (by omega)⟩
    rw [e4,if_pos (by omega),show L.base+j-(L.base+0+0)=j by omega,hw0,dig j w0 hw0,Nat.zero_add]
   ·cases hs
  ·cases hs
 ·cases hs
def Dy(C:Ctx)(h:T ah)(t:TypeId)(p v:ab):Option (T ah):=
 match p,v with
 | .ptr (some (i,o)),.agg cs=>
   match C.size t,h.get i with
   |some n,some (.cells c elem true top)=>
    match Nat.ble 24 n&&(Nat.beq o 0&&(Nat.beq n top&&(Nat.beq cs.length n&&tp cs))),c.get (n-1) with
    |true,some _=>some (h.set i (.cells (cellsOf cs) elem true top))
    |_,_=>none
   |_,_=>none
 |_,_=>none
theorem ID{C:Ctx}{P:Program}{ρ:Env}(hC:C.Ok P ρ){B:Nat->Prop}{W w:World}{f:Ren}{h h':T ah}(hr:au ρ B W f h w){t:TypeId}{x v:ab}{x' v':Value}(hx:ai ρ f x x')(hv:ai ρ f v v')(hs:Dy C h t x v=some h'):
 ∃w',(Instr.storeAt t x' v').run P w= .ok () w'/\au ρ B W f h' w':=by
 unfold Dy at hs;split at hs
 ·rename_i i o cs;split at hs
  ·rename_i n c elem top hn hg;split at hs
   ·rename_i hc hlast;rename_i u;obtain ⟨g1,hc⟩:=iK hc;obtain ⟨g2,hc⟩:=iK hc;obtain ⟨g4,hc⟩:=iK hc;obtain ⟨g3,g5⟩:=iK hc;have g1:=Nat.le_of_ble_eq_true g1;have g2:=Nat.eq_of_beq_eq_true g2;have g3:=Nat.eq_of_beq_eq_true g3;have g4:=Nat.eq_of_beq_eq_true g4;subst g2; subst g4;cases hs;cases hx;rename_i L hf;have hcl:=az.cells hv;have hsz:v'.cells.size=n:=by rw [hcl.1]; exact g3
    obtain ⟨cs0,fr,k1,k2,k3,k4⟩:=hr.obj i L _ hf hg;obtain ⟨k3a,k3b⟩:=k3 rfl;obtain ⟨_,v0,hv0,_⟩:=k4 (n-1) u hlast;have hlt:=(Array.getElem?_eq_some_iff.1 hv0).1;have hlen:v'.cells.toList.length=n:=by simpa using hsz
    have hrel:az ρ f cs v'.cells.toList.toArray:=by simpa [ab.cells] using hcl
    have hone:=tv cs v'.cells.toList g5 hrel;obtain ⟨w',cur',e1,e2,e3,e4,e5,e6,e7⟩:=gH P L.blk elem fr (L.base+0) v'.cells.toList 0 cs0 w k1 (by omega) (fun j hj=>k3b j (by omega)) hone
    refine ⟨w',by simp only [Instr.storeAt,Instr.sureAddr,Sem.run_bind,Sem.run_pure,Result.andThen_ok,storeVar,Ctx.bh hC hn,hsz,ne_eq,not_true_eq_false,if_false]; exact e1,?_⟩
    refine hr.A7 hf hg rfl k3a (fun _ _=>Iff.rfl) (fun _ _=>Iff.rfl) e7 e6 e5 ?_
    refine ⟨cur',fr,e2,by rw [e3]; exact k2,fun _=>⟨k3a,k3b⟩,fun j v hj=> ?_⟩
    have hcs:=fR hj;obtain ⟨w0,hw0,hw1⟩:=hrel.get hcs;have hjl:=(List.getElem?_eq_some_iff.1 hcs).1;refine ⟨by omega,w0,?_,hw1⟩
    rw [e4,if_pos (by omega),show L.base+j-(L.base+0+0)=j by omega]
    simpa using hw0
   ·cases hs
  ·cases hs
 ·cases hs
def Cx(C:Ctx)(h:T ah)(t:TypeId)(x v:ab):Option (T ah):=
 match C5 C h t x v with
 |some h'=>some h'
 |none=>
  match jU C h t x v with
  |some h'=>some h'
  |none=>
  match Dy C h t x v with
  |some h'=>some h'
  |none=>GU C h t x v
theorem He{C:Ctx}{P:Program}{ρ:Env}(hC:C.Ok P ρ){B:Nat->Prop}{W w:World}{f:Ren}{h h':T ah}(hr:au ρ B W f h w){t:TypeId}{x v:ab}{x' v':Value}(hx:ai ρ f x x')(hv:ai ρ f v v')(hs:Cx C h t x v=some h'):
 ∃w',(Instr.storeAt t x' v').run P w= .ok () w'/\au ρ B W f h' w':=by
 unfold Cx at hs;split at hs
 ·rename_i hs1;cases hs;exact HX hC hr hx hv hs1
 split at hs
 ·rename_i hs1;cases hs;exact oM hC hr hx hv hs1
 ·split at hs
  ·rename_i hs1;cases hs;exact ID hC hr hx hv hs1
  ·exact Lu hC hr hx hv hs
def Hr(C:Ctx)(h:T ah)(t:TypeId):ab->Option (T ah)
 | .map none=>some h
 | .slice none _ _ _=>some h
 | .slice (some (i,o)) n _ _=>
   match n with
   |0=>some h
   |n+1=>
    match C.und t with
    |some (.slice e)=>
     match kA C e with
     |some z=>pd i h o (mj z.cells (n+1) [])
     |none=>none
    |_=>none
 | .map (some r)=>
   match h.get r with
   |some (.map _)=>some (h.set r (.map []))
   |_=>none
 |_=>none
theorem Na{C:Ctx}{P:Program}{ρ:Env}(hC:C.Ok P ρ){B:Nat->Prop}{W w:World}{f:Ren}{h h':T ah}(hr:au ρ B W f h w){t ty:TypeId}{x:ab}{x':Value}(hx:ai ρ f x x')(hu:(C.und t).isSome=true)(hc:Hr C h t x=some h')(ts:Array TypeId)(xs:Array Value)(h0:ts[0]? =some t)(hx0:xs[0]? =some x'):
 ∃w',(Builtin.clear_ ts ty xs).run P w= .ok (.tuple #[]) w'/\au ρ B W f h' w':=by
 obtain ⟨d,hd⟩:=Option.isSome_iff_exists.1 hu;have hd:=Ctx.ax hC hd;unfold Builtin.clear_;unfold Hr at hc;simp only [h0,hx0,Sem.run_bind,run_underlying hd,Result.andThen_ok];split at hc
 ·cases hc; cases hx;exact ⟨w,by simp only [Sem.run_pure,Result.andThen_ok],hr⟩
 ·cases hc; cases hx;exact ⟨w,by simp only [Sem.run_pure,Result.andThen_ok],hr⟩
 ·rename_i i o n c g;split at hc
  ·cases hc;cases hx<;>exact ⟨w,by simp only [Sem.run_pure,Result.andThen_ok],hr⟩
  ·rename_i n;split at hc
   ·rename_i e he;have he:=Ctx.ax hC he;rw [hd] at he;cases he;split at hc
    ·rename_i z hz;obtain ⟨z',h1,h2,_⟩:=fI hC (f:=f) hz w
     have main: ∀(L:Loc),f i=some L-> ∃w',(storeCells ⟨L.blk,L.base+o,none⟩ (Builtin.zeroCells z'.cells (n+1)).toList).run P w= .ok () w'/\au ρ B W f h' w':=by
      intro L hf;have hrl:=tW (az.cells h2) (n+1);have e1:Builtin.zeroCells z'.cells (n+1)=madeCells z'.cells ((n+1)*z'.cells.size):=rfl;obtain ⟨w',p1,p2,_⟩:=rz hf P o _ 0 h h' w (madeCells z'.cells ((n+1)*z'.cells.size)).toList hr (by simpa using hrl) hc
      exact ⟨w',by rw [e1]; exact p1,p2⟩
     cases hx with
     |slice hf=>
      obtain ⟨w',p1,p2⟩:=main _ hf;exact ⟨w',by simp only [Sem.run_bind,h1,Result.andThen_ok,p1,Sem.run_pure],p2⟩
     |sliceG hf _ _ _=>
      obtain ⟨w',p1,p2⟩:=main _ hf;exact ⟨w',by simp only [Sem.run_bind,h1,Result.andThen_ok,p1,Sem.run_pure],p2⟩
    ·cases hc
   ·cases hc
 ·rename_i r;cases hx; rename_i L hf;split at hc
  ·rename_i es hes;cases hc;obtain ⟨hB,es',cl,q1,q2,q3⟩:=hr.obj _ L _ hf hes;refine ⟨_,?_,hr.wa hf hes (es1:=[]) (es1':= #[]) (cl:=cl) ⟨rfl,by simp⟩⟩
   cases d<;>simp only [Sem.run_bind,run_getObj_map q1,Result.andThen_ok,run_setObj_map q1,Sem.run_pure]
  ·cases hc
 ·cases hc
def BB(C:Ctx)(h:T ah)(nx:Nat)(aev:Operand->Option ab)(t:TypeId)(x:Operand)(v:Operand):Option (Option ab×T ah×Nat):=
 match aev x,aev v with
 |some a,some b=>
  match Cx C h t a b with
  |some h'=>some (none,h',nx)
  |none=>none
 |_,_=>none
def m8(C:Ctx)(h:T ah)(nx:Nat)(aev:Operand->Option ab)(t:TypeId)(m:Operand)(k:Operand)(v:Operand):Option (Option ab×T ah×Nat):=
 match aev m,aev k,aev v with
 |some a,some b,some c=>
  match vD C h t a b c with
  |some h'=>some (none,h',nx)
  |none=>none
 |_,_,_=>none
def wH(C:Ctx)(h:T ah)(nx:Nat)(aev:Operand->Option ab)(t:TypeId)(m:Operand)(k:Operand)(v:Operand):Option (Option ab×T ah×Nat):=
 match aev m,aev k,aev v with
 |some a,some b,some c=>
  match vD C h t a b c with
  |some h'=>some (none,h',nx)
  |none=>none
 |_,_,_=>none
def Yi(C:Ctx)(h:T ah)(nx:Nat)(aev:Operand->Option ab)(args:Array Operand)(ts:Array TypeId):Option (Option ab×T ah×Nat):=
 match args.toList,ts[0]?,ts[1]? with
 | [x,y],some t,some u=>
   match aev x,aev y with
   |some a,some b=>
    match mP C h nx t u a b with
    |some (v,h',nx')=>some (some v,h',nx')
    |none=>none
   |_,_=>none
 |_,_,_=>none
def ab.flat:ab->ab
 | .strS c (.lit (.ofNat n))=>match Nat.ble n 4096 with
   |true=> .str ((List.range n).map fun j=> .wrap .u8 (.fn 0 c (.lit (.ofNat j)) (.lit 0)))
   |false=> .strS c (.lit (.ofNat n))
 |v=>v
theorem ai.flat{ρ:Env}{f:Ren}{x:ab}{v:Value}(h:ai ρ f x v):ai ρ f x.flat v:=by
 unfold ab.flat;split
 ·rename_i c n;split
  ·cases h with
   |strS hl hs=>
    rename_i s;refine .str ?_
    have hn:s.size=n:=by
     have:((n:Nat):Int)=s.size:=hl;omega
    unfold eu;refine List.ext_getElem? fun j=> ?_
    rw [List.getElem?_map,List.getElem?_map,List.getElem?_map,Array.getElem?_toList]
    by_cases hj:j<n
    ·have hj':j<s.data.size:=by
      have:s.data.size=s.size:=rfl;omega
     rw [List.getElem?_range hj,Array.getElem?_eq_getElem hj'];simp only [Option.map_some];have h0:=hs j s.data[j] (Array.getElem?_eq_getElem hj');show some ((s.data[j].toNat:Int))=some (IntKind.u8.wrap (ag (c.ev ρ) j));rw [h0];have hb:=s.data[j].toNat_lt;have:IntKind.u8.wrap (s.data[j].toNat:Int)=(s.data[j].toNat:Int):=bI .u8 _ (by simp only [kLo]; omega) (by simp only [kHi]; omega)
     rw [this]
    ·have h1:s.data[j]? =none:=Array.getElem?_eq_none (by
      have:s.data.size=s.size:=rfl;omega)
     rw [h1,List.getElem?_eq_none (by simp; omega)]
     rfl
  ·exact h
 ·exact h
def dD(c:IE)(m:Nat):IE:=match c with
 | .lit n=> .lit n
 |c=> .fn 4 c (.lit (.ofNat m)) (.lit 4)
theorem lI{ρ:Env}(c:IE){m j:Nat}{b:Nat}(hj:j<m)(hb:b<256)(h:ag (c.ev ρ) (j:Nat)=(b:Nat)):ag ((dD c m).ev ρ) (j:Nat)=(b:Nat):=by
 have key:ag ((IE.fn 4 c (.lit (.ofNat m)) (.lit 4)).ev ρ) (j:Nat)=(b:Nat):=by
  show ag (qS (c.ev ρ) ((m:Nat):Int) 4) (j:Nat)=_;rw [uB _ _ _ _ (by simpa using hj),h]
  exact bI .u8 _ (by simp only [kLo]; omega) (by simp only [kHi]; omega)
 unfold dD;split
 ·exact h
 ·exact key
def mQ(C:Ctx)(h:T ah)(t:TypeId)(d s:ab):Option (ab×T ah):=
 match C.und t,d,s with
 |some (.slice e),.slice (some (i,0)) dn _ _,.strS c (.lit (.ofNat m))=>
  match C.size e,h.get i with
  |some 1,some (.arr ks _ (.lit (.ofNat n)) true)=>
   match aan ks&&(Nat.ble 256 m&&(Nat.beq m dn&&Nat.beq m n)) with
   |true=>some (.int .i64 (.lit (.ofNat m)),h.set i (.arr ks (dD c m) (.lit (.ofNat n)) true))
   |false=>none
  |_,_=>none
 |_,_,_=>none
theorem um{C:Ctx}{P:Program}{ρ:Env}(hC:C.Ok P ρ){B:Nat->Prop}{W w:World}{f:Ren}{h h':T ah}(hr:au ρ B W f h w){t ty:TypeId}{d s v:ab}{d' s':Value}(hd:ai ρ f d d')(hs:ai ρ f s s')(hc:mQ C h t d s=some (v,h'))(ts:Array TypeId)(xs:Array Value)(h0:ts[0]? =some t)(hx0:xs[0]? =some d')(hx1:xs[1]? =some s'):
 ∃w' v',(Builtin.copy_ ts ty xs).run P w= .ok v' w'/\au ρ B W f h' w'/\ai ρ f v v':=by
 unfold mQ at hc;split at hc
 ·rename_i e i dn dc g c m hu;have hut:=Ctx.ax hC hu;split at hc
  ·rename_i ks code n hsz hg;split at hc
   ·rename_i hb;obtain ⟨g1,hb⟩:=iK hb;obtain ⟨g2,hb⟩:=iK hb;obtain ⟨g3,g4⟩:=iK hb;have g2:=Nat.le_of_ble_eq_true g2;have g3:=Nat.eq_of_beq_eq_true g3;have g4:=Nat.eq_of_beq_eq_true g4;subst g3;subst g4;cases hc
    have hk8:ks=[.u8]:=by
     unfold aan at g1;split at g1
     ·rw [aH g1]
     ·cases g1
    subst hk8;cases hs with
    |strS hl hbs=>
     rename_i bs
     have hlen:bs.size=m:=by
      have:((m:Nat):Int)=bs.size:=hl;omega
     have hstr:ai ρ f (.str (bs.data.toList.map fun b=>IE.lit (b.toNat:Nat))) (.string bs):= .str (by
      unfold eu;rw [List.map_map];rfl)
     have hlz:qv (.str (bs.data.toList.map fun b=>IE.lit (b.toNat:Nat)))=some m:=by
      show some (bs.data.toList.map _).length=some m;rw [List.length_map,<-hlen];rfl
     obtain ⟨cs,q0,q2⟩:=nN (P:=P) (h:=h) (size:=1) (n:=m) (l:=iu ((bs.data.toList.map fun b=>IE.lit (b.toNat:Nat)).take m)) hr hstr ⟨m,hlz,Nat.le_refl _⟩ rfl
     have q1:=q0 w.drawn;have hln:=tZ (P:=P) hstr hlz w
     have hcsl:cs.length=m:=by
      have:=q2.1;simp only [List.size_toArray,iu,List.length_map,List.length_take] at this;rw [this];have e1:bs.data.toList.length=m:=by rw [<- hlen]; rfl
      omega
     have hcs: ∀j,j<m-> ∃b:UInt8,bs.data[j]? =some b/\cs[j]? =some (.int .u8 (b.toNat:Nat)):=fun j hj=>by
      have hjb:j<bs.data.size:=by have:bs.data.size=bs.size:=rfl; omega
      refine ⟨bs.data[j],by simp [hjb],?_⟩
      have hx:(iu ((bs.data.toList.map fun b=>IE.lit (b.toNat:Nat)).take m))[j]? =some (.int .u8 (.lit ((bs.data[j]).toNat:Nat))):=by
       unfold iu;rw [List.getElem?_map,List.getElem?_take_of_lt hj,List.getElem?_map];have e2:bs.data.toList[j]? =some bs.data[j]:=by rw [Array.getElem?_toList]; exact Array.getElem?_eq_getElem hjb
       rw [e2];rfl
      obtain ⟨v',r1,r2⟩:=q2.get hx;cases r2;have r1:cs[j]? =some (.int .u8 ((IE.lit ((bs.data[j]).toNat:Nat)).ev ρ)):=by simpa using r1
      exact r1
     have main: ∀(L:Loc),f i=some L-> ∀c',xs[0]? =some (.slice (some ⟨L.blk,L.base+0,none⟩) m c')-> ∃w' v',(Builtin.copy_ ts ty xs).run P w= .ok v' w'/\au ρ B W f (h.set i (.arr [.u8] (dD c m) (.lit (.ofNat m)) true)) w'/\ai ρ f (.int .i64 (.lit (.ofNat m))) v':=by
      intro L hf c' hx0;obtain ⟨cs0,elem,fr,k1,k2,k3,k4⟩:=hr.obj i L _ hf hg;obtain ⟨k3a,k3b⟩:=k3 rfl;have hlast:=(k4 (m-1) 0 .u8 (by show ((m-1:Nat):Int)<(m:Nat); omega) rfl).1
      have hlt:=(Array.getElem?_eq_some_iff.1 hlast).1;have hlt:L.base+(m-1)<cs0.size:=by simpa using hlt
      obtain ⟨w',cur',e1,e2,e3,e4,e5,e6,e7⟩:=gH P L.blk elem fr (L.base+0) cs 0 cs0 w k1 (by omega) (fun j hj=>k3b j (by omega)) (fun v hv=>by
       obtain ⟨j,hj⟩:=List.getElem?_of_mem hv;have hjm:j<m:=by have:=(List.getElem?_eq_some_iff.1 hj).1; omega
       obtain ⟨b,_,hb2⟩:=hcs j hjm;rw [hb2] at hj;cases hj;rfl)
      refine ⟨w',_,?_,?_,.int _ (.lit _)⟩
      ·have hmn:Nat.min m m=m:=Nat.min_self m;simp only [Builtin.copy_,h0,hx0,hx1,Sem.run_bind,run_underlying hut,Result.andThen_ok,hln,Ctx.bh hC hsz,Nat.min_self,q1,Sem.run_pure,e1];rfl
      ·refine hr.A7 hf hg rfl k3a (fun _ _=>Iff.rfl) (fun _ _=>Iff.rfl) e7 e6 e5 ?_
       refine ⟨cur',elem,fr,e2,by rw [e3]; exact k2,fun _=>⟨k3a,k3b⟩,fun j c0 k hj hk=> ?_⟩
       have hc0:c0=0:=by
        have:=(List.getElem?_eq_some_iff.1 hk).1
        simpa using this
       subst hc0;have hk:some IntKind.u8=some k:=hk;cases hk;have hj:(j:Int)<((m:Nat):Int):=hj;have hjm:j<m:=by omega
       obtain ⟨b,hb1,hb2⟩:=hcs j hjm;have hrow:=hbs j b hb1;show cur'[L.base+(j*1+0)]? =some (.int .u8 (ag ((dD c m).ev ρ) ((j*1+0:Nat):Int)))/\kLo .u8<=ag ((dD c m).ev ρ) ((j*1+0:Nat):Int)/\ag ((dD c m).ev ρ) ((j*1+0:Nat):Int)<=kHi .u8;have hb8:b.toNat<256:=UInt8.toNat_lt b;rw [Nat.mul_one,Nat.add_zero,lI c hjm hb8 hrow,e4,if_pos (by omega),show L.base+j-(L.base+0+0)=j by omega,hb2]
       refine ⟨rfl,?_,?_⟩
       ·show (0:Int)<=(b.toNat:Nat); omega
       ·show ((b.toNat:Nat):Int)<=255; omega
     cases hd with
     |slice hf=>exact main _ hf _ hx0
     |sliceG hf _ _ _=>exact main _ hf _ hx0
     |sliceE hf _ _=>omega
   ·cases hc
  ·cases hc
 ·cases hc
def fZ(code st c n:IE)(m:Nat):IE:= .fn 3 (.fn 2 code (.lit 0) st) st (.fn 3 (.fn 2 c (.lit 0) (.lit (.ofNat m))) (.lit (.ofNat m)) (.fn 2 code (.add st (.lit (.ofNat m))) n))
theorem me{ρ:Env}{code st c n:IE}{m a k:Nat}(ha:st.ev ρ=(a:Nat))(hn:n.ev ρ=(k:Nat))(j:Nat)(hj:j<k):ag ((fZ code st c n m).ev ρ) (j:Nat)=if a<=j/\j<a+m then ag (c.ev ρ) ((j-a:Nat):Int) else ag (code.ev ρ) (j:Nat):=by
 show ag (lS (aY (code.ev ρ) 0 (st.ev ρ)) (st.ev ρ) (lS (aY (c.ev ρ) 0 ((m:Nat):Int)) ((m:Nat):Int) (aY (code.ev ρ) (st.ev ρ+((m:Nat):Int)) (n.ev ρ)))) (j:Nat)=_;rw [ha,hn,show ((a:Nat):Int)+((m:Nat):Int)=((a+m:Nat):Int) by omega]
 have e0:(0:Int)=((0:Nat):Int):=rfl
 by_cases h1:j<a
 ·rw [mf _ _ _ _ h1,e0,ch _ _ _ _ h1,Nat.zero_add,if_neg (by omega)]
 ·rw [qy _ _ _ _ (by rw [e0]; exact Am _ _ _) (by omega)]
  by_cases h2:j<a+m
  ·rw [mf _ _ _ _ (by omega),e0,ch _ _ _ _ (by omega),Nat.zero_add,if_pos (by omega)]
  ·rw [qy _ _ _ _ (by rw [e0]; exact Am _ _ _) (by omega),ch _ _ _ _ (by omega),if_neg (by omega),show a+m+(j-a-m)=j by omega]
def oK(C:Ctx)(h:T ah)(t:TypeId)(d s:ab):Option (ab×T ah):=
 match C.und t,d,s with
 |some (.slice e),.sliceS i st dl sz _,.strS c (.lit (.ofNat m))=>
  match C.size e,h.get i with
  |some 1,some (.arr ks code n true)=>
   match aan ks&&(Nat.ble 1 m&&Nat.beq sz 1),settle C.dec (mkLt C.bd st (.lit 0)),settle C.dec (mkLt C.bd n (mkAdd st (.lit (.ofNat m)))),settle C.dec (mkLt C.bd dl (.lit (.ofNat m))),settle C.dec (mkLt C.bd (.lit (.ofNat m)) dl) with
   |true,some false,some false,some false,some false=>some (.int .i64 (.lit (.ofNat m)),h.set i (.arr ks (fZ code st c n m) n true))
   |_,_,_,_,_=>none
  |_,_=>none
 |_,_,_=>none
theorem tJ{C:Ctx}{P:Program}{ρ:Env}(hC:C.Ok P ρ){B:Nat->Prop}{W w:World}{f:Ren}{h h':T ah}(hr:au ρ B W f h w){t ty:TypeId}{d s v:ab}{d' s':Value}(hd:ai ρ f d d')(hs:ai ρ f s s')(hc:oK C h t d s=some (v,h'))(ts:Array TypeId)(xs:Array Value)(h0:ts[0]? =some t)(hx0:xs[0]? =some d')(hx1:xs[1]? =some s'):
 ∃w' v',(Builtin.copy_ ts ty xs).run P w= .ok v' w'/\au ρ B W f h' w'/\ai ρ f v v':=by
 unfold oK at hc;split at hc
 ·rename_i e i st dl sz nn c m hu;have hut:=Ctx.ax hC hu;split at hc
  ·rename_i ks code n hsz hg;split at hc
   ·rename_i hb hs1 hs2 hs3 hs4;obtain ⟨g1,hb⟩:=iK hb;obtain ⟨g2,g4⟩:=iK hb;have g2:=Nat.le_of_ble_eq_true g2;have g4:=Nat.eq_of_beq_eq_true g4;subst g4;have q3:=aq hC.dec _ _ hs3;have q4:=aq hC.dec _ _ hs4;rw [cK hC.bd] at q3 q4;have q3:=of_decide_eq_false q3;have q4:=of_decide_eq_false q4;have q3: ¬dl.ev ρ<((m:Nat):Int):=q3;have q4: ¬((m:Nat):Int)<dl.ev ρ:=q4;have edl:dl.ev ρ=((m:Nat):Int):=by omega
    have q1:=aq hC.dec _ _ hs1;have q2:=aq hC.dec _ _ hs2;rw [cK hC.bd] at q1 q2;have q1:=of_decide_eq_false q1;have q2:=of_decide_eq_false q2;rw [bE] at q2;simp only [IE.ev] at q1;have q2: ¬n.ev ρ<st.ev ρ+((m:Nat):Int):=q2;obtain ⟨a,ha⟩:=Int.eq_ofNat_of_zero_le (show 0<=st.ev ρ by omega)
    obtain ⟨k,hk⟩:=Int.eq_ofNat_of_zero_le (show 0<=n.ev ρ by omega)
    have hamk:a+m<=k:=by omega
    cases hc
    have hk8:ks=[.u8]:=by
     unfold aan at g1;split at g1
     ·rw [aH g1]
     ·cases g1
    subst hk8;cases hs with
    |strS hl hbs=>
     rename_i bs
     have hlen:bs.size=m:=by
      have:((m:Nat):Int)=bs.size:=hl;omega
     have hstr:ai ρ f (.str (bs.data.toList.map fun b=>IE.lit (b.toNat:Nat))) (.string bs):= .str (by
      unfold eu;rw [List.map_map];rfl)
     have hlz:qv (.str (bs.data.toList.map fun b=>IE.lit (b.toNat:Nat)))=some m:=by
      show some (bs.data.toList.map _).length=some m;rw [List.length_map,<-hlen];rfl
     obtain ⟨cs,q0,q2⟩:=nN (P:=P) (h:=h) (size:=1) (n:=m) (l:=iu ((bs.data.toList.map fun b=>IE.lit (b.toNat:Nat)).take m)) hr hstr ⟨m,hlz,Nat.le_refl _⟩ rfl
     have q1:=q0 w.drawn;have hln:=tZ (P:=P) hstr hlz w
     have hcsl:cs.length=m:=by
      have:=q2.1;simp only [List.size_toArray,iu,List.length_map,List.length_take] at this;rw [this];have e1:bs.data.toList.length=m:=by rw [<- hlen]; rfl
      omega
     have hcs: ∀j,j<m-> ∃b:UInt8,bs.data[j]? =some b/\cs[j]? =some (.int .u8 (b.toNat:Nat)):=fun j hj=>by
      have hjb:j<bs.data.size:=by have:bs.data.size=bs.size:=rfl; omega
      refine ⟨bs.data[j],by simp [hjb],?_⟩
      have hx:(iu ((bs.data.toList.map fun b=>IE.lit (b.toNat:Nat)).take m))[j]? =some (.int .u8 (.lit ((bs.data[j]).toNat:Nat))):=by
       unfold iu;rw [List.getElem?_map,List.getElem?_take_of_lt hj,List.getElem?_map];have e2:bs.data.toList[j]? =some bs.data[j]:=by rw [Array.getElem?_toList]; exact Array.getElem?_eq_getElem hjb
       rw [e2];rfl
      obtain ⟨v',r1,r2⟩:=q2.get hx;cases r2;have r1:cs[j]? =some (.int .u8 ((IE.lit ((bs.data[j]).toNat:Nat)).ev ρ)):=by simpa using r1
      exact r1
     cases hd with
     |sliceZ hl2 _=>rw [edl] at hl2; omega
     |sliceS hf p0 pl pc=>
      rename_i L c';rw [ha,edl] at hx0;have hx0:xs[0]? =some (.slice (some ⟨L.blk,L.base+a*1,none⟩) m c'):=hx0;rw [Nat.mul_one] at hx0;obtain ⟨cs0,elem,fr,k1,k2,k3,k4⟩:=hr.obj i L _ hf hg;obtain ⟨k3a,k3b⟩:=k3 rfl;have hlast:=(k4 (a+m-1) 0 .u8 (by rw [hk]; omega) rfl).1
      have hlt:=(Array.getElem?_eq_some_iff.1 hlast).1;have hlt:L.base+(a+m-1)<cs0.size:=by simpa using hlt
      obtain ⟨w',cur',e1,e2,e3,e4,e5,e6,e7⟩:=gH P L.blk elem fr (L.base+a) cs 0 cs0 w k1 (by omega) (fun j hj=>k3b j (by omega)) (fun v hv=>by
       obtain ⟨j,hj⟩:=List.getElem?_of_mem hv;have hjm:j<m:=by have:=(List.getElem?_eq_some_iff.1 hj).1; omega
       obtain ⟨b,_,hb2⟩:=hcs j hjm;rw [hb2] at hj;cases hj;rfl)
      refine ⟨w',_,?_,?_,.int _ (.lit _)⟩
      ·have hmn:Nat.min m m=m:=Nat.min_self m;simp only [Builtin.copy_,h0,hx0,hx1,Sem.run_bind,run_underlying hut,Result.andThen_ok,hln,Ctx.bh hC hsz,Nat.min_self,q1,Sem.run_pure,e1];rfl
      ·refine hr.A7 hf hg rfl k3a (fun _ _=>Iff.rfl) (fun _ _=>Iff.rfl) e7 e6 e5 ?_
       refine ⟨cur',elem,fr,e2,by rw [e3]; exact k2,fun _=>⟨k3a,k3b⟩,fun j c0 kk hj hkk=> ?_⟩
       have hc0:c0=0:=by
        have:=(List.getElem?_eq_some_iff.1 hkk).1
        simpa using this
       subst hc0;have hkk:some IntKind.u8=some kk:=hkk;cases hkk;have hjk:j<k:=by rw [hk] at hj; omega
       show cur'[L.base+(j*1+0)]? =some (.int .u8 (ag ((fZ code st c n m).ev ρ) ((j*1+0:Nat):Int)))/\kLo .u8<=ag ((fZ code st c n m).ev ρ) ((j*1+0:Nat):Int)/\ag ((fZ code st c n m).ev ρ) ((j*1+0:Nat):Int)<=kHi .u8;rw [Nat.mul_one,Nat.add_zero,me ha hk j hjk,e4]
       by_cases hin:a<=j/\j<a+m
       ·obtain ⟨b,hb1,hb2⟩:=hcs (j-a) (by omega)
        have hrow:=hbs (j-a) b hb1;have hb8:b.toNat<256:=UInt8.toNat_lt b;rw [if_pos hin,if_pos (by omega),hrow,show L.base+j-(L.base+a+0)=j-a by omega,hb2]
        refine ⟨rfl,?_,?_⟩
        ·show (0:Int)<=(b.toNat:Nat); omega
        ·show ((b.toNat:Nat):Int)<=255; omega
       ·rw [if_neg hin,if_neg (by omega)]
        have:=k4 j 0 .u8 hj rfl;simp only [List.length_singleton,Nat.mul_one,Nat.add_zero] at this;exact this
   ·cases hc
  ·cases hc
 ·cases hc
def oJ(C:Ctx)(h:T ah)(t:TypeId)(d s:ab):Option (ab×T ah):=
 match mQ C h t d s with
 |some r=>some r
 |none=>
  match oK C h t d s with
  |some r=>some r
  |none=>Oy C h t d s.flat
theorem tS{C:Ctx}{P:Program}{ρ:Env}(hC:C.Ok P ρ){B:Nat->Prop}{W w:World}{f:Ren}{h h':T ah}(hr:au ρ B W f h w){t ty:TypeId}{d s v:ab}{d' s':Value}(hd:ai ρ f d d')(hs:ai ρ f s s')(hc:oJ C h t d s=some (v,h'))(ts:Array TypeId)(xs:Array Value)(h0:ts[0]? =some t)(hx0:xs[0]? =some d')(hx1:xs[1]? =some s'):
 ∃w' v',(Builtin.copy_ ts ty xs).run P w= .ok v' w'/\au ρ B W f h' w'/\ai ρ f v v':=by
 unfold oJ at hc;split at hc
 ·rename_i r hr2;cases hc;exact um hC hr hd hs hr2 ts xs h0 hx0 hx1
 split at hc
 ·rename_i r hr2;cases hc;exact tJ hC hr hd hs hr2 ts xs h0 hx0 hx1
 ·exact Sj hC hr hd hs.flat hc ts xs h0 hx0 hx1
def W2(C:Ctx)(h:T ah)(nx:Nat)(aev:Operand->Option ab)(args:Array Operand)(ts:Array TypeId):Option (Option ab×T ah×Nat):=
 match args.toList,ts[0]? with
 | [x,y],some t=>
   match aev x,aev y with
   |some a,some b=>
    match oJ C h t a b with
    |some (v,h')=>some (some v,h',nx)
    |none=>none
   |_,_=>none
 |_,_=>none
def XC(C:Ctx)(h:T ah)(nx:Nat)(aev:Operand->Option ab)(args:Array Operand)(ts:Array TypeId):Option (Option ab×T ah×Nat):=
 match args.toList,ts[0]? with
 | [x,y],some t=>
   match aev x,aev y with
   |some a,some b=>
    match CA C h t a b with
    |some h'=>some (some (.tuple []),h',nx)
    |none=>none
   |_,_=>none
 |_,_=>none
def XK(C:Ctx)(h:T ah)(nx:Nat)(aev:Operand->Option ab)(args:Array Operand)(ts:Array TypeId):Option (Option ab×T ah×Nat):=
 match args.toList,ts[0]? with
 | [x],some t=>
   match aev x,C.und t with
   |some a,some _=>
    match Hr C h t a with
    |some h'=>some (some (.tuple []),h',nx)
    |none=>none
   |_,_=>none
 |_,_=>none
def OP(C:Ctx)(h:T ah)(nx:Nat)(aev:Operand->Option ab):Op->Option (Option ab×T ah×Nat)
 | .store t x v=>BB C h nx aev t x v
 | .mapUpdate t m k v=>m8 C h nx aev t m k v
 | .insert t m k v=>wH C h nx aev t m k v
 | .call {callee:= .builtin .append,args:=args,argTypes:=ts}=>Yi C h nx aev args ts
 | .call {callee:= .builtin .copy,args:=args,argTypes:=ts}=>W2 C h nx aev args ts
 | .call {callee:= .builtin .delete,args:=args,argTypes:=ts}=>XC C h nx aev args ts
 | .call {callee:= .builtin .clear,args:=args,argTypes:=ts}=>XK C h nx aev args ts
 |_=>none
theorem OW{ev:Operand->Value}{args:Array Operand}{x y:Operand}(h:args.toList=[x,y]):(args.map ev)[0]? =some (ev x)/\(args.map ev)[1]? =some (ev y):=by
 have:args= #[x,y]:=by apply Array.ext'; simpa using h
 subst this; simp
theorem Z3{ev:Operand->Value}{args:Array Operand}{x:Operand}(h:args.toList=[x]):(args.map ev)[0]? =some (ev x):=by
 have:args= #[x]:=by apply Array.ext'; simpa using h
 subst this; simp
theorem j8{P:Program}{w w':World}{ev:Operand->Value}{o:Oper}{b:Builtin}{args:Array Operand}{ts:Array TypeId}(ho:o.op= .call {callee:= .builtin b,args:=args,argTypes:=ts}){r:Next}(h: ∀cs,(builtin b ts o.type cs (args.map ev)).run P w= .ok r w'):(execOp ev o).run P w= .ok r w':=by
 unfold execOp;simp only [ho,resolve,Sem.run_bind,Sem.run_pure,Result.andThen_ok,invoke];exact h _
theorem UW{C:Ctx}{P:Program}{ρ:Env}(hC:C.Ok P ρ){B:Nat->Prop}{W w:World}{f:Ren}{h h':T ah}(hr:au ρ B W f h w){aev:Operand->Option ab}{ev:Operand->Value}(he:iN ρ f aev ev){nx nx':Nat}(hfr: ∀j,nx<=j->j<nx'->f j=none){o:Oper}{r:Option ab}(hv:OP C h nx aev o.op=some (r,h',nx')):
 qW P ρ B W f nx nx' h' r (execOp ev o) w:=by
 obtain ⟨dst,op,type,pos,after,guard⟩:=o;unfold OP at hv;simp only at hv;split at hv
 all_goals try unfold BB at hv
 all_goals try unfold m8 at hv
 all_goals try unfold wH at hv
 all_goals try unfold Yi at hv
 all_goals try unfold W2 at hv
 all_goals try unfold XC at hv
 all_goals try unfold XK at hv
 case h_1 t x v=>
  split at hv
  ·rename_i a b ha hb;split at hv
   ·rename_i h1 hs;cases hv;obtain ⟨w',p1,p2⟩:=He hC hr (he _ _ ha) (he _ _ hb) hs;exact qW.same (r':= .skip) (by simp only [execOp,Sem.run_bind,p1,Result.andThen_ok,Sem.run_pure]) p2 rfl
   ·cases hv
  ·cases hv
 case h_2 t m k v=>
  split at hv
  ·rename_i a b c ha hb hc;split at hv
   ·rename_i h1 hs;cases hv;obtain ⟨w',p1,p2⟩:=yS hC hr (he _ _ ha) (he _ _ hb) (he _ _ hc) hs;exact qW.same (r':= .skip) (by simp only [execOp,Sem.run_bind,p1,Result.andThen_ok,Sem.run_pure]) p2 rfl
   ·cases hv
  ·cases hv
 case h_3 t m k v=>
  split at hv
  ·rename_i a b c ha hb hc;split at hv
   ·rename_i h1 hs;cases hv;obtain ⟨w',p1,p2⟩:=yS hC hr (he _ _ ha) (he _ _ hb) (he _ _ hc) hs;exact qW.same (r':= .skip) (by simp only [execOp,Sem.run_bind,p1,Result.andThen_ok,Sem.run_pure]) p2 rfl
   ·cases hv
  ·cases hv
 case h_4 args ts=>
  split at hv
  ·rename_i x y t u hargs h0 h1;split at hv
   ·rename_i a b ha hb;split at hv
    ·rename_i v h1' nx1 hs;cases hv;obtain ⟨e0,e1⟩:=OW (ev:=ev) hargs;obtain ⟨f',w',v',p1,p2,p3,p4,p5⟩:=FU hC hr hfr (ty:=type) (he _ _ ha) (he _ _ hb) hs ts (args.map ev) h0 h1 e0 e1;exact ⟨f',w',.value v',j8 rfl (fun cs=>by simp only [builtin,Sem.run_bind,p1,Result.andThen_ok,Sem.run_pure]),p2,p3,p4,v',rfl,p5⟩
    ·cases hv
   ·cases hv
  ·cases hv
 case h_5 args ts=>
  split at hv
  ·rename_i x y t hargs h0;split at hv
   ·rename_i a b ha hb;split at hv
    ·rename_i v h1' hs;cases hv;obtain ⟨e0,e1⟩:=OW (ev:=ev) hargs;obtain ⟨w',v',p1,p2,p3⟩:=tS hC hr (ty:=type) (he _ _ ha) (he _ _ hb) hs ts (args.map ev) h0 e0 e1;exact qW.same (r':= .value v') (j8 rfl (fun cs=>by simp only [builtin,Sem.run_bind,p1,Result.andThen_ok,Sem.run_pure])) p2 ⟨v',rfl,p3⟩
    ·cases hv
   ·cases hv
  ·cases hv
 case h_6 args ts=>
  split at hv
  ·rename_i x y t hargs h0;split at hv
   ·rename_i a b ha hb;split at hv
    ·rename_i h1' hs;cases hv;obtain ⟨e0,e1⟩:=OW (ev:=ev) hargs;obtain ⟨w',p1,p2⟩:=I6 hC hr (ty:=type) (he _ _ ha) (he _ _ hb) hs ts (args.map ev) h0 e0 e1;exact qW.same (r':= .value (.tuple #[])) (j8 rfl (fun cs=>by simp only [builtin,Sem.run_bind,p1,Result.andThen_ok,Sem.run_pure])) p2 ⟨_,rfl,.tuple rfl (by simp)⟩
    ·cases hv
   ·cases hv
  ·cases hv
 case h_7 args ts=>
  split at hv
  ·rename_i x t hargs h0;split at hv
   ·rename_i a d ha hd;split at hv
    ·rename_i h1' hs;cases hv;have e0:=Z3 (ev:=ev) hargs;obtain ⟨w',p1,p2⟩:=Na hC hr (ty:=type) (he _ _ ha) (by rw [hd]; rfl) hs ts (args.map ev) h0 e0
     exact qW.same (r':= .value (.tuple #[])) (j8 rfl (fun cs=>by simp only [builtin,Sem.run_bind,p1,Result.andThen_ok,Sem.run_pure])) p2 ⟨_,rfl,.tuple rfl (by simp)⟩
    ·cases hv
   ·cases hv
  ·cases hv
 case h_8=>cases hv
theorem UU{C:Ctx}{h h':T ah}{aev:Operand->Option ab}{nx nx':Nat}{op:Op}{r:Option ab}(hv:OP C h nx aev op=some (r,h',nx')):nx<=nx':=by
 unfold OP at hv;split at hv
 all_goals try unfold BB at hv
 all_goals try unfold m8 at hv
 all_goals try unfold wH at hv
 all_goals try unfold Yi at hv
 all_goals try unfold W2 at hv
 all_goals try unfold XC at hv
 all_goals try unfold XK at hv
 all_goals try (repeat' split at hv)
 all_goals first
  | (cases hv; done)
  | (simp only [Option.some.injEq,Prod.mk.injEq] at hv; omega)
  |skip
 all_goals
  rename_i hs;simp only [Option.some.injEq,Prod.mk.injEq] at hv;obtain ⟨-,-,rfl⟩:=hv;exact D2 hs
end
end Go.Sx
