/- Part Sb. No condition. -/
import Derived.Test.YtpdhneemedlgaaaGreatSa
import Derived.Laws.BytesString
import Derived.Laws.Tables
import Derived.Laws.MakeOwn
set_option linter.all false
namespace Go.Sx
open Go.RowKit (Below)
noncomputable section
def iN(ρ:Env)(f:Ren)(aev:Operand->Option ab)(ev:Operand->Value):Prop:= ∀x v,aev x=some v->ai ρ f v (ev x)
def CZ:Value->Option ab
 | .bool b=>some (.bool (.lit b))
 | .int k n=>some (.int k (.lit n))
 | .string s=>some (.str (s.data.toList.map fun b=> .lit (.ofNat b.toNat)))
 | .pointer none=>some (.ptr none)
 | .slice none 0 0=>some (.slice none 0 0 0)
 | .map none=>some (.map none)
 | .nilFunc=>some .nilFunc
 | .nilIface=>some .nilIface
 |_=>none
def nU:List Value->Option (List ab)
 | []=>some []
 |v::l=>
  match CZ v,nU l with
  |some a,some m=>some (a::m)
  |_,_=>none
def Qh:Value->Option ab
 | .agg cs=>
   match nU cs.toList with
   |some l=>some (.agg l)
   |none=>none
 | .tuple cs=>
   match nU cs.toList with
   |some l=>some (.tuple l)
   |none=>none
 |v=>CZ v
theorem zv{ρ:Env}{f:Ren}{v:Value}{a:ab}(h:CZ v=some a):ai ρ f a v:=by
 unfold CZ at h;split at h<;>cases h
 ·exact .bool (.lit _)
 ·exact .int _ (.lit _)
 ·exact .str (by simp [eu,IE.ev,Function.comp_def])
 ·exact .nilPtr
 ·exact .nilSlice
 ·exact .nilMap
 ·exact .nilFunc
 ·exact .nilIface
theorem xl{ρ:Env}{f:Ren}: ∀(l:List Value) (m:List ab),nU l=some m->az ρ f m l.toArray:=by
 intro l
 induction l with
 |nil=>intro m h; simp [nU] at h; subst h; exact az.nil
 |cons v l ih=>
  intro m h;simp only [nU] at h;split at h
  ·rename_i a m' ha hm;cases h;exact az.cons (zv ha) (ih _ hm)
  ·cases h
theorem Cw{ρ:Env}{f:Ren}{v:Value}{a:ab}(h:Qh v=some a):ai ρ f a v:=by
 unfold Qh at h;split at h
 ·rename_i cs;split at h
  ·rename_i l hl;cases h;have:=xl (ρ:=ρ) (f:=f) _ _ hl;exact .agg (by simpa using this.1) (by simpa using this.2)
  ·cases h
 ·rename_i cs;split at h
  ·rename_i l hl;cases h;have:=xl (ρ:=ρ) (f:=f) _ _ hl;exact .tuple (by simpa using this.1) (by simpa using this.2)
  ·cases h
 ·exact zv h
def kA(C:Ctx)(t:TypeId):Option ab:=
 match C.ty.get t with
 |none=>none
 |some i=>
  match i.zero with
  |none=>none
  |some v=>Qh v
theorem fI{C:Ctx}{P:Program}{ρ:Env}(hC:C.Ok P ρ){f:Ren}{t:TypeId}{a:ab}(h:kA C t=some a)(w:World): ∃v,(zeroValue t).run P w= .ok v w/\ai ρ f a v/\(∃ i,P.info? t=some i/\i.zero=some v):=by
 unfold kA at h;split at h
 ·cases h
 ·rename_i i hi;split at h
  ·cases h
  ·rename_i v hv;exact ⟨v,by simp [zeroValue,typeInfo,hC.ty _ _ hi,hv],Cw h,i,hC.ty _ _ hi,hv⟩
def Yc(bd:Bd)(a b:IE):IE:=
 match b with
 | .lit n=>
   match rng bd a with
   |some (l,h)=>
    match aL 0 l&&(aL 1 n&&aK (l / n) (h / n)) with
    |true=> .lit (l / n)
    |false=>sP a (.lit n)
   |none=>sP a (.lit n)
 |b=>sP a b
theorem SF{ρ:Env}{bd:Bd}(hρ:ρ.ok bd)(a b:IE):(Yc bd a b).ev ρ=(a.ev ρ).tdiv (b.ev ρ):=by
 unfold Yc;split
 ·rename_i n;split
  ·rename_i l h hr;split
   ·rename_i hc
    have hc:aL 0 l=true/\aL 1 n=true/\aK (l / n) (h / n)=true:=by
     revert hc
     cases aL 0 l<;>cases aL 1 n<;>cases aK (l / n) (h / n)<;>intro hc<;>first | (cases hc; done) |exact ⟨rfl,rfl,rfl⟩
    obtain ⟨c1,c2,c3⟩:=hc;rw [ay] at c1 c2;have c1:=of_decide_eq_true c1;have c2:=of_decide_eq_true c2;have c3:=ar c3;obtain ⟨r1,r2⟩:=bD hρ a l h hr;show l / n=(a.ev ρ).tdiv n;rw [Int.tdiv_eq_ediv_of_nonneg (by omega)]
    have k1:=Int.ediv_le_ediv (show 0<n by omega) r1
    have k2:=Int.ediv_le_ediv (show 0<n by omega) r2
    omega
   ·exact jB ρ _ _
  ·exact jB ρ _ _
 ·exact jB ρ _ _
def Xz(C:Ctx)(op:BinOp)(k:IntKind)(a b:IE):Option ab:=
 match op with
 | .add=>some (.int k (mkWrap C.bd k (mkAdd a b)))
 | .sub=>some (.int k (mkWrap C.bd k (mkSub a b)))
 | .mul=>some (.int k (mkWrap C.bd k (mkMul a b)))
 | .quo=>
   match settle C.dec (mkEq C.bd b (.lit 0)) with
   |some false=>some (.int k (mkWrap C.bd k (Yc C.bd a b)))
   |_=>none
 | .rem=>
   match settle C.dec (mkEq C.bd b (.lit 0)) with
   |some false=>some (.int k (ml a b))
   |_=>none
 | .and | .or | .xor | .andNot=>some (.int k (iY op k a b))
 | .shl | .shr=>none
 | .eql=>some (.bool (mkEq C.bd a b))
 | .neq=>some (.bool (mkNot (mkEq C.bd a b)))
 | .lss=>some (.bool (mkLt C.bd a b))
 | .leq=>some (.bool (mkNot (mkLt C.bd b a)))
 | .gtr=>some (.bool (mkLt C.bd b a))
 | .geq=>some (.bool (mkNot (mkLt C.bd a b)))
theorem lf(op:BinOp)(k:IntKind)(x y:Int)(h:op= .and\/op= .or\/op= .xor\/op= .andNot):Op.intBits op k x y=pure (.int k (aN op k x y)):=by
 rcases h with rfl |rfl |rfl |rfl<;>rfl
theorem Vl{C:Ctx}{P:Program}{ρ:Env}(hC:C.Ok P ρ){f:Ren}{op:BinOp}{t:TypeId}{k:IntKind}{a b:IE}{v:ab}(h:Xz C op k a b=some v)(w:World):
 ∃v',(binOp op t (.int k (a.ev ρ)) (.int k (b.ev ρ))).run P w= .ok v' w/\ai ρ f v v':=by
 have wr: ∀e:IE,∀n:Int,e.ev ρ=n->ai ρ f (.int k (mkWrap C.bd k e)) (.int k (k.wrap n)):=fun e n he=>by
  rw [<- he,<-f8 hC.bd]; exact .int k _
 have bw: ∀e:BE,∀b:Bool,e.ev ρ=b->ai ρ f (.bool e) (.bool b):=fun e b he=>by rw [<- he]; exact .bool e
 have iw: ∀e:IE,∀n:Int,e.ev ρ=n->ai ρ f (.int k e) (.int k n):=fun e n he=>by rw [<- he]; exact .int k e
 cases op<;>simp only [Xz,Option.some.injEq] at h
 case add=>subst h; exact ⟨_,by simp only [binOp,ne_eq,not_true_eq_false,if_false,Op.intArith,Sem.run_pure],wr _ _ (bE ρ a b)⟩
 case sub=>subst h; exact ⟨_,by simp only [binOp,ne_eq,not_true_eq_false,if_false,Op.intArith,Sem.run_pure],wr _ _ (na ρ a b)⟩
 case mul=>subst h; exact ⟨_,by simp only [binOp,ne_eq,not_true_eq_false,if_false,Op.intArith,Sem.run_pure],wr _ _ (fH ρ a b)⟩
 case quo=>
  split at h
  ·rename_i hs;have h0:=aq hC.dec _ _ hs;rw [dU hC.bd] at h0;have h0': ¬b.ev ρ=0:=of_decide_eq_false h0;cases h;exact ⟨_,by simp only [binOp,ne_eq,not_true_eq_false,if_false,Op.intDiv,h0',Sem.run_pure],wr _ _ (SF hC.bd a b)⟩
  ·cases h
 case rem=>
  split at h
  ·rename_i hs;have h0:=aq hC.dec _ _ hs;rw [dU hC.bd] at h0;have h0': ¬b.ev ρ=0:=of_decide_eq_false h0;cases h;exact ⟨_,by simp only [binOp,ne_eq,not_true_eq_false,if_false,Op.intDiv,h0',Sem.run_pure],iw _ _ (gp ρ a b)⟩
  ·cases h
 case and=>subst h; exact ⟨_,by simp only [binOp,ne_eq,not_true_eq_false,if_false,lf .and k _ _ (by simp),Sem.run_pure],iw _ _ (dL ρ _ k a b)⟩
 case or=>subst h; exact ⟨_,by simp only [binOp,ne_eq,not_true_eq_false,if_false,lf .or k _ _ (by simp),Sem.run_pure],iw _ _ (dL ρ _ k a b)⟩
 case xor=>subst h; exact ⟨_,by simp only [binOp,ne_eq,not_true_eq_false,if_false,lf .xor k _ _ (by simp),Sem.run_pure],iw _ _ (dL ρ _ k a b)⟩
 case andNot=>subst h; exact ⟨_,by simp only [binOp,ne_eq,not_true_eq_false,if_false,lf .andNot k _ _ (by simp),Sem.run_pure],iw _ _ (dL ρ _ k a b)⟩
 case shl=>cases h
 case shr=>cases h
 case eql=>subst h; exact ⟨.bool (a.ev ρ==b.ev ρ),by simp only [binOp,ne_eq,not_true_eq_false,if_false,Op.intCmp,Sem.run_pure],bw _ _ (by rw [dU hC.bd,Bool.eq_iff_iff]; simp)⟩
 case neq=>subst h; exact ⟨.bool (a.ev ρ != b.ev ρ),by simp only [binOp,ne_eq,not_true_eq_false,if_false,Op.intCmp,Sem.run_pure],bw _ _ (by rw [mB,dU hC.bd,Bool.eq_iff_iff]; simp)⟩
 case lss=>subst h; exact ⟨_,by simp only [binOp,ne_eq,not_true_eq_false,if_false,Op.intCmp,Sem.run_pure],bw _ _ (cK hC.bd a b)⟩
 case leq=>subst h; exact ⟨.bool (decide (a.ev ρ<=b.ev ρ)),by simp only [binOp,ne_eq,not_true_eq_false,if_false,Op.intCmp,Sem.run_pure],bw _ _ (by rw [mB,cK hC.bd,Bool.eq_iff_iff]; simp)⟩
 case gtr=>subst h; exact ⟨_,by simp only [binOp,ne_eq,not_true_eq_false,if_false,Op.intCmp,Sem.run_pure],bw _ _ (cK hC.bd b a)⟩
 case geq=>subst h; exact ⟨.bool (decide (a.ev ρ ≥ b.ev ρ)),by simp only [binOp,ne_eq,not_true_eq_false,if_false,Op.intCmp,Sem.run_pure],bw _ _ (by rw [mB,cK hC.bd,Bool.eq_iff_iff]; simp)⟩
def Ki{α:Type}:List α->Nat->Bool
 | [],_=>true
 |_::_,0=>false
 |_::l,n+1=>Ki l n
theorem EF{α:Type}: ∀(l:List α) (n:Nat),Ki l n=true->l.length<=n:=by
 intro l
 induction l with
 |nil=>intro n _; simp
 |cons a l ih=>
  intro n h;cases n with
  |zero=>cases h
  |succ n=>have:=ih n h; simp; omega
theorem eu.size{ρ:Env}{l:List IE}{s:ByteArray}(h:eu ρ l s):s.size=l.length:=by
 have:=congrArg List.length h
 simpa using this
theorem eu.append{ρ:Env}{l m:List IE}{s t:ByteArray}(h:eu ρ l s)(h':eu ρ m t):eu ρ (l++m) (s++t):=by
 unfold eu at*;rw [ByteArray.data_append,Array.toList_append,List.map_append,List.map_append,h,h']
def Dx(C:Ctx)(cx:Bool)(op:BinOp)(t:TypeId):ab->ab->Option ab
 | .int k a,.int l b=>
   match op with
   | .shl=>
     match settle C.dec (mkLt C.bd b (.lit 0)) with
     |some false=>some (.int k (Lh k a b))
     |_=>none
   | .shr=>
     match settle C.dec (mkLt C.bd b (.lit 0)) with
     |some false=>some (.int k (DS k a b))
     |_=>none
   |op=>
    match bf k l with
    |true=>Xz C op k a b
    |false=>none
 | .str a,.str b=>
   match op with
   | .add=>
     match Ki a 4611686018427387904,Ki b 4611686018427387903 with
     |true,true=>some (.str (a++b))
     |_,_=>none
   | .eql=>
     match jb C a b with
     |some r=>some (.bool (.lit r))
     |none=>none
   | .neq=>
     match jb C a b with
     |some r=>some (.bool (.lit (!r)))
     |none=>none
   |_=>none
 |x,y=>
  match op with
  | .eql=>
    match guardOk C cx t x y with
    |true=>
     match lA C 40 t x y with
     |some r=>some (.bool (.lit r))
     |none=>none
    |false=>none
  | .neq=>
    match guardOk C cx t x y with
    |true=>
     match lA C 40 t x y with
     |some r=>some (.bool (.lit (!r)))
     |none=>none
    |false=>none
  |_=>none
where
 guardOk (C:Ctx) (cx:Bool) (t:TypeId):ab->ab->Bool
  | .nilIface,.nilIface=>cx
  | .agg _,.agg _=>C.plain t
  | .tuple _,_=>false
  |_,.tuple _=>false
  | .strS _ _,_=>false
  |_,.strS _ _=>false
  |_,_=>true
def isC:Operand->Bool
 | .const _=>true
 |_=>false
set_option maxHeartbeats 1000000 in
theorem TS{C:Ctx}{P:Program}{ρ:Env}(hC:C.Ok P ρ){f:Ren}{op:BinOp}{t:TypeId}{x y:ab}{x' y':Value}{v:ab}(X Y:Operand)
 (hx:ai ρ f x x') (hy:ai ρ f y y') (h:Dx C (isC X||isC Y) op t x y=some v) (w:World):
 ∃v',(do eqGuard op t X Y x' y'; binOp op t x' y').run P w= .ok v' w/\ai ρ f v v':=by
 have guardI: ∀k l a b,(eqGuard op t X Y (.int k a) (.int l b)).run P w= .ok () w:=fun k l a b=>by
  cases op<;>rfl
 have guardS: ∀a b,(eqGuard op t X Y (.string a) (.string b)).run P w= .ok () w:=fun a b=>by
  cases op<;>rfl
 unfold Dx at h;split at h
 ·rename_i k a l b;cases hx; cases hy;simp only [Sem.run_bind,guardI,Result.andThen_ok]
  have shift: ∀(o:BinOp),(settle C.dec (mkLt C.bd b (.lit 0))=some false)-> ¬b.ev ρ<0:=fun o hs=>by
   have h0:=aq hC.dec _ _ hs;rw [cK hC.bd] at h0;exact of_decide_eq_false h0
  split at h
  ·split at h
   ·rename_i hs;cases h;have:=shift .shl hs;refine ⟨.int k (R0 k (a.ev ρ) (b.ev ρ)),?_,by rw [<- E8]; exact .int k _⟩
    simp only [binOp,Op.shift,if_neg this,Sem.run_pure];rfl
   ·cases h
  ·split at h
   ·rename_i hs;cases h;have:=shift .shr hs;refine ⟨.int k (CX k (a.ev ρ) (b.ev ρ)),?_,by rw [<- xb]; exact .int k _⟩
    simp only [binOp,Op.shift,if_neg this,Sem.run_pure];rfl
   ·cases h
  ·split at h
   ·rename_i hk;have:=aH hk;subst this;exact Vl hC h w
   ·cases h
 ·rename_i a b;cases hx; cases hy; rename_i s1 h1 s2 h2;simp only [Sem.run_bind,guardS,Result.andThen_ok];split at h
  ·split at h
   ·rename_i la lb;cases h;have l1:=EF _ _ la;have l2:=EF _ _ lb;refine ⟨.string (s1++s2),?_,.str (h1.append h2)⟩
    have hs: ¬(((s1.size+s2.size:Nat):Int) > IntKind.i64.max):=by
     rw [h1.size,h2.size];have:IntKind.i64.max=9223372036854775807:=by decide
     rw [this]; omega
    simp only [binOp,Op.stringOp,if_neg hs,Sem.run_pure]
   ·cases h
  ·split at h
   ·rename_i r hr;cases h;have:=ma hC _ _ _ hr;refine ⟨.bool r,?_,.bool (.lit r)⟩;simp only [binOp,Op.stringOp,Sem.run_pure]
    congr 2
    rw [this,Bool.eq_iff_iff];simp [h1.eq_iff h2]
   ·cases h
  ·split at h
   ·rename_i r hr;cases h;have:=ma hC _ _ _ hr;refine ⟨.bool (!r),?_,.bool (.lit (!r))⟩;simp only [binOp,Op.stringOp,Sem.run_pure]
    congr 3
    rw [this,Bool.eq_iff_iff];simp [h1.eq_iff h2]
   ·cases h
  ·cases h
 ·rename_i hni hns
  have guard:Dx.guardOk C (isC X||isC Y) t x y=true->(eqGuard op t X Y x' y').run P w= .ok () w:=by
   intro hg
   cases hx<;>cases hy<;>first
    | (exfalso; exact hni _ _ _ _ rfl rfl)
    | (exfalso; exact hns _ _ rfl rfl)
    | (simp [Dx.guardOk] at hg; done)
    | (cases op<;>rfl)
    | (simp only [Dx.guardOk] at hg
       exact run_eqGuard_agg w op t X Y _ _ (hC.plain t hg).2)
    | (simp only [Dx.guardOk,Bool.or_eq_true] at hg
       rcases hg with hg |hg
       ·cases X<;>simp [isC] at hg; cases op<;>rfl
       ·cases Y<;>simp [isC] at hg; cases op<;>cases X<;>rfl)
  have eqrun: ∀r,lA C 40 t x y=some r->(Op.equal t x' y').run P w= .ok r w:=fun r hr=>NJ hC w 40 10000 t x y x' y' r (by omega) hx hy hr
  split at h
  ·split at h
   ·rename_i hg;split at h
    ·rename_i r hr;cases h;refine ⟨.bool r,?_,.bool (.lit r)⟩;simp only [Sem.run_bind,guard hg,Result.andThen_ok];have:=eqrun r hr
     cases hx<;>cases hy<;>first
      | (simp [Dx.guardOk] at hg; done)
      | (exfalso; exact hni _ _ _ _ rfl rfl)
      | (exfalso; exact hns _ _ rfl rfl)
      | (simp only [binOp,Sem.run_bind,this,Result.andThen_ok,Sem.run_pure])
    ·cases h
   ·cases h
  ·split at h
   ·rename_i hg;split at h
    ·rename_i r hr;cases h;refine ⟨.bool (!r),?_,.bool (.lit (!r))⟩;simp only [Sem.run_bind,guard hg,Result.andThen_ok];have:=eqrun r hr
     cases hx<;>cases hy<;>first
      | (simp [Dx.guardOk] at hg; done)
      | (exfalso; exact hni _ _ _ _ rfl rfl)
      | (exfalso; exact hns _ _ rfl rfl)
      | (simp only [binOp,Sem.run_bind,this,Result.andThen_ok,Sem.run_pure])
    ·cases h
   ·cases h
  ·cases h
def aUn(C:Ctx)(op:UnOp):ab->Option ab
 | .int k e=>
   match op with
   | .neg=>some (.int k (mkWrap C.bd k (mkSub (.lit 0) e)))
   | .xor=>some (.int k (iY .xor k (.lit (if k.signed then -1 else kHi k)) e))
   |_=>none
 | .bool b=>
   match op with
   | .not=>some (.bool (mkNot b))
   |_=>none
 |_=>none
theorem Tz(k:IntKind):k.max=kHi k:=by cases k<;>decide
theorem XM{C:Ctx}{P:Program}{ρ:Env}(hC:C.Ok P ρ){f:Ren}{op:UnOp}{x:ab}{x':Value}{v:ab}(hx:ai ρ f x x')(h:aUn C op x=some v)(w:World):
 ∃v',(Op.unary op x').run P w= .ok v' w/\ai ρ f v v':=by
 unfold aUn at h;split at h
 ·rename_i k e;cases hx;split at h
  ·cases h;refine ⟨.int k (k.wrap (0-e.ev ρ)),by simp only [Op.unary,Op.intArith,Sem.run_pure],?_⟩
   rw [show k.wrap (0-e.ev ρ)=(mkWrap C.bd k (mkSub (.lit 0) e)).ev ρ by rw [f8 hC.bd,na]; rfl]
   exact .int k _
  ·cases h;refine ⟨.int k (aN .xor k (if k.signed then -1 else k.max) (e.ev ρ)),?_,?_⟩
   ·simp only [Op.unary,lf .xor k _ _ (by simp),Sem.run_pure]
   ·rw [show aN .xor k (if k.signed then -1 else k.max) (e.ev ρ)=(iY .xor k (.lit (if k.signed then -1 else kHi k)) e).ev ρ by rw [dL,Tz]; rfl]
    exact .int k _
  ·cases h
 ·rename_i b;cases hx;split at h
  ·cases h;refine ⟨.bool (!(b.ev ρ)),by simp only [Op.unary,Sem.run_pure],?_⟩
   rw [<- mB];exact .bool _
  ·cases h
 ·cases h
def asNat(C:Ctx)(v:ab):Option Nat:=
 match v with
 | .int _ e=>
   match KL C.dec e with
   |some (.ofNat n)=>some n
   |_=>none
 |_=>none
theorem np{C:Ctx}{P:Program}{ρ:Env}(hC:C.Ok P ρ){f:Ren}{v:ab}{v':Value}{n:Nat}(hv:ai ρ f v v')(h:asNat C v=some n): ∃k,v'= .int k n:=by
 unfold asNat at h;split at h
 ·rename_i k e;cases hv;split at h
  ·rename_i m hm;cases h;exact ⟨k,by rw [E2 hC.dec hm]; rfl⟩
  ·cases h
 ·cases h
def pO(C:Ctx)(s:TypeId)(x:ab)(fld:Nat):Option ab:=
 match x,C.und s with
 | .ptr (some (i,o)),some (.struct fs)=>
   match fs[fld]? with
   |none=>none
   |some fd=>
    match C.size fd.type with
    |some (_+1)=>some (.ptr (some (i,o+fd.offset)))
    |_=>none
 |_,_=>none
theorem bG(b o n:Nat):(⟨b,o,none⟩:Addr).add n=⟨b,o+n,none⟩:=by
 unfold Addr.add; split
 ·rename_i e; subst e; rfl
 ·rfl
theorem y8{C:Ctx}{P:Program}{ρ:Env}(hC:C.Ok P ρ){f:Ren}{s:TypeId}{x:ab}{x':Value}{fld:Nat}{v:ab}(hx:ai ρ f x x')(h:pO C s x fld=some v)(w:World):
 ∃v',(Instr.fieldAt s x' fld).run P w= .ok v' w/\ai ρ f v v':=by
 unfold pO at h;split at h
 ·rename_i i o fs hu;have hu:=Ctx.ax hC hu;cases hx; rename_i L hf;split at h
  ·cases h
  ·rename_i fd hfd;split at h
   ·rename_i n hn;cases h;refine ⟨.pointer (some ⟨L.blk,L.base+(o+fd.offset),none⟩),?_,.ptr hf⟩;simp only [Instr.fieldAt,Sem.run_bind,run_underlying hu,Result.andThen_ok,hfd,Instr.sureAddr,Sem.run_pure,fieldPlace,Ctx.bh hC hn,Nat.succ_ne_zero,if_false,bG,Nat.add_assoc]
   ·cases h
 ·cases h
def HA(C:Ctx)(t:TypeId)(x:ab)(fld:Nat):Option ab:=
 match x,C.und t with
 | .agg cs,some (.struct fs)=>
   match fs[fld]? with
   |none=>none
   |some fd=>sw C fd.type cs fd.offset
 |_,_=>none
theorem NY{C:Ctx}{P:Program}{ρ:Env}(hC:C.Ok P ρ){f:Ren}{s:TypeId}{x:ab}{x':Value}{fld:Nat}{v:ab}(hx:ai ρ f x x')(h:HA C s x fld=some v)(w:World):
 ∃v',(Instr.field s x' fld).run P w= .ok v' w/\ai ρ f v v':=by
 unfold HA at h;split at h
 ·rename_i cs fs hu;have hu:=Ctx.ax hC hu;cases hx; rename_i a' h1 h2;split at h
  ·cases h
  ·rename_i fd hfd;obtain ⟨v',p,q⟩:=jK hC (⟨h1,h2⟩:az ρ f cs a') h w;exact ⟨v',by simp only [Instr.field,Sem.run_bind,run_underlying hu,Result.andThen_ok,hfd,asAgg,Sem.run_pure,p],q⟩
 ·cases h
def pI(C:Ctx)(t:TypeId)(x ix:ab):Option ab:=
 match asNat C ix with
 |none=>none
 |some n=>
  match C.und t,x with
  |some (.array len e),.ptr (some (i,o))=>
   match Nat.ble (n+1) len,C.size e with
   |true,some s=>some (.ptr (some (i,o+n*s)))
   |_,_=>none
  |some (.slice e),.slice (some (i,o)) len _ _=>
   match Nat.ble (n+1) len,C.size e with
   |true,some s=>some (.ptr (some (i,o+n*s)))
   |_,_=>none
  |_,_=>none
theorem zg{C:Ctx}{P:Program}{ρ:Env}(hC:C.Ok P ρ){f:Ren}{t:TypeId}{x ix:ab}{x' ix':Value}{v:ab}(hx:ai ρ f x x')(hi:ai ρ f ix ix')(h:pI C t x ix=some v)(w:World):
 ∃v',(Instr.indexAt t x' ix').run P w= .ok v' w/\ai ρ f v v':=by
 unfold pI at h;split at h
 ·cases h
 ·rename_i n hn;obtain ⟨k,rfl⟩:=np hC hi hn;split at h
  ·rename_i len e i o hu;have hu:=Ctx.ax hC hu;cases hx; rename_i L hf;split at h
   ·rename_i s hlt hs;have hlt':n<len:=Nat.le_of_ble_eq_true hlt;cases h;refine ⟨.pointer (some ⟨L.blk,L.base+(o+n*s),none⟩),?_,.ptr hf⟩;have hc:(0:Int)<=(n:Int)/\(n:Int)<(len:Int):=by omega
    simp only [Instr.indexAt,asIntOf,Sem.run_bind,run_underlying hu,Result.andThen_ok,Instr.sureAddr,Sem.run_pure,if_pos hc,Ctx.bh hC hs,bG,Int.toNat_natCast,Nat.add_assoc]
   ·cases h
  ·rename_i e i o len c g hu;have hu:=Ctx.ax hC hu;split at h
   ·rename_i s hlt hs;have hlt':n<len:=Nat.le_of_ble_eq_true hlt;cases h;have hc:(0:Int)<=(n:Int)/\(n:Int)<(len:Int):=by omega
    cases hx with
    |slice hf=>
     rename_i L;refine ⟨.pointer (some ⟨L.blk,L.base+(o+n*s),none⟩),?_,.ptr hf⟩;simp only [Instr.indexAt,asIntOf,Sem.run_bind,run_underlying hu,Result.andThen_ok,Instr.sureAddr,Sem.run_pure,if_pos hc,Ctx.bh hC hs,bG,Int.toNat_natCast,Nat.add_assoc]
    |sliceG hf hn hc' hs'=>
     rename_i L;refine ⟨.pointer (some ⟨L.blk,L.base+(o+n*s),none⟩),?_,.ptr hf⟩;simp only [Instr.indexAt,asIntOf,Sem.run_bind,run_underlying hu,Result.andThen_ok,Instr.sureAddr,Sem.run_pure,if_pos hc,Ctx.bh hC hs,bG,Int.toNat_natCast,Nat.add_assoc]
    |sliceE hf hg hs'=>omega
   ·cases h
  ·cases h
def Hh(C:Ctx)(t:TypeId)(x ix:ab):Option ab:=
 match asNat C ix with
 |none=>none
 |some n=>
  match C.und t,x with
  |some (.array len e),.agg cs=>
   match Nat.ble (n+1) len,C.size e with
   |true,some s=>sw C e cs (n*s)
   |_,_=>none
  |some .string,.str l=>
   match l[n]? with
   |some e=>some (.int .u8 e)
   |none=>none
  |_,_=>none
theorem eu.get{ρ:Env}{l:List IE}{s:ByteArray}(h:eu ρ l s){n:Nat}{e:IE}(he:l[n]? =some e): ∃b:UInt8,s[n]? =some b/\e.ev ρ=b.toNat:=by
 have h1:(l.map (·.ev ρ))[n]? =some (e.ev ρ):=by simp [he]
 rw [<- h] at h1;simp only [List.getElem?_map,Option.map_eq_some_iff] at h1;obtain ⟨b,hb,hb'⟩:=h1;refine ⟨b,?_,hb'.symm⟩
 have hlt:n<s.size:=by
  have:=(List.getElem?_eq_some_iff.1 hb).1
  simpa using this
 have:s.data[n]? =some b:=by simpa using hb
 rw [<- this];simp only [getElem?_def];rfl
theorem LM{C:Ctx}{P:Program}{ρ:Env}(hC:C.Ok P ρ){f:Ren}{t:TypeId}{x ix:ab}{x' ix':Value}{v:ab}(hx:ai ρ f x x')(hi:ai ρ f ix ix')(h:Hh C t x ix=some v)(w:World):
 ∃v',(Instr.index t x' ix').run P w= .ok v' w/\ai ρ f v v':=by
 unfold Hh at h;split at h
 ·cases h
 ·rename_i n hn;obtain ⟨k,rfl⟩:=np hC hi hn;split at h
  ·rename_i len e cs hu;have hu:=Ctx.ax hC hu;cases hx; rename_i a' h1 h2;split at h
   ·rename_i s hlt hs;have hlt':n<len:=Nat.le_of_ble_eq_true hlt;obtain ⟨v',p,q⟩:=jK hC (⟨h1,h2⟩:az ρ f cs a') h w;have hc:(0:Int)<=(n:Int)/\(n:Int)<(len:Int):=by omega
    exact ⟨v',by simp only [Instr.index,asIntOf,Sem.run_bind,run_underlying hu,Result.andThen_ok,Sem.run_pure,if_pos hc,Ctx.bh hC hs,Int.toNat_natCast,p],q⟩
   ·cases h
  ·rename_i l hu;have hu:=Ctx.ax hC hu;cases hx; rename_i s hs;split at h
   ·rename_i e he;cases h;obtain ⟨b,hb,hb'⟩:=hs.get he;refine ⟨.int .u8 b.toNat,?_,by rw [<- hb']; exact .int _ e⟩
    simp only [Instr.index,asIntOf,Sem.run_bind,run_underlying hu,Result.andThen_ok,Sem.run_pure,if_pos (Int.natCast_nonneg n),Int.toNat_natCast,hb]
   ·cases h
  ·cases h
def lZ(C:Ctx)(m:Nat)(dflt:Nat):Option (Option ab)->Option Nat
 |none=>some dflt
 |some none=>none
 |some (some v)=>
  match asNat C v with
  |none=>none
  |some n=>
   match Nat.ble n m with
   |true=>some n
   |false=>none
def dV(ρ:Env)(f:Ren):Option (Option ab)->Option Value->Prop
 |none,none=>True
 |some (some v),some v'=>ai ρ f v v'
 |some none,some _=>True
 |_,_=>False
theorem run_sliceBound{P:Program}{w:World}{k:IntKind}{n y:Nat}{c:BoundsCode}(h:n<=y):(Instr.sliceBound (.int k n) y c).run P w= .ok n w:=by
 have hc:(0:Int)<=(n:Int)/\(n:Int)<=(y:Int):=by omega
 simp only [Instr.sliceBound,asIntOf,Sem.run_bind,Sem.run_pure,Result.andThen_ok,if_pos hc,Int.toNat_natCast]
def oo(C:Ctx)(len cap:Nat)(lo hi mx:Option (Option ab)):Option (Nat×Nat×Option Nat):=
 match mx with
 |none=>
  match lZ C cap len hi with
  |none=>none
  |some h=>
   match lZ C h 0 lo with
   |none=>none
   |some l=>some (l,h,none)
 |some _=>
  match lZ C cap cap mx with
  |none=>none
  |some m=>
   match hi with
   |none=>none
   |some _=>
    match lZ C m len hi with
    |none=>none
    |some h=>
     match lZ C h 0 lo with
     |none=>none
     |some l=>some (l,h,some m)
theorem jo{C:Ctx}{P:Program}{ρ:Env}(hC:C.Ok P ρ){f:Ren}{m d n:Nat}{b:Option (Option ab)}{b':Option Value}(hb:dV ρ f b b')(h:lZ C m d b=some n):
 (b'=none/\b=none/\n=d)\/(∃ k,b'=some (.int k n)/\n<=m):=by
 cases b with
 |none=>
  cases b' with
  |none=>simp [lZ] at h; exact .inl ⟨rfl,rfl,h.symm⟩
  |some v=>cases hb
 |some b=>
  cases b with
  |none=>simp [lZ] at h
  |some v=>
   cases b' with
   |none=>cases hb
   |some v'=>
    simp only [lZ] at h;split at h
    ·cases h
    ·rename_i k hk;obtain ⟨kk,rfl⟩:=np hC hb hk;split at h
     ·rename_i hle;cases h;exact .inr ⟨kk,rfl,Nat.le_of_ble_eq_true hle⟩
     ·cases h
theorem jO{C:Ctx}{P:Program}{ρ:Env}(hC:C.Ok P ρ){f:Ren}{isS:Bool}{len cap cap':Nat}{lo hi mx:Option (Option ab)}{lo' hi' mx':Option Value}(h1:dV ρ f lo lo')(h2:dV ρ f hi hi')(h3:dV ρ f mx mx')
 {l h:Nat} {m:Option Nat} (hcap:cap<=cap') (hlen:len<=cap) (hh:oo C len cap lo hi mx=some (l,h,m)) (w:World):
 (Instr.sliceBounds isS len cap' lo' hi' mx').run P w= .ok (l,h,m.getD cap') w/\l<=h/\h<=cap/\(∀ x,m=some x->h<=x/\x<=cap):=by
 unfold oo at hh;split at hh
 ·cases mx' with
  |some _=>cases h3
  |none=>
   split at hh
   ·cases hh
   ·rename_i hv hhv;split at hh
    ·cases hh
    ·rename_i lv hlv;cases hh
     rcases jo hC h2 hhv with ⟨rfl,_,rfl⟩ | ⟨kh,rfl,hle⟩
     ·rcases jo hC h1 hlv with ⟨rfl,_,rfl⟩ | ⟨kl,rfl,hle'⟩
      ·exact ⟨by simp [Instr.sliceBounds],by omega,by omega,by simp⟩
      ·exact ⟨by simp [Instr.sliceBounds,run_sliceBound hle'],by omega,by omega,by simp⟩
     ·have hle2:h<=cap':=by omega
      rcases jo hC h1 hlv with ⟨rfl,_,rfl⟩ | ⟨kl,rfl,hle'⟩
      ·exact ⟨by simp [Instr.sliceBounds,run_sliceBound hle2],by omega,by omega,by simp⟩
      ·exact ⟨by simp [Instr.sliceBounds,run_sliceBound hle',run_sliceBound hle2],by omega,by omega,by simp⟩
 ·rename_i mv;split at hh
  ·cases hh
  ·rename_i mm hmm;split at hh
   ·cases hh
   ·rename_i hiv;split at hh
    ·cases hh
    ·rename_i hv hhv;split at hh
     ·cases hh
     ·rename_i lv hlv;cases hh
      rcases jo hC h3 hmm with ⟨_,h0,_⟩ | ⟨km,rfl,hmle⟩
      ·cases h0
      rcases jo hC h2 hhv with ⟨_,h0,_⟩ | ⟨kh,rfl,hle⟩
      ·cases h0
      have hmle2:mm<=cap':=by omega
      rcases jo hC h1 hlv with ⟨rfl,_,rfl⟩ | ⟨kl,rfl,hle'⟩
      ·exact ⟨by simp [Instr.sliceBounds,run_sliceBound hle,run_sliceBound hmle2],by omega,by omega,by intro x hx; cases hx; exact ⟨hle,hmle⟩⟩
      ·exact ⟨by simp [Instr.sliceBounds,run_sliceBound hle,run_sliceBound hle',run_sliceBound hmle2],by omega,by omega,by intro x hx; cases hx; exact ⟨hle,hmle⟩⟩
def I3(C:Ctx)(t:TypeId)(x:ab)(lo hi mx:Option (Option ab)):Option ab:=
 match C.und t,x with
 |some .string,.str l=>
  match mx with
  |some _=>none
  |none=>
   let n:=l.length
   match oo C n n lo hi none with
   |some (a,b,_)=>some (.str ((l.drop a).take (b-a)))
   |none=>none
 |some (.array n e),.ptr (some (i,o))=>
  match C.size e,oo C n n lo hi mx with
  |some s,some (a,b,m)=>
   let m:=m.getD n
   some (.slice (some (i,if m=a then o else o+a*s)) (b-a) (m-a) 0)
  |_,_=>none
 |some (.slice e),.slice none 0 0 0=>
  match C.size e,oo C 0 0 lo hi mx with
  |some _,some _=>some (.slice none 0 0 0)
  |_,_=>none
 |some (.slice e),.slice (some (i,o)) n c g=>
  match Nat.ble n c,C.size e,oo C n c lo hi mx with
  |true,some s,some (a,b,m)=>
   match g with
   |0=>
    let m:=m.getD c
    match Nat.beq c 0 with
    |true=>some (.slice (some (i,o)) 0 0 0)
    |false=>some (.slice (some (i,if m=a then o else o+a*s)) (b-a) (m-a) 0)
   |g+1=>
    match Nat.beq s (g+1),m with
    |true,some 0=>some (.slice (some (i,o)) 0 0 0)
    |true,none=>
     match Nat.beq a 0 with
     |true=>some (.slice (some (i,o)) b c (g+1))
     |false=>some (.slice (some (i,o+a*s)) (b-a) (c-a) (g+1))
    |_,_=>none
  |_,_,_=>none
 |_,_=>none
theorem oT{α β:Type}(g:α->β)(l:List α)(a n:Nat):((l.drop a).take n).map g=((l.map g).drop a).take n:=by
 simp [List.map_take,List.map_drop]
theorem eu.extract{ρ:Env}{l:List IE}{s:ByteArray}(h:eu ρ l s)(a b:Nat):eu ρ ((l.drop a).take (b-a)) (s.extract a b):=by
 unfold eu at*;rw [oT,<-h,<-oT]
 congr 1
 simp [ByteArray.data_extract,List.extract_eq_take_drop]
theorem N9{C:Ctx}{P:Program}{ρ:Env}(hC:C.Ok P ρ){f:Ren}{t:TypeId}{x:ab}{x':Value}{lo hi mx:Option (Option ab)}{lo' hi' mx':Option Value}{v:ab}(hx:ai ρ f x x')
 (h1:dV ρ f lo lo') (h2:dV ρ f hi hi') (h3:dV ρ f mx mx') (h:I3 C t x lo hi mx=some v) (w:World):
 ∃v',(Instr.sliceAt t x' lo' hi' mx').run P w= .ok v' w/\ai ρ f v v':=by
 unfold I3 at h;split at h
 ·rename_i l hu;have hu:=Ctx.ax hC hu;cases hx; rename_i s hs;split at h
  ·cases h
  ·cases mx' with
   |some _=>cases h3
   |none=>
    simp only at h;split at h
    ·rename_i a b m hb;cases h;rw [<- hs.size] at hb;obtain ⟨hr,_⟩:=jO hC (isS:=false) h1 h2 (show dV ρ f none none from trivial) (Nat.le_refl _) (Nat.le_refl _) hb w
     refine ⟨.string (s.extract a b),?_,.str (hs.extract a b)⟩;simp only [Instr.sliceAt,Instr.slice,Sem.run_bind,run_underlying hu,Result.andThen_ok,Option.isSome_none,Bool.false_eq_true,if_false,hr,Sem.run_pure]
    ·cases h
 ·rename_i n e i o hu;have hu:=Ctx.ax hC hu;cases hx; rename_i L hf;split at h
  ·rename_i s a b m hs hb;cases h;obtain ⟨hr,_⟩:=jO hC (isS:=false) h1 h2 h3 (Nat.le_refl _) (Nat.le_refl _) hb w;refine ⟨.slice (some ⟨L.blk,L.base+(if m.getD n=a then o else o+a*s),none⟩) (b-a) (m.getD n-a),?_,.slice hf⟩
   simp only [Instr.sliceAt,Sem.run_bind,run_underlying hu,Result.andThen_ok,Instr.sureAddr,Sem.run_pure,hr,Ctx.bh hC hs]
   congr 3
   split
   ·rfl
   ·rw [bG,Nat.add_assoc]
  ·cases h
 ·rename_i e hu;have hu:=Ctx.ax hC hu;cases hx;split at h
  ·rename_i s bb hs hb;cases h;obtain ⟨a,b,m⟩:=bb;obtain ⟨hr,q1,q2,q3⟩:=jO hC (isS:=true) h1 h2 h3 (Nat.le_refl _) (Nat.le_refl _) hb w;have hb0:b=0:=by omega
   have ha0:a=0:=by omega
   have hm:m.getD 0=0:=by
    cases m with
    |none=>rfl
    |some x=>have:=q3 x rfl; simp; omega
   subst hb0; subst ha0;rw [hm] at hr;refine ⟨.slice none 0 0,?_,.nilSlice⟩;simp only [Instr.sliceAt,Instr.slice,Sem.run_bind,run_underlying hu,Result.andThen_ok,hr,Ctx.bh hC hs,Sem.run_pure,if_true,Nat.sub_self]
  ·cases h
 ·rename_i e i o n c g hu;have hu:=Ctx.ax hC hu;split at h
  ·rename_i s a b m hnc hs hb;replace hnc:=Nat.le_of_ble_eq_true hnc
   have run: ∀(ad:Addr) (nn cc:Nat),nn=n->c<=cc->(Instr.sliceAt t (.slice (some ad) nn cc) lo' hi' mx').run P w= .ok (.slice (if m.getD cc=a then some ad else some (ad.add (a*s))) (b-a) (m.getD cc-a)) w:=by
    intro ad nn cc hnn hcc;subst hnn;obtain ⟨hr,q⟩:=jO hC (isS:=true) h1 h2 h3 hcc hnc hb w;simp only [Instr.sliceAt,Instr.slice,Sem.run_bind,run_underlying hu,Result.andThen_ok,hr,Ctx.bh hC hs,Sem.run_pure,Option.map_some]
   obtain ⟨-,q1,q2,q3⟩:=jO hC (isS:=true) h1 h2 h3 (Nat.le_refl c) hnc hb w;split at h
   · -- exact
     simp only at h
     have hm:m.getD c<=c/\b<=m.getD c:=by
      cases m with
      |none=>simp; omega
      |some x=>have:=q3 x rfl; simp; omega
     split at h
     ·rename_i hc0;replace hc0:=Nat.eq_of_beq_eq_true hc0;cases h;have e1:m.getD c=0:=by omega
      have e2:a=0:=by omega
      have e3:b=0:=by omega
      cases hx with
      |slice hf=>
       rename_i L;refine ⟨_,run _ _ _ rfl (Nat.le_refl _),?_⟩;rw [e1,e2,e3,if_pos rfl];exact .slice hf
      |sliceE hf hg hss=>
       rename_i o' c' L;obtain rfl:=hg rfl;refine ⟨_,run _ _ _ rfl (Nat.zero_le _),?_⟩;rw [e1,e2,e3,if_pos rfl];exact .sliceE hf (fun _=>rfl) hss
     ·rename_i hc0;have hc0:c≠0:=by intro e; simp [e] at hc0
      cases h;cases hx with
      |slice hf=>
       rename_i L;refine ⟨_,run _ _ _ rfl (Nat.le_refl _),?_⟩
       have e:(if m.getD c=a then some (⟨L.blk,L.base+o,none⟩:Addr) else some ((⟨L.blk,L.base+o,none⟩:Addr).add (a*s)))=some ⟨L.blk,L.base+(if m.getD c=a then o else o+a*s),none⟩:=by
        split
        ·rfl
        ·rw [bG,Nat.add_assoc]
       rw [e];exact .slice hf
      |sliceE hf hg hss=>exact absurd rfl hc0
   ·rename_i g;split at h
    ·rename_i hsg;have hsg:=Nat.eq_of_beq_eq_true hsg;have e:=q3 0 rfl;have e2:a=0:=by omega
     have e3:b=0:=by omega
     cases h;cases hx with
     |sliceG hf hn hcc hss=>
      rename_i c' L;refine ⟨_,run _ _ _ rfl hcc,?_⟩;rw [e2,e3];simp only [Option.getD_some,if_true,Nat.sub_self];exact .slice hf
     |sliceE hf hg hss=>
      rename_i o' c' L;refine ⟨_,run _ _ _ rfl (Nat.zero_le _),?_⟩;rw [e2,e3];simp only [Option.getD_some,if_true,Nat.sub_self];exact .sliceE hf (fun _=>rfl) (by omega)
    ·rename_i hsg;have hsg:=Nat.eq_of_beq_eq_true hsg;split at h
     ·rename_i ha0;have ha0:=Nat.eq_of_beq_eq_true ha0;subst ha0;cases h;cases hx with
      |sliceG hf hn hcc hss=>
       rename_i c' L;refine ⟨_,run _ _ _ rfl hcc,?_⟩
       have e:(if (none:Option Nat).getD c'=0 then some (⟨L.blk,L.base+o,none⟩:Addr) else some ((⟨L.blk,L.base+o,none⟩:Addr).add (0*s)))=some ⟨L.blk,L.base+o,none⟩:=by
        split
        ·rfl
        ·rw [bG]; simp
       rw [e];simp only [Option.getD_none,Nat.sub_zero];exact .sliceG hf q2 hcc hss
      |sliceE hf hg hss=>
       rename_i o' c' L;have hb0:b=0:=by omega
       subst hb0;refine ⟨_,run _ _ _ rfl (Nat.zero_le _),?_⟩
       have e:(if (none:Option Nat).getD c'=0 then some (⟨L.blk,o',none⟩:Addr) else some ((⟨L.blk,o',none⟩:Addr).add (0*s)))=some ⟨L.blk,o',none⟩:=by
        split
        ·rfl
        ·rw [bG]; simp
       rw [e];simp only [Option.getD_none,Nat.sub_zero];exact .sliceE hf hg hss
     ·rename_i ha0;have ha0:a≠0:=by intro e; simp [e] at ha0
      cases h;cases hx with
      |sliceG hf hn hcc hss=>
       rename_i c' L;refine ⟨_,run _ _ _ rfl hcc,?_⟩;simp only [Option.getD_none]
       by_cases hca:c'=a
       ·rw [if_pos hca];have e1:b-a=0:=by omega
        have e2:c-a=0:=by omega
        have e3:c'-a=0:=by omega
        rw [e1,e2,e3];exact .sliceE hf (fun h=>by cases h) (by simp; have:=Nat.zero_le (c'*(g+1)); omega)
       ·rw [if_neg hca,bG,Nat.add_assoc];refine .sliceG hf (by omega) (by omega) ?_
        have hle:a<=c':=by omega
        obtain ⟨k,rfl⟩:=Nat.exists_eq_add_of_le hle;rw [hsg,Nat.add_sub_cancel_left];rw [Nat.add_mul] at hss;omega
      |sliceE hf hg hss=>omega
    ·cases h
  ·cases h
 ·cases h
def yR(C:Ctx)(h:T ah)(t:TypeId):ab->Option ab
 | .ptr (some (i,o))=>
   match C.und t with
   |none=>none
   |some d=>
    match ME d with
    |true=>
     match C.size t with
     |none=>none
     |some n=>
      match kU h i o n with
      |some l=>some (.agg l)
      |none=>none
    |false=>TM h i o
 |_=>none
theorem rh{C:Ctx}{P:Program}{ρ:Env}(hC:C.Ok P ρ){B:Nat->Prop}{W w:World}{f:Ren}{h:T ah}(hr:au ρ B W f h w){t:TypeId}{x:ab}{x':Value}{v:ab}(hx:ai ρ f x x')(hl:yR C h t x=some v):
 ∃v',(Instr.loadAt t x').run P w= .ok v' w/\ai ρ f v v':=by
 unfold yR at hl;split at hl
 ·rename_i i o;cases hx; rename_i L hf;split at hl
  ·cases hl
  ·rename_i d hd;have hu:=Ctx.ax hC hd;split at hl
   ·rename_i ha;split at hl
    ·cases hl
    ·rename_i n hn;split at hl
     ·rename_i l hg;cases hl;obtain ⟨cs,h1,h2,h3⟩:=qw hr hf n o l hg;have:=bo (P:=P) h2 h3;exact ⟨.agg cs.toArray,by simp only [Instr.loadAt,Instr.sureAddr,Sem.run_bind,Sem.run_pure,Result.andThen_ok,loadVar,gf hu,ha,if_true,Ctx.bh hC hn,this],.agg h1.1 h1.2⟩
     ·cases hl
   ·rename_i ha;obtain ⟨v',h1,h2⟩:=Kb hr hf hl;exact ⟨v',by simp only [Instr.loadAt,Instr.sureAddr,Sem.run_bind,Sem.run_pure,Result.andThen_ok,loadVar,gf hu,ha,Bool.false_eq_true,if_false,run_load,h1],h2⟩
 ·cases hl
def iJ(C:Ctx):List ab->Option (List IE)
 | []=>some []
 | .int .u8 e::l=>
   match fits .u8 (rng C.bd e),iJ C l with
   |true,some m=>some (e::m)
   |_,_=>none
 |_::_=>none
theorem uU{C:Ctx}{P:Program}{ρ:Env}(hC:C.Ok P ρ){f:Ren}: ∀(l:List ab) (m:List IE) (cs:List Value),iJ C l=some m->az ρ f l cs.toArray->
 ∃bs:List UInt8,cs=bs.map (fun b=> .int .u8 b.toNat)/\bs.map (fun b=>(b.toNat:Int))=m.map (·.ev ρ):=by
 intro l
 induction l with
 |nil=>
  intro m cs h hl;simp [iJ] at h; subst h;have:cs=[]:=by have:=hl.1; simpa using this
  exact ⟨[],by simp [this],rfl⟩
 |cons a l ih=>
  intro m cs h hl;cases cs with
  |nil=>have:=hl.1; simp at this
  |cons c cs=>
   have ha:ai ρ f a c:=hl.2 0 a c (by simp) (by simp)
   have hl':az ρ f l cs.toArray:=⟨by have:=hl.1; simp at this ⊢; exact this,fun j x x' hx hx'=>hl.2 (j+1) x x' (by simpa using hx) (by simpa using hx')⟩
   unfold iJ at h;split at h
   ·cases ‹_=[]›
   ·rename_i e l' heq;cases heq;split at h
    ·rename_i m' hf hm;cases h;cases ha;obtain ⟨bs,h1,h2⟩:=ih _ _ hm hl';unfold fits at hf;split at hf
     ·rename_i lo hi hrng;simp [ay,kLo,kHi] at hf;have hb:=bD hC.bd e _ _ hrng
      have hn:((UInt8.ofNat (e.ev ρ).toNat).toNat:Int)=e.ev ρ:=by
       rw [UInt8.toNat_ofNat'];omega
      refine ⟨UInt8.ofNat (e.ev ρ).toNat::bs,?_,?_⟩
      ·rw [List.map_cons,<-h1,hn]
      ·rw [List.map_cons,List.map_cons,h2,hn]
     ·cases hf
    ·cases h
   ·cases h
def PJ(C:Ctx)(h:T ah)(s d:TypeId)(x:ab):Option ab:=
 match C.und s,C.und d,x with
 |some _,some (.int k),.int _ e=>some (.int k (mkWrap C.bd k e))
 |some .string,some .string,.str l=>some (.str l)
 |some (.slice e),some .string,.slice a n _ _=>
  match C.und e with
  |some (.int .u8)=>
   match a with
   |none=>some (.str [])
   |some (i,o)=>
    match kU h i o n with
    |none=>none
    |some l=>
     match iJ C l with
     |some m=>some (.str m)
     |none=>none
  |_=>none
 |some (.slice e),some .string,.sliceA i (.lit (.ofNat n)) 1=>
  match C.und e with
  |some (.int .u8)=>
   match kU h i 0 n with
   |none=>none
   |some l=>
    match iJ C l with
    |some m=>some (.str m)
    |none=>none
  |_=>none
 |_,_,_=>none
theorem foldl_push(ns:List Int): ∀(s:ByteArray),(ns.foldl (fun r n=>r.push (UInt8.ofNat n.toNat)) s).data.toList=s.data.toList++ns.map (fun n=>UInt8.ofNat n.toNat):=by
 induction ns with
 |nil=>intro s; simp
 |cons n ns ih=>intro s; simp [ih,ByteArray.data_push]
theorem eu.JG{ρ:Env}{m:List IE}{bs:List UInt8}(h:bs.map (fun b=>(b.toNat:Int))=m.map (·.ev ρ)):
 eu ρ m ((m.map (·.ev ρ)).foldl (fun r n=>r.push (UInt8.ofNat n.toNat)) ByteArray.empty):=by
 unfold eu;rw [foldl_push,<-h];simp [Function.comp_def]
theorem Q6{C:Ctx}{P:Program}{ρ:Env}(hC:C.Ok P ρ){B:Nat->Prop}{W w:World}{f:Ren}{h:T ah}(hr:au ρ B W f h w){s d:TypeId}{x:ab}{x':Value}{v:ab}(hx:ai ρ f x x')(hl:PJ C h s d x=some v):
 ∃v',(convert s d x').run P w= .ok v' w/\ai ρ f v v':=by
 unfold PJ at hl;split at hl
 ·rename_i u k l e hs hd;have hs:=Ctx.ax hC hs;have hd:=Ctx.ax hC hd;cases hx; cases hl;refine ⟨.int k (k.wrap (e.ev ρ)),?_,by rw [<- f8 hC.bd]; exact .int k _⟩
  simp only [convert,Sem.run_bind,run_underlying hs,run_underlying hd,Result.andThen_ok,Conv.intToInt,Sem.run_pure]
 ·rename_i l hs hd;have hs:=Ctx.ax hC hs;have hd:=Ctx.ax hC hd;cases hx; rename_i st hst;cases hl;exact ⟨.string st,by simp only [convert,Sem.run_bind,run_underlying hs,run_underlying hd,Result.andThen_ok,Sem.run_pure],.str hst⟩
 ·rename_i e a n c g hs hd;have hs:=Ctx.ax hC hs;have hd:=Ctx.ax hC hd;split at hl
  ·rename_i he;have he:=Ctx.ax hC he;split at hl
   ·cases hl;cases hx;refine ⟨.string .empty,?_,.str rfl⟩;rw [run_convert_bytes_string w s d e _ _ _ hs he hd];simp [Conv.bytesToString]
   ·rename_i i o;split at hl
    ·cases hl
    ·rename_i l hg;split at hl
     ·rename_i m hm;cases hl
      have main: ∀(L:Loc),f i=some L-> ∀c',∃v',(convert s d (.slice (some ⟨L.blk,L.base+o,none⟩) n c')).run P w= .ok v' w/\ai ρ f (.str m) v':=by
       intro L hf c';obtain ⟨cs,h1,h2,h3⟩:=qw hr hf n o l hg;obtain ⟨bs,h4,h5⟩:=uU hC l m cs hm h1;have hrun:=bo (P:=P) h2 h3;refine ⟨_,?_,.str (eu.JG h5)⟩;rw [run_convert_bytes_string w s d e _ _ _ hs he hd];refine run_bytesToString w _ _ _ _ ?_;rw [hrun,h4,<-h5,List.map_map];rfl
      cases hx with
      |slice hf=>exact main _ hf _
      |sliceG hf _ _ _=>exact main _ hf _
      |sliceE hf hg' hs'=>
       rename_i o' c' L;simp [kU] at hg;subst hg;simp [iJ] at hm;subst hm;refine ⟨.string .empty,?_,.str rfl⟩;rw [run_convert_bytes_string w s d e _ _ _ hs he hd];refine (run_bytesToString w _ 0 c' [] ?_).trans rfl;simp [loadCells,loadCellsFrom]
     ·cases hl
  ·cases hl
 ·rename_i e i n hs hd;have hs:=Ctx.ax hC hs;have hd:=Ctx.ax hC hd;split at hl
  ·rename_i he;have he:=Ctx.ax hC he;split at hl
   ·cases hl
   ·rename_i l hg;split at hl
    ·rename_i m hm;cases hl;cases hx with
     |sliceA hf h0 hc hz=>
      rename_i c' L;obtain ⟨cs,h1,h2,h3⟩:=qw hr hf n 0 l hg;obtain ⟨bs,h4,h5⟩:=uU hC l m cs hm h1;have hrun:=bo (P:=P) h2 h3;refine ⟨_,?_,.str (eu.JG h5)⟩;rw [run_convert_bytes_string w s d e _ _ _ hs he hd];refine run_bytesToString w _ _ _ _ ?_;have e0:((IE.lit (Int.ofNat n)).ev ρ).toNat=n:=rfl;rw [e0];rw [Nat.add_zero] at hrun;rw [hrun,h4,<-h5,List.map_map];rfl
     |sliceN hl0=>
      rename_i a
      have hn:n=0:=by
       have:((n:Nat):Int)=0:=hl0;omega
      subst hn;simp [kU] at hg;subst hg;simp [iJ] at hm;subst hm;refine ⟨.string .empty,?_,.str rfl⟩;rw [run_convert_bytes_string w s d e _ _ _ hs he hd];cases a with
      |none=>simp [Conv.bytesToString]
      |some b=>
       refine (run_bytesToString w b 0 0 [] ?_).trans rfl;exact run_loadCells_list w b [] (fun j v hv=>by simp at hv)
    ·cases hl
  ·cases hl
 ·cases hl
def PW(C:Ctx)(a b:ab):Option Bool:=
 match a,b with
 | .int k x,.int l y=>
   match bf k l with
   |true=>settle C.dec (mkEq C.bd x y)
   |false=>none
 | .str x,.str y=>jb C x y
 |_,_=>none
def N2:ab->TypeDesc->Bool
 | .int _ _,.int _=>true
 | .str _,.string=>true
 |_,_=>false
def uy(C:Ctx)(k:ab):List (ab×ab)->Nat->Option (Option (Nat×ab))
 | [],_=>some none
 |e::es,i=>
  match PW C k e.1 with
  |some true=>some (some (i,e.2))
  |some false=>uy C k es (i+1)
  |none=>none
def i6(ρ:Env)(f:Ren)(es:List (ab×ab))(es':List MapEntry):Prop:=
 es'.length=es.length/\ ∀(i:Nat) (e:ab×ab) (e':MapEntry),es[i]? =some e->es'[i]? =some e'->ai ρ f e.1 e'.key/\ai ρ f e.2 e'.val
theorem FN{C:Ctx}{P:Program}{ρ:Env}(hC:C.Ok P ρ){f:Ren}{a b:ab}{a' b':Value}{r:Bool}(ha:ai ρ f a a')(hb:ai ρ f b b')(h:PW C a b=some r){d:TypeDesc}(hf:N2 a d=true):Instr.sameNow d a' b'=some r:=by
 unfold PW at h;split at h
 ·rename_i k x l y;split at h
  ·rename_i hk;have:=aH hk;subst this;cases ha; cases hb;have hs:=aq hC.dec _ _ h;rw [dU hC.bd] at hs;cases d<;>simp [N2] at hf
   simp only [Instr.sameNow,if_true];rw [<- hs]
   congr 1
  ·cases h
 ·rename_i x y;cases ha; cases hb; rename_i s1 h1 s2 h2;cases d<;>simp [N2] at hf
  simp only [Instr.sameNow,beq_toListBytes,ma hC _ _ _ h]
  congr 1
  rw [Bool.eq_iff_iff];simp [h1.eq_iff h2]
 ·cases h
def rQ(C:Ctx)(t:TypeId)(k:ab):Bool:=
 match C.und t with
 |some d=>N2 k d
 |none=>false
theorem va{d:TypeDesc}{a b:Value}(h:Instr.sameNow d a b=some true):Instr.sameBits 10000 b a=true:=by
 unfold Instr.sameNow at h;split at h
 ·split at h
  ·rename_i hk;simp at h;simp [Instr.sameBits,hk,h]
  ·cases h
 ·rename_i a b;have e:(a==b)=true:=by simpa using h
  rw [beq_toListBytes] at e;have e':b.toList=a.toList:=(by simpa using e:a.toList=b.toList).symm
  simp only [Instr.sameBits,beq_toListBytes,e',beq_self_eq_true]
 ·simp at h;simp [Instr.sameBits,h]
 ·cases h
theorem yA{P:Program}{t:TypeId}{k':Value}{d:TypeDesc}(hd:P.underlying t=some d)(hk:(match d,k' with | .int _,.int _ _=>true | .string,.string _=>true |_,_=>false)=true)(n:Nat)(e:Bool)(w:World):
 (Instr.checkKey e (n+1) t k').run P w= .ok () w:=by
 unfold Instr.checkKey;simp only [Sem.run_bind,run_underlying hd,Result.andThen_ok];cases d<;>cases k'<;>simp at hk<;>rfl
theorem Hm{C:Ctx}{P:Program}{ρ:Env}(hC:C.Ok P ρ){f:Ren}{k:ab}{k':Value}(hk:ai ρ f k k'){d:TypeDesc}(hf:N2 k d=true){r:Option (Nat×ab)}:
 ∀(es:List (ab×ab)) (es':List MapEntry) (j:Nat),i6 ρ f es es'->uy C k es j=some r->
  (r=none/\Instr.findNow d k' es' j=some none)\/ ∃i v v' e',r=some (j+i,v)/\Instr.findNow d k' es' j=some (some (j+i,v'))/\ai ρ f v v'/\es'[i]? =some e'/\e'.val=v'/\Instr.sameNow d k' e'.key=some true:=by
 intro es
 induction es with
 |nil=>
  intro es' j he h;have:es'=[]:=List.eq_nil_of_length_eq_zero he.1;subst this;simp [uy] at h;exact .inl ⟨h.symm,rfl⟩
 |cons e es ih=>
  intro es' j he h;cases es' with
  |nil=>have:=he.1; simp at this
  |cons e' es'=>
   have h0:=he.2 0 e e' (by simp) (by simp)
   have he':i6 ρ f es es':=⟨by have:=he.1; simpa using this,fun i a a' x y=>he.2 (i+1) a a' (by simpa using x) (by simpa using y)⟩
   simp only [uy] at h;split at h
   ·rename_i hq;cases h;have hsn:=FN hC hk h0.1 hq hf;exact .inr ⟨0,e.2,e'.val,e',rfl,by simp [Instr.findNow,hsn],h0.2,by simp,rfl,hsn⟩
   ·rename_i hq;have hsn:=FN hC hk h0.1 hq hf
    rcases ih es' (j+1) he' h with ⟨r1,r2⟩ | ⟨i,v,v',e'',r1,r2,r3,r4,r5,r6⟩
    ·exact .inl ⟨r1,by simp [Instr.findNow,hsn,r2]⟩
    ·refine .inr ⟨i+1,v,v',e'',by rw [r1]; congr 2; omega,?_,r3,by simpa using r4,r5,r6⟩
     simp only [Instr.findNow,hsn,r2]
     congr 3; omega
   ·cases h
theorem ny{C:Ctx}{P:Program}{ρ:Env}(hC:C.Ok P ρ){f:Ren}{t:TypeId}{k:ab}{k':Value}(hk:ai ρ f k k')(ht:rQ C t k=true)(w:World){es:List (ab×ab)}{es':List MapEntry}(he:i6 ρ f es es')
 {r:Option (Nat×ab)} (h:uy C k es 0=some r):
 (∀ e,(Instr.checkKey e 10000 t k').run P w= .ok () w)/\
 ((r=none/\(Instr.findKey t k' es').run P w= .ok none w)\/ ∃i v v' e',r=some (i,v)/\(Instr.findKey t k' es').run P w= .ok (some (i,v')) w/\ai ρ f v v'/\es'[i]? =some e'/\e'.val=v'/\Instr.sameBits 10000 e'.key k'=true):=by
 unfold rQ at ht;split at ht
 ·rename_i d hu;have hd:=Ctx.ax hC hu;refine ⟨fun e=> ?_,?_⟩
  ·exact yA hd (by cases hk<;>cases d<;>simp [N2] at ht<;>rfl) 9999 e w
  ·rcases Hm hC hk ht es es' 0 he h with ⟨r1,r2⟩ | ⟨i,v,v',e'',r1,r2,r3,r4,r5,r6⟩
   ·exact .inl ⟨r1,by simp only [Instr.findKey,Sem.run_bind,run_underlying hd,Result.andThen_ok,r2,Sem.run_pure]⟩
   ·exact .inr ⟨i,v,v',e'',by simpa using r1,by simp only [Instr.findKey,Sem.run_bind,run_underlying hd,Result.andThen_ok,r2,Sem.run_pure,Nat.zero_add],r3,r4,r5,va r6⟩
 ·cases ht
def Ks(h:T ah):ab->Option (List (ab×ab))
 | .map none=>some []
 | .map (some r)=>
   match h.get r with
   |some (.map es)=>some es
   |_=>none
 |_=>none
def Jw(C:Ctx)(elem:TypeId)(ok:Bool):Option (Nat×ab)->Option ab
 |some (_,v)=>some (if ok then .tuple [v,.bool (.lit true)] else v)
 |none=>
  match kA C elem with
  |some z=>some (if ok then .tuple [z,.bool (.lit false)] else z)
  |none=>none
def Bb(C:Ctx)(h:T ah)(t:TypeId)(m k:ab)(ok:Bool):Option ab:=
 match C.und t with
 |some (.map key elem)=>
  match Ks h m with
  |none=>none
  |some es=>
   match rQ C key k with
   |false=>none
   |true=>
    match uy C k es 0 with
    |some r=>Jw C elem ok r
    |none=>none
 |_=>none
theorem JA{ρ:Env}{f:Ren}{v:ab}{v':Value}(h:ai ρ f v v')(b:Bool):ai ρ f (.tuple [v,.bool (.lit b)]) (.tuple #[v',.bool b]):=by
 have:=az.cons h (az.cons (.bool (.lit b)) az.nil);exact .tuple this.1 this.2
theorem Fo{P:Program}{ρ:Env}{B:Nat->Prop}{W w:World}{f:Ren}{h:T ah}(hr:au ρ B W f h w){m:ab}{m':Value}{es:List (ab×ab)}(hm:ai ρ f m m')(hes:Ks h m=some es):
 ∃es':Array MapEntry,i6 ρ f es es'.toList/\((m'= .map none/\es'= #[])\/ ∃b cl,m'= .map (some b)/\(getObj b).run P w= .ok (.map es' cl) w):=by
 unfold Ks at hes;split at hes
 ·cases hm; cases hes;exact ⟨#[],⟨rfl,by simp⟩,.inl ⟨rfl,rfl⟩⟩
 ·rename_i r;cases hm; rename_i L hf;split at hes
  ·rename_i es1 he;cases hes;obtain ⟨_,es',cl,q1,q2,q3⟩:=hr.obj _ L _ hf he;exact ⟨es',⟨by simpa using q2,by simpa using q3⟩,.inr ⟨L.blk,cl,rfl,by simp only [getObj,Sem.run,q1]⟩⟩
  ·cases hes
 ·cases hes
theorem GJ{C:Ctx}{P:Program}{ρ:Env}(hC:C.Ok P ρ){B:Nat->Prop}{W w:World}{f:Ren}{h:T ah}(hr:au ρ B W f h w){t:TypeId}{m k:ab}{m' k':Value}{ok:Bool}{v:ab}(hm:ai ρ f m m')(hk:ai ρ f k k')(hl:Bb C h t m k ok=some v):
 ∃v',(Instr.lookup t m' k' ok).run P w= .ok v' w/\ai ρ f v v':=by
 unfold Bb at hl;split at hl
 ·rename_i key elem hu;have hd:=Ctx.ax hC hu;split at hl
  ·cases hl
  ·rename_i es hes;split at hl
   ·cases hl
   ·rename_i hkf;split at hl
    ·rename_i r hf;obtain ⟨es',he,hm'⟩:=Fo (P:=P) hr hm hes;obtain ⟨h1,h2⟩:=ny hC hk hkf w he hf
     have run: ∀(q:Value×Bool) (u:Option (Nat×Value)),(Instr.findKey key k' es'.toList).run P w= .ok u w->(match u with
      |some (_,v)=>Result.ok (v,true) w
      |none=>((zeroValue elem).run P w).andThen fun z w'=> .ok (z,false) w')= .ok q w->
      (Instr.lookup t m' k' ok).run P w= .ok (if ok then .tuple #[q.1,.bool q.2] else q.1) w:=by
      intro q u hu1 hu2
      rcases hm' with ⟨rfl,rfl⟩ | ⟨b,cl,rfl,hg⟩
      ·unfold Instr.lookup;simp only [Sem.run_bind,run_underlying hd,Result.andThen_ok,Sem.run_pure,h1,hu1];cases u with
       |none=>
        simp only at hu2;cases hz:(zeroValue elem).run P w with
        |ok z w1=>rw [hz] at hu2; simp only [Result.andThen_ok,Result.ok.injEq] at hu2; obtain ⟨rfl,rfl⟩:=hu2; simp only [Sem.run_bind,hz,Result.andThen_ok,Sem.run_pure]
        |halt x w1=>rw [hz] at hu2; simp at hu2
       |some p=>simp only [Result.ok.injEq,and_true] at hu2; subst hu2; rfl
      ·unfold Instr.lookup;simp only [Sem.run_bind,run_underlying hd,Result.andThen_ok,Sem.run_pure,hg,h1,hu1];cases u with
       |none=>
        simp only at hu2;cases hz:(zeroValue elem).run P w with
        |ok z w1=>rw [hz] at hu2; simp only [Result.andThen_ok,Result.ok.injEq] at hu2; obtain ⟨rfl,rfl⟩:=hu2; simp only [Sem.run_bind,hz,Result.andThen_ok,Sem.run_pure]
        |halt x w1=>rw [hz] at hu2; simp at hu2
       |some p=>simp only [Result.ok.injEq,and_true] at hu2; subst hu2; rfl
     unfold Jw at hl;split at hl
     ·rename_i i u;cases hl
      rcases h2 with ⟨h2,_⟩ | ⟨i',u',v',e',h2,h3,h4,_⟩
      ·cases h2
      ·cases h2;refine ⟨_,run (v',true) _ h3 rfl,?_⟩;cases ok
       ·exact h4
       ·exact JA h4 true
     ·split at hl
      ·rename_i z hz;cases hl;obtain ⟨z',hz1,hz2,_⟩:=fI hC (f:=f) hz w
       rcases h2 with ⟨_,h3⟩ | ⟨i',u',v',e',h2,_⟩
       ·refine ⟨_,run (z',false) _ h3 (by simp only [hz1,Result.andThen_ok]),?_⟩
        cases ok
        ·exact hz2
        ·exact JA hz2 false
       ·cases h2
      ·cases hl
    ·cases hl
 ·cases hl
def BE.num:BE->Option IE
 | .lit true=>some (.lit 1)
 | .lit false=>some (.lit 0)
 | .var _=>none
 | .eq a b=>some (.sel false a b (.lit 1) (.lit 0))
 | .lt a b=>some (.sel true a b (.lit 1) (.lit 0))
 | .not t=>
   match BE.num t with
   |some e=>some (.sub (.lit 1) e)
   |none=>none
theorem BE.s7{ρ:Env}: ∀ {b:BE} {z:IE},b.num=some z->z.ev ρ=if b.ev ρ then 1 else 0:=by
 intro b
 induction b with
 |lit v=>intro z h; cases v<;>(cases h; simp [BE.ev,IE.ev])
 |var i=>intro z h; cases h
 |eq a b=>intro z h; cases h; simp [IE.ev,aA,BE.ev]
 |lt a b=>intro z h; cases h; simp [IE.ev,aA,BE.ev]
 |not t ih=>
  intro z h;simp only [BE.num] at h;split at h
  ·rename_i e he;cases h;have:=ih he;cases ht:t.ev ρ<;>simp [IE.ev,this,BE.ev,ht]
  ·cases h
theorem C0{ρ:Env}{b:BE}{z:IE}(h:b.num=some z){bd:Bd}(hb:ρ.ok bd){y:IE}(hy:y.ev ρ=z.ev ρ):(mkEq bd y (.lit 1)).ev ρ=b.ev ρ:=by
 rw [dU hb,hy,BE.s7 h];cases b.ev ρ<;>rfl
def wj(C:Ctx)(c0:T ab)(e:IE)(s c:Nat):Nat->Nat->Option IE
 |0,j=>
  match c0.get (j*s+c) with
  |some (.bool x)=>x.num
  |_=>none
 |n+1,j=>
  match c0.get (j*s+c) with
  |some (.bool x)=>
   match x.num,wj C c0 e s c n (j+1) with
   |some p,some y=>some (jY C.bd false e (.lit (.ofNat j)) p y)
   |_,_=>none
  |_=>none
theorem MH{C:Ctx}{P:Program}{ρ:Env}(hC:C.Ok P ρ){c0:T ab}{e:IE}{s c:Nat}: ∀(n j:Nat) (y:IE),wj C c0 e s c n j=some y-> ∀m:Nat,j<=m->m<=j+n->e.ev ρ=m->
 ∃x z,c0.get (m*s+c)=some (.bool x)/\x.num=some z/\y.ev ρ=z.ev ρ:=by
 intro n
 induction n with
 |zero=>
  intro j y h m h1 h2 hm;have:m=j:=by omega
  subst this;simp only [wj] at h;split at h
  ·rename_i x hx;exact ⟨x,y,hx,h,rfl⟩
  ·cases h
 |succ n ih=>
  intro j y h m h1 h2 hm;simp only [wj] at h;split at h
  ·rename_i x hx;split at h
   ·rename_i p z hp hz;cases h;rw [gw hC.bd];simp only [aA,Bool.false_eq_true,if_false,IE.ev,Int.ofNat_eq_natCast]
    by_cases hj:m=j
    ·subst hj;rw [if_pos hm];exact ⟨x,p,hx,hp,rfl⟩
    ·rw [if_neg (by omega)]
     exact ih _ _ hz m (by omega) (by omega) hm
   ·cases h
  ·cases h
def rK(C:Ctx)(e:IE):List ab->Nat->Option IE
 | [],_=>none
 | .bool x::l,j=>
   match l with
   | []=>x.num
   |l=>
    match x.num,rK C e l (j+1) with
    |some p,some y=>some (jY C.bd false e (.lit (.ofNat j)) p y)
    |_,_=>none
 |_::_,_=>none
theorem GI{C:Ctx}{P:Program}{ρ:Env}(hC:C.Ok P ρ){e:IE}: ∀(l:List ab) (j:Nat) (y:IE),rK C e l j=some y-> ∀m:Nat,m<l.length->e.ev ρ=(j+m:Nat)->
 ∃x z,l[m]? =some (.bool x)/\x.num=some z/\y.ev ρ=z.ev ρ:=by
 intro l
 induction l with
 |nil=>intro j y h; simp [rK] at h
 |cons a l ih=>
  intro j y h m hm he;unfold rK at h;split at h
  ·rename_i heq; cases heq
  ·rename_i x l' heq;cases heq;split at h
   ·have:m=0:=by simp at hm; omega
    subst this;exact ⟨x,y,rfl,h,rfl⟩
   ·split at h
    ·rename_i p z hp hz;cases h;rw [gw hC.bd];simp only [aA,Bool.false_eq_true,if_false,IE.ev,Int.ofNat_eq_natCast];cases m with
     |zero=>
      rw [if_pos (by simpa using he)]
      exact ⟨x,p,rfl,hp,rfl⟩
     |succ m=>
      rw [if_neg (by omega)]
      obtain ⟨u,q0,q1,q2,q3⟩:=ih _ _ hz m (by simpa using hm) (by omega)
      exact ⟨u,q0,by simpa using q1,q2,q3⟩
    ·cases h
  ·cases h
def Mo(C:Ctx)(e x:IE)(s c:Nat):Nat->Nat->T ab->Option (T ab)
 |0,_,c0=>some c0
 |n+1,j,c0=>
  match c0.get (j*s+c) with
  |some (.bool y)=>
   match y.num with
   |some q=>Mo C e x s c n (j+1) (c0.set (j*s+c) (.bool (mkEq C.bd (jY C.bd false e (.lit (.ofNat j)) x q) (.lit 1))))
   |none=>none
  |_=>none
theorem Tj{C:Ctx}{P:Program}{ρ:Env}(hC:C.Ok P ρ){e x:IE}{t:BE}(ht:t.num=some x){s c:Nat}(hs:0<s): ∀(n j:Nat) (c0 c1:T ab),Mo C e x s c n j c0=some c1-> ∀p v,c1.get p=some v->
 (∃ m y,j<=m/\m<j+n/\p=m*s+c/\c0.get p=some (.bool y)/\ ∃z,v= .bool z/\z.ev ρ=if e.ev ρ=(m:Int) then t.ev ρ else y.ev ρ)\/((∀ m,j<=m->m<j+n->p≠m*s+c)/\c0.get p=some v):=by
 intro n
 induction n with
 |zero=>intro j c0 c1 h p v hv; cases h; exact .inr ⟨fun m h1 h2=>by omega,hv⟩
 |succ n ih=>
  intro j c0 c1 h p v hv;have inj: ∀a b:Nat,a*s+c=b*s+c->a=b:=fun a b hab=>Nat.eq_of_mul_eq_mul_right hs (by omega)
  unfold Mo at h;split at h
  ·rename_i y hy;split at h
   ·rename_i q hq
    have hz:(mkEq C.bd (jY C.bd false e (.lit (.ofNat j)) x q) (.lit 1)).ev ρ=if e.ev ρ=(j:Int) then t.ev ρ else y.ev ρ:=by
     by_cases hj:e.ev ρ=(j:Int)
     ·rw [if_pos hj];exact C0 ht hC.bd (by rw [gw hC.bd]; simp [aA,IE.ev,hj])
     ·rw [if_neg hj];exact C0 hq hC.bd (by rw [gw hC.bd]; simp [aA,IE.ev,hj])
    rcases ih _ _ _ h p v hv with ⟨m',y',q1,q2,q3,q4,q5⟩ | ⟨q1,q2⟩
    ·rcases T.aB q4 with ⟨r1,r2⟩ | ⟨r1,r2⟩
     ·exfalso;have:=inj m' j (by omega)
      omega
     ·exact .inl ⟨m',y',by omega,by omega,q3,r2,q5⟩
    ·rcases T.aB q2 with ⟨r1,r2⟩ | ⟨r1,r2⟩
     ·exact .inl ⟨j,y,Nat.le_refl _,by omega,r1,by rw [r1]; exact hy,_,r2.symm,hz⟩
     ·refine .inr ⟨fun m' h1 h2=> ?_,r2⟩
      by_cases hj:m'=j
      ·subst hj; exact r1
      ·exact q1 m' (by omega) (by omega)
   ·cases h
  ·cases h
theorem Ig{C:Ctx}{e x:IE}{s c:Nat}(hs:0<s): ∀(n j:Nat) (c0 c1:T ab),Mo C e x s c n j c0=some c1-> ∀m,j<=m->m<j+n-> ∃y,c0.get (m*s+c)=some (.bool y):=by
 intro n
 induction n with
 |zero=>intro j c0 c1 h m h1 h2; omega
 |succ n ih=>
  intro j c0 c1 h m hm1 hm2;unfold Mo at h;split at h
  ·rename_i y hy;split at h
   ·by_cases hj:m=j
    ·subst hj; exact ⟨y,hy⟩
    ·obtain ⟨y',hy'⟩:=ih _ _ _ h m (by omega) (by omega)
     rcases T.aB hy' with ⟨e1,e2⟩ | ⟨_,e2⟩
     ·exact absurd (Nat.eq_of_mul_eq_mul_right hs (by omega)) hj
     ·exact ⟨y',e2⟩
   ·cases h
  ·cases h
def bnd(C:Ctx)(e n:IE):Bool:=
 match settle C.dec (mkLt C.bd e (.lit 0)) with
 |some false=>
  match settle C.dec (mkLt C.bd e n) with
  |some true=>true
  |_=>false
 |_=>false
theorem lU{C:Ctx}{P:Program}{ρ:Env}(hC:C.Ok P ρ){e n:IE}(h:bnd C e n=true):0<=e.ev ρ/\e.ev ρ<n.ev ρ:=by
 unfold bnd at h;split at h
 ·rename_i h1;split at h
  ·rename_i h2;have a:=aq hC.dec _ _ h1;have b:=aq hC.dec _ _ h2;rw [cK hC.bd] at a b;have a:=of_decide_eq_false a;have b:=of_decide_eq_true b;simp only [IE.ev] at a;omega
  ·cases h
 ·cases h
theorem Lz(ρ:Env)(a:IE)(n:Nat):(mkMul a (.lit (.ofNat n))).ev ρ=a.ev ρ*n:=by
 rw [fH];rfl
def nu(C:Ctx)(t:TypeId)(x ix:ab):Option ab:=
 match ix with
 | .int _ e=>
   match C.und t,x with
   |some (.array len el),.ptr (some (i,o))=>
    match bnd C e (.lit (.ofNat len)),C.size el with
    |true,some s=>some (.ptrE i e s o)
    |_,_=>none
   |some (.slice el),.slice (some (i,o)) len _ _=>
    match bnd C e (.lit (.ofNat len)),C.size el with
    |true,some s=>some (.ptrE i e s o)
    |_,_=>none
   |some (.slice el),.sliceS i st len s _=>
    match bnd C e len,C.size el with
    |true,some s'=>
     match Nat.beq s s' with
     |true=>some (.ptrE i (mkAdd st e) s 0)
     |false=>none
    |_,_=>none
   |some (.array len el),.ptrE i d s c=>
    match KL C.dec e,C.size el with
    |some (.ofNat n),some s'=>
     match Nat.ble (n+1) len with
     |true=>some (.ptrE i d s (c+n*s'))
     |false=>none
    |_,_=>none
   |_,_=>none
 |_=>none
theorem yy{C:Ctx}{P:Program}{ρ:Env}(hC:C.Ok P ρ){f:Ren}{t:TypeId}{x ix:ab}{x' ix':Value}{v:ab}(hx:ai ρ f x x')(hi:ai ρ f ix ix')(h:nu C t x ix=some v)(w:World):
 ∃v',(Instr.indexAt t x' ix').run P w= .ok v' w/\ai ρ f v v':=by
 unfold nu at h;split at h
 ·rename_i k e;cases hi;split at h
  ·rename_i len el i o hu;have hu:=Ctx.ax hC hu;cases hx; rename_i L hf;split at h
   ·rename_i s hb hs;have hb:=lU hC hb;cases h;refine ⟨.pointer (some ⟨L.blk,L.base+((e.ev ρ).toNat*s+o),none⟩),?_,.ptrE hf hb.1⟩;have hc:(0:Int)<=e.ev ρ/\e.ev ρ<(len:Int):=hb;simp only [Instr.indexAt,asIntOf,Sem.run_bind,run_underlying hu,Result.andThen_ok,Instr.sureAddr,Sem.run_pure,if_pos hc,Ctx.bh hC hs,bG]
    congr 4
    omega
   ·cases h
  ·rename_i el i o len c g hu;have hu:=Ctx.ax hC hu;split at h
   ·rename_i s hb hs;have hb:=lU hC hb;cases h;have hc:(0:Int)<=e.ev ρ/\e.ev ρ<(len:Int):=hb;cases hx with
    |slice hf=>
     rename_i L;refine ⟨.pointer (some ⟨L.blk,L.base+((e.ev ρ).toNat*s+o),none⟩),?_,.ptrE hf hb.1⟩;simp only [Instr.indexAt,asIntOf,Sem.run_bind,run_underlying hu,Result.andThen_ok,Instr.sureAddr,Sem.run_pure,if_pos hc,Ctx.bh hC hs,bG]
     congr 4
     omega
    |sliceG hf hn hc' hs'=>
     rename_i L;refine ⟨.pointer (some ⟨L.blk,L.base+((e.ev ρ).toNat*s+o),none⟩),?_,.ptrE hf hb.1⟩;simp only [Instr.indexAt,asIntOf,Sem.run_bind,run_underlying hu,Result.andThen_ok,Instr.sureAddr,Sem.run_pure,if_pos hc,Ctx.bh hC hs,bG]
     congr 4
     omega
    |sliceE hf hg hs'=>simp at hc; omega
   ·cases h
  ·rename_i el i st len s nn hu;have hu:=Ctx.ax hC hu;split at h
   ·rename_i s' hb hs;have hb:=lU hC hb;split at h
    ·rename_i hss;have:=Nat.eq_of_beq_eq_true hss;subst this;cases h;cases hx with
     |sliceS hf h0 hl hc=>
      rename_i L c;have hc:(0:Int)<=e.ev ρ/\e.ev ρ<((len.ev ρ).toNat:Int):=by omega
      have e1:(mkAdd st e).ev ρ=st.ev ρ+e.ev ρ:=bE ρ st e;refine ⟨.pointer (some ⟨L.blk,L.base+(((mkAdd st e).ev ρ).toNat*s+0),none⟩),?_,.ptrE hf (by omega)⟩
      simp only [Instr.indexAt,asIntOf,Sem.run_bind,run_underlying hu,Result.andThen_ok,Instr.sureAddr,Sem.run_pure,if_pos hc,Ctx.bh hC hs,bG]
      congr 4
      rw [e1,Int.toNat_add h0 hc.1,Nat.add_mul];omega
     |sliceZ hl ha=>omega
    ·cases h
   ·cases h
  ·rename_i len el i d s c hu;have hu:=Ctx.ax hC hu;cases hx; rename_i L hf h0;split at h
   ·rename_i n s' hn hs;have hn:e.ev ρ=(n:Int):=E2 hC.dec hn;split at h
    ·rename_i hle;have hle:=Nat.le_of_ble_eq_true hle;cases h;refine ⟨.pointer (some ⟨L.blk,L.base+((d.ev ρ).toNat*s+(c+n*s')),none⟩),?_,.ptrE hf h0⟩;have hc:(0:Int)<=(n:Int)/\(n:Int)<(len:Int):=by omega
     simp only [Instr.indexAt,asIntOf,Sem.run_bind,run_underlying hu,Result.andThen_ok,Instr.sureAddr,Sem.run_pure,hn,if_pos hc,Ctx.bh hC hs,bG,Int.toNat_natCast,Nat.add_assoc]
    ·cases h
   ·cases h
  ·cases h
 ·cases h
def mW(C:Ctx)(t:TypeId)(x:ab)(fld:Nat):Option ab:=
 match x,C.und t with
 | .ptrE i e s c,some (.struct fs)=>
   match fs[fld]? with
   |none=>none
   |some fd=>
    match C.size fd.type with
    |some (_+1)=>some (.ptrE i e s (c+fd.offset))
    |_=>none
 |_,_=>none
theorem wx{C:Ctx}{P:Program}{ρ:Env}(hC:C.Ok P ρ){f:Ren}{s:TypeId}{x:ab}{x':Value}{fld:Nat}{v:ab}(hx:ai ρ f x x')(h:mW C s x fld=some v)(w:World):
 ∃v',(Instr.fieldAt s x' fld).run P w= .ok v' w/\ai ρ f v v':=by
 unfold mW at h;split at h
 ·rename_i i e s c fs hu;have hu:=Ctx.ax hC hu;cases hx; rename_i L hf h0;split at h
  ·cases h
  ·rename_i fd hfd;split at h
   ·rename_i n hn;cases h;refine ⟨.pointer (some ⟨L.blk,L.base+((e.ev ρ).toNat*s+(c+fd.offset)),none⟩),?_,.ptrE hf h0⟩;simp only [Instr.fieldAt,Sem.run_bind,run_underlying hu,Result.andThen_ok,hfd,Instr.sureAddr,Sem.run_pure,fieldPlace,Ctx.bh hC hn,Nat.succ_ne_zero,if_false,bG,Nat.add_assoc]
   ·cases h
 ·cases h
def P6(C:Ctx)(e:IE):Option (Nat×Nat):=
 match (match rng C.bd e with
  |some (l,h)=>(pN (narrow e C.dec).1 l,lN (narrow e C.dec).2 h)
  |none=>narrow e C.dec) with
 | (some (.ofNat a),some (.ofNat b))=>
   match Nat.ble a b,Nat.ble (b-a) 300 with
   |true,true=>some (a,b)
   |_,_=>none
 |_=>none
theorem CS{C:Ctx}{P:Program}{ρ:Env}(hC:C.Ok P ρ){e:IE}{a b:Nat}(h:P6 C e=some (a,b)):a<=(e.ev ρ).toNat/\(e.ev ρ).toNat<=b/\a<=b/\0<=e.ev ρ:=by
 have hn:=gY e hC.dec;unfold P6 at h
 have key:within (match rng C.bd e with
  |some (l,h)=>(pN (narrow e C.dec).1 l,lN (narrow e C.dec).2 h)
  |none=>narrow e C.dec) (e.ev ρ):=by
  split
  ·rename_i l hh hr;have:=bD hC.bd e _ _ hr;exact ⟨oF hn.1 this.1,jt hn.2 this.2⟩
  ·exact hn
 split at h
 ·rename_i x y hx;rw [hx] at key;split at h
  ·rename_i h1 h2;have h1:=Nat.le_of_ble_eq_true h1;cases h;have k1:=key.1 _ rfl;have k2:=key.2 _ rfl;simp only [Int.ofNat_eq_natCast] at k1 k2;omega
  ·cases h
 ·cases h
def chain(C:Ctx)(c0:T ab)(k:IntKind)(e:IE)(s c:Nat):Nat->Nat->Option IE
 |0,j=>
  match c0.get (j*s+c) with
  |some (.int k' x)=>
   match bf k k' with
   |true=>some x
   |false=>none
  |_=>none
 |n+1,j=>
  match c0.get (j*s+c) with
  |some (.int k' x)=>
   match bf k k',chain C c0 k e s c n (j+1) with
   |true,some y=>some (jY C.bd false e (.lit (.ofNat j)) x y)
   |_,_=>none
  |_=>none
theorem Ry{C:Ctx}{P:Program}{ρ:Env}(hC:C.Ok P ρ){c0:T ab}{k:IntKind}{e:IE}{s c:Nat}: ∀(n j:Nat) (y:IE),chain C c0 k e s c n j=some y-> ∀m:Nat,j<=m->m<=j+n->e.ev ρ=m->
 ∃x,c0.get (m*s+c)=some (.int k x)/\y.ev ρ=x.ev ρ:=by
 intro n
 induction n with
 |zero=>
  intro j y h m h1 h2 hm;have:m=j:=by omega
  subst this;simp only [chain] at h;split at h
  ·rename_i k' x hx;split at h
   ·rename_i hk;have:=aH hk;subst this;cases h;exact ⟨_,hx,rfl⟩
   ·cases h
  ·cases h
 |succ n ih=>
  intro j y h m h1 h2 hm;simp only [chain] at h;split at h
  ·rename_i k' x hx;split at h
   ·rename_i z hk hz;have hkk:=aH hk;subst hkk;cases h;rw [gw hC.bd];simp only [aA,Bool.false_eq_true,if_false,IE.ev,Int.ofNat_eq_natCast]
    by_cases hj:m=j
    ·subst hj;rw [if_pos hm];exact ⟨x,hx,rfl⟩
    ·rw [if_neg (by omega)]
     exact ih _ _ hz m (by omega) (by omega) hm
   ·cases h
  ·cases h
def Lk(k:IntKind):ab->Option (IE×Nat)
 | .int k1 (.wrap k2 (.fn c x (.lit (.ofNat i)) _))=>
   match Nat.beq c 0&&(bf k k1&&bf k k2) with
   |true=>some (x,i)
   |false=>none
 |_=>none
theorem PF{ρ:Env}{k:IntKind}{v:ab}{x:IE}{i:Nat}(h:Lk k v=some (x,i)): ∃y,v= .int k y/\y.ev ρ=k.wrap (ag (x.ev ρ) i):=by
 unfold Lk at h;split at h
 ·rename_i k1 k2 c y j z;split at h
  ·rename_i hc;cases h;cases h0:Nat.beq c 0
   ·rw [h0] at hc; cases hc
   ·rw [h0] at hc;cases h1:bf k k1
    ·rw [h1] at hc; cases hc
    ·rw [h1] at hc;have e1:=aH h1;have e2:=aH (show bf k k2=true from hc)
     have e0:=Nat.eq_of_beq_eq_true h0;subst e0; subst e1; subst e2;exact ⟨_,rfl,rfl⟩
  ·cases h
 ·cases h
def Bl(c0:T ab)(k:IntKind)(x:IE)(s c:Nat):Nat->Nat->Nat->Bool
 |0,_,_=>true
 |n+1,j,d=>
  match c0.get (j*s+c) with
  |some v=>
   match Lk k v with
   |some (y,i)=>
    match Nat.beq i d with
    |true=>
     match x.eq y with
     |true=>Bl c0 k x s c n (j+1) (d+1)
     |false=>false
    |false=>false
   |none=>false
  |none=>false
theorem NS{ρ:Env}{c0:T ab}{k:IntKind}{x:IE}{s c:Nat}: ∀(n j d:Nat),Bl c0 k x s c n j d=true-> ∀m:Nat,j<=m->m<j+n-> ∃y,c0.get (m*s+c)=some (.int k y)/\y.ev ρ=k.wrap (ag (x.ev ρ) (d+(m-j):Nat)):=by
 intro n
 induction n with
 |zero=>intro j d _ m h1 h2; omega
 |succ n ih=>
  intro j d h m h1 h2;unfold Bl at h;split at h
  ·rename_i v hv;split at h
   ·rename_i y i hy;split at h
    ·rename_i hi;split at h
     ·rename_i hx;have hi:=Nat.eq_of_beq_eq_true hi;have hx:=IE.eq_eq hx;subst hi; subst hx;obtain ⟨z,q1,q2⟩:=PF (ρ:=ρ) hy
      by_cases hj:m=j
      ·subst hj;exact ⟨z,by rw [hv,q1],by rw [q2,Nat.sub_self,Nat.add_zero]⟩
      ·obtain ⟨z',a1,a2⟩:=ih _ _ h m (by omega) (by omega)
       refine ⟨z',a1,?_⟩;rw [a2,show i+1+(m-(j+1))=i+(m-j) by omega]
     ·cases h
    ·cases h
   ·cases h
  ·cases h
def I7(c0:T ab)(k:IntKind)(e:IE)(s c n j:Nat):Option IE:=
 match Nat.ble 3 n with
 |true=>
  match c0.get (j*s+c) with
  |some v=>
   match Lk k v with
   |some (x,d)=>
    match Nat.ble j d with
    |true=>
     match Bl c0 k x s c (n+1) j d with
     |true=>some (.wrap k (dG 0 x (mkAdd e (.lit (.ofNat (d-j)))) (.lit 0)))
     |false=>none
    |false=>none
   |none=>none
  |none=>none
 |false=>none
theorem MW{ρ:Env}{c0:T ab}{k:IntKind}{e:IE}{s c n j:Nat}{y:IE}(h:I7 c0 k e s c n j=some y)(m:Nat)(h1:j<=m)(h2:m<=j+n)(hm:e.ev ρ=m): ∃x,c0.get (m*s+c)=some (.int k x)/\y.ev ρ=x.ev ρ:=by
 unfold I7 at h;split at h
 ·split at h
  ·split at h
   ·rename_i x d _;split at h
    ·rename_i hjd;split at h
     ·rename_i hr;cases h;have hjd:=Nat.le_of_ble_eq_true hjd;obtain ⟨z,a1,a2⟩:=NS (ρ:=ρ) _ _ _ hr m h1 (by omega)
      refine ⟨z,a1,?_⟩;rw [a2];show k.wrap ((dG 0 x (mkAdd e (.lit (.ofNat (d-j)))) (.lit 0)).ev ρ)=_;rw [cz,bE,hm];show k.wrap (ag (x.ev ρ) ((m:Int)+((d-j:Nat):Int)))=_;rw [show ((m:Int)+((d-j:Nat):Int))=((d+(m-j):Nat):Int) by omega]
     ·cases h
    ·cases h
   ·cases h
  ·cases h
 ·cases h
def CP(C:Ctx)(c0:T ab)(k:IntKind)(e:IE)(s c:Nat):Nat->Nat->Option IE
 |0,j=>chain C c0 k e s c 0 j
 |n+1,j=>
  match I7 c0 k e s c (n+1) j with
  |some y=>some y
  |none=>
   match c0.get (j*s+c) with
   |some (.int k' x)=>
    match bf k k',CP C c0 k e s c n (j+1) with
    |true,some y=>some (jY C.bd false e (.lit (.ofNat j)) x y)
    |_,_=>none
   |_=>none
theorem LP{C:Ctx}{P:Program}{ρ:Env}(hC:C.Ok P ρ){c0:T ab}{k:IntKind}{e:IE}{s c:Nat}: ∀(n j:Nat) (y:IE),CP C c0 k e s c n j=some y-> ∀m:Nat,j<=m->m<=j+n->e.ev ρ=m->
 ∃x,c0.get (m*s+c)=some (.int k x)/\y.ev ρ=x.ev ρ:=by
 intro n
 induction n with
 |zero=>intro j y h m h1 h2 hm; exact Ry hC 0 j y h m h1 h2 hm
 |succ n ih=>
  intro j y h m h1 h2 hm;unfold CP at h;split at h
  ·rename_i y' hy;cases h;exact MW hy m h1 h2 hm
  ·split at h
   ·rename_i k' x hx;split at h
    ·rename_i z hk hz;have hkk:=aH hk;subst hkk;cases h;rw [gw hC.bd];simp only [aA,Bool.false_eq_true,if_false,IE.ev,Int.ofNat_eq_natCast]
     by_cases hj:m=j
     ·subst hj;rw [if_pos hm];exact ⟨x,hx,rfl⟩
     ·rw [if_neg (by omega)]
      exact ih _ _ hz m (by omega) (by omega) hm
    ·cases h
   ·cases h
def AV(C:Ctx)(h:T ah)(i:Nat)(e:IE)(s c:Nat):Option ab:=
 match h.get i with
 |some (.arr ks code n _)=>
  match Nat.beq s ks.length,bnd C e n with
  |true,true=>
   match ks[c]? with
   |some k=>some (.int k (mkWrap C.bd k (dG 0 code (mkAdd (mkMul e (.lit (.ofNat s))) (.lit (.ofNat c))) (.lit 0))))
   |none=>none
  |_,_=>none
 |some (.cells c0 _ _ _)=>
  match P6 C e with
  |some (a,b)=>
   match c0.get (a*s+c) with
   |some (.int k _)=>
    match CP C c0 k e s c (b-a) a with
    |some y=>some (.int k y)
    |none=>none
   |some (.bool _)=>
    match wj C c0 e s c (b-a) a with
    |some y=>some (.bool (mkEq C.bd y (.lit 1)))
    |none=>none
   |_=>none
  |none=>none
 |some (.win idx s' c0 _ _)=>
  match Nat.beq s s',e.eq idx with
  |true,true=>c0.get c
  |_,_=>none
 |some (.col s' c' k code m d n)=>
  match Nat.beq s s'&&Nat.beq c c',bnd C e n with
  |true,true=>some (.int k (mkWrap C.bd k (dG 0 code (mkAdd (mkMul e (.lit (.ofNat m))) (.lit (.ofNat d))) (.lit 0))))
  |_,_=>none
 |_=>none
theorem I4{ρ:Env}{e:IE}{s c:Nat}(h0:0<=e.ev ρ):(mkAdd (mkMul e (.lit (.ofNat s))) (.lit (.ofNat c))).ev ρ=((e.ev ρ).toNat*s+c:Nat):=by
 rw [bE,Lz];obtain ⟨m,hm⟩:=Int.eq_ofNat_of_zero_le h0;rw [hm];simp [IE.ev]
theorem Ae{C:Ctx}{P:Program}{ρ:Env}(hC:C.Ok P ρ){B:Nat->Prop}{W w:World}{f:Ren}{h:T ah}(hr:au ρ B W f h w){i:Nat}{L:Loc}(hf:f i=some L){e:IE}{s c:Nat}(h0:0<=e.ev ρ){v:ab}(hv:AV C h i e s c=some v):
 ∃v',w.cell? ⟨L.blk,L.base+((e.ev ρ).toNat*s+c),none⟩=some v'/\ai ρ f v v':=by
 unfold AV at hv;split at hv
 ·rename_i ks code n own hg;obtain ⟨cs,el,fr,h1,h2,h3,h4⟩:=hr.obj i L _ hf hg;split at hv
  ·rename_i hs hb;have hs:=Nat.eq_of_beq_eq_true hs;have hb:=lU hC hb;split at hv
   ·rename_i k hk;cases hv;obtain ⟨q1,q2,q3⟩:=h4 (e.ev ρ).toNat c k (by omega) hk
    subst hs;refine ⟨.int k (ag (code.ev ρ) ((e.ev ρ).toNat*ks.length+c:Nat)),by simp only [World.cell?,h1,q1]; rfl,?_⟩
    have e1:(mkWrap C.bd k (dG 0 code (mkAdd (mkMul e (.lit (.ofNat ks.length))) (.lit (.ofNat c))) (.lit 0))).ev ρ=ag (code.ev ρ) ((e.ev ρ).toNat*ks.length+c:Nat):=by
     rw [f8 hC.bd,cz,I4 h0];exact bI k _ q2 q3
    rw [<- e1];exact .int k _
   ·cases hv
  ·cases hv
 ·rename_i c0 el own top hg;obtain ⟨cs,fr,h1,h2,h3,h4⟩:=hr.obj i L _ hf hg;split at hv
  ·rename_i a b hi;obtain ⟨r1,r2,r3,r4⟩:=CS hC hi;split at hv
   ·rename_i k x0 hx0;split at hv
    ·rename_i y hy;cases hv;obtain ⟨x,q1,q2⟩:=LP hC _ _ _ hy (e.ev ρ).toNat r1 (by omega) (by omega)
     obtain ⟨_,v',p1,p2⟩:=h4 _ _ q1;refine ⟨v',by simp [World.cell?,h1,p1],?_⟩
     cases p2;rw [<- q2];exact .int k y
    ·cases hv
   ·rename_i x0 hx0;split at hv
    ·rename_i y hy;cases hv;obtain ⟨x,z,q1,q2,q3⟩:=MH hC _ _ _ hy (e.ev ρ).toNat r1 (by omega) (by omega)
     obtain ⟨_,v',p1,p2⟩:=h4 _ _ q1;refine ⟨v',by simp [World.cell?,h1,p1],?_⟩
     cases p2;rw [<- C0 q2 hC.bd q3];exact .bool _
    ·cases hv
   ·cases hv
  ·cases hv
 ·rename_i idx s' c0 el own hg;obtain ⟨cs,fr,h1,h2,h3,_,h4⟩:=hr.obj i L _ hf hg;split at hv
  ·rename_i hs he;have hs:=Nat.eq_of_beq_eq_true hs;have he:=IE.eq_eq he;subst hs he;obtain ⟨v',p1,p2⟩:=h4 _ _ hv;exact ⟨v',by simp [World.cell?,h1,p1],p2⟩
  ·cases hv
 ·rename_i s' c' k code m d n hg;obtain ⟨cs,el,fr,h1,h4⟩:=hr.obj i L _ hf hg;split at hv
  ·rename_i hs hb;cases hv;have hs:Nat.beq s s'=true/\Nat.beq c c'=true:=by simpa only [Bool.and_eq_true] using hs
   have hs1:=Nat.eq_of_beq_eq_true hs.1;have hs2:=Nat.eq_of_beq_eq_true hs.2;subst hs1 hs2;have hb:=lU hC hb;obtain ⟨q1,q2,q3⟩:=h4 (e.ev ρ).toNat (by omega)
   refine ⟨.int k (ag (code.ev ρ) ((e.ev ρ).toNat*m+d:Nat)),by simp only [World.cell?,h1,q1]; rfl,?_⟩
   have e1:(mkWrap C.bd k (dG 0 code (mkAdd (mkMul e (.lit (.ofNat m))) (.lit (.ofNat d))) (.lit 0))).ev ρ=ag (code.ev ρ) ((e.ev ρ).toNat*m+d:Nat):=by
    rw [f8 hC.bd,cz,I4 h0];exact bI k _ q2 q3
   rw [<- e1];exact .int k _
  ·cases hv
 ·cases hv
def wu(C:Ctx)(h:T ah)(i:Nat)(e:IE)(s:Nat):Nat->Nat->Option (List ab)
 |0,_=>some []
 |n+1,c=>
  match AV C h i e s c with
  |none=>none
  |some v=>
   match wu C h i e s n (c+1) with
   |none=>none
   |some l=>some (v::l)
theorem Md{C:Ctx}{P:Program}{ρ:Env}(hC:C.Ok P ρ){B:Nat->Prop}{W w:World}{f:Ren}{h:T ah}(hr:au ρ B W f h w){i:Nat}{L:Loc}(hf:f i=some L){e:IE}{s:Nat}(h0:0<=e.ev ρ):
 ∀(n c:Nat) (l:List ab),wu C h i e s n c=some l-> ∃cs:List Value,az ρ f l cs.toArray/\cs.length=n/\ ∀j v',cs[j]? =some v'->w.cell? ⟨L.blk,L.base+((e.ev ρ).toNat*s+c)+j,none⟩=some v':=by
 intro n
 induction n with
 |zero=>intro c l hl; simp [wu] at hl; subst hl; exact ⟨[],az.nil,rfl,by simp⟩
 |succ n ih=>
  intro c l hl;simp only [wu] at hl;split at hl
  ·cases hl
  ·rename_i v hv;split at hl
   ·cases hl
   ·rename_i l' hl';cases hl;obtain ⟨v',h1,h2⟩:=Ae hC hr hf h0 hv;obtain ⟨cs,h3,h4,h5⟩:=ih _ _ hl';refine ⟨v'::cs,az.cons h2 h3,by simp [h4],fun j u hj=> ?_⟩
    cases j with
    |zero=>simp at hj; subst hj; simpa using h1
    |succ j=>
     have:=h5 j u (by simpa using hj)
     rw [show L.base+((e.ev ρ).toNat*s+c)+(j+1)=L.base+((e.ev ρ).toNat*s+(c+1))+j by omega]
     exact this
def lC(C:Ctx)(h:T ah)(t:TypeId):ab->Option ab
 | .ptrE i e s c=>
   match C.und t with
   |none=>none
   |some d=>
    match ME d with
    |true=>
     match C.size t with
     |none=>none
     |some n=>
      match wu C h i e s n c with
      |some l=>some (.agg l)
      |none=>none
    |false=>AV C h i e s c
 |_=>none
theorem nd{C:Ctx}{P:Program}{ρ:Env}(hC:C.Ok P ρ){B:Nat->Prop}{W w:World}{f:Ren}{h:T ah}(hr:au ρ B W f h w){t:TypeId}{x:ab}{x':Value}{v:ab}(hx:ai ρ f x x')(hl:lC C h t x=some v):
 ∃v',(Instr.loadAt t x').run P w= .ok v' w/\ai ρ f v v':=by
 unfold lC at hl;split at hl
 ·rename_i i e s c;cases hx; rename_i L hf h0;split at hl
  ·cases hl
  ·rename_i d hd;have hu:=Ctx.ax hC hd;split at hl
   ·rename_i ha;split at hl
    ·cases hl
    ·rename_i n hn;split at hl
     ·rename_i l hg;cases hl;obtain ⟨cs,h1,h2,h3⟩:=Md hC hr hf h0 n c l hg;have:=bo (P:=P) h2 h3;exact ⟨.agg cs.toArray,by simp only [Instr.loadAt,Instr.sureAddr,Sem.run_bind,Sem.run_pure,Result.andThen_ok,loadVar,gf hu,ha,if_true,Ctx.bh hC hn,this],.agg h1.1 h1.2⟩
     ·cases hl
   ·rename_i ha;obtain ⟨v',h1,h2⟩:=Ae hC hr hf h0 hl;exact ⟨v',by simp only [Instr.loadAt,Instr.sureAddr,Sem.run_bind,Sem.run_pure,Result.andThen_ok,loadVar,gf hu,ha,Bool.false_eq_true,if_false,run_load,h1],h2⟩
 ·cases hl
def reE(h:T ah):ab->ab
 | .ptr (some (i,o))=>
   match h.get i with
   |some (.arr ks _ _ _)=> .ptrE i (.lit (.ofNat (Nat.div o ks.length))) ks.length (Nat.mod o ks.length)
   |_=> .ptr (some (i,o))
 |v=>v
theorem Ck{ρ:Env}{f:Ren}{h:T ah}{x:ab}{x':Value}(hx:ai ρ f x x'):ai ρ f (reE h x) x':=by
 unfold reE;split
 ·rename_i i o;split
  ·rename_i ks _ _ _ _;cases hx with
   |ptr hf=>
    rename_i L;have:=ai.ptrE (ρ:=ρ) (f:=f) (i:=i) (s:=ks.length) (c:=Nat.mod o ks.length) (idx:= .lit (.ofNat (Nat.div o ks.length))) hf (Int.natCast_nonneg _)
    have e:((IE.lit (.ofNat (Nat.div o ks.length))).ev ρ).toNat*ks.length+Nat.mod o ks.length=o:=by
     show o / ks.length*ks.length+o % ks.length=o;rw [Nat.mul_comm];exact Nat.div_add_mod o ks.length
    rw [e] at this;exact this
  ·exact hx
 ·exact hx
def HS(C:Ctx)(h:T ah)(t:TypeId)(x:ab):Option ab:=lC C h t (reE h x)
theorem Lw{C:Ctx}{P:Program}{ρ:Env}(hC:C.Ok P ρ){B:Nat->Prop}{W w:World}{f:Ren}{h:T ah}(hr:au ρ B W f h w){t:TypeId}{x:ab}{x':Value}{v:ab}(hx:ai ρ f x x')(hl:HS C h t x=some v):
 ∃v',(Instr.loadAt t x').run P w= .ok v' w/\ai ρ f v v':=nd hC hr (Ck hx) hl
def wX(C:Ctx)(k:IntKind)(e:IE):List ab->Nat->Option IE
 | [],_=>none
 | [.int k' x],_=>
   match bf k k' with
   |true=>some x
   |false=>none
 | .int k' x::l,j=>
   match bf k k',wX C k e l (j+1) with
   |true,some y=>some (jY C.bd false e (.lit (.ofNat j)) x y)
   |_,_=>none
 |_::_,_=>none
theorem LY{C:Ctx}{P:Program}{ρ:Env}(hC:C.Ok P ρ){k:IntKind}{e:IE}: ∀(l:List ab) (j:Nat) (y:IE),wX C k e l j=some y-> ∀m:Nat,m<l.length->e.ev ρ=(j+m:Nat)->
 ∃x,l[m]? =some (.int k x)/\y.ev ρ=x.ev ρ:=by
 intro l
 induction l with
 |nil=>intro j y h; simp [wX] at h
 |cons a l ih=>
  intro j y h m hm he;unfold wX at h;split at h
  ·rename_i heq; cases heq
  ·rename_i k' x heq;cases heq;have:m=0:=by simp at hm; omega
   subst this;split at h
   ·rename_i hk;have:=aH hk;subst this;cases h;exact ⟨_,rfl,rfl⟩
   ·cases h
  ·rename_i k' x l' hne heq;cases heq;split at h
   ·rename_i z hk hz;have:=aH hk;subst this;cases h;rw [gw hC.bd];simp only [aA,Bool.false_eq_true,if_false,IE.ev,Int.ofNat_eq_natCast];cases m with
    |zero=>
     rw [if_pos (by simpa using he)]
     exact ⟨x,rfl,rfl⟩
    |succ m=>
     rw [if_neg (by omega)]
     obtain ⟨u,q1,q2⟩:=ih _ _ hz m (by simpa using hm) (by omega)
     exact ⟨u,by simpa using q1,q2⟩
   ·cases h
  ·cases h
def Bc(C:Ctx)(t:TypeId)(x ix:ab):Option ab:=
 match ix with
 | .int _ e=>
   match C.und t,x with
   |some (.array len el),.agg cs=>
    match bnd C e (.lit (.ofNat len)),Nat.beq cs.length len,C.und el,C.size el with
    |true,true,some (.int k),some 1=>
     match wX C k e cs 0 with
     |some y=>some (.int k y)
     |none=>none
    |true,true,some .bool,some 1=>
     match rK C e cs 0 with
     |some y=>some (.bool (mkEq C.bd y (.lit 1)))
     |none=>none
    |_,_,_,_=>none
   |some .string,.strS code len=>
    match bnd C e len with
    |true=>some (.int .u8 (mkWrap C.bd .u8 (dG 0 code e (.lit 0))))
    |false=>none
   |_,_=>none
 |_=>none
theorem GS{C:Ctx}{P:Program}{ρ:Env}(hC:C.Ok P ρ){f:Ren}{t:TypeId}{x ix:ab}{x' ix':Value}{v:ab}(hx:ai ρ f x x')(hi:ai ρ f ix ix')(h:Bc C t x ix=some v)(w:World):
 ∃v',(Instr.index t x' ix').run P w= .ok v' w/\ai ρ f v v':=by
 unfold Bc at h;split at h
 ·rename_i k0 e;cases hi;split at h
  ·rename_i len el cs hu;have hu:=Ctx.ax hC hu;cases hx; rename_i a' h1 h2;split at h
   ·rename_i k hb hl hk hs;have hb:=lU hC hb;have hl:=Nat.eq_of_beq_eq_true hl;have hk:=Ctx.ax hC hk;split at h
    ·rename_i y hy;cases h;have hc:(0:Int)<=e.ev ρ/\e.ev ρ<(len:Int):=hb;obtain ⟨u,q1,q2⟩:=LY hC cs 0 y hy (e.ev ρ).toNat (by omega) (by omega)
     obtain ⟨u',q3,q4⟩:=az.get (⟨h1,h2⟩:az ρ f cs a') q1;refine ⟨u',?_,?_⟩
     ·simp only [Instr.index,asIntOf,Sem.run_bind,run_underlying hu,Result.andThen_ok,Sem.run_pure,if_pos hc,Ctx.bh hC hs,Nat.mul_one,part,gf hk,ME,Bool.false_eq_true,if_false,q3]
     ·cases q4;rw [<- q2];exact .int k y
    ·cases h
   ·rename_i hb hl hk hs;have hb:=lU hC hb;have hl:=Nat.eq_of_beq_eq_true hl;have hk:=Ctx.ax hC hk;split at h
    ·rename_i y hy;cases h;have hc:(0:Int)<=e.ev ρ/\e.ev ρ<(len:Int):=hb;obtain ⟨u,z,q1,q2,q5⟩:=GI hC cs 0 y hy (e.ev ρ).toNat (by omega) (by omega)
     obtain ⟨u',q3,q4⟩:=az.get (⟨h1,h2⟩:az ρ f cs a') q1;refine ⟨u',?_,?_⟩
     ·simp only [Instr.index,asIntOf,Sem.run_bind,run_underlying hu,Result.andThen_ok,Sem.run_pure,if_pos hc,Ctx.bh hC hs,Nat.mul_one,part,gf hk,ME,Bool.false_eq_true,if_false,q3]
     ·cases q4;rw [<- C0 q2 hC.bd q5];exact .bool _
    ·cases h
   ·cases h
  ·rename_i code len hu;have hu:=Ctx.ax hC hu;cases hx; rename_i s hs hl;split at h
   ·rename_i hb;have hb:=lU hC hb;cases h;have hlt:(e.ev ρ).toNat<s.size:=by omega
    have hd:s.data[(e.ev ρ).toNat]? =some s[(e.ev ρ).toNat]:=by
     rw [Array.getElem?_eq_getElem hlt];rfl
    have hb8:=hs _ _ hd;have hsome:s[(e.ev ρ).toNat]? =some s[(e.ev ρ).toNat]:=by simp [hlt]
    refine ⟨.int .u8 s[(e.ev ρ).toNat].toNat,?_,?_⟩
    ·simp only [Instr.index,asIntOf,Sem.run_bind,run_underlying hu,Result.andThen_ok,Sem.run_pure,if_pos hb.1,hsome]
    ·have e1:(mkWrap C.bd .u8 (dG 0 code e (.lit 0))).ev ρ=(s[(e.ev ρ).toNat].toNat:Int):=by
      rw [f8 hC.bd,cz];have:fnI ρ 0 (code.ev ρ) (e.ev ρ) ((IE.lit 0).ev ρ)=ag (code.ev ρ) (e.ev ρ):=rfl;rw [this]
      have e2:ag (code.ev ρ) (e.ev ρ)=(s[(e.ev ρ).toNat].toNat:Int):=by
       rw [<- hb8,Int.toNat_of_nonneg hb.1]
      rw [e2];have:=s[(e.ev ρ).toNat].toNat_lt;exact bI .u8 _ (by simp [kLo]) (by simp [kHi]; omega)
     rw [<- e1];exact .int .u8 _
   ·cases h
  ·cases h
 ·cases h
def Rb(C:Ctx)(t:TypeId)(x:ab):Option ab:=
 match C.und t,x with
 |some .string,.strS _ len=>some (.int .i64 len)
 |some (.slice _),.sliceS _ _ len _ _=>some (.int .i64 len)
 |_,_=>none
theorem Q7{C:Ctx}{P:Program}{ρ:Env}(hC:C.Ok P ρ){w:World}{f:Ren}{t ty:TypeId}{x:ab}{x':Value}{v:ab}(hx:ai ρ f x x')(hl:Rb C t x=some v)(ts:Array TypeId)(xs:Array Value)(h0:ts[0]? =some t)(h1:xs[0]? =some x'):
 ∃v',(Builtin.len_ ts ty xs).run P w= .ok v' w/\ai ρ f v v':=by
 unfold Rb at hl;unfold Builtin.len_;simp only [h0,h1];split at hl
 ·rename_i code len hu;have hd:=Ctx.ax hC hu;cases hx; rename_i s h3 h2;cases hl;refine ⟨.int .i64 s.size,by simp only [Sem.run_bind,run_underlying hd,Result.andThen_ok,Sem.run_pure,goInt],?_⟩
  rw [<- h2]; exact .int _ len
 ·rename_i e i st len s nn hu;have hd:=Ctx.ax hC hu;cases hl;cases hx with
  |sliceS hf h0 hl hc=>
   refine ⟨.int .i64 ((len.ev ρ).toNat:Int),by simp only [Sem.run_bind,run_underlying hd,Result.andThen_ok,Sem.run_pure,goInt],?_⟩
   rw [Int.toNat_of_nonneg hl];exact .int _ len
  |sliceZ hl ha=>
   refine ⟨.int .i64 ((0:Nat):Int),by simp only [Sem.run_bind,run_underlying hd,Result.andThen_ok,Sem.run_pure,goInt],?_⟩
   have:((0:Nat):Int)=len.ev ρ:=by rw [hl]; rfl
   rw [this];exact .int _ len
 ·cases hl
def A3(d:IE):Option (Option ab)->Option IE
 |none=>some d
 |some (some (.int _ e))=>some e
 |_=>none
def AW(C:Ctx)(t:TypeId)(x:ab)(lo hi mx:Option (Option ab)):Option ab:=
 match C.und t,x,mx with
 |some (.slice el),.sliceS i st len s nn,none=>
  match A3 (.lit 0) lo,A3 len hi,C.size el with
  |some a,some b,some s'=>
   match Nat.beq s s',settle C.dec (mkLt C.bd a (.lit 0)),settle C.dec (mkLt C.bd b a),settle C.dec (mkLt C.bd len b) with
   |true,some false,some false,some false=>some (.sliceS i (mkAdd st a) (mkSub b a) s nn)
   |_,_,_,_=>none
  |_,_,_=>none
 |_,_,_=>none
theorem rl{ρ:Env}{f:Ren}{d e:IE}{o:Option (Option ab)}{o':Option Value}(h:dV ρ f o o')(he:A3 d o=some e):(o'=none/\e=d)\/ ∃k,o'=some (.int k (e.ev ρ)):=by
 unfold A3 at he;split at he
 ·cases he;cases o' with
  |none=>exact .inl ⟨rfl,rfl⟩
  |some v=>cases h
 ·cases he;cases o' with
  |none=>cases h
  |some v=>
   have h:ai ρ f _ v:=h;cases h;exact .inr ⟨_,rfl⟩
 ·cases he
theorem eB{P:Program}{w:World}{k:IntKind}{n:Int}{y:Nat}{c:BoundsCode}(h0:0<=n)(h:n<=y):(Instr.sliceBound (.int k n) y c).run P w= .ok n.toNat w:=by
 simp only [Instr.sliceBound,asIntOf,Sem.run_bind,Sem.run_pure,Result.andThen_ok,if_pos (⟨h0,h⟩:0<=n/\n<=(y:Int))]
theorem Iw{C:Ctx}{P:Program}{ρ:Env}(hC:C.Ok P ρ){f:Ren}{t:TypeId}{x:ab}{x':Value}{lo hi mx:Option (Option ab)}{lo' hi' mx':Option Value}{v:ab}(hx:ai ρ f x x')
 (h1:dV ρ f lo lo') (h2:dV ρ f hi hi') (h3:dV ρ f mx mx') (h:AW C t x lo hi mx=some v) (w:World):
 ∃v',(Instr.sliceAt t x' lo' hi' mx').run P w= .ok v' w/\ai ρ f v v':=by
 unfold AW at h;split at h
 ·rename_i el i st len s nn hu;have hu:=Ctx.ax hC hu
  have hmx:mx'=none:=by
   cases mx' with
   |none=>rfl
   |some v=>cases h3
  subst hmx;split at h
  ·rename_i a b s' ha hb hs;split at h
   ·rename_i hss q1 q2 q3;have hss:=Nat.eq_of_beq_eq_true hss;subst hss;have q1:=aq hC.dec _ _ q1;have q2:=aq hC.dec _ _ q2;have q3:=aq hC.dec _ _ q3;rw [cK hC.bd] at q1 q2 q3;have q1:=of_decide_eq_false q1;have q2:=of_decide_eq_false q2;have q3:=of_decide_eq_false q3;simp only [IE.ev] at q1;cases h
    have main: ∀(ad:Option Addr) (nn cc:Nat),len.ev ρ=nn->nn<=cc->(Instr.sliceAt t (.slice ad nn cc) lo' hi' none).run P w= .ok (.slice (if cc=(a.ev ρ).toNat then ad else ad.map (·.add ((a.ev ρ).toNat*s))) ((b.ev ρ).toNat-(a.ev ρ).toNat) (cc-(a.ev ρ).toNat)) w:=by
     intro ad nn cc hnn hcc
     have hbb:((match hi' with
      |some v=>Instr.sliceBound v cc (if true then .sliceAcap else .sliceAlen)
      |none=>pure nn):Sem Nat).run P w= .ok (b.ev ρ).toNat w:=by
      rcases rl h2 hb with ⟨rfl,rfl⟩ | ⟨k,rfl⟩
      ·simp [hnn]
      ·exact eB (by omega) (by omega)
     have haa:((match lo' with
      |some v=>Instr.sliceBound v (b.ev ρ).toNat (if (none:Option Value).isSome then .slice3C else .sliceB)
      |none=>pure 0):Sem Nat).run P w= .ok (a.ev ρ).toNat w:=by
      rcases rl h1 ha with ⟨rfl,rfl⟩ | ⟨k,rfl⟩
      ·simp [IE.ev]
      ·exact eB (by omega) (by omega)
     have hbd:(Instr.sliceBounds true nn cc lo' hi' none).run P w= .ok ((a.ev ρ).toNat,(b.ev ρ).toNat,cc) w:=by
      unfold Instr.sliceBounds;cases hi' with
      |none=>
       cases lo' with
       |none=>
        simp only [Sem.run_bind,Sem.run_pure,Result.andThen_ok] at hbb haa ⊢;simp only [Result.ok.injEq,and_true] at hbb haa;rw [<- hbb,<-haa]
       |some l=>
        simp only [Sem.run_bind,Sem.run_pure,Result.andThen_ok] at hbb haa ⊢;simp only [Result.ok.injEq,and_true] at hbb;rw [hbb];simp only [haa,Result.andThen_ok]
      |some u=>
       cases lo' with
       |none=>
        simp only [Sem.run_bind,Sem.run_pure,Result.andThen_ok] at hbb haa ⊢;simp only [Result.ok.injEq,and_true] at haa;simp only [hbb,Result.andThen_ok];rw [<- haa]
       |some l=>
        simp only [Sem.run_bind,Sem.run_pure,Result.andThen_ok] at hbb haa ⊢;simp only [hbb,Result.andThen_ok,haa]
     simp only [Instr.sliceAt,Instr.slice,Sem.run_bind,run_underlying hu,Result.andThen_ok,hbd,Ctx.bh hC hs,Sem.run_pure]
    have e1:(mkAdd st a).ev ρ=st.ev ρ+a.ev ρ:=bE ρ st a;have e2:(mkSub b a).ev ρ=b.ev ρ-a.ev ρ:=na ρ b a;cases hx with
    |sliceS hf h0 hl hc=>
     rename_i L c;refine ⟨_,main _ _ c (by omega) hc,?_⟩
     by_cases hca:c=(a.ev ρ).toNat
     ·rw [if_pos hca];have:(b.ev ρ).toNat-(a.ev ρ).toNat=0:=by omega
      rw [this];exact .sliceZ (by omega) (fun h=>by cases h)
     ·rw [if_neg hca];simp only [Option.map_some,bG]
      have e3:L.base+(st.ev ρ).toNat*s+(a.ev ρ).toNat*s=L.base+((mkAdd st a).ev ρ).toNat*s:=by
       rw [e1,Int.toNat_add h0 (by omega),Nat.add_mul]
       omega
      have e4:(b.ev ρ).toNat-(a.ev ρ).toNat=((mkSub b a).ev ρ).toNat:=by omega
      rw [e3,e4];exact .sliceS hf (by omega) (by omega) (by omega)
    |sliceZ hl hz=>
     rename_i ad c;refine ⟨_,main _ 0 c (by omega) (Nat.zero_le _),?_⟩
     have:(b.ev ρ).toNat-(a.ev ρ).toNat=0:=by omega
     rw [this];refine .sliceZ (by omega) (fun hn=> ?_)
     have ha0:(a.ev ρ).toNat=0:=by omega
     rw [ha0] at hn ⊢;split at hn
     ·exact ⟨by omega,(hz hn).2⟩
     ·cases ad with
      |none=>exact ⟨by simp [(hz rfl).1],(hz rfl).2⟩
      |some x=>simp at hn
   ·cases h
  ·cases h
 ·cases h
def AP(C:Ctx)(t:TypeId)(x:ab)(lo hi mx:Option (Option ab)):Option ab:=
 match C.und t,x,mx with
 |some (.slice el),.sliceA i len s,none=>
  match lo,A3 len hi,C.size el with
  |none,some b,some s'=>
   match Nat.beq s s',settle C.dec (mkLt C.bd b (.lit 0)),settle C.dec (mkLt C.bd len b) with
   |true,some false,some false=>some (.sliceA i b s)
   |_,_,_=>none
  |_,_,_=>none
 |_,_,_=>none
theorem Jd{C:Ctx}{P:Program}{ρ:Env}(hC:C.Ok P ρ){f:Ren}{t:TypeId}{x:ab}{x':Value}{lo hi mx:Option (Option ab)}{lo' hi' mx':Option Value}{v:ab}(hx:ai ρ f x x')
 (h1:dV ρ f lo lo') (h2:dV ρ f hi hi') (h3:dV ρ f mx mx') (h:AP C t x lo hi mx=some v) (w:World):
 ∃v',(Instr.sliceAt t x' lo' hi' mx').run P w= .ok v' w/\ai ρ f v v':=by
 unfold AP at h;split at h
 ·rename_i el i len s hu;have hu:=Ctx.ax hC hu
  have hmx:mx'=none:=by
   cases mx' with
   |none=>rfl
   |some v=>cases h3
  subst hmx;split at h
  ·rename_i b s' hb hs
   have hlo:lo'=none:=by
    cases lo' with
    |none=>rfl
    |some v=>cases h1
   subst hlo;split at h
   ·rename_i hss q1 q2;have hss:=Nat.eq_of_beq_eq_true hss;subst hss;have q1:=aq hC.dec _ _ q1;have q2:=aq hC.dec _ _ q2;rw [cK hC.bd] at q1 q2;have q1:=of_decide_eq_false q1;have q2:=of_decide_eq_false q2;simp only [IE.ev] at q1;cases h
    have main: ∀(ad:Option Addr) (nn cc:Nat),len.ev ρ=nn->nn<=cc->(Instr.sliceAt t (.slice ad nn cc) none hi' none).run P w= .ok (.slice (if cc=0 then ad else ad.map (·.add (0*s))) (b.ev ρ).toNat cc) w:=by
     intro ad nn cc hnn hcc
     have hbb:((match hi' with
      |some v=>Instr.sliceBound v cc (if true then .sliceAcap else .sliceAlen)
      |none=>pure nn):Sem Nat).run P w= .ok (b.ev ρ).toNat w:=by
      rcases rl h2 hb with ⟨rfl,rfl⟩ | ⟨k,rfl⟩
      ·simp [hnn]
      ·exact eB (by omega) (by omega)
     have hbd:(Instr.sliceBounds true nn cc none hi' none).run P w= .ok (0,(b.ev ρ).toNat,cc) w:=by
      unfold Instr.sliceBounds;cases hi' with
      |none=>
       simp only [Sem.run_bind,Sem.run_pure,Result.andThen_ok] at hbb ⊢;simp only [Result.ok.injEq,and_true] at hbb;rw [<- hbb]
      |some u=>
       simp only [Sem.run_bind,Sem.run_pure,Result.andThen_ok] at hbb ⊢;simp only [hbb,Result.andThen_ok]
     simp only [Instr.sliceAt,Instr.slice,Sem.run_bind,run_underlying hu,Result.andThen_ok,hbd,Ctx.bh hC hs,Sem.run_pure,Nat.sub_zero]
    cases hx with
    |sliceA hf h0 hc hz=>
     rename_i c L;refine ⟨_,main _ _ c (by omega) hc,?_⟩
     have e:(if c=0 then some (⟨L.blk,L.base,none⟩:Addr) else (some (⟨L.blk,L.base,none⟩:Addr)).map (·.add (0*s)))=some ⟨L.blk,L.base,none⟩:=by
      split
      ·rfl
      ·simp only [Option.map_some,bG,Nat.zero_mul,Nat.add_zero]
     rw [e];exact .sliceA hf (by omega) (by omega) hz
    |sliceN hl=>
     rename_i ad;refine ⟨_,main ad 0 0 hl (Nat.le_refl _),?_⟩;have hb0:b.ev ρ=0:=by omega
     rw [if_pos rfl,hb0];exact .sliceN hb0
   ·cases h
  ·cases h
 ·cases h
def bdN(bd:Bd)(dec:Dec):Bd:=fun i=>
 match bd i with
 |some (lo,hi)=>
  match pN (narrow (.var i) dec).1 lo,lN (narrow (.var i) dec).2 hi with
  |some a,some b=>some (a,b)
  |_,_=>some (lo,hi)
 |none=>none
theorem Hn{ρ:Env}{bd:Bd}{dec:Dec}(hρ:ρ.ok bd)(hd:dec.holds ρ):ρ.ok (bdN bd dec):=by
 intro i lo hi h;have hw:=gY (ρ:=ρ) (.var i) hd;unfold bdN at h;split at h
 ·rename_i l u hb;obtain ⟨h1,h2⟩:=hρ i _ _ hb;split at h
  ·rename_i a b ha hb2;cases h;exact ⟨oF hw.1 h1 _ ha,jt hw.2 h2 _ hb2⟩
  ·cases h;exact ⟨h1,h2⟩
 ·cases h
def oneOf(C:Ctx)(e:IE):Option Nat:=
 match rng (bdN C.bd C.dec) e with
 |some (.ofNat a,b)=>
  match aK (.ofNat a) b with
  |true=>some a
  |false=>none
 |_=>none
theorem O9{C:Ctx}{P:Program}{ρ:Env}(hC:C.Ok P ρ){e:IE}{n:Nat}(h:oneOf C e=some n):e.ev ρ=n:=by
 unfold oneOf at h;split at h
 ·rename_i a b hr;split at h
  ·rename_i hab;cases h;have hab:=ar hab;obtain ⟨h1,h2⟩:=bD (Hn hC.bd hC.dec) _ _ _ hr;rw [<- hab] at h2;have h1:(n:Int)<=e.ev ρ:=h1;have h2:e.ev ρ<=(n:Int):=h2;omega
  ·cases h
 ·cases h
def W9(C:Ctx):ab->ab
 | .ptrE i e s c=>
   match oneOf C e with
   |some k=> .ptr (some (i,k*s+c))
   |none=> .ptrE i e s c
 |v=>v
theorem TR{C:Ctx}{P:Program}{ρ:Env}(hC:C.Ok P ρ){f:Ren}{v:ab}{v':Value}(h:ai ρ f v v'):ai ρ f (W9 C v) v':=by
 unfold W9;split
 ·rename_i i e s c;split
  ·rename_i k hk;have hk:=O9 hC hk;cases h with
   |ptrE hf h0=>
    rw [hk,Int.toNat_natCast];exact .ptr hf
  ·exact h
 ·exact h
def nj(C:Ctx)(t:TypeId)(x ix:ab):Option ab:=
 match nu C t x ix with
 |some v=>some (W9 C v)
 |none=>none
theorem wA{C:Ctx}{P:Program}{ρ:Env}(hC:C.Ok P ρ){f:Ren}{t:TypeId}{x ix:ab}{x' ix':Value}{v:ab}(hx:ai ρ f x x')(hi:ai ρ f ix ix')(h:nj C t x ix=some v)(w:World):
 ∃v',(Instr.indexAt t x' ix').run P w= .ok v' w/\ai ρ f v v':=by
 unfold nj at h;split at h
 ·rename_i v0 h0;cases h;obtain ⟨v',h1,h2⟩:=yy hC hx hi h0 w;exact ⟨v',h1,TR hC h2⟩
 ·cases h
theorem EY(n j:Nat):dig n (j+1)=dig (n / 2^80) j:=by
 unfold dig;rw [Nat.div_div_eq_div_mul,<-Nat.pow_add,show 80*(j+1)=80+80*j by omega]
theorem oR: ∀(n a b:Nat),(∀ j,j<n->dig a j=dig b j)->a % 2^(80*n)=b % 2^(80*n)
 |0,a,b,_=>by simp [Nat.mod_one]
 |n+1,a,b,h=>by
  have ih:=oR n (a / 2^80) (b / 2^80) fun j hj=>by rw [<- EY,<-EY]; exact h (j+1) (by omega)
  have h0:a % 2^80=b % 2^80:=by
   have:=h 0 (by omega)
   simpa [dig] using this
  have e:80*(n+1)=80+80*n:=by omega
  rw [e,Nat.pow_add,Nat.mod_mul,Nat.mod_mul,h0,ih]
theorem GQ{u v:Nat}(hu:u<2^80)(hv:v<2^80)(h:ff u=ff v):u=v:=by
 unfold ff at h;split at h<;>split at h<;>omega
theorem MS{c d:Int}{n:Nat}(h: ∀j,j<n->ag c j=ag d j):aY c 0 n=aY d 0 n:=by
 have e: ∀x:Int,aY x 0 n=((x.toNat % 2^(80*n):Nat):Int):=fun x=>by
  have h1:(aY x ((0:Nat):Int) ((n:Nat):Int)).toNat=_:=jg x 0 n;have h0:(0:Int)<=aY x ((0:Nat):Int) ((n:Nat):Int):=by unfold aY; exact Int.natCast_nonneg _
  show aY x ((0:Nat):Int) ((n:Nat):Int)=_;rw [<- Int.toNat_of_nonneg h0,h1];simp
 rw [e,e]
 congr 1
 refine oR n _ _ fun j hj=> ?_
 have:=h j hj;rw [bx,bx] at this;exact GQ (by unfold dig; exact Nat.mod_lt _ (by decide)) (by unfold dig; exact Nat.mod_lt _ (by decide)) this
theorem Hq{c d:Int}{n:Nat}(h:aY c 0 n=aY d 0 n)(j:Nat)(hj:j<n):ag c j=ag d j:=by
 have a:=ch c 0 n j hj;have b:=ch d 0 n j hj;rw [show ((0:Nat):Int)=0 from rfl] at a b
 rw [h,b] at a
 simpa using a.symm
def xS:List IE->Nat->IE->IE
 | [],_,acc=>acc
 |e::l,j,acc=>xS l (j+1) (dG 1 acc (.lit (.ofNat j)) e)
def C8(v:Int):Prop:=0<=v/\v<=255
theorem yT{ρ:Env}: ∀(l:List IE) (j:Nat) (acc:IE),(∀ e∈l,C8 (e.ev ρ))-> ∀i:Nat,ag ((xS l j acc).ev ρ) i=(if i<j then ag (acc.ev ρ) i else match l[i-j]? with |some e=>e.ev ρ |none=>ag (acc.ev ρ) i)
 | [],j,acc,_,i=>by simp [xS]
 |e::l,j,acc,h,i=>by
  have he:=h e (by simp)
  rw [xS,yT l (j+1) _ (fun x hx=>h x (by simp [hx])) i]
  have hs:ag ((dG 1 acc (.lit (.ofNat j)) e).ev ρ) i=if i=j then e.ev ρ else ag (acc.ev ρ) i:=by
   rw [cz];show ag (aD (acc.ev ρ) ((j:Nat):Int) (e.ev ρ)) ((i:Nat):Int)=_;exact fF _ _ j i (k:= .u8) he.1 he.2
  by_cases h1:i<j
  ·rw [if_pos (by omega),if_pos h1,hs,if_neg (by omega)]
  ·rw [if_neg h1]
   by_cases h2:i=j
   ·subst h2;rw [if_pos (by omega),hs,if_pos rfl]
    simp
   ·rw [if_neg (by omega),show i-j=(i-(j+1))+1 by omega,List.getElem?_cons_succ,hs,if_neg h2]
def toS:ab->Option (IE×IE)
 | .strS c l=>some (c,l)
 | .str l=>some (xS l 0 (.lit 0),.lit (.ofNat l.length))
 |_=>none
def kI(ρ:Env)(c l:IE)(s:ByteArray):Prop:=l.ev ρ=s.size/\ ∀(j:Nat) (b:UInt8),s.data[j]? =some b->ag (c.ev ρ) j=b.toNat
theorem yJ{ρ:Env}{f:Ren}{x:ab}{x':Value}{c l:IE}(hx:ai ρ f x x')(h:toS x=some (c,l)): ∃s,x'= .string s/\kI ρ c l s:=by
 unfold toS at h;split at h
 ·cases h;cases hx;rename_i s hs hl;exact ⟨s,rfl,hl,hs⟩
 ·cases h;cases hx;rename_i m s hs
  have hb: ∀e∈m,C8 (e.ev ρ):=fun e he=>by
   have:e.ev ρ∈m.map (·.ev ρ):=List.mem_map_of_mem he;rw [<- hs] at this;obtain ⟨b,_,hb⟩:=List.mem_map.1 this;have:=b.toNat_lt;unfold C8;omega
  refine ⟨s,rfl,?_,fun j b hj=> ?_⟩
  ·show ((m.length:Nat):Int)=_;rw [hs.size]
  ·rw [yT m 0 _ hb j,if_neg (by omega)]
   have h2:(m.map (·.ev ρ))[j]? =some (b.toNat:Int):=by
    rw [<- hs,List.getElem?_map,Array.getElem?_toList,hj];rfl
   rw [List.getElem?_map] at h2;rw [Nat.sub_zero];cases hm:m[j]? with
   |none=>rw [hm] at h2; cases h2
   |some e=>rw [hm] at h2; simpa using h2
 ·cases h
theorem kI.val{ρ:Env}{f:Ren}{c l:IE}{s:ByteArray}(h:kI ρ c l s):ai ρ f (.strS c l) (.string s):= .strS h.1 h.2
theorem kI.len{ρ:Env}{c l:IE}{s:ByteArray}(h:kI ρ c l s):(l.ev ρ).toNat=s.size:=by have:=h.1; omega
def UM(C:Ctx)(len:IE):Option Nat:=
 match rng C.bd len with
 |some (_,h)=>
  match lN (narrow len C.dec).2 h with
  |some (.ofNat n)=>some n
  |_=>none
 |none=>
  match (narrow len C.dec).2 with
  |some (.ofNat n)=>some n
  |_=>none
theorem J6{C:Ctx}{P:Program}{ρ:Env}(hC:C.Ok P ρ){len:IE}{n:Nat}(h:UM C len=some n):len.ev ρ<=n:=by
 have hw:=gY (ρ:=ρ) len hC.dec;unfold UM at h;split at h
 ·rename_i lo hi hr;have hb:=(bD hC.bd len lo hi hr).2;split at h
  ·rename_i m hm;cases h;exact jt hw.2 hb _ hm
  ·cases h
 ·split at h
  ·rename_i m hm;cases h;exact hw.2 _ hm
  ·cases h
def AX(c n:IE):IE:=dG 2 c (.lit 0) n
def PI(C:Ctx)(a b:IE):Option Bool:=settle C.dec (mkEq C.bd a b)
def isNil:ab->Bool
 | .str []=>true
 |_=>false
def VP(C:Ctx)(x y:ab):Option ab:=
 match toS x,toS y with
 |some (a,l),some (b,m)=>
  match UM C l,UM C m with
  |some p,some q=>
   match Nat.ble (Nat.add p q) 4611686018427387904 with
   |true=>
    match isNil x,isNil y with
    |true,_=>some (.strS b m)
    |false,true=>some (.strS a l)
    |false,false=>some (.strS (dG 3 (AX a l) l b) (mkAdd l m))
   |false=>none
  |_,_=>none
 |_,_=>none
def BL(C:Ctx)(x y:ab):Option BE:=
 match toS x,toS y with
 |some (a,l),some (b,m)=>
  match PI C l m with
  |some true=>some (mkEq C.bd (AX a l) (AX b l))
  |some false=>some (.lit false)
  |none=>none
 |_,_=>none
def Ps(C:Ctx)(op:BinOp)(x y:ab):Option ab:=
 match op with
 | .add=>VP C x y
 | .eql=>
   match BL C x y with
   |some b=>some (.bool b)
   |none=>none
 | .neq=>
   match BL C x y with
   |some b=>some (.bool (mkNot b))
   |none=>none
 |_=>none
theorem BN{ρ:Env}{c n:IE}(h:0<=n.ev ρ):(AX c n).ev ρ=aY (c.ev ρ) 0 ((n.ev ρ).toNat:Nat):=by
 unfold AX;rw [cz];show aY (c.ev ρ) 0 (n.ev ρ)=_;rw [Int.toNat_of_nonneg h]
theorem kI.eq_iff{ρ:Env}{a l b m:IE}{s t:ByteArray}(h:kI ρ a l s)(k:kI ρ b m t)(hl:l.ev ρ=m.ev ρ):s=t ↔ (AX a l).ev ρ=(AX b l).ev ρ:=by
 have hn:0<=l.ev ρ:=by rw [h.1]; omega
 rw [BN hn,BN hn,h.len];have hst:s.size=t.size:=by have:=h.1; have:=k.1; omega
 constructor
 ·intro e;subst e;refine MS fun j hj=> ?_
  have hd:s.data[j]? =some s.data[j]:=Array.getElem?_eq_getElem hj;rw [h.2 j _ hd,k.2 j _ hd]
 ·intro e
  have:s.data=t.data:=by
   refine Array.ext hst fun i hi hj=> ?_
   have e1:=h.2 i _ (Array.getElem?_eq_getElem hi);have e2:=k.2 i _ (Array.getElem?_eq_getElem hj);have:=Hq e i hi;rw [e1,e2] at this;exact UInt8.toNat_inj.1 (Int.ofNat_inj.1 this)
  cases s;cases t;simp at this;rw [this]
theorem kI.append{ρ:Env}{a l b m:IE}{s t:ByteArray}(h:kI ρ a l s)(k:kI ρ b m t):kI ρ (dG 3 (AX a l) l b) (mkAdd l m) (s++t):=by
 have hn:0<=l.ev ρ:=by rw [h.1]; omega
 refine ⟨?_,fun j u hj=> ?_⟩
 ·rw [bE,h.1,k.1];simp
 ·rw [cz];show ag (lS ((AX a l).ev ρ) (l.ev ρ) (b.ev ρ)) j=_;rw [BN hn,h.len,h.1];rw [ByteArray.data_append,Array.getElem?_append] at hj;split at hj
  ·rename_i hlt;rw [mf _ _ s.size j hlt];have:=ch (a.ev ρ) 0 s.size j hlt;rw [show ((0:Nat):Int)=0 from rfl] at this
   rw [this]
   simpa using h.2 j u hj
  ·rename_i hge;have hlow:=Am (a.ev ρ) 0 s.size;rw [show (0:Int)=((0:Nat):Int) from rfl,qy _ _ s.size j hlow (by have:s.data.size=s.size:=rfl; omega)]
   exact k.2 _ u hj
theorem DN{ρ:Env}{x:ab}{c l:IE}{s:ByteArray}(h:isNil x=true)(ht:toS x=some (c,l))(hs:kI ρ c l s):s= .empty:=by
 unfold isNil at h;split at h
 ·cases ht;have:s.size=0:=by have:=hs.1; simp [IE.ev] at this; omega
  cases s;rename_i d;have:d= #[]:=Array.eq_empty_of_size_eq_zero this;rw [this]; rfl
 ·cases h
theorem Al{C:Ctx}{P:Program}{ρ:Env}(hC:C.Ok P ρ){f:Ren}{x y:ab}{x' y':Value}{b:BE}(hx:ai ρ f x x')(hy:ai ρ f y y')(h:BL C x y=some b): ∃s t,x'= .string s/\y'= .string t/\b.ev ρ=decide (s=t):=by
 unfold BL at h;split at h
 ·rename_i a l b m h1 h2;obtain ⟨s,rfl,hs⟩:=yJ hx h1;obtain ⟨t,rfl,ht⟩:=yJ hy h2;refine ⟨s,t,rfl,rfl,?_⟩;unfold PI at h;split at h
  ·rename_i hl;cases h;have hl:=aq hC.dec _ _ hl;rw [dU hC.bd] at hl;rw [dU hC.bd,Bool.eq_iff_iff,decide_eq_true_iff,decide_eq_true_iff];exact (hs.eq_iff ht (of_decide_eq_true hl)).symm
  ·rename_i hl;cases h;have hl:=aq hC.dec _ _ hl;rw [dU hC.bd] at hl;have hl:=of_decide_eq_false hl;show false=decide (s=t)
   symm
   refine decide_eq_false fun e=>hl ?_
   rw [hs.1,ht.1,e]
  ·cases h
 ·cases h
theorem Ra{C:Ctx}{P:Program}{ρ:Env}(hC:C.Ok P ρ){f:Ren}{op:BinOp}{t:TypeId}{x y:ab}{x' y':Value}{v:ab}(X Y:Operand)
 (hx:ai ρ f x x') (hy:ai ρ f y y') (h:Ps C op x y=some v) (w:World):
 ∃v',(do eqGuard op t X Y x' y'; binOp op t x' y').run P w= .ok v' w/\ai ρ f v v':=by
 unfold Ps at h;split at h
 ·unfold VP at h;split at h
  ·rename_i a l b m h1 h2;obtain ⟨s,rfl,hs⟩:=yJ hx h1;obtain ⟨u,rfl,hu⟩:=yJ hy h2;split at h
   ·rename_i p q hp hq;have hp:=J6 hC hp;have hq:=J6 hC hq;split at h
    ·rename_i hle;have hle:p+q<=4611686018427387904:=Nat.le_of_ble_eq_true hle
     have hsz: ¬(((s.size+u.size:Nat):Int) > IntKind.i64.max):=by
      have:IntKind.i64.max=9223372036854775807:=by decide
      have e1:=hs.1;have e2:=hu.1;rw [this]; omega
     have g:(eqGuard .add t X Y (.string s) (.string u)).run P w= .ok () w:=rfl;refine ⟨.string (s++u),by simp only [Sem.run_bind,g,Result.andThen_ok,binOp,Op.stringOp,if_neg hsz,Sem.run_pure],?_⟩
     split at h
     ·rename_i hn;cases h;rw [DN hn h1 hs];have:ByteArray.empty++u=u:=by simp
      rw [this];exact hu.val
     ·rename_i hn;cases h;rw [DN hn h2 hu];have:s++ByteArray.empty=s:=by simp
      rw [this];exact hs.val
     ·cases h;exact (hs.append hu).val
    ·cases h
   ·cases h
  ·cases h
 ·split at h
  ·rename_i b hb;cases h;obtain ⟨s,u,rfl,rfl,e⟩:=Al hC hx hy hb;have g:(eqGuard .eql t X Y (.string s) (.string u)).run P w= .ok () w:=rfl;refine ⟨.bool (b.ev ρ),?_,.bool b⟩;simp only [Sem.run_bind,g,Result.andThen_ok,binOp,Op.stringOp,Sem.run_pure]
   congr 2
   rw [e,Bool.eq_iff_iff];simp [ByteArray.toList_eq,ByteArray.ext_iff,Array.toList_inj]
  ·cases h
 ·split at h
  ·rename_i b hb;cases h;obtain ⟨s,u,rfl,rfl,e⟩:=Al hC hx hy hb;have g:(eqGuard .neq t X Y (.string s) (.string u)).run P w= .ok () w:=rfl;refine ⟨.bool (!(b.ev ρ)),?_,?_⟩
   ·simp only [Sem.run_bind,g,Result.andThen_ok,binOp,Op.stringOp,Sem.run_pure]
    congr 3
    rw [e,Bool.eq_iff_iff];simp [ByteArray.toList_eq,ByteArray.ext_iff,Array.toList_inj]
   ·have:=mB ρ b;rw [<- this];exact .bool _
  ·cases h
 ·cases h
def D9(c a n:IE):IE:=match a with
 | .lit (.ofNat 0)=>c
 |a=>dG 2 c a n
def BW(C:Ctx)(t:TypeId)(x:ab)(lo hi mx:Option (Option ab)):Option ab:=
 match C.und t,toS x,mx with
 |some .string,some (c,len),none=>
  match A3 (.lit 0) lo,A3 len hi with
  |some a,some b=>
   match settle C.dec (mkLt C.bd a (.lit 0)),settle C.dec (mkLt C.bd b a),settle C.dec (mkLt C.bd len b) with
   |some false,some false,some false=>some (.strS (D9 c a (mkSub b a)) (mkSub b a))
   |_,_,_=>none
  |_,_=>none
 |_,_,_=>none
theorem HV{C:Ctx}{P:Program}{ρ:Env}(hC:C.Ok P ρ){f:Ren}{t:TypeId}{x:ab}{x':Value}{lo hi mx:Option (Option ab)}{lo' hi' mx':Option Value}{v:ab}(hx:ai ρ f x x')
 (h1:dV ρ f lo lo') (h2:dV ρ f hi hi') (h3:dV ρ f mx mx') (h:BW C t x lo hi mx=some v) (w:World):
 ∃v',(Instr.sliceAt t x' lo' hi' mx').run P w= .ok v' w/\ai ρ f v v':=by
 unfold BW at h;split at h
 ·rename_i c len hu ht;have hu:=Ctx.ax hC hu;obtain ⟨s,rfl,hs⟩:=yJ hx ht
  have hmx:mx'=none:=by
   cases mx' with
   |none=>rfl
   |some v=>cases h3
  subst hmx;split at h
  ·rename_i a b ha hb;split at h
   ·rename_i q1 q2 q3;have q1:=aq hC.dec _ _ q1;have q2:=aq hC.dec _ _ q2;have q3:=aq hC.dec _ _ q3;rw [cK hC.bd] at q1 q2 q3;have q1:=of_decide_eq_false q1;have q2:=of_decide_eq_false q2;have q3:=of_decide_eq_false q3;simp only [IE.ev] at q1;cases h;have hl:=hs.1
    have hbb:((match hi' with
     |some v=>Instr.sliceBound v s.size (if false then .sliceAcap else .sliceAlen)
     |none=>pure s.size):Sem Nat).run P w= .ok (b.ev ρ).toNat w:=by
     rcases rl h2 hb with ⟨rfl,rfl⟩ | ⟨k,rfl⟩
     ·simp [hl]
     ·exact eB (by omega) (by omega)
    have haa:((match lo' with
     |some v=>Instr.sliceBound v (b.ev ρ).toNat (if (none:Option Value).isSome then .slice3C else .sliceB)
     |none=>pure 0):Sem Nat).run P w= .ok (a.ev ρ).toNat w:=by
     rcases rl h1 ha with ⟨rfl,rfl⟩ | ⟨k,rfl⟩
     ·simp [IE.ev]
     ·exact eB (by omega) (by omega)
    have hbd:(Instr.sliceBounds false s.size s.size lo' hi' none).run P w= .ok ((a.ev ρ).toNat,(b.ev ρ).toNat,s.size) w:=by
     unfold Instr.sliceBounds;cases hi' with
     |none=>
      cases lo' with
      |none=>
       simp only [Sem.run_bind,Sem.run_pure,Result.andThen_ok] at hbb haa ⊢;simp only [Result.ok.injEq,and_true] at hbb haa;rw [<- hbb,<-haa]
      |some l=>
       simp only [Sem.run_bind,Sem.run_pure,Result.andThen_ok] at hbb haa ⊢;simp only [Result.ok.injEq,and_true] at hbb;rw [hbb];simp only [haa,Result.andThen_ok]
     |some u=>
      cases lo' with
      |none=>
       simp only [Sem.run_bind,Sem.run_pure,Result.andThen_ok] at hbb haa ⊢;simp only [Result.ok.injEq,and_true] at haa;simp only [hbb,Result.andThen_ok];rw [<- haa]
      |some l=>
       simp only [Sem.run_bind,Sem.run_pure,Result.andThen_ok] at hbb haa ⊢;simp only [hbb,Result.andThen_ok,haa]
    have e2:(mkSub b a).ev ρ=b.ev ρ-a.ev ρ:=na ρ b a;refine ⟨.string (s.extract (a.ev ρ).toNat (b.ev ρ).toNat),by simp only [Instr.sliceAt,Instr.slice,Sem.run_bind,run_underlying hu,Result.andThen_ok,Option.isSome_none,Bool.false_eq_true,if_false,hbd,Sem.run_pure],?_⟩
    refine .strS ?_ fun j u hj=> ?_
    ·rw [e2];simp;omega
    ·have hj':s.data[(a.ev ρ).toNat+j]? =some u/\j<(b.ev ρ).toNat-(a.ev ρ).toNat:=by
      rw [ByteArray.data_extract,Array.getElem?_extract] at hj;split at hj
      ·rename_i hlt;have:s.data.size=s.size:=rfl;exact ⟨hj,by omega⟩
      ·cases hj
     have hc:=hs.2 _ _ hj'.1;unfold D9;split
     ·have e0:(IE.lit (.ofNat 0)).ev ρ=0:=rfl;rw [e0] at hc
      simpa using hc
     ·rw [cz];show ag (aY (c.ev ρ) (a.ev ρ) ((mkSub b a).ev ρ)) j=_;have ea:a.ev ρ=((a.ev ρ).toNat:Nat):=by omega
      have eb:(mkSub b a).ev ρ=(((b.ev ρ).toNat-(a.ev ρ).toNat:Nat):Int):=by rw [e2]; omega
      rw [ea,eb,ch _ _ _ _ hj'.2];exact hc
   ·cases h
  ·cases h
 ·cases h
def aan:List IntKind->Bool
 | [k]=>bf k .u8
 |_=>false
def IV(C:Ctx)(h:T ah)(s d:TypeId)(x:ab):Option ab:=
 match C.und s,C.und d,x with
 |some .string,some .string,.strS c l=>some (.strS c l)
 |some (.slice e),some .string,.sliceS i st len sz _=>
  match C.und e,h.get i with
  |some (.int .u8),some (.arr ks code n _)=>
   match Nat.beq sz 1&&aan ks,settle C.dec (mkLt C.bd st (.lit 0)),settle C.dec (mkLt C.bd len (.lit 0)),settle C.dec (mkLt C.bd n (mkAdd st len)) with
   |true,some false,some false,some false=>some (.strS (D9 code st len) len)
   |_,_,_,_=>none
  |_,_=>none
 |_,_,_=>none
theorem NW{ρ:Env}{c a n:IE}{k j:Nat}(ha:0<=a.ev ρ)(hn:n.ev ρ=k)(hj:j<k):ag ((D9 c a n).ev ρ) j=ag (c.ev ρ) ((a.ev ρ).toNat+j:Nat):=by
 unfold D9;split
 ·have e0:(IE.lit (.ofNat 0)).ev ρ=0:=rfl;rw [e0];simp
 ·rw [cz];show ag (aY (c.ev ρ) (a.ev ρ) (n.ev ρ)) j=_;have ea:a.ev ρ=((a.ev ρ).toNat:Nat):=by omega
  rw [hn,ea,ch _ _ _ _ hj];rfl
theorem NO{C:Ctx}{P:Program}{ρ:Env}(hC:C.Ok P ρ){B:Nat->Prop}{W w:World}{f:Ren}{h:T ah}(hr:au ρ B W f h w){s d:TypeId}{x:ab}{x':Value}{v:ab}(hx:ai ρ f x x')(hl:IV C h s d x=some v):
 ∃v',(convert s d x').run P w= .ok v' w/\ai ρ f v v':=by
 unfold IV at hl;split at hl
 ·rename_i c l hs hd;have hs:=Ctx.ax hC hs;have hd:=Ctx.ax hC hd;cases hx; rename_i st h1 h2;cases hl;exact ⟨.string st,by simp only [convert,Sem.run_bind,run_underlying hs,run_underlying hd,Result.andThen_ok,Sem.run_pure],.strS h2 h1⟩
 ·rename_i e i st len sz nn hs hd;have hs:=Ctx.ax hC hs;have hd:=Ctx.ax hC hd;split at hl
  ·rename_i ks code n ow he hg;have he:=Ctx.ax hC he;split at hl
   ·rename_i hk q1 q2 q3;obtain ⟨k1,k2⟩:=Bool.and_eq_true_iff.1 hk;have k1:=Nat.eq_of_beq_eq_true k1;subst k1;have q1:=aq hC.dec _ _ q1;have q2:=aq hC.dec _ _ q2;have q3:=aq hC.dec _ _ q3;rw [cK hC.bd] at q1 q2 q3;have q1:=of_decide_eq_false q1;have q2:=of_decide_eq_false q2;have q3:=of_decide_eq_false q3;simp only [IE.ev] at q1 q2;rw [bE] at q3;cases hl
    have hk8:ks=[.u8]:=by
     unfold aan at k2;split at k2
     ·rw [aH k2]
     ·cases k2
    subst hk8;cases hx with
    |sliceS hf h0 hl2 hc=>
     rename_i L c';have ho:=hr.obj i L _ hf hg;obtain ⟨cs,el,fr,g1,g2,g3,g4⟩:=ho
     have cell: ∀j:Nat,(j:Int)<n.ev ρ->cs[L.base+j]? =some (.int .u8 (ag (code.ev ρ) j))/\0<=ag (code.ev ρ) j/\ag (code.ev ρ) j<=255:=fun j hj=>by
      have:=g4 j 0 .u8 hj rfl
      simpa [kLo,kHi] using this
     let ns:List Int:=(List.range (len.ev ρ).toNat).map fun j=>ag (code.ev ρ) ((st.ev ρ).toNat+j:Nat)
     have hns:ns.length=(len.ev ρ).toNat:=by simp [ns]
     have hget: ∀(j:Nat) (v:Int),ns[j]? =some v->j<(len.ev ρ).toNat/\v=ag (code.ev ρ) ((st.ev ρ).toNat+j:Nat):=fun j v hv=>by
      obtain ⟨hlt,hv⟩:=List.getElem?_eq_some_iff.1 hv;rw [hns] at hlt;refine ⟨hlt,?_⟩;rw [<- hv];simp [ns]
     have byte: ∀n∈ns,0<=n/\n<=255:=fun n hn=>by
      obtain ⟨j,hj⟩:=List.getElem?_of_mem hn;obtain ⟨a,rfl⟩:=hget j n hj;exact (cell _ (by omega)).2
     have hload:(loadCells ⟨L.blk,L.base+(st.ev ρ).toNat*1,none⟩ (len.ev ρ).toNat).run P w= .ok (ns.map (Value.int .u8)).toArray w:=by
      refine bo (by simp [hns]) fun j v' hj=> ?_
      rw [List.getElem?_map,Option.map_eq_some_iff] at hj;obtain ⟨m,hm,rfl⟩:=hj;obtain ⟨a,rfl⟩:=hget j m hm;unfold World.cell?;simp only [g1,Option.isSome_none,Bool.false_eq_true,if_false];have:=(cell ((st.ev ρ).toNat+j) (by omega)).1
      rw [<- this]
      congr 1
      omega
     have hrun:=run_bytesToString (P:=P) w _ _ c' ns hload;refine ⟨_,(run_convert_bytes_string w s d e _ _ _ hs he hd).trans hrun,?_⟩
     have hdata:(ns.foldl (fun r n=>r.push (UInt8.ofNat n.toNat)) ByteArray.empty).data.toList=ns.map (fun n=>UInt8.ofNat n.toNat):=by
      rw [foldl_push];simp
     have hsz:(ns.foldl (fun r n=>r.push (UInt8.ofNat n.toNat)) ByteArray.empty).size=ns.length:=by
      have:=congrArg List.length hdata
      simpa using this
     refine .strS (by rw [hsz,hns]; omega) fun j b hj=> ?_
     have hj:(ns.map (fun n=>UInt8.ofNat n.toNat))[j]? =some b:=by
      rw [<- hdata]
      simpa using hj
     rw [List.getElem?_map,Option.map_eq_some_iff] at hj;obtain ⟨m,hm,rfl⟩:=hj;obtain ⟨a,hv⟩:=hget j m hm;have hb:=byte m (List.mem_of_getElem? hm);rw [NW (k:=(len.ev ρ).toNat) (by omega) (by omega) a,<-hv]
     have e8:(UInt8.ofNat m.toNat).toNat=m.toNat % 2^8:=UInt8.toNat_ofNat';rw [e8];omega
    |sliceZ hl0 ha=>
     rename_i a c'
     have hem:(Conv.bytesToString (.slice a 0 c')).run P w= .ok (.string .empty) w:=by
      cases a with
      |none=>simp [Conv.bytesToString]
      |some b=>
       refine (run_bytesToString w b 0 c' [] ?_).trans rfl;simp [loadCells,loadCellsFrom]
     refine ⟨_,(run_convert_bytes_string w s d e _ _ _ hs he hd).trans hem,?_⟩;exact .strS (by rw [hl0]; rfl) fun j b hj=>by simp at hj
   ·cases hl
  ·cases hl
 ·cases hl
def evs(aev:Operand->Option ab):List Operand->Option (List ab)
 | []=>some []
 |x::l=>
  match aev x,evs aev l with
  |some v,some m=>some (v::m)
  |_,_=>none
theorem HG{ρ:Env}{f:Ren}{aev:Operand->Option ab}{ev:Operand->Value}(he:iN ρ f aev ev): ∀(l:List Operand) (m:List ab),evs aev l=some m->az ρ f m (l.map ev).toArray:=by
 intro l
 induction l with
 |nil=>intro m h; simp [evs] at h; subst h; exact az.nil
 |cons x l ih=>
  intro m h;simp only [evs] at h;split at h
  ·rename_i v m' hv hm;cases h;exact az.cons (he x v hv) (ih _ hm)
  ·cases h
theorem CF{ρ:Env}{f:Ren}{aev:Operand->Option ab}{ev:Operand->Value}(he:iN ρ f aev ev){a:Array Operand}{m:List ab}(h:evs aev a.toList=some m):az ρ f m (a.map ev):=by
 have:=HG he _ _ h;have e:(a.toList.map ev).toArray=a.map ev:=by apply Array.ext'; simp
 rw [e] at this;exact this
def WD(C:Ctx)(h:T ah)(t:TypeId)(x:ab):Option ab:=
 match C.und t,x with
 |some .string,.str l=>some (.int .i64 (.lit (.ofNat l.length)))
 |some (.array n _),_=>some (.int .i64 (.lit (.ofNat n)))
 |some (.slice _),.slice _ n _ _=>some (.int .i64 (.lit (.ofNat n)))
 |some (.map _ _),m=>
  match Ks h m with
  |some es=>some (.int .i64 (.lit (.ofNat es.length)))
  |none=>none
 |some (.pointer a),_=>
  match C.und a with
  |some (.array n _)=>some (.int .i64 (.lit (.ofNat n)))
  |_=>none
 |_,_=>none
theorem Tu{C:Ctx}{P:Program}{ρ:Env}(hC:C.Ok P ρ){B:Nat->Prop}{W w:World}{f:Ren}{h:T ah}(hr:au ρ B W f h w){t ty:TypeId}{x:ab}{x':Value}{v:ab}(hx:ai ρ f x x')(hl:WD C h t x=some v)(ts:Array TypeId)(xs:Array Value)(h0:ts[0]? =some t)(h1:xs[0]? =some x'):
 ∃v',(Builtin.len_ ts ty xs).run P w= .ok v' w/\ai ρ f v v':=by
 unfold WD at hl;unfold Builtin.len_;simp only [h0,h1];split at hl
 ·rename_i l hu;have hd:=Ctx.ax hC hu;cases hx; rename_i s hs;cases hl;refine ⟨.int .i64 s.size,by simp only [Sem.run_bind,run_underlying hd,Result.andThen_ok,Sem.run_pure,goInt],?_⟩
  rw [hs.size]; exact .int _ (.lit _)
 ·rename_i n e hu;have hd:=Ctx.ax hC hu;cases hl;exact ⟨.int .i64 n,by simp only [Sem.run_bind,run_underlying hd,Result.andThen_ok,Sem.run_pure,goInt],.int _ (.lit _)⟩
 ·rename_i e a n c g hu;have hd:=Ctx.ax hC hu;cases hl;refine ⟨.int .i64 n,?_,.int _ (.lit _)⟩;cases hx<;>simp only [Sem.run_bind,run_underlying hd,Result.andThen_ok,Sem.run_pure,goInt]
 ·rename_i kt et hu;have hd:=Ctx.ax hC hu;split at hl
  ·rename_i es hes;cases hl;obtain ⟨es',he,hm'⟩:=Fo (P:=P) hr hx hes;refine ⟨.int .i64 es.length,?_,.int _ (.lit _)⟩
   rcases hm' with ⟨rfl,rfl⟩ | ⟨b,cl,rfl,hg⟩
   ·have:es.length=0:=by have:=he.1; simpa using this.symm
    simp only [Sem.run_bind,run_underlying hd,Result.andThen_ok,Sem.run_pure,goInt,this];rfl
   ·simp only [Sem.run_bind,run_underlying hd,Result.andThen_ok,Sem.run_pure,goInt,hg];have:=he.1;simp at this;rw [this]
  ·cases hl
 ·rename_i a hu;have hd:=Ctx.ax hC hu;split at hl
  ·rename_i n e ha;have hda:=Ctx.ax hC ha;cases hl;refine ⟨.int .i64 n,?_,.int _ (.lit _)⟩;simp only [Sem.run_bind,run_underlying hd,run_underlying hda,Result.andThen_ok,Sem.run_pure,goInt]
  ·cases hl
 ·cases hl
def We(C:Ctx)(big:Bool):ab->ab->Option ab
 | .int k x,.int l y=>
   match settle C.dec (if big then mkLt C.bd x y else mkLt C.bd y x) with
   |some true=>some (.int k y)
   |some false=>some (.int k x)
   |none=>some (.int k (if big then .sel true x y y x else .sel true y x y x))
 |_,_=>none
def Ap(C:Ctx)(big:Bool):ab->List ab->Option ab
 |x,[]=>some x
 |x,y::l=>
  match We C big x y with
  |none=>none
  |some z=>Ap C big z l
theorem Ld{C:Ctx}{P:Program}{ρ:Env}(hC:C.Ok P ρ){f:Ren}(big:Bool)(w:World): ∀(l:List ab) (x:ab) (x':Value) (cs:List Value) (v:ab),ai ρ f x x'->az ρ f l cs.toArray->Ap C big x l=some v->
 ∃v',(cs.foldlM (if big then Builtin.max2 else Builtin.min2) x').run P w= .ok v' w/\ai ρ f v v':=by
 intro l
 induction l with
 |nil=>
  intro x x' cs v hx hl h;have:cs=[]:=by have:=hl.1; simpa using this
  subst this;simp [Ap] at h; subst h;exact ⟨x',rfl,hx⟩
 |cons y l ih=>
  intro x x' cs v hx hl h;cases cs with
  |nil=>have:=hl.1; simp at this
  |cons y' cs=>
   have hy:ai ρ f y y':=hl.2 0 y y' (by simp) (by simp)
   have hl':az ρ f l cs.toArray:=⟨by have:=hl.1; simp at this ⊢; exact this,fun j a a' ha ha'=>hl.2 (j+1) a a' (by simpa using ha) (by simpa using ha')⟩
   simp only [Ap] at h;split at h
   ·cases h
   ·rename_i z hz;unfold We at hz;split at hz
    ·rename_i k a k2 b;cases hx; cases hy
     have step: ∃z',((if big then Builtin.max2 else Builtin.min2) (.int k (a.ev ρ)) (.int k2 (b.ev ρ))).run P w= .ok z' w/\ai ρ f z z':=by
      cases big
      ·simp only [Bool.false_eq_true,if_false] at hz ⊢;split at hz
       ·rename_i hs;have h0:=aq hC.dec _ _ hs;rw [cK hC.bd] at h0;cases hz;exact ⟨.int k (b.ev ρ),by simp only [Builtin.min2,if_pos (of_decide_eq_true h0),Sem.run_pure],.int k b⟩
       ·rename_i hs;have h0:=aq hC.dec _ _ hs;rw [cK hC.bd] at h0;cases hz;exact ⟨.int k (a.ev ρ),by simp only [Builtin.min2,if_neg (of_decide_eq_false h0),Sem.run_pure],.int k a⟩
       ·cases hz;refine ⟨.int k ((IE.sel true b a b a).ev ρ),?_,.int k _⟩;simp only [Builtin.min2,Sem.run_pure];rfl
      ·simp only [if_true] at hz ⊢;split at hz
       ·rename_i hs;have h0:=aq hC.dec _ _ hs;rw [cK hC.bd] at h0;cases hz;have:b.ev ρ > a.ev ρ:=of_decide_eq_true h0;exact ⟨.int k (b.ev ρ),by simp only [Builtin.max2,if_pos this,Sem.run_pure],.int k b⟩
       ·rename_i hs;have h0:=aq hC.dec _ _ hs;rw [cK hC.bd] at h0;cases hz;have: ¬b.ev ρ > a.ev ρ:=of_decide_eq_false h0;exact ⟨.int k (a.ev ρ),by simp only [Builtin.max2,if_neg this,Sem.run_pure],.int k a⟩
       ·cases hz;refine ⟨.int k ((IE.sel true a b b a).ev ρ),?_,.int k _⟩;simp only [Builtin.max2,Sem.run_pure];rfl
     obtain ⟨z',hz1,hz2⟩:=step;obtain ⟨v',h1,h2⟩:=ih z z' cs v hz2 hl' h;exact ⟨v',by simp only [List.foldlM_cons,Sem.run_bind,hz1,Result.andThen_ok]; exact h1,h2⟩
    ·cases hz
def jF(aev:Operand->Option ab):Option Operand->Option (Option ab)
 |none=>none
 |some x=>some (aev x)
theorem eA{ρ:Env}{f:Ren}{aev:Operand->Option ab}{ev:Operand->Value}(he:iN ρ f aev ev)(o:Option Operand):dV ρ f (jF aev o) (o.map ev):=by
 cases o with
 |none=>trivial
 |some x=>
  show dV ρ f (some (aev x)) (some (ev x));cases h:aev x with
  |none=>trivial
  |some v=>exact he x v h
def orE(a b:Option ab):Option ab:=
 match a with
 |some v=>some v
 |none=>b
theorem ki{a b:Option ab}{v:ab}(h:orE a b=some v):a=some v\/b=some v:=by
 unfold orE at h;split at h
 ·exact .inl h
 ·exact .inr h
def Rq(C:Ctx)(h:T ah)(aev:Operand->Option ab)(c:Operand)(a:Operand)(b:Operand):Option ab:=
 match aev c with
 |some (.bool t)=>
  match settle C.dec t with
  |some true=>aev a
  |some false=>aev b
  |none=>none
 |_=>none
def PV(C:Ctx)(h:T ah)(aev:Operand->Option ab)(t:TypeId)(x:Operand):Option ab:=
 match aev x with
 |some v=>orE (yR C h t v) (HS C h t v)
 |none=>none
def yd(C:Ctx)(t:TypeId)(v:ab)(name:String):Bool:=
 match C.ty.get t with
 |none=>false
 |some i=>
  match i.methods.find? (·.name==name) with
  |none=>false
  |some m=>
   match m.path.toList with
   | []=>
     match m.func with
     |some (_,true)=>true
     |some (_,false)=>
      match v,C.und t with
      | .ptr (some _),some (.pointer _)=>true
      |_,_=>false
     |none=>false
   | [s]=>
     match s.deref,v with
     |true,.ptr (some _)=>
      match m.func,C.und s.struct with
      |some (_,true),some (.struct fields)=>
       match fields[s.index]? with
       |some _=>true
       |none=>false
      |_,_=>false
     |_,_=>false
   |_=>false
theorem FW{C:Ctx}{P:Program}{ρ:Env}(hC:C.Ok P ρ){f:Ren}{t:TypeId}{v:ab}{v':Value}{name:String}(hx:ai ρ f v v')(h:yd C t v name=true)(n:Nat)(w:World):(nilAhead (n+1) t v' name).run P w= .ok (some false) w:=by
 unfold yd at h;split at h
 ·cases h
 ·rename_i i hi;have hti:=hC.ty _ _ hi;split at h
  ·cases h
  ·rename_i m hm;split at h
   ·rename_i hp;split at h
    ·rename_i g hf;simp only [nilAhead,typeInfo,Sem.run_bind,run_program,Result.andThen_ok,hti,Sem.run_pure,hm,hp,followBlind,hf]
    ·rename_i g hf;split at h
     ·rename_i a e hu;have hu:=Ctx.ax hC hu;obtain ⟨p,rfl⟩: ∃p,v'= .pointer (some p):=by cases hx; exact ⟨_,rfl⟩
      simp only [nilAhead,typeInfo,Sem.run_bind,run_program,Result.andThen_ok,hti,Sem.run_pure,hm,hp,followBlind,hf,run_underlying hu]
     ·cases h
    ·cases h
   ·rename_i s hp;split at h
    ·rename_i a hd;split at h
     ·rename_i g fields hf hu;have hu:=Ctx.ax hC hu;split at h
      ·rename_i fd hfd;obtain ⟨p,rfl⟩: ∃p,v'= .pointer (some p):=by cases hx; exact ⟨_,rfl⟩
       simp only [nilAhead,typeInfo,Sem.run_bind,run_program,Result.andThen_ok,hti,Sem.run_pure,hm,hp,followBlind,hf,run_underlying hu,hfd,hd]
      ·cases h
     ·cases h
    ·cases h
   ·cases h
def xo(C:Ctx)(h:T ah)(aev:Operand->Option ab)(x:Operand):Option ab:=
 match aev x with
 |some (.ptr (some a))=>some (.ptr (some a))
 |some (.ptrE i e s c)=>some (.ptrE i e s c)
 |some (.iface t v)=>some (.iface t v)
 |some (.func (.func g) a b)=>some (.func (.func g) a b)
 |some (.func (.method name) (.iface t v::a) b)=>
  match yd C t v name with
  |true=>some (.func (.method name) (.iface t v::a) b)
  |false=>none
 |_=>none
def JI(C:Ctx)(h:T ah)(aev:Operand->Option ab)(op:BinOp)(t:TypeId)(x:Operand)(y:Operand):Option ab:=
 match aev x,aev y with
 |some a,some b=>orE (Dx C (isC x||isC y) op t a b) (Ps C op a b)
 |_,_=>none
def Q5(C:Ctx)(h:T ah)(aev:Operand->Option ab)(op:UnOp)(x:Operand):Option ab:=
 match aev x with
 |some a=>aUn C op a
 |none=>none
def ab.u9:ab->Option ab
 | .slice (some (i,o)) n c _=>
   match Nat.ble 256 n&&Nat.ble n c with
   |true=>some (.sliceS i (.lit (.ofNat o)) (.lit (.ofNat n)) 1 false)
   |false=>none
 |_=>none
theorem ai.u9{ρ:Env}{f:Ren}{v u:ab}{v':Value}(h:ai ρ f v v')(hl:v.u9=some u):ai ρ f u v':=by
 unfold ab.u9 at hl;split at hl
 ·rename_i i o n c g;split at hl
  ·rename_i hb;obtain ⟨h1,h2⟩:=Bool.and_eq_true_iff.1 hb;have h1:=Nat.le_of_ble_eq_true h1;have h2:=Nat.le_of_ble_eq_true h2;cases hl
   have key: ∀(L:Loc) (c':Nat),f i=some L->n<=c'->ai ρ f (.sliceS i (.lit (.ofNat o)) (.lit (.ofNat n)) 1 false) (.slice (some ⟨L.blk,L.base+o,none⟩) n c'):=fun L c' hh hc=>by
    have:=ai.sliceS (ρ:=ρ) (f:=f) (i:=i) (s:=1) (st:= .lit (.ofNat o)) (len:= .lit (.ofNat n)) (nn:=false) (c:=c') hh (Int.natCast_nonneg o) (Int.natCast_nonneg n) hc;have e:L.base+((IE.lit (.ofNat o)).ev ρ).toNat*1=L.base+o:=by show L.base+o*1=_; rw [Nat.mul_one]
    rw [e] at this;exact this
   cases h with
   |slice hh=>exact key _ _ hh h2
   |sliceG hh q1 q2 q3=>exact key _ _ hh (by omega)
   |sliceE hh q1 q2=>omega
  ·cases hl
 ·cases hl
def zm(C:Ctx)(h:T ah)(s d:TypeId)(a:ab):Option ab:=
 match a.u9 with
 |some b=>IV C h s d b
 |none=>none
def AA(C:Ctx)(h:T ah)(aev:Operand->Option ab)(s:TypeId)(d:TypeId)(x:Operand):Option ab:=
 match aev x with
 |some a=>orE (zm C h s d a) (orE (PJ C h s d a) (IV C h s d a.soft))
 |none=>none
def my(C:Ctx)(h:T ah)(aev:Operand->Option ab)(t:TypeId)(x:Operand):Option ab:=
 match aev x,C.und t with
 |some a,some d=>
  match d with
  | .interface _=>none
  |_=>some (.iface t a)
 |_,_=>none
def w7(C:Ctx)(h:T ah)(aev:Operand->Option ab)(fn:Fn)(first:Array Operand)(capt:Array Operand):Option ab:=
 match evs aev first.toList,evs aev capt.toList with
 |some a,some b=>some (.func fn a b)
 |_,_=>none
def KU(C:Ctx)(h:T ah)(aev:Operand->Option ab)(t:TypeId)(x:Operand)(lo:Option Operand)(hi:Option Operand)(mx:Option Operand):Option ab:=
 match aev x with
 |some a=>orE (I3 C t a (jF aev lo) (jF aev hi) (jF aev mx)) (orE (AP C t a (jF aev lo) (jF aev hi) (jF aev mx)) (orE (AW C t a.soft (jF aev lo) (jF aev hi) (jF aev mx)) (BW C t a (jF aev lo) (jF aev hi) (jF aev mx))))
 |none=>none
def uk(C:Ctx)(h:T ah)(aev:Operand->Option ab)(t:TypeId)(x:Operand)(n:Nat):Option ab:=
 match aev x with
 |some a=>orE (pO C t a n) (mW C t a n)
 |none=>none
def rdField(C:Ctx)(h:T ah)(aev:Operand->Option ab)(t:TypeId)(x:Operand)(n:Nat):Option ab:=
 match aev x with
 |some a=>HA C t a n
 |none=>none
def uq(C:Ctx)(h:T ah)(aev:Operand->Option ab)(t:TypeId)(x:Operand)(i:Operand):Option ab:=
 match aev x,aev i with
 |some a,some b=>orE (pI C t a b) (nj C t a.soft b)
 |_,_=>none
def JR(C:Ctx)(h:T ah)(aev:Operand->Option ab)(t:TypeId)(x:Operand)(i:Operand):Option ab:=
 match aev x,aev i with
 |some a,some b=>orE (Hh C t a b) (Bc C t a b)
 |_,_=>none
def F6(C:Ctx)(h:T ah)(aev:Operand->Option ab)(t:TypeId)(m:Operand)(k:Operand)(ok:Bool):Option ab:=
 match aev m,aev k with
 |some a,some b=>Bb C h t a b ok
 |_,_=>none
def z7(C:Ctx)(h:T ah)(aev:Operand->Option ab)(x:Operand)(i:Nat):Option ab:=
 match aev x with
 |some (.tuple vs)=>vs[i]?
 |_=>none
def Wl(C:Ctx)(h:T ah)(aev:Operand->Option ab)(args:Array Operand)(ts:Array TypeId):Option ab:=
 match args.toList,ts[0]? with
 | [x],some t=>
   match aev x with
   |some v=>orE (WD C h t v) (Rb C t v.soft)
   |none=>none
 |_,_=>none
def V7(C:Ctx)(h:T ah)(aev:Operand->Option ab)(args:Array Operand):Option ab:=
 match evs aev args.toList with
 |some (x::l)=>Ap C false x l
 |_=>none
def V4(C:Ctx)(h:T ah)(aev:Operand->Option ab)(args:Array Operand):Option ab:=
 match evs aev args.toList with
 |some (x::l)=>Ap C true x l
 |_=>none
def QS(C:Ctx)(h:T ah)(aev:Operand->Option ab)(x:Operand)(str:Bool):Option ab:=
 match aev x,str with
 |some (.ptr (some (i,0))),false=>
  match h.get i with
  |some .it0=>some (.tuple [.bool (.lit false)])
  |_=>none
 |_,_=>none
def K0(C:Ctx)(h:T ah)(aev:Operand->Option ab):Op->Option ab
 | .move x=>aev x
 | .assign x=>aev x
 | .pick c a b=>Rq C h aev c a b
 | .load t x=>PV C h aev t x
 | .nilCheck x=>xo C h aev x
 | .binOp op t x y _=>JI C h aev op t x y
 | .unOp op _ x=>Q5 C h aev op x
 | .convert s d x=>AA C h aev s d x
 | .makeInterface t x=>my C h aev t x
 | .makeFunc fn first capt=>w7 C h aev fn first capt
 | .slice t x lo hi mx=>KU C h aev t x lo hi mx
 | .fieldAddr t x n=>uk C h aev t x n
 | .field t x n=>rdField C h aev t x n
 | .indexAddr t x i=>uq C h aev t x i
 | .index t x i=>JR C h aev t x i
 | .lookup t m k ok=>F6 C h aev t m k ok
 | .next x str=>QS C h aev x str
 | .extract x i=>z7 C h aev x i
 | .call {callee:= .builtin .len,args:=args,argTypes:=ts}=>Wl C h aev args ts
 | .call {callee:= .builtin .min,args:=args,argTypes:=_}=>V7 C h aev args
 | .call {callee:= .builtin .max,args:=args,argTypes:=_}=>V4 C h aev args
 |_=>none
theorem ai.Qr{ρ:Env}{f:Ren}{b:BE}{v:Value}(h:ai ρ f (.bool b) v):v= .bool (b.ev ρ):=by cases h; rfl
theorem Gt{C:Ctx}{P:Program}{ρ:Env}(hC:C.Ok P ρ){B:Nat->Prop}{W w:World}{f:Ren}{h:T ah}(hr:au ρ B W f h w){aev:Operand->Option ab}{ev:Operand->Value}(he:iN ρ f aev ev){o:Oper}{v:ab}(hv:K0 C h aev o.op=some v):
 ∃v',(execOp ev o).run P w= .ok (.value v') w/\ai ρ f v v':=by
 obtain ⟨dst,op,type,pos,after,guard⟩:=o
 have lift: ∀ {s:Sem Value} {v:ab},(∃ v',s.run P w= .ok v' w/\ai ρ f v v')-> ∃v',(do pure (.value (<- s)):Sem Next).run P w= .ok (.value v') w/\ai ρ f v v':=by
  intro s v ⟨v',h1,h2⟩;exact ⟨v',by simp only [Sem.run_bind,h1,Result.andThen_ok,Sem.run_pure],h2⟩
 unfold K0 at hv;simp only at hv;split at hv
 all_goals try unfold Rq at hv
 all_goals try unfold PV at hv
 all_goals try unfold xo at hv
 all_goals try unfold JI at hv
 all_goals try unfold Q5 at hv
 all_goals try unfold AA at hv
 all_goals try unfold my at hv
 all_goals try unfold w7 at hv
 all_goals try unfold KU at hv
 all_goals try unfold uk at hv
 all_goals try unfold rdField at hv
 all_goals try unfold uq at hv
 all_goals try unfold JR at hv
 all_goals try unfold F6 at hv
 all_goals try unfold z7 at hv
 all_goals try unfold QS at hv
 all_goals try unfold Wl at hv
 all_goals try unfold V7 at hv
 all_goals try unfold V4 at hv
 case h_1=>exact ⟨_,rfl,he _ _ hv⟩
 case h_2=>exact ⟨_,rfl,he _ _ hv⟩
 case h_3 c a b=>
  split at hv
  ·rename_i t ht;have hc:=(he _ _ ht).Qr;split at hv
   ·rename_i hs;have hb:=aq hC.dec _ _ hs;exact ⟨ev a,by simp only [execOp,hc,hb,Sem.run_bind,asBool,Sem.run_pure,Result.andThen_ok,if_true],he _ _ hv⟩
   ·rename_i hs;have hb:=aq hC.dec _ _ hs;exact ⟨ev b,by simp only [execOp,hc,hb,Sem.run_bind,asBool,Sem.run_pure,Result.andThen_ok,Bool.false_eq_true,if_false],he _ _ hv⟩
   ·cases hv
  ·cases hv
 case h_4 t x=>
  split at hv
  ·rename_i a ha
   rcases ki hv with hv |hv
   ·exact lift (rh hC hr (he _ _ ha) hv)
   ·exact lift (Lw hC hr (he _ _ ha) hv)
  ·cases hv
 case h_5 x=>
  have hx: ∀a,aev x=some a->ai ρ f a (ev x):=he x;split at hv
  ·rename_i a ha;cases hv;have:=hx _ ha;refine ⟨ev x,?_,this⟩;simp only [execOp];generalize ev x=x' at this;cases this; rfl
  ·rename_i i e s c ha;cases hv;have:=hx _ ha;refine ⟨ev x,?_,this⟩;simp only [execOp];generalize ev x=x' at this;cases this; rfl
  ·rename_i t a ha;cases hv;have:=hx _ ha;refine ⟨ev x,?_,this⟩;simp only [execOp];generalize ev x=x' at this;cases this; rfl
  ·rename_i g a b ha;cases hv;have:=hx _ ha;refine ⟨ev x,?_,this⟩;simp only [execOp];generalize ev x=x' at this;cases this; rfl
  ·rename_i name t v a b ha;split at hv
   ·rename_i hs;cases hv;have:=hx _ ha;refine ⟨ev x,?_,this⟩;simp only [execOp];generalize ev x=x' at this;cases this;rename_i a' b' h1 h2 h3 h4;have hsz:0<a'.size:=by rw [h1]; simp
    have h0:a'[0]? =some a'[0]:=Array.getElem?_eq_getElem hsz;have hv0:=h2 0 (.iface t v) a'[0] rfl h0;generalize a'[0]=y at h0 hv0;cases hv0;rename_i v' hv';have hn: ∀n,(nilAhead (n+1) t v' name).run P w= .ok (some false) w:=fun n=>FW hC hv' hs n w
    have hn2:=hn (P.types.size+99);simp only [h0,Sem.run_bind,run_program,Result.andThen_ok];rw [show P.types.size+Made.depth=P.types.size+99+1 from rfl,hn2]
    rfl
   ·cases hv
  ·cases hv
 case h_6 op t x y yt=>
  split at hv
  ·rename_i a b ha hb
   rcases ki hv with hv |hv
   ·exact lift (TS hC x y (he _ _ ha) (he _ _ hb) hv w)
   ·exact lift (Ra hC x y (he _ _ ha) (he _ _ hb) hv w)
  ·cases hv
 case h_7 op t x=>
  split at hv
  ·rename_i a ha; exact lift (XM hC (he _ _ ha) hv w)
  ·cases hv
 case h_8 s d x=>
  split at hv
  ·rename_i a ha
   rcases ki hv with hv |hv
   ·unfold zm at hv;split at hv
    ·rename_i b hb;exact lift (NO hC hr ((he _ _ ha).u9 hb) hv)
    ·cases hv
   rcases ki hv with hv |hv
   ·exact lift (Q6 hC hr (he _ _ ha) hv)
   ·exact lift (NO hC hr (he _ _ ha).soft hv)
  ·cases hv
 case h_9 t x=>
  split at hv
  ·rename_i a d ha hu;have hd:=Ctx.ax hC hu;split at hv
   ·cases hv
   ·rename_i hni;cases hv;refine lift ⟨.iface t (ev x),?_,.iface (he _ _ ha)⟩;simp only [Instr.makeInterface,Sem.run_bind,run_underlying hd,Result.andThen_ok];cases d<;>first |rfl |exact absurd rfl (hni _)
  ·cases hv
 case h_10 fn first capt=>
  split at hv
  ·rename_i a b ha hb;cases hv;have h1:=CF he ha;have h2:=CF he hb;exact lift ⟨.func fn (first.map ev) (capt.map ev),rfl,.func h1.1 h2.1 h1.2 h2.2⟩
  ·cases hv
 case h_11 t x lo hi mx=>
  split at hv
  ·rename_i a ha
   rcases ki hv with hv |hv
   ·exact lift (N9 hC (he _ _ ha) (eA he lo) (eA he hi) (eA he mx) hv w)
   rcases ki hv with hv |hv
   ·exact lift (Jd hC (he _ _ ha) (eA he lo) (eA he hi) (eA he mx) hv w)
   rcases ki hv with hv |hv
   ·exact lift (Iw hC (he _ _ ha).soft (eA he lo) (eA he hi) (eA he mx) hv w)
   ·exact lift (HV hC (he _ _ ha) (eA he lo) (eA he hi) (eA he mx) hv w)
  ·cases hv
 case h_12 t x n=>
  split at hv
  ·rename_i a ha
   rcases ki hv with hv |hv
   ·exact lift (y8 hC (he _ _ ha) hv w)
   ·exact lift (wx hC (he _ _ ha) hv w)
  ·cases hv
 case h_13 t x n=>
  split at hv
  ·rename_i a ha; exact lift (NY hC (he _ _ ha) hv w)
  ·cases hv
 case h_14 t x i=>
  split at hv
  ·rename_i a b ha hb
   rcases ki hv with hv |hv
   ·exact lift (zg hC (he _ _ ha) (he _ _ hb) hv w)
   ·exact lift (wA hC (he _ _ ha).soft (he _ _ hb) hv w)
  ·cases hv
 case h_15 t x i=>
  split at hv
  ·rename_i a b ha hb
   rcases ki hv with hv |hv
   ·exact lift (LM hC (he _ _ ha) (he _ _ hb) hv w)
   ·exact lift (GS hC (he _ _ ha) (he _ _ hb) hv w)
  ·cases hv
 case h_16 t m k ok=>
  split at hv
  ·rename_i a b ha hb; exact lift (GJ hC hr (he _ _ ha) (he _ _ hb) hv)
  ·cases hv
 case h_17 x str=>
  split at hv
  ·rename_i i ha;split at hv
   ·rename_i hi;cases hv;have hx:=he _ _ ha;simp only [execOp];refine lift ?_;generalize ev x=x' at hx;cases hx;rename_i L hL;obtain ⟨h0,a,s,t,h1⟩:=hr.obj i L _ hL hi;refine ⟨.tuple #[.bool false],?_,.tuple (a':= #[.bool false]) rfl (fun j u u' hu hu'=> ?_)⟩
    ·simp only [Instr.next,h0,Nat.add_zero,Sem.run_bind,getObj,Sem.run,h1,Result.andThen_ok];rfl
    ·cases j with
     |zero=>simp at hu hu'; subst hu; subst hu'; exact .bool (.lit false)
     |succ j=>simp at hu
   ·cases hv
  ·cases hv
 case h_18 x i=>
  split at hv
  ·rename_i vs ha;have hx:=he _ _ ha;simp only [execOp];refine lift ?_;generalize ev x=x' at hx;cases hx; rename_i a' h1 h2;obtain ⟨v',p,q⟩:=az.get (l:=vs) (a:=a') ⟨h1,h2⟩ hv;exact ⟨v',by simp only [Instr.extract,p,Sem.run_pure],q⟩
  ·cases hv
 case h_19 args ts=>
  split at hv
  ·rename_i x t hargs ht;split at hv
   ·rename_i a ha
    have hxs:(args.map ev)[0]? =some (ev x):=by
     have:args= #[x]:=by apply Array.ext'; simpa using hargs
     subst this; simp
    have hl: ∃v',(Builtin.len_ ts type (args.map ev)).run P w= .ok v' w/\ai ρ f v v':=by
     rcases ki hv with hv |hv
     ·exact Tu hC hr (ty:=type) (he _ _ ha) hv ts (args.map ev) ht hxs
     ·exact Q7 hC (ty:=type) (he _ _ ha).soft hv ts (args.map ev) ht hxs
    obtain ⟨v',p,q⟩:=hl;exact ⟨v',by simp only [execOp,resolve,Sem.run_bind,Sem.run_pure,Result.andThen_ok,invoke,builtin,p],q⟩
   ·cases hv
  ·cases hv
 case h_20 args ts=>
  split at hv
  ·rename_i x l hargs;have hl:=HG he _ _ hargs;cases hxs:args.toList.map ev with
   |nil=>rw [hxs] at hl; have:=hl.1; simp at this
   |cons x' cs=>
    rw [hxs] at hl;have hx:ai ρ f x x':=hl.2 0 x x' (by simp) (by simp)
    have hl':az ρ f l cs.toArray:=⟨by have:=hl.1; simp at this ⊢; exact this,fun j a a' ha ha'=>hl.2 (j+1) a a' (by simpa using ha) (by simpa using ha')⟩
    obtain ⟨v',p,q⟩:=Ld hC false w l x x' cs v hx hl' hv;refine ⟨v',?_,q⟩;have e:(args.map ev).toList=x'::cs:=by rw [<- hxs]; simp
    simp only [execOp,resolve,Sem.run_bind,Sem.run_pure,Result.andThen_ok,invoke,builtin,Builtin.min_,e];simp only [Bool.false_eq_true,if_false] at p;rw [p]; rfl
  ·cases hv
 case h_21 args ts=>
  split at hv
  ·rename_i x l hargs;have hl:=HG he _ _ hargs;cases hxs:args.toList.map ev with
   |nil=>rw [hxs] at hl; have:=hl.1; simp at this
   |cons x' cs=>
    rw [hxs] at hl;have hx:ai ρ f x x':=hl.2 0 x x' (by simp) (by simp)
    have hl':az ρ f l cs.toArray:=⟨by have:=hl.1; simp at this ⊢; exact this,fun j a a' ha ha'=>hl.2 (j+1) a a' (by simpa using ha) (by simpa using ha')⟩
    obtain ⟨v',p,q⟩:=Ld hC true w l x x' cs v hx hl' hv;refine ⟨v',?_,q⟩;have e:(args.map ev).toList=x'::cs:=by rw [<- hxs]; simp
    simp only [execOp,resolve,Sem.run_bind,Sem.run_pure,Result.andThen_ok,invoke,builtin,Builtin.max_,e];simp only [if_true] at p;rw [p]; rfl
  ·cases hv
 case h_22=>cases hv
def cellsOf(l:List ab):T ab:=aF l 0 .nil
theorem fR{l:List ab}{j:Nat}{v:ab}(h:(cellsOf l).get j=some v):l[j]? =some v:=by
 rcases eK _ _ _ _ _ h with ⟨_,h⟩ |h
 ·simpa using h
 · (rw [T.get_nil] at h; cases h)
theorem au.LO{ρ:Env}{B:Nat->Prop}{W w w':World}{f:Ren}{h h':T ah}(hr:au ρ B W f h w){i:Nat}{L:Loc}{o:ah}(hf:f i=none){O:Obj}(hw:w'.heap=w.heap.push O)(hb:w'.os=w.os/\w'.tape=w.tape/\w'.output=w.output)
 (hL:L.blk=w.heap.size) (ho:c9 ρ (f.put i L) B w' L o) (hone: ∀b,o.aZ ρ w' L b->b=L.blk) (hh: ∀j x,h'.get j=some x->(j=i/\x=o)\/(j≠i/\h.get j=some x)):au ρ B W (f.put i L) h' w':=by
 have old: ∀k,k<w.heap.size->w'.heap[k]? =w.heap[k]? :=fun k hk=>by rw [hw,Array.getElem?_push,if_neg (by omega)]
 have hB:=hr.bsize;have hs:=hr.below.size;have hsz:w.heap.size<=w'.heap.size:=by rw [hw]; simp
 have cO:=fun j M ok hj hg=>(hr.obj j M ok hj hg).rP hsz (fun b hb=>old b ((hr.obj j M ok hj hg).lz hb))
 refine ⟨hr.below.trans ⟨hb.1,hb.2.1,hb.2.2,hsz,fun k hk=>old k (by have:=hB k hk; omega)⟩,hr.bsize,?_,?_,?_⟩
 ·intro j M e
  by_cases hj:j=i
  ·subst hj; rw [Ren.cn] at e; cases e; rw [hw,hL]; simp
  ·rw [Ren.bM f L hj] at e;have:=hr.lt j M e;omega
 ·intro a b La Lb oa ob ha hb hga hgb hab hown x hx hx';have lt: ∀j M ok,f j=some M->h.get j=some ok->ok.aZ ρ w' M x->x<w.heap.size:=fun j M ok hj hg hf=>(hr.obj j M ok hj hg).lz ((cO j M ok hj hg).2 x hf)
  rcases hh _ _ hga with ⟨ea,eo⟩ | ⟨hai,hga⟩
  ·subst eo;rw [ea,Ren.cn] at ha; cases ha;have:=hone x hx
   rcases hh _ _ hgb with ⟨eb,_⟩ | ⟨hbi,hgb⟩
   ·exact hab (ea.trans eb.symm)
   ·rw [Ren.bM f L hbi] at hb;have:=lt b Lb ob hb hgb hx';omega
  ·rw [Ren.bM f L hai] at ha
   rcases hh _ _ hgb with ⟨eb,eo⟩ | ⟨hbi,hgb⟩
   ·subst eo;rw [eb,Ren.cn] at hb; cases hb;have:=hone x hx';have:=lt a La oa ha hga hx;omega
   ·rw [Ren.bM f L hbi] at hb;exact hr.apart a b La Lb oa ob ha hb hga hgb hab hown x ((cO a La oa ha hga).2 x hx) ((cO b Lb ob hb hgb).2 x hx')
 ·intro j M ok hj hg
  rcases hh _ _ hg with ⟨rfl,rfl⟩ | ⟨hji,hg⟩
  ·rw [Ren.cn] at hj; cases hj; exact ho
  ·rw [Ren.bM f L hji] at hj;exact (cO j M ok hj hg).1.mono (Ren.fv L hf)
structure jZ (P:Program) (ρ:Env) (B:Nat->Prop) (f:Ren) (i:Nat) (w:World) (o:ah) (v:ab) (s:Sem Next):Prop where
 step: ∃w' L O v',s.run P w= .ok (.value v') w'/\w'.heap=w.heap.push O/\(w'.os=w.os/\w'.tape=w.tape/\w'.output=w.output)/\L.blk=w.heap.size/\c9 ρ (f.put i L) B w' L o/\ai ρ (f.put i L) v v'/\ ∀b,o.aZ ρ w' L b->b=L.blk
theorem c9.row{ρ:Env}{f:Ren}{B:Nat->Prop}{w:World}{L:Loc}{l:List ab}{cs:Array Value}{e:TypeId}(hB: ¬B L.blk)(hw:w.heap[L.blk]? =some (.cells cs e))(hL:L.base=0/\L.sz=cs.size)(hl:az ρ f l cs):
 c9 ρ f B w L (.cells (cellsOf l) e true l.length):=by
 refine ⟨cs,(0,0),hw,hL.2.symm,fun _=>⟨hB,fun j _=>by simp⟩,fun j v hj=> ?_⟩
 obtain ⟨v',h1,h2⟩:=hl.get (fR hj);exact ⟨(List.getElem?_eq_some_iff.1 (fR hj)).1,v',by rw [hL.1,Nat.zero_add]; exact h1,h2⟩
def kT(k0:IntKind):List ab->Option (List Int)
 | []=>some []
 | .int k (.lit n)::l=>
   match bf k k0&&(aL (kLo k0) n&&aL n (kHi k0)) with
   |true=>
    match kT k0 l with
    |some r=>some (n::r)
    |none=>none
   |false=>none
 |_::_=>none
theorem tA{k0:IntKind}: ∀ {l:List ab} {r:List Int},kT k0 l=some r->r.length=l.length/\ ∀(j:Nat) (v:ab),l[j]? =some v-> ∃n,r[j]? =some n/\v= .int k0 (.lit n)/\kLo k0<=n/\n<=kHi k0:=by
 intro l
 induction l with
 |nil=>intro r h; cases h; exact ⟨rfl,fun j v hj=>by simp at hj⟩
 |cons x l ih=>
  intro r h;unfold kT at h;split at h
  ·rename_i h0; cases h0
  ·rename_i k n l' h0;cases h0;split at h
   ·rename_i hk;split at h
    ·rename_i r' hr;cases h;obtain ⟨h1,h2⟩:=ih hr;simp only [Bool.and_eq_true,ay,decide_eq_true_eq] at hk;have hkk:=aH hk.1;subst hkk;refine ⟨by simp [h1],fun j v hj=> ?_⟩
     cases j with
     |zero=>
      have hj:some (ab.int k (.lit n))=some v:=by simpa using hj
      cases hj;exact ⟨n,rfl,rfl,hk.2.1,hk.2.2⟩
     |succ j=>exact h2 j v (by simpa using hj)
    ·cases h
   ·cases h
  ·cases h
def gB(l:List ab)(e:TypeId):ah:=
 match Nat.ble 256 l.length with
 |false=> .cells (cellsOf l) e true l.length
 |true=>
  match l with
  | .int k (.lit n)::l'=>
    match kT k (.int k (.lit n)::l') with
    |some r=> .arr [k] (.lit (.ofNat (rowOf r))) (.lit (.ofNat r.length)) true
    |none=> .cells (cellsOf (.int k (.lit n)::l')) e true (List.length (.int k (.lit n)::l'))
  |l=> .cells (cellsOf l) e true l.length
theorem fQ{P:Program}(w:World)(e:TypeId)(cs:Array Value):(newRow e cs).run P w= .ok ⟨w.heap.size,0,none⟩ {w with heap:=w.heap.push (.cells cs e)}:=by
 simp only [newRow,Sem.run_bind,run_newObj,Result.andThen_ok,Sem.run_pure]
theorem jZ.row{P:Program}{ρ:Env}{B:Nat->Prop}{f:Ren}{i:Nat}{w:World}{l:List ab}{cs:Array Value}{e:TypeId}{v:ab}{s:Sem Next}{v':Value}(hB: ¬B w.heap.size)(hf:f i=none)(hl:az ρ f l cs)
 (hs:s.run P w= .ok (.value v') {w with heap:=w.heap.push (.cells cs e)}) (hv: ∀L:Loc,L.blk=w.heap.size->L.base=0->ai ρ (f.put i L) v v'):
 jZ P ρ B f i w (.cells (cellsOf l) e true l.length) v s:=
 ⟨_,⟨w.heap.size,0,cs.size⟩,_,v',hs,rfl,⟨rfl,rfl,rfl⟩,rfl,c9.row hB (by simp) ⟨rfl,rfl⟩ (hl.mono (Ren.fv _ hf)),hv _ rfl rfl,fun _ h=>h⟩
theorem c9.vj{ρ:Env}{f:Ren}{B:Nat->Prop}{w:World}{L:Loc}{l:List ab}{cs:Array Value}{e:TypeId}(hB: ¬B L.blk)(hw:w.heap[L.blk]? =some (.cells cs e))(hL:L.base=0/\L.sz=cs.size)(hl:az ρ f l cs):
 c9 ρ f B w L (gB l e):=by
 have base:=c9.row hB hw hL hl;unfold gB;split
 ·exact base
 ·split
  ·rename_i k n l' _;split
   ·rename_i r hr;obtain ⟨h1,h2⟩:=tA hr;refine ⟨cs,e,(0,0),hw,hL.2.symm,fun _=>⟨hB,fun j _=>by simp⟩,fun j c k' hj hk=> ?_⟩
    have hc:c=0:=by
     have:=(List.getElem?_eq_some_iff.1 hk).1
     simpa using this
    subst hc;have hk:some k=some k':=hk;cases hk;have hj:(j:Int)<(r.length:Nat):=hj;have hjl:j<r.length:=by omega
    have hjl2:j<(ab.int k (.lit n)::l').length:=by rw [<- h1]; exact hjl
    obtain ⟨v',q1,q2⟩:=hl.get (List.getElem?_eq_getElem hjl2);obtain ⟨m,m1,m2,m3,m4⟩:=h2 j _ (List.getElem?_eq_getElem hjl2);rw [m2] at q2;cases q2
    have hin:fE m:=by
     unfold fE;cases k<;>simp only [kLo,kHi] at m3 m4<;>omega
    have e1:ag ((rowOf r:Nat):Int) j=m:=cP r j m m1 hin;show cs[L.base+(j*1+0)]? =some (.int k (ag ((rowOf r:Nat):Int) ((j*1+0:Nat):Int)))/\kLo k<=ag ((rowOf r:Nat):Int) ((j*1+0:Nat):Int)/\ag ((rowOf r:Nat):Int) ((j*1+0:Nat):Int)<=kHi k;rw [Nat.mul_one,Nat.add_zero,e1,hL.1,Nat.zero_add];exact ⟨q1,m3,m4⟩
   ·exact base
  ·exact base
theorem nK{ρ:Env}{w:World}{L:Loc}{l:List ab}{e:TypeId}: ∀b,(gB l e).aZ ρ w L b->b=L.blk:=by
 intro b h;unfold gB at h;split at h
 ·exact h
 ·split at h
  ·split at h
   ·exact h
   ·exact h
  ·exact h
theorem jZ.vj{P:Program}{ρ:Env}{B:Nat->Prop}{f:Ren}{i:Nat}{w:World}{l:List ab}{cs:Array Value}{e:TypeId}{v:ab}{s:Sem Next}{v':Value}(hB: ¬B w.heap.size)(hf:f i=none)(hl:az ρ f l cs)
 (hs:s.run P w= .ok (.value v') {w with heap:=w.heap.push (.cells cs e)}) (hv: ∀L:Loc,L.blk=w.heap.size->L.base=0->ai ρ (f.put i L) v v'):
 jZ P ρ B f i w (gB l e) v s:=
 ⟨_,⟨w.heap.size,0,cs.size⟩,_,v',hs,rfl,⟨rfl,rfl,rfl⟩,rfl,c9.vj hB (by simp) ⟨rfl,rfl⟩ (hl.mono (Ren.fv _ hf)),hv _ rfl rfl,nK⟩
def td(cells:List ab)(off:Nat)(vs:List ab):List ab:=cells.take off++(vs++cells.drop (off+vs.length))
def wQ(place:Nat->Option (Nat×Nat)):List ab->List (Nat×ab)->Option (List ab)
 |cells,[]=>some cells
 |cells,(i,v)::rest=>
  match place i with
  |none=>none
  |some (off,size)=>
   match Nat.beq v.cells.length size,Nat.ble (off+v.cells.length) cells.length with
   |true,true=>wQ place (td cells off v.cells) rest
   |_,_=>none
theorem MY(off:Nat): ∀(l:List Value) (k:Nat) (cs:Array Value) (j:Nat),off+k+l.length<=cs.size->
 ((l.zipIdx k).foldl (fun cs (p:Value×Nat)=>cs.setIfInBounds (off+p.2) p.1) cs)[j]? =if off+k<=j/\j<off+k+l.length then l[j-(off+k)]? else cs[j]? :=by
 intro l
 induction l with
 |nil=>
  intro k cs j h;rw [if_neg (by simp only [List.length_nil]; omega)]
  simp
 |cons v l ih=>
  intro k cs j h;simp only [List.length_cons] at h;rw [List.zipIdx_cons,List.foldl_cons,ih (k+1) _ j (by simp; omega)]
  simp only [List.length_cons]
  by_cases hj:j=off+k
  ·subst hj;rw [if_neg (by omega),if_pos (by omega)]
   simp [show off+k<cs.size by omega]
  ·by_cases hj2:off+(k+1)<=j/\j<off+(k+1)+l.length
   ·rw [if_pos hj2,if_pos (by omega),show j-(off+k)=(j-(off+(k+1)))+1 by omega]
    simp
   ·rw [if_neg hj2,if_neg (by omega),Array.getElem?_setIfInBounds_ne (by omega)]
theorem vV(off:Nat): ∀(l:List Value) (k:Nat) (cs:Array Value),((l.zipIdx k).foldl (fun cs (p:Value×Nat)=>cs.setIfInBounds (off+p.2) p.1) cs).size=cs.size:=by
 intro l
 induction l with
 |nil=>intro k cs; simp
 |cons v l ih=>intro k cs; rw [List.zipIdx_cons,List.foldl_cons,ih]; simp
theorem G8(cells vs:List ab)(off j:Nat)(h:off+vs.length<=cells.length):(td cells off vs)[j]? =if off<=j/\j<off+vs.length then vs[j-off]? else cells[j]? :=by
 unfold td;have h1:(cells.take off).length=off:=by simp; omega
 by_cases hj:j<off
 ·rw [if_neg (by omega),List.getElem?_append_left (by omega),List.getElem?_take,if_pos hj]
 ·rw [List.getElem?_append_right (by omega),h1]
  by_cases hj2:j<off+vs.length
  ·rw [if_pos (by omega),List.getElem?_append_left (by omega)]
  ·rw [if_neg (by omega),List.getElem?_append_right (by omega),List.getElem?_drop]
   congr 1; omega
theorem zc(cells vs:List ab)(off:Nat)(h:off+vs.length<=cells.length):(td cells off vs).length=cells.length:=by
 unfold td; simp; omega
theorem yP{ρ:Env}{f:Ren}{pl:Nat->Option (Nat×Nat)}: ∀(ps:List (Nat×ab)) (ps':List (Nat×Value)) (cells r:List ab) (cs:Array Value),
 (ps'.length=ps.length/\ ∀(k:Nat) (p:Nat×ab) (p':Nat×Value),ps[k]? =some p->ps'[k]? =some p'->p.1=p'.1/\ai ρ f p.2 p'.2)->az ρ f cells cs->wQ pl cells ps=some r->
 ∃cs',Instr.fill pl cs ps'=some cs'/\az ρ f r cs':=by
 intro ps
 induction ps with
 |nil=>
  intro ps' cells r cs hp hc h;have:ps'=[]:=List.eq_nil_of_length_eq_zero hp.1;subst this;simp [wQ] at h; subst h;exact ⟨cs,rfl,hc⟩
 |cons p ps ih=>
  intro ps' cells r cs hp hc h;cases ps' with
  |nil=>have:=hp.1; simp at this
  |cons p' ps'=>
   obtain ⟨i,v⟩:=p;obtain ⟨i',v'⟩:=p';obtain ⟨rfl,hv⟩:=hp.2 0 _ _ rfl rfl
   have hp':ps'.length=ps.length/\ ∀(k:Nat) (p:Nat×ab) (p':Nat×Value),ps[k]? =some p->ps'[k]? =some p'->p.1=p'.1/\ai ρ f p.2 p'.2:=
    ⟨by have:=hp.1; simpa using this,fun k a a' x y=>hp.2 (k+1) a a' (by simpa using x) (by simpa using y)⟩
   simp only [wQ] at h;split at h
   ·cases h
   ·rename_i off size hpl;split at h
    ·rename_i h1 h2;have h1:=Nat.eq_of_beq_eq_true h1;have h2:=Nat.le_of_ble_eq_true h2;have hcell:=az.cells hv;have hsz:v'.cells.size=v.cells.length:=hcell.1;have hcs:=hc.1;simp only [Instr.fill,hpl];rw [if_neg (by simp; omega)]
     refine ih ps' (td cells off v.cells) r _ hp' ?_ h
     have e:(v'.cells.zipIdx.foldl (fun cs (x:Value×Nat)=>match x with | (c,j)=>cs.setIfInBounds (off+j) c) cs)=((v'.cells.toList.zipIdx 0).foldl (fun cs (p:Value×Nat)=>cs.setIfInBounds (off+p.2) p.1) cs):=by
      rw [<- Array.foldl_toList,Array.toList_zipIdx]
     refine ⟨?_,fun j a a' ha ha'=> ?_⟩
     ·show (v'.cells.zipIdx.foldl (fun cs (x:Value×Nat)=>match x with | (c,j)=>cs.setIfInBounds (off+j) c) cs).size=_
      rw [e,vV,zc _ _ _ h2];exact hc.1
     ·have ha'':((v'.cells.toList.zipIdx 0).foldl (fun cs (p:Value×Nat)=>cs.setIfInBounds (off+p.2) p.1) cs)[j]? =some a':=by rw [<- e]; exact ha'
      rw [MY off _ 0 cs j (by simp; omega)] at ha''
      rw [G8 _ _ _ _ h2] at ha;simp only [Nat.add_zero,Array.length_toList,hsz] at ha'';split at ha
      ·rename_i hjj;rw [if_pos hjj] at ha'';exact hcell.2 _ a a' ha (by simpa using ha'')
      ·rename_i hjj;rw [if_neg hjj] at ha'';exact hc.2 _ a a' ha ha''
    ·cases h
def evp(aev:Operand->Option ab):List (Nat×Operand)->Option (List (Nat×ab))
 | []=>some []
 | (i,x)::l=>
   match aev x,evp aev l with
   |some v,some m=>some ((i,v)::m)
   |_,_=>none
theorem Ql{ρ:Env}{f:Ren}{aev:Operand->Option ab}{ev:Operand->Value}(he:iN ρ f aev ev): ∀(l:List (Nat×Operand)) (m:List (Nat×ab)),evp aev l=some m->
 (l.map fun (i,x)=>(i,ev x)).length=m.length/\ ∀(k:Nat) (p:Nat×ab) (p':Nat×Value),m[k]? =some p->(l.map fun (i,x)=>(i,ev x))[k]? =some p'->p.1=p'.1/\ai ρ f p.2 p'.2:=by
 intro l
 induction l with
 |nil=>intro m h; simp [evp] at h; subst h; exact ⟨rfl,by simp⟩
 |cons x l ih=>
  intro m h;obtain ⟨i,x⟩:=x;simp only [evp] at h;split at h
  ·rename_i v m' hv hm;cases h;obtain ⟨h1,h2⟩:=ih _ hm;refine ⟨by simpa using h1,fun k p p' hp hp'=> ?_⟩
   cases k with
   |zero=>simp at hp hp'; subst hp; subst hp'; exact ⟨rfl,he _ _ hv⟩
   |succ k=>exact h2 k p p' (by simpa using hp) (by simpa using hp')
  ·cases h
def qO(C:Ctx):List Field->Option (List (Nat×Nat))
 | []=>some []
 |f::fs=>
  match C.size f.type,qO C fs with
  |some n,some l=>some ((f.offset,n)::l)
  |_,_=>none
theorem Ij{C:Ctx}{P:Program}{ρ:Env}(hC:C.Ok P ρ): ∀(fs:List Field) (l:List (Nat×Nat)),qO C fs=some l->fs.mapM (fun f=>(P.info? f.type).map fun i=>(f.offset,i.size))=some l:=by
 intro fs
 induction fs with
 |nil=>intro l h; simp [qO] at h; subst h; rfl
 |cons f fs ih=>
  intro l h;simp only [qO] at h;split at h
  ·rename_i n m hn hm;cases h;obtain ⟨i,hi,rfl⟩:=Ctx.info hC hn;simp [List.mapM_cons,hi,ih _ hm]
  ·cases h
def Br(C:Ctx)(aev:Operand->Option ab)(t:TypeId)(parts:List (Nat×Operand)):Option ab:=
 match kA C t,evp aev parts with
 |some z,some ps=>
  match C.und t with
  |some (.array _ e)=>
   match C.size e with
   |none=>none
   |some s=>
    match wQ (fun i=>some (i*s,s)) z.cells ps with
    |some l=>some (.agg l)
    |none=>none
  |some (.struct fs)=>
   match qO C fs.toList with
   |none=>none
   |some pl=>
    match wQ (fun i=>pl[i]?) z.cells ps with
    |some l=>some (.agg l)
    |none=>none
  |_=>none
 |_,_=>none
theorem Aq{C:Ctx}{P:Program}{ρ:Env}(hC:C.Ok P ρ){f:Ren}{aev:Operand->Option ab}{ev:Operand->Value}(he:iN ρ f aev ev){t:TypeId}{parts:Array (Nat×Operand)}{v:ab}(h:Br C aev t parts.toList=some v)(w:World):
 ∃v',(Instr.build t (parts.map fun (i,x)=>(i,ev x))).run P w= .ok v' w/\ai ρ f v v':=by
 unfold Br at h;split at h
 ·rename_i z ps hz hps;obtain ⟨z',-,hz2,it,hit,hzz⟩:=fI hC (f:=f) hz w;have hp:=Ql he _ _ hps;have hpl:(parts.map fun (i,x)=>(i,ev x)).toList=parts.toList.map fun (i,x)=>(i,ev x):=by simp
  have hzc:=az.cells hz2;split at h
  ·rename_i n e hu;have hd:=Ctx.ax hC hu;split at h
   ·cases h
   ·rename_i s hs;obtain ⟨ie,hie,rfl⟩:=Ctx.info hC hs;split at h
    ·rename_i l hf;cases h;obtain ⟨cs',h1,h2⟩:=yP _ _ _ _ _ hp hzc hf;refine ⟨.agg cs',run_build w t _ cs' ?_,.agg h2.1 h2.2⟩;unfold Program.built;rw [hit,hd];simp only [hzz,hie,hpl];exact h1
    ·cases h
  ·rename_i fs hu;have hd:=Ctx.ax hC hu;split at h
   ·cases h
   ·rename_i pl hplc;have hpm:=Ij hC _ _ hplc;split at h
    ·rename_i l hf;cases h;obtain ⟨cs',h1,h2⟩:=yP _ _ _ _ _ hp hzc hf;refine ⟨.agg cs',run_build w t _ cs' ?_,.agg h2.1 h2.2⟩;unfold Program.built;rw [hit,hd];simp only [hzz,hpm,hpl]
     simpa using h1
    ·cases h
  ·cases h
 ·cases h
def mj(z:List ab):Nat->List ab->List ab
 |0,acc=>acc
 |n+1,acc=>mj z n (z++acc)
theorem C7(z:List ab): ∀(n:Nat) (acc:List ab),(mj z n acc).length=n*z.length+acc.length:=by
 intro n
 induction n with
 |zero=>intro acc; simp [mj]
 |succ n ih=>intro acc; simp only [mj,ih,List.length_append,Nat.succ_mul]; omega
theorem N0(z:List ab): ∀(n:Nat) (acc:List ab) (j:Nat),(mj z n acc)[j]? =if j<n*z.length then z[j % z.length]? else acc[j-n*z.length]? :=by
 intro n
 induction n with
 |zero=>intro acc j; simp [mj]
 |succ n ih=>
  intro acc j;simp only [mj,ih]
  by_cases h1:j<n*z.length
  ·rw [if_pos h1,if_pos (by rw [Nat.succ_mul]; omega)]
  ·rw [if_neg h1]
   by_cases h2:j<(n+1)*z.length
   ·rw [if_pos h2];rw [Nat.succ_mul] at h2;have hlt:j-n*z.length<z.length:=by omega
    rw [List.getElem?_append_left hlt]
    congr 1
    have e:=Nat.mul_comm z.length n;have:j=(j-n*z.length)+z.length*n:=by omega
    conv=>rhs; rw [this,Nat.add_mul_mod_self_left]
    exact (Nat.mod_eq_of_lt hlt).symm
   ·rw [if_neg h2];rw [Nat.succ_mul] at h2 ⊢;rw [List.getElem?_append_right (by omega)]
    congr 1; omega
theorem tW{ρ:Env}{f:Ren}{z:List ab}{zs:Array Value}(h:az ρ f z zs)(n:Nat):az ρ f (mj z n []) (madeCells zs (n*zs.size)):=by
 refine ⟨by rw [size_madeCells,C7,h.1]; simp,fun j v v' hv hv'=> ?_⟩
 rw [N0] at hv;split at hv
 ·rename_i hj
  have hpos:0<zs.size:=by
   rw [h.1];cases hz:z.length with
   |zero=>rw [hz] at hj; simp at hj
   |succ k=>omega
  have hm:j % z.length<zs.size:=by rw [<- h.1]; exact Nat.mod_lt _ hpos
  refine h.2 _ v v' hv ?_;unfold madeCells at hv';rw [Array.getElem?_map,Option.map_eq_some_iff] at hv';obtain ⟨a,ha,rfl⟩:=hv'
  have:a=j:=by
   have:=(Array.getElem?_eq_some_iff.1 ha).2
   simpa using this.symm
  subst this;rw [<- h.1] at hm ⊢;simp [hm]
 ·simp at hv
def Ctx.bytes(C:Ctx)(t:TypeId):Option Nat:=
 match C.ty.get t with
 |none=>none
 |some i=>some i.bytes
def iu(l:List IE):List ab:=l.map (ab.int .u8)
def J2(C:Ctx)(aev:Operand->Option ab)(i:Nat)(e:TypeId):Option (ah×ab):=
 match kA C e with
 |some z=>some (gB z.cells e,.ptr (some (i,0)))
 |none=>none
def Wi(C:Ctx)(aev:Operand->Option ab)(i:Nat)(e:TypeId)(x:Operand):Option (ah×ab):=
 match aev x with
 |some v=>some (gB v.cells e,.ptr (some (i,0)))
 |none=>none
def qT(C:Ctx)(aev:Operand->Option ab)(i:Nat)(t:TypeId)(len:Nat)(parts:Array (Nat×Operand)):Option (ah×ab):=
 match C.und t,evp aev parts.toList with
 |some (.slice e),some ps=>
  match C.size e,kA C e with
  |some s,some z=>
   match Nat.beq z.cells.length s,Nat.ble (len*s) 16777216 with
   |true,true=>
    match wQ (fun i=>some (i*s,s)) (mj z.cells len []) ps with
    |some l=>some (.cells (cellsOf l) e true l.length,.slice (some (i,0)) len len 0)
    |none=>none
   |_,_=>none
  |_,_=>none
 |_,_=>none
def Ac(C:Ctx)(aev:Operand->Option ab)(i:Nat)(t:TypeId)(r:Option Operand):Option (ah×ab):=
 match r with
 |none=>some (.map [],.map (some i))
 |some x=>
  match C.und t,aev x with
  |some (.map _ _),some (.int _ _)=>some (.map [],.map (some i))
  |_,_=>none
def ux(C:Ctx)(aev:Operand->Option ab)(i:Nat)(t:TypeId)(l:Operand)(c:Operand):Option (ah×ab):=
 match aev l,aev c with
 |some lv,some cv=>
  match asNat C lv,asNat C cv with
  |some l,some c=>
   match C.und t with
   |some (.slice e)=>
    match C.size e,C.bytes e,kA C e with
    |some s,some b,some z=>
     match Nat.ble l c,Nat.ble (b*c) 281474976710656,Nat.ble c 9223372036854775807,Nat.beq z.cells.length s with
     |true,true,true,true=>some (gB (mj z.cells c []) e,.slice (some (i,0)) l c 0)
     |_,_,_,_=>none
    |_,_,_=>none
   |_=>none
  |_,_=>none
 |_,_=>none
def jR(C:Ctx)(aev:Operand->Option ab)(i:Nat)(t:TypeId)(l:Operand)(c:Operand):Option (ah×ab):=
 match aev l,aev c with
 |some (.int _ a),some (.int _ b)=>
  match C.und t with
  |some (.slice e)=>
   match C.size e,C.bytes e,kA C e with
   |some 1,some by_,some (.int k (.lit (.ofNat 0)))=>
    match a.eq b&&Nat.ble by_ 262144,settle C.dec (mkLt C.bd a (.lit 0)),settle C.dec (mkLt C.bd (.lit 1073741824) a) with
    |true,some false,some false=>some (.arr [k] (.lit 0) a true,.sliceS i (.lit 0) a 1 true)
    |_,_,_=>none
   |_,_,_=>none
  |_=>none
 |_,_=>none
def qm(C:Ctx)(aev:Operand->Option ab)(i:Nat)(t:TypeId)(l:Operand)(c:Operand):Option (ah×ab):=
 match ux C aev i t l c with
 |some r=>some r
 |none=>jR C aev i t l c
def zw(C:Ctx)(aev:Operand->Option ab)(i:Nat)(s:TypeId)(d:TypeId)(x:Operand):Option (ah×ab):=
 match C.und s,C.und d,aev x with
 |some .string,some (.slice e),some (.str l)=>
  match C.und e with
  |some (.int .u8)=>some (.cells (cellsOf (iu l)) e true (iu l).length,.slice (some (i,0)) l.length l.length 1)
  |_=>none
 |some .string,some (.slice e),some (.strS c l)=>
  match C.und e with
  |some (.int .u8)=>some (.arr [.u8] c l true,.sliceA i l 1)
  |_=>none
 |_,_,_=>none
def Kr(C:Ctx)(aev:Operand->Option ab)(i:Nat)(t:TypeId)(x:Operand):Option (ah×ab):=
 match C.und t,aev x with
 |some (.map _ _),some (.map none)=>some (.it0,.ptr (some (i,0)))
 |_,_=>none
def TL(C:Ctx)(aev:Operand->Option ab)(i:Nat):Op->Option (ah×ab)
 | .alloc e=>J2 C aev i e
 | .box e x=>Wi C aev i e x
 | .buildSlice t len parts=>qT C aev i t len parts
 | .makeMap t r=>Ac C aev i t r
 | .makeSlice t l c=>qm C aev i t l c
 | .convert s d x=>zw C aev i s d x
 | .range t x=>Kr C aev i t x
 |_=>none
theorem qB{ρ:Env}{f:Ren}{l:List IE}{s:ByteArray}(h:eu ρ l s):az ρ f (iu l) (s.data.map fun b=> .int .u8 b.toNat):=by
 have hs:=h.size;refine ⟨by simpa [iu] using hs,fun i v v' hv hv'=> ?_⟩
 simp only [iu,List.getElem?_map,Option.map_eq_some_iff] at hv;obtain ⟨e,he,rfl⟩:=hv;rw [Array.getElem?_map,Option.map_eq_some_iff] at hv';obtain ⟨b,hb,rfl⟩:=hv';have h1:(l.map (·.ev ρ))[i]? =some (e.ev ρ):=by simp [he]
 rw [<- h] at h1;simp only [List.getElem?_map,Option.map_eq_some_iff,Array.getElem?_toList,hb] at h1;obtain ⟨b',hb',e1⟩:=h1;cases hb';rw [e1];exact .int _ e
theorem xi(j:Nat):ag 0 (j:Nat)=0:=by
 show ff (Nat.mod (Nat.shiftRight (0:Int).toNat (Nat.mul 80 (j:Int).toNat)) 1208925819614629174706176)=0;have:Nat.shiftRight (0:Int).toNat (Nat.mul 80 (j:Int).toNat)=0:=Nat.zero_shiftRight _;rw [this];rfl
theorem og{C:Ctx}{P:Program}{ρ:Env}(hC:C.Ok P ρ){B:Nat->Prop}{w:World}{f:Ren}(hB: ¬B w.heap.size){aev:Operand->Option ab}{ev:Operand->Value}(he:iN ρ f aev ev){i:Nat}{t:TypeId}{l c:Operand}{ob:ah}{v:ab}(hv:jR C aev i t l c=some (ob,v)){o:Oper}(ho:o.op= .makeSlice t l c):
 jZ P ρ B f i w ob v (execOp ev o):=by
 unfold jR at hv;split at hv
 ·rename_i ka a kb b hl hc;split at hv
  ·rename_i e hu;have hd:=Ctx.ax hC hu;split at hv
   ·rename_i by_ k hs hb hz;split at hv
    ·rename_i g01 g2 g3;cases hv;have g1:=Nat.le_of_ble_eq_true (Bool.and_eq_true_iff.1 g01).2;have g0:=IE.eq_eq (Bool.and_eq_true_iff.1 g01).1;subst g0;have q2:=aq hC.dec _ _ g2;have q3:=aq hC.dec _ _ g3;rw [cK hC.bd] at q2 q3;have q2:=of_decide_eq_false q2;have q3:=of_decide_eq_false q3;simp only [IE.ev] at q2 q3;obtain ⟨n,hn⟩:=Int.eq_ofNat_of_zero_le (show 0<=a.ev ρ by omega)
     have inv: ∀ {v':Value} {kk:IntKind} {x:IE},ai ρ f (.int kk x) v'->v'= .int kk (x.ev ρ):=fun h=>by cases h; rfl
     have el:=inv (he _ _ hl);have ec:=inv (he _ _ hc);obtain ⟨z',h1,h2,it,hit,hzz⟩:=fI hC (f:=f) hz w;obtain ⟨it2,hit2,hsz⟩:=Ctx.info hC hs;rw [hit] at hit2;cases hit2
     have hby:it.bytes=by_:=by
      unfold Ctx.bytes at hb;split at hb
      ·cases hb
      ·rename_i i2 hi2;have:=hC.ty _ _ hi2;rw [hit] at this;cases this;cases hb; rfl
     have hz':=inv h2;subst hz'
     have hb2:(it.bytes:Int)*(n:Int)<=281474976710656:=by
      have:it.bytes*n<=262144*1073741824:=Nat.mul_le_mul (by omega) (by omega)
      rw [<- Int.natCast_mul];omega
     have hrun:=run_make (P:=P) w t e it _ hd hit hzz ka kb n n (by omega) (Int.le_refl _) hb2 (by omega)
     simp only [Int.toNat_natCast,hsz,Nat.mul_one] at hrun
     have hcell: ∀j,j<n->(madeCells (Value.int k (IE.ev ρ (.lit (.ofNat 0)))).cells n)[j]? =some (.int k 0):=fun j hj=>by
      unfold madeCells;rw [Array.getElem?_map,Array.getElem?_range,if_pos hj];show some ((#[Value.int k 0]:Array Value)[j % 1]!)=_;rw [Nat.mod_one];rfl
     refine ⟨w.alloc (.cells (madeCells (Value.int k (IE.ev ρ (.lit (.ofNat 0)))).cells n) e),⟨w.heap.size,0,(madeCells (Value.int k (IE.ev ρ (.lit (.ofNat 0)))).cells n).size⟩,.cells (madeCells (Value.int k (IE.ev ρ (.lit (.ofNat 0)))).cells n) e,.slice (some ⟨w.heap.size,0,none⟩) n n,?_,rfl,⟨rfl,rfl,rfl⟩,rfl,?_,?_,fun b hb=>hb⟩
     ·rw [hn] at el ec;simp only [execOp,ho,el,ec,Sem.run_bind,hrun,Result.andThen_ok,Sem.run_pure]
     ·refine ⟨_,e,(0,0),Array.getElem?_push_size,rfl,fun _=>⟨hB,fun j _=>by simp⟩,fun j c0 kk hj hkk=> ?_⟩
      have hc0:c0=0:=by
       have:=(List.getElem?_eq_some_iff.1 hkk).1
       simpa using this
      subst hc0;have hkk:some k=some kk:=hkk;cases hkk;rw [hn] at hj;show (madeCells _ n)[0+(j*1+0)]? =some (.int k (ag 0 ((j*1+0:Nat):Int)))/\kLo k<=ag 0 ((j*1+0:Nat):Int)/\ag 0 ((j*1+0:Nat):Int)<=kHi k;rw [Nat.zero_add,Nat.mul_one,Nat.add_zero,xi,hcell j (by omega)]
      exact ⟨rfl,by cases k<;>decide,by cases k<;>decide⟩
     ·have:=ai.sliceS (ρ:=ρ) (f:=f.put i ⟨w.heap.size,0,(madeCells (Value.int k (IE.ev ρ (.lit (.ofNat 0)))).cells n).size⟩) (i:=i) (s:=1) (st:= .lit 0) (len:=a) (nn:=true) (c:=n) (Ren.cn f i _) (Int.le_refl 0) (by omega) (by rw [hn]; exact Nat.le_refl n)
      rw [hn] at this;exact this
    ·cases hv
   ·cases hv
  ·cases hv
 ·cases hv
theorem Km{C:Ctx}{P:Program}{ρ:Env}(hC:C.Ok P ρ){B:Nat->Prop}{w:World}{f:Ren}(hB: ¬B w.heap.size){aev:Operand->Option ab}{ev:Operand->Value}(he:iN ρ f aev ev){i:Nat}(hf:f i=none){o:Oper}{ob:ah}{v:ab}(hv:TL C aev i o.op=some (ob,v)):
 jZ P ρ B f i w ob v (execOp ev o):=by
 obtain ⟨dst,op,type,pos,after,guard⟩:=o
 have ptrv: ∀L:Loc,L.blk=w.heap.size->L.base=0->ai ρ (f.put i L) (.ptr (some (i,0))) (.pointer (some ⟨w.heap.size,0,none⟩)):=fun L h1 h2=>by
  have:=ai.ptr (ρ:=ρ) (o:=0) (Ren.cn f i L);rw [h1,h2] at this;exact this
 have slicev: ∀(n c:Nat) (L:Loc),L.blk=w.heap.size->L.base=0->ai ρ (f.put i L) (.slice (some (i,0)) n c 0) (.slice (some ⟨w.heap.size,0,none⟩) n c):=fun n c L h1 h2=>by
  have:=ai.slice (ρ:=ρ) (o:=0) (n:=n) (c:=c) (Ren.cn f i L);rw [h1,h2] at this;exact this
 unfold TL at hv;simp only at hv;split at hv
 all_goals try unfold J2 at hv
 all_goals try unfold Wi at hv
 all_goals try unfold qT at hv
 all_goals try unfold Ac at hv
 all_goals try unfold zw at hv
 all_goals try unfold Kr at hv
 case h_1 e=>
  split at hv
  ·rename_i z hz;cases hv;obtain ⟨z',h1,h2,_⟩:=fI hC (f:=f) hz w;refine jZ.vj hB hf (az.cells h2) ?_ ptrv;simp only [execOp,Instr.alloc,Sem.run_bind,h1,Result.andThen_ok,newVar,fQ,Sem.run_pure]
  ·cases hv
 case h_2 e x=>
  split at hv
  ·rename_i a ha;cases hv;refine jZ.vj hB hf (az.cells (he _ _ ha)) ?_ ptrv;simp only [execOp,Instr.box,Sem.run_bind,Result.andThen_ok,newVar,fQ,Sem.run_pure]
  ·cases hv
 case h_3 t len parts=>
  split at hv
  ·rename_i e ps hu hps;have hd:=Ctx.ax hC hu;split at hv
   ·rename_i s z hs hz;obtain ⟨z',h1,h2,it,hit,hzz⟩:=fI hC (f:=f) hz w;split at hv
    ·rename_i hl hsm;have hl:=Nat.eq_of_beq_eq_true hl;have hsm:=Nat.le_of_ble_eq_true hsm;split at hv
     ·rename_i l hfl;cases hv;have hzc:=az.cells h2;have hzs:z'.cells.size=s:=by rw [hzc.1]; exact hl
      have hr:=tW hzc len;rw [hzs] at hr;obtain ⟨cs',q1,q2⟩:=yP _ _ _ _ _ (Ql he _ _ hps) hr hfl;refine jZ.row hB hf q2 ?_ (slicev len len);have hpl:(parts.map fun (i,x)=>(i,ev x)).toList=parts.toList.map fun (i,x)=>(i,ev x):=by simp
      by_cases h0:len*s=0
      ·have e0:madeCells z'.cells (len*s)= #[]:=by rw [h0]; simp [madeCells]
       rw [e0] at q1
       have q1':Instr.fill (fun i=>some (i*s,s)) ((Array.range (len*s)).map ((#[]:Array Value)[· % (#[]:Array Value).size]!)) (parts.toList.map fun (i,x)=>(i,ev x))=some cs':=by
        rw [h0,show Array.range 0= #[] from by apply Array.ext'; simp,show (Array.map (fun x=>(#[]:Array Value)[x % (#[]:Array Value).size]!) #[])= #[] from by apply Array.ext'; simp]
        exact q1
       simp only [execOp,Instr.buildSlice,Sem.run_bind,run_underlying hd,Result.andThen_ok,Ctx.bh hC hs,if_neg (show ¬len*s > 2^24 by omega),if_pos h0,Sem.run_pure,hpl,q1',fQ]
      ·have q1':Instr.fill (fun i=>some (i*s,s)) ((Array.range (len*s)).map (z'.cells[· % z'.cells.size]!)) (parts.toList.map fun (i,x)=>(i,ev x))=some cs':=q1
       simp only [execOp,Instr.buildSlice,Sem.run_bind,run_underlying hd,Result.andThen_ok,Ctx.bh hC hs,if_neg (show ¬len*s > 2^24 by omega),if_neg h0,h1,Sem.run_pure,hpl,q1',fQ]
     ·cases hv
    ·cases hv
   ·cases hv
  ·cases hv
 case h_4 t r=>
  have step: ∀(s:Sem Next),s.run P w= .ok (.value (.map (some w.heap.size))) {w with heap:=w.heap.push (.map #[] 0)}->jZ P ρ B f i w (.map []) (.map (some i)) s:=by
   intro s hs;refine ⟨_,⟨w.heap.size,0,0⟩,_,_,hs,rfl,⟨rfl,rfl,rfl⟩,rfl,⟨hB,#[],0,by simp,rfl,by simp⟩,?_⟩
   exact ⟨ai.map (ρ:=ρ) (Ren.cn f i ⟨w.heap.size,0,0⟩),fun _ h=>h⟩
  split at hv
  ·cases hv;refine step _ ?_;simp only [execOp,Instr.makeMap,Option.map_none,Sem.run_bind,Sem.run_pure,Result.andThen_ok,run_newObj]
  ·rename_i x;split at hv
   ·rename_i k e kk ee hu hx;have hd:=Ctx.ax hC hu;cases hv;have hxv:=he _ _ hx;refine step _ ?_;generalize hx':ev x=x' at hxv;cases hxv;simp only [execOp,Instr.makeMap,Option.map_some,hx',Sem.run_bind,run_underlying hd,asInt,asIntOf,Sem.run_pure,Result.andThen_ok,run_newObj]
   ·cases hv
 case h_5 t l c=>
  unfold qm at hv;split at hv
  case h_2=>exact og hC hB he hv rfl
  rename_i r hv';cases hv;have hv:=hv';unfold ux at hv;split at hv
  ·rename_i lv cv hl hc;split at hv
   ·rename_i l' c' hl' hc';obtain ⟨kl,el⟩:=np hC (he _ _ hl) hl';obtain ⟨kc,ec⟩:=np hC (he _ _ hc) hc';split at hv
    ·rename_i e hu;have hd:=Ctx.ax hC hu;split at hv
     ·rename_i s b z hs hb hz;obtain ⟨z',h1,h2,it,hit,hzz⟩:=fI hC (f:=f) hz w;split at hv
      ·rename_i g1 g2 g3 g4;have g1:=Nat.le_of_ble_eq_true g1;have g2:=Nat.le_of_ble_eq_true g2;have g3:=Nat.le_of_ble_eq_true g3;have g4:=Nat.eq_of_beq_eq_true g4;cases hv;have hzc:=az.cells h2;obtain ⟨it2,hit2,hsz⟩:=Ctx.info hC hs;rw [hit] at hit2;cases hit2
       have hby:it.bytes=b:=by
        unfold Ctx.bytes at hb;split at hb
        ·cases hb
        ·rename_i i2 hi2;have:=hC.ty _ _ hi2;rw [hit] at this;cases this;cases hb; rfl
       have hzs:z'.cells.size=it.size:=by rw [hzc.1,hsz]; exact g4
       have hr:=tW hzc c';rw [hzs] at hr;refine jZ.vj hB hf hr ?_ (slicev l' c')
       have hb2:(it.bytes:Int)*(c':Int)<=281474976710656:=by
        rw [hby,<-Int.natCast_mul];exact Int.ofNat_le.2 g2
       have hrun:=run_make (P:=P) w t e it z' hd hit hzz kl kc l' c' (by omega) (by omega) hb2 (by omega)
       simp only [Int.toNat_natCast] at hrun;simp only [execOp,el,ec,Sem.run_bind,hrun,Result.andThen_ok,Sem.run_pure];rfl
      ·cases hv
     ·cases hv
    ·cases hv
   ·cases hv
  ·cases hv
 case h_6 s d x=>
  split at hv
  ·rename_i e l hs hd hx;have hs:=Ctx.ax hC hs;have hd:=Ctx.ax hC hd;split at hv
   ·rename_i hu8;have hu8:=Ctx.ax hC hu8;cases hv;have hxv:=he _ _ hx;generalize hx':ev x=x' at hxv;cases hxv;rename_i st hst;have hsz:=hst.size
    -- the capacity is drawn
    obtain ⟨cap,hcap,hle⟩: ∃cap,(choose (.appendCap st.size 0 e)).run P w= .ok cap {w with drawn:=w.drawn+1}/\st.size<=cap:=by
     refine ⟨_,by rw [run_choose]; simp only [Question.forced,Bool.false_eq_true,if_false]; rfl,?_⟩
     simp only [Question.cut];omega
    have hrow:=qB (f:=f) hst;refine ⟨{w with heap:=w.heap.push (.cells (st.data.map (fun b=> .int .u8 b.toNat)++Array.replicate (cap-st.size) (.int .u8 0)) e (cap,cap+1)),drawn:=w.drawn+1},⟨w.heap.size,0,cap⟩,.cells (st.data.map (fun b=> .int .u8 b.toNat)++Array.replicate (cap-st.size) (.int .u8 0)) e (cap,cap+1),.slice (some ⟨w.heap.size,0,none⟩) st.size cap,?_,rfl,⟨rfl,rfl,rfl⟩,rfl,?_,?_⟩
    ·have hsize:(st.data.map (fun b:UInt8=>Value.int .u8 b.toNat)++Array.replicate (cap-st.size) (Value.int .u8 0)).size=cap:=by
      simp only [Array.size_append,Array.size_map,Array.size_replicate];have:st.data.size=st.size:=rfl;omega
     simp only [execOp,hx',convert,Sem.run_bind,run_underlying hs,run_underlying hd,run_underlying hu8,Result.andThen_ok,Conv.stringToBytes,hcap,fQ,markStringish,run_shape]
     have hshape:(World.shape? {heap:=w.heap.push (.cells (st.data.map (fun b:UInt8=>Value.int .u8 b.toNat)++Array.replicate (cap-st.size) (Value.int .u8 0)) e),tape:=w.tape,drawn:=w.drawn+1,os:=w.os,output:=w.output} w.heap.size)=some (e,cap):=by
      simp only [World.shape?,Array.getElem?_push_size,hsize]
     rw [hshape];simp only [Sem.run_bind,run_freeze,Sem.run_pure,Result.andThen_ok,Result.ok.injEq,true_and];simp only [World.freeze,if_neg (by decide: ¬(1:Nat)=0)]
     congr 1
     apply Array.ext_getElem?;intro k;rw [Array.getElem?_modify,Array.getElem?_push]
     by_cases hk:k=w.heap.size
     ·subst hk; simp
     ·rw [if_neg (fun e=>hk e.symm),if_neg hk,Array.getElem?_push,if_neg hk]
    ·have hsize:(st.data.map (fun b:UInt8=>Value.int .u8 b.toNat)++Array.replicate (cap-st.size) (Value.int .u8 0)).size=cap:=by
      simp only [Array.size_append,Array.size_map,Array.size_replicate];have:st.data.size=st.size:=rfl;omega
     refine ⟨_,(cap,cap+1),by simp,hsize,fun _=>⟨hB,fun j hj=>by have hj':j<cap:=hj; show ¬(cap<=j/\j<cap+1); omega⟩,fun j u hj=> ?_⟩
     obtain ⟨u',h1,h2⟩:=hrow.get (fR hj);refine ⟨(List.getElem?_eq_some_iff.1 (fR hj)).1,u',?_,h2.mono (Ren.fv _ hf)⟩;have hlt:=(Array.getElem?_eq_some_iff.1 h1).1;rw [Nat.zero_add,Array.getElem?_append_left hlt];exact h1
    ·rw [<- hsz];have:=ai.sliceG (ρ:=ρ) (f:=f.put i ⟨w.heap.size,0,cap⟩) (i:=i) (o:=0) (n:=st.size) (c:=st.size) (c':=cap) (g:=0) (Ren.cn f i _) (Nat.le_refl _) hle (by simp)
     exact ⟨this,fun _ h=>h⟩
   ·cases hv
  ·rename_i e c l hs hd hx;have hs:=Ctx.ax hC hs;have hd:=Ctx.ax hC hd;split at hv
   ·rename_i hu8;have hu8:=Ctx.ax hC hu8;cases hv;have hxv:=he _ _ hx;generalize hx':ev x=x' at hxv;cases hxv;rename_i st hst hsz
    obtain ⟨cap,hcap,hle⟩: ∃cap,(choose (.appendCap st.size 0 e)).run P w= .ok cap {w with drawn:=w.drawn+1}/\st.size<=cap:=by
     refine ⟨_,by rw [run_choose]; simp only [Question.forced,Bool.false_eq_true,if_false]; rfl,?_⟩
     simp only [Question.cut];omega
    have hsize:(st.data.map (fun b:UInt8=>Value.int .u8 b.toNat)++Array.replicate (cap-st.size) (Value.int .u8 0)).size=cap:=by
     simp only [Array.size_append,Array.size_map,Array.size_replicate];have:st.data.size=st.size:=rfl;omega
    refine ⟨{w with heap:=w.heap.push (.cells (st.data.map (fun b=> .int .u8 b.toNat)++Array.replicate (cap-st.size) (.int .u8 0)) e (cap,cap+1)),drawn:=w.drawn+1},⟨w.heap.size,0,cap⟩,.cells (st.data.map (fun b=> .int .u8 b.toNat)++Array.replicate (cap-st.size) (.int .u8 0)) e (cap,cap+1),.slice (some ⟨w.heap.size,0,none⟩) st.size cap,?_,rfl,⟨rfl,rfl,rfl⟩,rfl,?_,?_⟩
    ·simp only [execOp,hx',convert,Sem.run_bind,run_underlying hs,run_underlying hd,run_underlying hu8,Result.andThen_ok,Conv.stringToBytes,hcap,fQ,markStringish,run_shape]
     have hshape:(World.shape? {heap:=w.heap.push (.cells (st.data.map (fun b:UInt8=>Value.int .u8 b.toNat)++Array.replicate (cap-st.size) (Value.int .u8 0)) e),tape:=w.tape,drawn:=w.drawn+1,os:=w.os,output:=w.output} w.heap.size)=some (e,cap):=by
      simp only [World.shape?,Array.getElem?_push_size,hsize]
     rw [hshape];simp only [Sem.run_bind,run_freeze,Sem.run_pure,Result.andThen_ok,Result.ok.injEq,true_and];simp only [World.freeze,if_neg (by decide: ¬(1:Nat)=0)]
     congr 1
     apply Array.ext_getElem?;intro k;rw [Array.getElem?_modify,Array.getElem?_push]
     by_cases hk:k=w.heap.size
     ·subst hk; simp
     ·rw [if_neg (fun e=>hk e.symm),if_neg hk,Array.getElem?_push,if_neg hk]
    ·refine ⟨_,e,(cap,cap+1),by simp,hsize,fun _=>⟨hB,fun j hj=>by have hj':j<cap:=hj; show ¬(cap<=j/\j<cap+1); omega⟩,fun j m k hj hk=> ?_⟩
     have hm:m=0/\k= .u8:=by
      cases m with
      |zero=>simp at hk; exact ⟨rfl,hk.symm⟩
      |succ m=>simp at hk
     obtain ⟨rfl,rfl⟩:=hm;have hlt:j<st.size:=by rw [hsz] at hj; omega
     have hd8:st.data[j]? =some st.data[j]:=Array.getElem?_eq_getElem hlt;have hb:=hst j _ hd8;have h8:=(st.data[j]).toNat_lt;have hb':ag (c.ev ρ) ((j*1+0:Nat):Int)=(st.data[j].toNat:Int):=by simpa using hb
     refine ⟨?_,?_,?_⟩
     ·show (st.data.map (fun b:UInt8=>Value.int .u8 b.toNat)++Array.replicate (cap-st.size) (Value.int .u8 0))[0+(j*1+0)]? =some (.int .u8 (ag (c.ev ρ) ((j*1+0:Nat):Int)))
      rw [hb',show 0+(j*1+0)=j by omega,Array.getElem?_append_left (by simpa using hlt)]
      simp [hd8]
     ·show kLo .u8<=ag (c.ev ρ) ((j*1+0:Nat):Int);rw [hb']; simp [kLo]
     ·show ag (c.ev ρ) ((j*1+0:Nat):Int)<=kHi .u8;rw [hb']; simp [kHi]; omega
    ·have hl0:(l.ev ρ).toNat=st.size:=by omega
     have:=ai.sliceA (ρ:=ρ) (f:=f.put i ⟨w.heap.size,0,cap⟩) (i:=i) (s:=1) (c:=cap) (len:=l) (Ren.cn f i _) (by omega) (by omega) (by simp)
     rw [hl0] at this;exact ⟨this,fun _ h=>h⟩
   ·cases hv
  ·cases hv
 case h_7 t x=>
  split at hv
  ·rename_i k e hu hx;cases hv;have hd:=Ctx.ax hC hu;have hxv:=he _ _ hx;generalize hx':ev x=x' at hxv;cases hxv;refine ⟨{w with heap:=w.heap.push (.mapIter none 0 #[] 0)},⟨w.heap.size,0,0⟩,_,.pointer (some ⟨w.heap.size,0,none⟩),?_,rfl,⟨rfl,rfl,rfl⟩,rfl,⟨rfl,0,#[],0,by simp⟩,ptrv ⟨w.heap.size,0,0⟩ rfl rfl,fun _ h=>h⟩
   simp only [execOp,Instr.range,hx',Sem.run_bind,run_underlying hd,Result.andThen_ok,Sem.run_pure,run_newObj]
  ·cases hv
 case h_8=>cases hv
end
end Go.Sx
