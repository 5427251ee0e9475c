/- Part Fl1. No condition. -/
import Derived.Test.YtbhlmedfhilkbaaGreatBa
set_option linter.all false
namespace Go.Proofs.YtbhlmedfhilkbaaGreat
open Go Go.Sx
set_option maxRecDepth 1000000
noncomputable section
theorem bits_nat{x y:Nat}(hx:x<4294967296)(hy:y<4294967296):aN .xor .u32 x y=((x ^^^ y:Nat):Int)/\aN .and .u32 x y=((x &&& y:Nat):Int)/\aN .or .u32 x y=((x ||| y:Nat):Int):=by
 have e: ∀n:Nat,n<4294967296->(BitVec.ofInt IntKind.u32.bits (n:Int)).toNat=n:=fun n h=>by
  rw [BitVec.ofInt_natCast,BitVec.toNat_ofNat];exact Nat.mod_eq_of_lt h
 have w: ∀n:Nat,n<4294967296->IntKind.u32.wrap (n:Int)=n:=fun n h=>bI .u32 _ (by show (0:Int)<=n; omega) (by show (n:Int)<=4294967295; omega)
 have l1:x ^^^ y<4294967296:=Nat.xor_lt_two_pow (n:=32) hx hy;have l2:x &&& y<4294967296:=Nat.and_lt_two_pow (n:=32) x hy;have l3:x ||| y<4294967296:=Nat.or_lt_two_pow (n:=32) hx hy
 refine ⟨?_,?_,?_⟩
 ·show IntKind.u32.wrap ((BitVec.ofInt IntKind.u32.bits (x:Int) ^^^ BitVec.ofInt IntKind.u32.bits (y:Int)).toNat:Int)=_;rw [BitVec.toNat_xor,e x hx,e y hy,w _ l1]
 ·show IntKind.u32.wrap ((BitVec.ofInt IntKind.u32.bits (x:Int) &&& BitVec.ofInt IntKind.u32.bits (y:Int)).toNat:Int)=_;rw [BitVec.toNat_and,e x hx,e y hy,w _ l2]
 ·show IntKind.u32.wrap ((BitVec.ofInt IntKind.u32.bits (x:Int) ||| BitVec.ofInt IntKind.u32.bits (y:Int)).toNat:Int)=_
  rw [BitVec.toNat_or,e x hx,e y hy,w _ l3]
theorem Db{x:Nat}(h:x<4294967296):x.testBit 31=decide (2147483648<=x):=by
 rw [Nat.testBit_eq_decide_div_mod_eq]
 congr 1
 apply propext;show x / 2147483648 % 2=1 ↔ _;omega
theorem T1(z:Nat):z &&& 2147483648=(z.testBit 31).toNat*2147483648:=by
 have h: ∀i,(z &&& 2147483648).testBit i=(z.testBit i&&decide (31=i)):=fun i=>by
  rw [Nat.testBit_and,show (2147483648:Nat)=2^31 from rfl,Nat.testBit_two_pow]
 refine Nat.eq_of_testBit_eq fun i=> ?_
 rw [h]
 by_cases hi:31=i
 ·subst hi;cases hz:z.testBit 31<;>simp<;>decide
 ·cases hz:z.testBit 31
  ·simp [hi]
  ·have e:Bool.toNat true*2147483648=2^31:=rfl;rw [e,Nat.testBit_two_pow];simp [hi]
theorem Qo{x y r:Nat}(hx:x<4294967296)(hy:y<4294967296)(hr:r<4294967296):
 aN .and .u32 (aN .and .u32 (aN .xor .u32 x r) (aN .xor .u32 y r)) 2147483648=0 ↔ ¬((2147483648<=x ↔ r<2147483648)/\(2147483648<=y ↔ r<2147483648)):=by
 have l1:x ^^^ r<4294967296:=Nat.xor_lt_two_pow (n:=32) hx hr;have l2:y ^^^ r<4294967296:=Nat.xor_lt_two_pow (n:=32) hy hr;have l3:(x ^^^ r) &&& (y ^^^ r)<4294967296:=Nat.and_lt_two_pow (n:=32) _ l2;rw [(bits_nat hx hr).1,(bits_nat hy hr).1,(bits_nat l1 l2).2.1,show (2147483648:Int)=((2147483648:Nat):Int) from rfl,(bits_nat l3 (by decide)).2.1]
 have e:((x ^^^ r) &&& (y ^^^ r)) &&& 2147483648=(((x ^^^ r) &&& (y ^^^ r)).testBit 31).toNat*2147483648:=T1 _;rw [e,Nat.testBit_and,Nat.testBit_xor,Nat.testBit_xor,Db hx,Db hy,Db hr]
 by_cases h1:2147483648<=x<;>by_cases h2:2147483648<=y<;>by_cases h3:2147483648<=r<;>simp [h1,h2,h3]<;>omega
theorem Ug(r:Int)(c v:Bool):0<=nw r c v/\nw r c v<=15:=by
 unfold nw;cases c<;>cases v<;>simp only [Bool.false_eq_true,if_true,if_false]<;>constructor<;>split<;>split<;>omega
theorem S0(k a b:Int):0<=wE k a b/\wE k a b<=15:=by
 unfold wE
 repeat' split
 all_goals first |exact Ug _ _ _ |omega
def n31:IE:= .lit 2147483648
def n32:IE:= .lit 4294967296
def ng(r:IE):IE:= .sel false r (.lit 0) (.bits .or .u32 (.sel true r n31 (.lit 0) (.lit 8)) (.lit 4)) (.sel true r n31 (.lit 0) (.lit 8))
def sj(s x y:IE):IE:=
 let r:IE:= .wrap .u32 s
 let b:=ng r
 let w:IE:= .sel true s n32 b (.bits .or .u32 b (.lit 2))
 .sel false (.bits .and .u32 (.bits .and .u32 (.bits .xor .u32 x r) (.bits .xor .u32 y r)) n31) (.lit 0) w (.bits .or .u32 w (.lit 1))
def HK:IE:= .bits .xor .u32 (.lit 4294967295) (.var 2)
def VZ(k:Int):IE:=
 if k=0 then .bits .and .u32 (.var 1) (.lit 15)
 else if k=1 then sj (.add (.var 1) (.var 2)) (.var 1) (.var 2)
 else if k=2 then sj (.add (.add (.var 1) (.var 2)) (.lit 1)) (.var 1) (.var 2)
 else if k=3 then sj (.add (.add (.var 1) HK) (.lit 1)) (.var 1) HK
 else if k=4 then sj (.add (.var 1) HK) (.var 1) HK
 else if k=5 then ng (.var 1)
 else .lit 0
def mA(i:Nat):IE:= .sel true (.var i) n31 (.var i) (.sub (.var i) n32)
def xH(r s1 s2 t:IE):IE:=
 let o (x y:Int):IE:= .sel false (.sel true t (.lit (.negSucc 2147483647)) (.lit 1) (.sub (.lit 1) (.sel true t n31 (.lit 1) (.lit 0)))) (.lit 1) (.lit x) (.lit y)
 let c (p q x y:Int):IE:= .sel true s1 s2 (o p q) (o x y)
 .sel true r n31 (.sel false r (.lit 0) (c 5 4 7 6) (c 1 0 3 2)) (c 9 8 11 10)
def ZB(k:Int):IE:=
 if k=0 then .bits .and .u32 (.var 1) (.lit 15)
 else if k=1 then xH (.wrap .u32 (.add (.var 1) (.var 2))) (.add (.var 1) (.var 2)) n32 (.add (mA 1) (mA 2))
 else if k=2 then xH (.wrap .u32 (.add (.wrap .u32 (.add (.var 1) (.var 2))) (.lit 1))) (.add (.add (.var 1) (.var 2)) (.lit 1)) n32 (.add (.add (mA 1) (mA 2)) (.lit 1))
 else if k=3 then xH (.wrap .u32 (.sub (.var 1) (.var 2))) (.var 1) (.var 2) (.sub (mA 1) (mA 2))
 else if k=4 then xH (.wrap .u32 (.sub (.wrap .u32 (.sub (.var 1) (.var 2))) (.lit 1))) (.var 1) (.add (.var 2) (.lit 1)) (.sub (.sub (mA 1) (mA 2)) (.lit 1))
 else if k=5 then .sel true (.var 1) n31 (.sel false (.var 1) (.lit 0) (.lit 4) (.lit 0)) (.lit 8)
 else .lit 0
def Uq(g:FuncId)(k:Int)(e:IE):Con:={g:=g,args:=[.int .i64 (.lit k),uV .u32 1,uV .u32 2],bds:=[bC 1,bC 2],res:= .int .u32 e}
def Ue(g:FuncId)(e:Int->IE)(k:Int):Bool:=((Uq g k (e k)).tree PR ⟨[],[]⟩ 40 aG no' 12 []).all ((Uq g k (e k)).leaf (qN (bdL [bC 1,bC 2]) [])) []
theorem UE:([0,1,2,3,4,5]:List Int).all (Ue 266 VZ)=true:=by kernel_rfl
theorem WC:([0,1,2,3,4,5]:List Int).all (Ue 139 ZB)=true:=by kernel_rfl
theorem O8(a b x y:Int):aA false a b x y=if a=b then x else y:=by simp [aA]
theorem yZ(a b x y:Int):aA true a b x y=if a<b then x else y:=by simp [aA]
def mG(R:Int):Int:=(if 2147483648<=R then 8 else 0)+(if R=0 then 4 else 0)
theorem Kn{ρ:Env}{r:IE}{R:Int}(hr:r.ev ρ=R):(ng r).ev ρ=mG R:=by
 show aA false (r.ev ρ) 0 (aN .or .u32 (aA true (r.ev ρ) 2147483648 0 8) 4) (aA true (r.ev ρ) 2147483648 0 8)=_;rw [hr,O8,yZ];unfold mG
 by_cases h1:R=0
 ·subst h1; rfl
 ·rw [if_neg h1,if_neg h1]
  by_cases h2:R<2147483648
  ·rw [if_pos h2,if_neg (by omega)]; rfl
  ·rw [if_neg h2,if_pos (by omega)]; rfl
theorem Fh(R:Int):mG R=0\/mG R=4\/mG R=8\/mG R=12:=by
 unfold mG;split<;>split<;>simp
theorem or2{B:Int}(h:B=0\/B=4\/B=8\/B=12):aN .or .u32 B 2=B+2:=by
 rcases h with rfl |rfl |rfl |rfl<;>rfl
theorem or1{B:Int}(h:B=0\/B=4\/B=8\/B=12)(c:Bool):aN .or .u32 (B+if c=true then 2 else 0) 1=(B+if c=true then 2 else 0)+1:=by
 rcases h with rfl |rfl |rfl |rfl<;>cases c<;>rfl
theorem mg{ρ:Env}{s x y:IE}{S:Int}{X Y:Nat}(hs:s.ev ρ=S)(hx:x.ev ρ=X)(hy:y.ev ρ=Y)(lx:X<4294967296)(ly:Y<4294967296):
 (sj s x y).ev ρ=nw (S % 4294967296) (decide (4294967296<=S)) (decide ((2147483648<=X ↔ S % 4294967296<2147483648)/\(2147483648<=Y ↔ S % 4294967296<2147483648))):=by
 have hr:(IE.wrap .u32 s).ev ρ=S % 4294967296:=by
  show IntKind.u32.wrap (s.ev ρ)=_;rw [hs,dM];rfl
 obtain ⟨R,hR⟩:=Int.eq_ofNat_of_zero_le (show 0<=S % 4294967296 by omega)
 have lr:R<4294967296:=by omega
 have hb:=Kn (ρ:=ρ) hr
 have hw:(IE.sel true s n32 (ng (.wrap .u32 s)) (.bits .or .u32 (ng (.wrap .u32 s)) (.lit 2))).ev ρ=mG (S % 4294967296)+if decide (4294967296<=S)=true then 2 else 0:=by
  show aA true (s.ev ρ) 4294967296 ((ng (.wrap .u32 s)).ev ρ) (aN .or .u32 ((ng (.wrap .u32 s)).ev ρ) 2)=_;rw [hs,hb,yZ,or2 (Fh _)]
  by_cases h:S<4294967296
  ·rw [if_pos h,if_neg (by simp; omega),Int.add_zero]
  ·rw [if_neg h,if_pos (by simp; omega)]
 show aA false (aN .and .u32 (aN .and .u32 (aN .xor .u32 (x.ev ρ) ((IE.wrap .u32 s).ev ρ)) (aN .xor .u32 (y.ev ρ) ((IE.wrap .u32 s).ev ρ))) 2147483648) 0 ((IE.sel true s n32 (ng (.wrap .u32 s)) (.bits .or .u32 (ng (.wrap .u32 s)) (.lit 2))).ev ρ) (aN .or .u32 ((IE.sel true s n32 (ng (.wrap .u32 s)) (.bits .or .u32 (ng (.wrap .u32 s)) (.lit 2))).ev ρ) 1)=_;rw [hw,hr,hx,hy,O8,or1 (Fh _),hR];have hv:=Qo lx ly lr;show _=mG R+_+_
 by_cases h:((2147483648<=X ↔ R<2147483648)/\(2147483648<=Y ↔ R<2147483648))
 ·rw [if_neg (fun e=>hv.1 e h)]
  have h':((2147483648<=X ↔ (R:Int)<2147483648)/\(2147483648<=Y ↔ (R:Int)<2147483648)):=⟨⟨fun q=>by have:=h.1.1 q; omega,fun q=>h.1.2 (by omega)⟩,⟨fun q=>by have:=h.2.1 q; omega,fun q=>h.2.2 (by omega)⟩⟩
  rw [decide_eq_true h'];rfl
 ·rw [if_pos (hv.2 h)];have h': ¬((2147483648<=X ↔ (R:Int)<2147483648)/\(2147483648<=Y ↔ (R:Int)<2147483648)):=fun q=>h ⟨⟨fun z=>by have:=q.1.1 z; omega,fun z=>q.1.2 (by omega)⟩,⟨fun z=>by have:=q.2.1 z; omega,fun z=>q.2.2 (by omega)⟩⟩
  rw [decide_eq_false h'];simp
theorem nK{ρ:Env}{r s1 s2 t:IE}{R S T:Int}{Z:Int}(hr:r.ev ρ=R)(h1:s1.ev ρ=S)(h2:s2.ev ρ=Z)(ht:t.ev ρ=T)(h0:0<=R):
 (xH r s1 s2 t).ev ρ=nw R (decide (Z<=S)) (oO T):=by
 have o: ∀x y:Int,(IE.sel false (.sel true t (.lit (.negSucc 2147483647)) (.lit 1) (.sub (.lit 1) (.sel true t n31 (.lit 1) (.lit 0)))) (.lit 1) (.lit x) (.lit y)).ev ρ=if oO T=true then x else y:=by
  intro x y;show aA false (aA true (t.ev ρ) (-2147483648) 1 (1-aA true (t.ev ρ) 2147483648 1 0)) 1 x y=_;rw [ht,O8,yZ,yZ];unfold oO
  by_cases a:T< -2147483648
  ·rw [if_pos a,if_pos rfl,decide_eq_true (Or.inl a:T< -2147483648\/2147483648<=T)]; rfl
  ·rw [if_neg a]
   by_cases b:T<2147483648
   ·rw [if_pos b,if_neg (by decide),decide_eq_false (show ¬(T< -2147483648\/2147483648<=T) by omega)]; rfl
   ·rw [if_neg b,if_pos (by decide),decide_eq_true (Or.inr (by omega):T< -2147483648\/2147483648<=T)]; rfl
 have c: ∀p q x y:Int,(IE.sel true s1 s2 (IE.sel false (.sel true t (.lit (.negSucc 2147483647)) (.lit 1) (.sub (.lit 1) (.sel true t n31 (.lit 1) (.lit 0)))) (.lit 1) (.lit p) (.lit q)) (IE.sel false (.sel true t (.lit (.negSucc 2147483647)) (.lit 1) (.sub (.lit 1) (.sel true t n31 (.lit 1) (.lit 0)))) (.lit 1) (.lit x) (.lit y))).ev ρ=if decide (Z<=S)=true then (if oO T=true then x else y) else (if oO T=true then p else q):=by
  intro p q x y;show aA true (s1.ev ρ) (s2.ev ρ) (IE.ev ρ _) (IE.ev ρ _)=_;rw [o,o,h1,h2,yZ]
  by_cases a:S<Z
  ·rw [if_pos a,decide_eq_false (show ¬Z<=S by omega)]; rfl
  ·rw [if_neg a,decide_eq_true (show Z<=S by omega)]; rfl
 show aA true (r.ev ρ) 2147483648 (aA false (r.ev ρ) 0 (IE.ev ρ _) (IE.ev ρ _)) (IE.ev ρ _)=_;rw [c,c,c,hr,yZ,O8];unfold nw
 by_cases a:R<2147483648
 ·rw [if_pos a,if_neg (show ¬2147483648<=R by omega)]
  by_cases b:R=0
  ·rw [if_pos b,if_pos b];cases decide (Z<=S)<;>cases oO T<;>rfl
  ·rw [if_neg b,if_neg b];cases decide (Z<=S)<;>cases oO T<;>rfl
 ·rw [if_neg a,if_pos (show 2147483648<=R by omega),if_neg (show ¬R=0 by omega)]
  cases decide (Z<=S)<;>cases oO T<;>rfl
theorem vo{r r':Int}{c c' v v':Bool}(h1:r=r')(h2:c=c')(h3:v=v'):nw r c v=nw r' c' v':=by rw [h1,h2,h3]
theorem WO{ρ:Env}{b:Nat}(h:ρ.i 2=b)(hb:b<4294967296):HK.ev ρ=((4294967295-b:Nat):Int):=by
 show aN .xor .u32 4294967295 (ρ.i 2)=_;rw [h,show (4294967295:Int)=((4294967295:Nat):Int) from rfl,(bits_nat (by decide) hb).1]
 have:4294967295 ^^^ b=4294967295-b:=by
  refine Nat.eq_of_testBit_eq fun i=> ?_
  have e:4294967295-b=2^32-(b+1):=by omega
  rw [Nat.testBit_xor,e,Nat.testBit_two_pow_sub_succ hb,show (4294967295:Nat)=2^32-1 from rfl,Nat.testBit_two_pow_sub_one]
  by_cases hi:i<32
  ·simp [hi]
  ·have:b.testBit i=false:=Nat.testBit_lt_two_pow (Nat.lt_of_lt_of_le hb (Nat.pow_le_pow_right (n:=2) (by decide) (show 32<=i by omega)))
   simp [hi,this]
 rw [this]
theorem Sk{ρ:Env}{a b:Nat}(ha:ρ.i 1=a)(hb:ρ.i 2=b)(la:a<4294967296)(lb:b<4294967296){k:Int}(hk:k∈([0,1,2,3,4,5]:List Int)):(VZ k).ev ρ=wE k a b:=by
 have e1:(IE.var 1).ev ρ=a:=ha;have e2:(IE.var 2).ev ρ=b:=hb;have en:=WO hb lb;have ln:4294967295-b<4294967296:=by omega
 simp only [List.mem_cons,List.not_mem_nil,or_false] at hk
 rcases hk with rfl |rfl |rfl |rfl |rfl |rfl
 ·show aN .and .u32 (ρ.i 1) 15=(a:Int) % 16;rw [ha,show (15:Int)=((15:Nat):Int) from rfl,(bits_nat la (by decide)).2.1]
  have:a &&& 15=a % 16:=Nat.and_two_pow_sub_one_eq_mod a 4;rw [this];rfl
 ·refine (mg (S:=a+b) (by show ρ.i 1+ρ.i 2=_; rw [ha,hb]) e1 e2 la lb).trans (vo rfl rfl ?_)
  unfold oO jS
  congr 1; apply propext
  split<;>split<;>omega
 ·refine (mg (S:=a+b+1) (by show ρ.i 1+ρ.i 2+1=_; rw [ha,hb]) e1 e2 la lb).trans (vo rfl rfl ?_)
  unfold oO jS
  congr 1; apply propext
  split<;>split<;>omega
 ·refine (mg (S:=a+((4294967295-b:Nat):Int)+1) (by show ρ.i 1+HK.ev ρ+1=_; rw [ha,en]) e1 en la ln).trans (vo (by omega) (by congr 1; apply propext; omega) ?_)
  unfold oO jS
  congr 1; apply propext
  split<;>split<;>omega
 ·refine (mg (S:=a+((4294967295-b:Nat):Int)) (by show ρ.i 1+HK.ev ρ=_; rw [ha,en]) e1 en la ln).trans (vo (by omega) (by congr 1; apply propext; omega) ?_)
  unfold oO jS
  congr 1; apply propext
  split<;>split<;>omega
 ·refine (Kn e1).trans ?_;show mG a=nw a false false;unfold mG nw;simp
theorem Vx{ρ:Env}{a b:Nat}(ha:ρ.i 1=a)(hb:ρ.i 2=b)(la:a<4294967296)(lb:b<4294967296){k:Int}(hk:k∈([0,1,2,3,4,5]:List Int)):(ZB k).ev ρ=wE k a b:=by
 have e1:(IE.var 1).ev ρ=a:=ha;have e2:(IE.var 2).ev ρ=b:=hb
 have s1:(mA 1).ev ρ=jS a:=by
  show aA true (ρ.i 1) 2147483648 (ρ.i 1) (ρ.i 1-4294967296)=_;rw [ha,yZ]; rfl
 have s2:(mA 2).ev ρ=jS b:=by
  show aA true (ρ.i 2) 2147483648 (ρ.i 2) (ρ.i 2-4294967296)=_;rw [hb,yZ]; rfl
 have w: ∀x:Int,IntKind.u32.wrap x=x % 4294967296:=fun x=>by rw [dM]; rfl
 simp only [List.mem_cons,List.not_mem_nil,or_false] at hk
 rcases hk with rfl |rfl |rfl |rfl |rfl |rfl
 ·show aN .and .u32 (ρ.i 1) 15=(a:Int) % 16;rw [ha,show (15:Int)=((15:Nat):Int) from rfl,(bits_nat la (by decide)).2.1]
  have:a &&& 15=a % 16:=Nat.and_two_pow_sub_one_eq_mod a 4;rw [this];rfl
 ·exact nK (R:=(a+b:Int) % 4294967296) (by show IntKind.u32.wrap (ρ.i 1+ρ.i 2)=_; rw [ha,hb,w]) (S:=a+b) (by show ρ.i 1+ρ.i 2=_; rw [ha,hb]) (Z:=4294967296) rfl (T:=jS a+jS b) (by show (mA 1).ev ρ+(mA 2).ev ρ=_; rw [s1,s2]) (by omega)
 ·refine (nK (R:=(a+b+1:Int) % 4294967296) (by show IntKind.u32.wrap (IntKind.u32.wrap (ρ.i 1+ρ.i 2)+1)=_; rw [ha,hb,w,w]; omega) (S:=a+b+1) (by show ρ.i 1+ρ.i 2+1=_; rw [ha,hb]) (Z:=4294967296) rfl (T:=jS a+jS b+1) (by show (mA 1).ev ρ+(mA 2).ev ρ+1=_; rw [s1,s2]) (by omega)).trans rfl
 ·refine (nK (R:=(a-b:Int) % 4294967296) (by show IntKind.u32.wrap (ρ.i 1-ρ.i 2)=_; rw [ha,hb,w]) (S:=a) (Z:=b) e1 e2 (T:=jS a-jS b) (by show (mA 1).ev ρ-(mA 2).ev ρ=_; rw [s1,s2]) (by omega)).trans rfl
 ·refine (nK (R:=(a-b-1:Int) % 4294967296) (by show IntKind.u32.wrap (IntKind.u32.wrap (ρ.i 1-ρ.i 2)-1)=_; rw [ha,hb,w,w]; omega) (S:=a) (Z:=b+1) e1 (by show ρ.i 2+1=_; rw [hb]) (T:=jS a-jS b-1) (by show (mA 1).ev ρ-(mA 2).ev ρ-1=_; rw [s1,s2]) (by omega)).trans rfl
 ·show aA true (ρ.i 1) 2147483648 (aA false (ρ.i 1) 0 4 0) 8=nw a false false;rw [ha,yZ,O8];unfold nw
  by_cases h1:(a:Int)<2147483648
  ·rw [if_pos h1,if_neg (show ¬(2147483648:Int)<=a by omega)]
   by_cases h2:(a:Int)=0
   ·simp only [if_pos h2]; rfl
   ·simp only [if_neg h2]; rfl
  ·rw [if_neg h1,if_pos (show (2147483648:Int)<=a by omega),if_neg (show ¬(a:Int)=0 by omega)]
   rfl
def Flg(G:Nat->Int->Int->Int->Int):Prop:= ∀k a b,G 40 k a b=wE k a b
def flE:IE:= .wrap .u32 (.fn 40 (.var 0) (.var 1) (.var 2))
def cFl(g:FuncId):Con:={g:=g,args:=[uV .i64 0,uV .u32 1,uV .u32 2],bds:=[(0,0,4294967295),bC 1,bC 2],res:= .int .u32 flE}
def zm:Dec:=[(.eq (.var 0) (.lit 5),false),(.eq (.var 0) (.lit 4),false),(.eq (.var 0) (.lit 3),false),(.eq (.var 0) (.lit 2),false),(.eq (.var 0) (.lit 1),false),(.eq (.var 0) (.lit 0),false)]
def UY(g:FuncId):Con:={cFl g with pre:=zm,res:= .int .u32 (.lit 0)}
def Q8(g:FuncId):Bool:=((UY g).tree PR ⟨[],[]⟩ 40 aG no' 12 []).all ((UY g).leaf (qN (bdL (cFl g).bds) [])) zm
theorem fl0:(Q8 266&&Q8 139)=true:=by kernel_rfl
section
variable{G:Nat->Int->Int->Int->Int}{GH:Nat->bz}(hG:Flg G)
include hG
theorem PZ{ρ:Env}(h:ρ.g=G):flE.ev ρ=wE (ρ.i 0) (ρ.i 1) (ρ.i 2):=by
 have q:=S0 (ρ.i 0) (ρ.i 1) (ρ.i 2);show IntKind.u32.wrap (fnI ρ 40 (ρ.i 0) (ρ.i 1) (ρ.i 2))=_;rw [bY (by decide),h,hG]
 exact bI .u32 _ q.1 (by show _<=(4294967295:Int); omega)
theorem Z4{g:FuncId}{e:Int->IE}(he: ∀(ρ:Env) (a b:Nat) (k:Int),ρ.i 1=a->ρ.i 2=b->a<4294967296->b<4294967296->k∈([0,1,2,3,4,5]:List Int)->(e k).ev ρ=wE k a b)(h:([0,1,2,3,4,5]:List Int).all (Ue g e)=true){k:Int}(hk:k∈([0,1,2,3,4,5]:List Int))(pre:Dec):Con.Ok PR G GH {cFl g with pre:=(.eq (.var 0) (.lit k),true)::pre}:=by
 have hr:(Uq g k (e k)).Ok PR G GH:=Con.vh mixed bc 40 aG no' 12 [] (fun _ _ _ _=>aw) [] (fun _ _ _ _ o ho=>by cases ho) (List.all_eq_true.1 h k hk)
 refine Con.X2 (c:=Uq g k (e k)) rfl rfl rfl hr fun ρ h1 h2 h3=> ?_
 have h0:ρ.i 0=k:=of_decide_eq_true (h3 (.eq (.var 0) (.lit k),true) (List.mem_cons_self ..));obtain ⟨a0,a1⟩:=h2 1 0 4294967295 rfl;obtain ⟨b0,b1⟩:=h2 2 0 4294967295 rfl;obtain ⟨a,ha⟩:=Int.eq_ofNat_of_zero_le a0;obtain ⟨b,hb⟩:=Int.eq_ofNat_of_zero_le b0;refine ⟨fun i lo hi hx=> ?_,(fun p hp=>by cases hp),fun f x hx=>⟨hx.1,fun i v v' q q'=> ?_⟩,fun f v hv=>ai.ints ?_ hv⟩
 ·match i with
  |0=>cases hx
  |1=>exact h2 1 lo hi hx
  |2=>exact h2 2 lo hi hx
  |i+3=>cases hx
 ·match i with
  |0=>
   have:=hx.2 0 (.int .i64 (.var 0)) v' rfl q';cases q;exact ai.ints (show (IE.lit k).ev ρ=(IE.var 0).ev ρ from h0.symm) this
  |1=>exact hx.2 1 v v' q q'
  |2=>exact hx.2 2 v v' q q'
  |i+3=>cases q
 ·rw [PZ hG h1.1,he ρ a b k ha hb (by omega) (by omega) hk,h0,ha,hb]
theorem KO{g:FuncId}{e:Int->IE}(he: ∀(ρ:Env) (a b:Nat) (k:Int),ρ.i 1=a->ρ.i 2=b->a<4294967296->b<4294967296->k∈([0,1,2,3,4,5]:List Int)->(e k).ev ρ=wE k a b)(h:([0,1,2,3,4,5]:List Int).all (Ue g e)=true)(h':Q8 g=true):(cFl g).Ok PR G GH:=by
 have hr:(UY g).Ok PR G GH:=Con.vh mixed bc 40 aG no' 12 [] (fun _ _ _ _=>aw) [] (fun _ _ _ _ o ho=>by cases ho) h'
 have last:Con.Ok PR G GH {cFl g with pre:=zm}:=Con.X2 (c:=UY g) rfl rfl rfl hr fun ρ h1 h2 h3=>by
  refine ⟨h2,h3,fun f x hx=>hx,fun f v hv=>ai.ints ?_ hv⟩
  have n: ∀k:Int,(BE.eq (.var 0) (.lit k),false)∈zm-> ¬ρ.i 0=k:=fun k hk=>of_decide_eq_false (h3 _ hk)
  rw [PZ hG h1.1];unfold wE;rw [if_neg (n 0 (by simp [zm])),if_neg (n 1 (by simp [zm])),if_neg (n 2 (by simp [zm])),if_neg (n 3 (by simp [zm])),if_neg (n 4 (by simp [zm])),if_neg (n 5 (by simp [zm]))]
  rfl
 have at': ∀k:Int,k∈([0,1,2,3,4,5]:List Int)-> ∀pre:Dec,Con.Ok PR G GH {cFl g with pre:=(.eq (.var 0) (.lit k),true)::pre}:=fun k hk pre=>Z4 hG he h hk pre
 exact Con.split (c:=cFl g) (at' 0 (by simp) []) (Con.split (c:={cFl g with pre:=[(.eq (.var 0) (.lit 0),false)]}) (at' 1 (by simp) _) (Con.split (c:={cFl g with pre:=[(.eq (.var 0) (.lit 1),false),(.eq (.var 0) (.lit 0),false)]}) (at' 2 (by simp) _) (Con.split (c:={cFl g with pre:=[(.eq (.var 0) (.lit 2),false),(.eq (.var 0) (.lit 1),false),(.eq (.var 0) (.lit 0),false)]}) (at' 3 (by simp) _) (Con.split (c:={cFl g with pre:=[(.eq (.var 0) (.lit 3),false),(.eq (.var 0) (.lit 2),false),(.eq (.var 0) (.lit 1),false),(.eq (.var 0) (.lit 0),false)]}) (at' 4 (by simp) _) (Con.split (c:={cFl g with pre:=[(.eq (.var 0) (.lit 4),false),(.eq (.var 0) (.lit 3),false),(.eq (.var 0) (.lit 2),false),(.eq (.var 0) (.lit 1),false),(.eq (.var 0) (.lit 0),false)]}) (at' 5 (by simp) _) last)))))
theorem LL:(cFl 266).Ok PR G GH:=KO hG (fun ρ a b k h1 h2 h3 h4 h5=>Sk h1 h2 h3 h4 h5) UE (by have:=fl0; simp only [Bool.and_eq_true] at this; exact this.1)
theorem IY:(cFl 139).Ok PR G GH:=KO hG (fun ρ a b k h1 h2 h3 h4 h5=>Vx h1 h2 h3 h4 h5) WC (by have:=fl0; simp only [Bool.and_eq_true] at this; exact this.2)
end
end
end Go.Proofs.YtbhlmedfhilkbaaGreat
