/- Part Sa. No condition. -/
import Derived.Calls
import Derived.WalkKit
import Derived.ChangeKeysEq
import Derived.Laws.StructEq
set_option linter.all false
namespace Go.Sx
structure bz where
 rel:List Int->World->Nat->Nat->Prop
 aZ:World->Nat->Nat->Nat->Prop
 hd:Nat
 self: ∀ {vs w g o},rel vs w g o->aZ w g o g
 inb: ∀ {vs w g o b},rel vs w g o->aZ w g o b->b<w.heap.size
 frame: ∀ {vs w w' g o},rel vs w g o->w.heap.size<=w'.heap.size->(∀ b,aZ w g o b->w'.heap[b]? =w.heap[b]?)->rel vs w' g o/\ ∀b,aZ w' g o b->aZ w g o b
 stay: ∀ {vs w g o cs e fr j v},rel vs w g o->w.heap[g]? =some (.cells cs e fr)->o+hd<=j->rel vs (w.setCell ⟨g,j,none⟩ v) g o/\ ∀b,aZ (w.setCell ⟨g,j,none⟩ v) g o b->aZ w g o b
def bz.no:bz:=⟨fun _ _ _ _=>False,fun _ _ _ _=>False,0,fun h=>h.elim,fun h=>h.elim,fun h=>h.elim,fun h=>h.elim⟩
structure Env where
 i:Nat->Int
 b:Nat->Bool
 g:Nat->Int->Int->Int->Int:=fun _ _ _ _=>0
 gh:Nat->bz:=fun _=>bz.no
 sn:Array Value:= #[]
def ff(u:Nat):Int:=if Nat.blt u 604462909807314587353088 then (u:Int) else (u:Int)-1208925819614629174706176
def ag(d j:Int):Int:=ff (Nat.mod (Nat.shiftRight d.toNat (Nat.mul 80 j.toNat)) 1208925819614629174706176)
def gz(v:Int):Nat:=(v % 1208925819614629174706176).toNat
def aD(d j v:Int):Int:=
 let s:=Nat.mul 80 j.toNat
 let n:=d.toNat
 ((Nat.add (Nat.sub n (Nat.shiftLeft (Nat.mod (Nat.shiftRight n s) 1208925819614629174706176) s)) (Nat.shiftLeft (gz v) s):Nat):Int)
def aY(d o n:Int):Int:=(Nat.mod (Nat.shiftRight d.toNat (Nat.mul 80 o.toNat)) (Nat.shiftLeft 1 (Nat.mul 80 n.toNat)):Nat)
def lS(d n e:Int):Int:=(Nat.add d.toNat (Nat.shiftLeft e.toNat (Nat.mul 80 n.toNat)):Nat)
def rowOf:List Int->Nat
 | []=>0
 |v::l=>gz v+2^80*rowOf l
def jL(d n e:Int):Int:=if aY d 0 n=aY e 0 n then e else lS (aY d 0 n) n e
def kOf(z:Int):IntKind:=
 match z with
 |0=> .i8 |1=> .i16 |2=> .i32 |3=> .i64 |4=> .u8 |5=> .u16 |6=> .u32 |_=> .u64
def qS(d n z:Int):Int:=(rowOf ((List.range n.toNat).map fun j=>(kOf z).wrap (ag d (j:Nat))):Nat)
inductive IE where
 |lit (n:Int)
 |var (i:Nat)
 |add (a b:IE)
 |sub (a b:IE)
 |mul (a b:IE)
 |wrap (k:IntKind) (a:IE)
 |bits (op:BinOp) (k:IntKind) (a b:IE)
 |quo (a b:IE)
 |rem (a b:IE)
 |shl (k:IntKind) (a b:IE)
 |shr (k:IntKind) (a b:IE)
 |fn (c:Nat) (x y z:IE)
 |sel (s:Bool) (a b x y:IE)
 deriving Inhabited
def aN(op:BinOp)(k:IntKind)(x y:Int):Int:=
 let a:=BitVec.ofInt k.bits x
 let b:=BitVec.ofInt k.bits y
 match op with
 | .and=>k.wrap (a &&& b).toNat
 | .or=>k.wrap (a ||| b).toNat
 | .xor=>k.wrap (a ^^^ b).toNat
 |_=>k.wrap (a &&& ~~~b).toNat
def R0(k:IntKind)(x y:Int):Int:=k.wrap (x*2^(min y.toNat k.bits))
def CX(k:IntKind)(x y:Int):Int:=x.fdiv (2^(min y.toNat k.bits))
def fnL(c:Nat)(x y z:Int):Option Int:=
 match c with
 |0=>some (ag x y)
 |1=>some (aD x y z)
 |2=>some (aY x y z)
 |3=>some (lS x y z)
 |4=>some (qS x y z)
 |5=>some (jL x y z)
 |_=>none
def fnI(ρ:Env)(c:Nat)(x y z:Int):Int:=
 match fnL c x y z with
 |some v=>v
 |none=>ρ.g c x y z
def aA(s:Bool)(a b x y:Int):Int:=if (if s then a<b else a=b) then x else y
def IE.ev(ρ:Env):IE->Int
 | .lit n=>n
 | .var i=>ρ.i i
 | .add a b=>a.ev ρ+b.ev ρ
 | .sub a b=>a.ev ρ-b.ev ρ
 | .mul a b=>a.ev ρ*b.ev ρ
 | .wrap k a=>k.wrap (a.ev ρ)
 | .bits op k a b=>aN op k (a.ev ρ) (b.ev ρ)
 | .quo a b=>(a.ev ρ).tdiv (b.ev ρ)
 | .rem a b=>(a.ev ρ).tmod (b.ev ρ)
 | .shl k a b=>R0 k (a.ev ρ) (b.ev ρ)
 | .shr k a b=>CX k (a.ev ρ) (b.ev ρ)
 | .fn c x y z=>fnI ρ c (x.ev ρ) (y.ev ρ) (z.ev ρ)
 | .sel s a b x y=>aA s (a.ev ρ) (b.ev ρ) (x.ev ρ) (y.ev ρ)
def l5:IntKind->Nat
 | .i8=>0 | .i16=>1 | .i32=>2 | .i64=>3 | .u8=>4 | .u16=>5 | .u32=>6 | .u64=>7
def bf(a b:IntKind):Bool:=Nat.beq (l5 a) (l5 b)
theorem aH{a b:IntKind}(h:bf a b=true):a=b:=by
 cases a<;>cases b<;>first |rfl |cases h
def aa5:BinOp->Nat
 | .add=>0 | .sub=>1 | .mul=>2 | .quo=>3 | .rem=>4 | .and=>5 | .or=>6 | .xor=>7 | .shl=>8 | .shr=>9 | .andNot=>10
 | .eql=>11 | .neq=>12 | .lss=>13 | .leq=>14 | .gtr=>15 | .geq=>16
def aa4(a b:BinOp):Bool:=Nat.beq (aa5 a) (aa5 b)
theorem SD{a b:BinOp}(h:aa4 a b=true):a=b:=by
 cases a<;>cases b<;>first |rfl |cases h
def aK:Int->Int->Bool
 | .ofNat a,.ofNat b=>Nat.beq a b
 | .negSucc a,.negSucc b=>Nat.beq a b
 |_,_=>false
theorem ar{a b:Int}(h:aK a b=true):a=b:=by
 cases a<;>cases b<;>simp [aK] at h<;>simp [h]
theorem om{a b:Int}:aK a b=decide (a=b):=by
 rw [Bool.eq_iff_iff];cases a<;>cases b<;>simp [aK,Nat.beq_eq]<;>omega
def aL:Int->Int->Bool
 | .ofNat a,.ofNat b=>Nat.ble a b
 | .negSucc a,.negSucc b=>Nat.ble b a
 | .negSucc _,.ofNat _=>true
 | .ofNat _,.negSucc _=>false
theorem ay{a b:Int}:aL a b=decide (a<=b):=by
 rw [Bool.eq_iff_iff];cases a<;>cases b<;>simp [aL,Nat.ble_eq]<;>omega
def cC(a b:Int):Bool:= !(aL b a)
theorem bj{a b:Int}:cC a b=decide (a<b):=by
 rw [Bool.eq_iff_iff];simp [cC,ay]
def IE.eq:IE->IE->Bool
 | .lit a,.lit b=>aK a b
 | .var i,.var j=>Nat.beq i j
 | .add a b,.add c d=>a.eq c&&b.eq d
 | .sub a b,.sub c d=>a.eq c&&b.eq d
 | .mul a b,.mul c d=>a.eq c&&b.eq d
 | .wrap k a,.wrap l b=>bf k l&&a.eq b
 | .bits o k a b,.bits p l c d=>aa4 o p&&bf k l&&a.eq c&&b.eq d
 | .quo a b,.quo c d=>a.eq c&&b.eq d
 | .rem a b,.rem c d=>a.eq c&&b.eq d
 | .shl k a b,.shl l c d=>bf k l&&a.eq c&&b.eq d
 | .shr k a b,.shr l c d=>bf k l&&a.eq c&&b.eq d
 | .fn c x y z,.fn d x' y' z'=>Nat.beq c d&&x.eq x'&&y.eq y'&&z.eq z'
 | .sel s a b x y,.sel s' a' b' x' y'=>(s==s')&&a.eq a'&&b.eq b'&&x.eq x'&&y.eq y'
 |_,_=>false
theorem IE.eq_eq{a b:IE}(h:a.eq b=true):a=b:=by
 induction a generalizing b with
 |lit a=>cases b<;>simp [IE.eq] at h; exact congrArg _ (ar h)
 |var i=>cases b<;>simp [IE.eq] at h; exact congrArg _ h
 |add a b iha ihb=>cases b<;>simp [IE.eq] at h<;>simp [iha h.1,ihb h.2]
 |sub a b iha ihb=>cases b<;>simp [IE.eq] at h<;>simp [iha h.1,ihb h.2]
 |mul a b iha ihb=>cases b<;>simp [IE.eq] at h<;>simp [iha h.1,ihb h.2]
 |wrap k a iha=>cases b<;>simp [IE.eq] at h<;>simp [aH h.1,iha h.2]
 |bits o k a b iha ihb=>cases b<;>simp [IE.eq] at h<;>simp [SD h.1.1.1,aH h.1.1.2,iha h.1.2,ihb h.2]
 |quo a b iha ihb=>cases b<;>simp [IE.eq] at h<;>simp [iha h.1,ihb h.2]
 |rem a b iha ihb=>cases b<;>simp [IE.eq] at h<;>simp [iha h.1,ihb h.2]
 |shl k a b iha ihb=>cases b<;>simp [IE.eq] at h<;>simp [aH h.1.1,iha h.1.2,ihb h.2]
 |shr k a b iha ihb=>cases b<;>simp [IE.eq] at h<;>simp [aH h.1.1,iha h.1.2,ihb h.2]
 |fn c x y z ihx ihy ihz=>cases b<;>simp [IE.eq] at h<;>simp [h.1.1.1,ihx h.1.1.2,ihy h.1.2,ihz h.2]
 |sel s a b x y iha ihb ihx ihy=>cases b<;>simp [IE.eq] at h<;>simp [h.1.1.1.1,iha h.1.1.1.2,ihb h.1.1.2,ihx h.1.2,ihy h.2]
def kLo:IntKind->Int
 | .i8=> -128 | .i16=> -32768 | .i32=> -2147483648 | .i64=> -9223372036854775808 |_=>0
def kHi:IntKind->Int
 | .i8=>127 | .i16=>32767 | .i32=>2147483647 | .i64=>9223372036854775807
 | .u8=>255 | .u16=>65535 | .u32=>4294967295 | .u64=>18446744073709551615
def rq:IntKind->Int->Int
 | .u8,n=>n % 256
 | .u16,n=>n % 65536
 | .u32,n=>n % 4294967296
 | .u64,n=>n % 18446744073709551616
 | .i8,n=>if 128<=n % 256 then n % 256-256 else n % 256
 | .i16,n=>if 32768<=n % 65536 then n % 65536-65536 else n % 65536
 | .i32,n=>if 2147483648<=n % 4294967296 then n % 4294967296-4294967296 else n % 4294967296
 | .i64,n=>if 9223372036854775808<=n % 18446744073709551616 then n % 18446744073709551616-18446744073709551616 else n % 18446744073709551616
theorem dM(k:IntKind)(n:Int):k.wrap n=rq k n:=by
 cases k<;>simp [IntKind.wrap,rq,IntKind.bits,IntKind.signed]
theorem wrap_mem(k:IntKind)(n:Int):kLo k<=k.wrap n/\k.wrap n<=kHi k:=by
 rw [dM];cases k<;>simp only [rq,kLo,kHi]<;>(try split)<;>omega
theorem bI(k:IntKind)(n:Int)(h:kLo k<=n)(h':n<=kHi k):k.wrap n=n:=by
 rw [dM];cases k<;>simp only [rq,kLo,kHi] at* <;>(try split)<;>omega
def vW(k:IntKind)(n:Int):Int:=
 match aL (kLo k) n&&aL n (kHi k) with
 |true=>n
 |false=>rq k n
theorem rj(k:IntKind)(n:Int):vW k n=k.wrap n:=by
 unfold vW;cases h:aL (kLo k) n&&aL n (kHi k)
 ·exact (dM k n).symm
 ·simp [ay] at h;exact (bI k n h.1 h.2).symm
end Go.Sx
namespace Go.Sx
abbrev Bd:=Nat->Option (Int×Int)
def Env.ok(ρ:Env)(bd:Bd):Prop:= ∀i lo hi,bd i=some (lo,hi)->lo<=ρ.i i/\ρ.i i<=hi
def Gv(k:IntKind)(b:IE)(h:Int):Int:=
 match b with
 | .lit (.ofNat n)=>h / ((2^(min n k.bits):Nat):Int)
 |_=>h
theorem Nj{ρ:Env}{k:IntKind}{b:IE}{x h:Int}(h0:0<=x)(hx:x<=h):x / 2^(min (b.ev ρ).toNat k.bits)<=Gv k b h:=by
 unfold Gv;split
 ·rename_i n;have e:((2^(min n k.bits):Nat):Int)=2^(min n k.bits):=by simp
  rw [e];have hp:(0:Int)<2^(min n k.bits):=Int.pow_pos (by omega)
  show x / 2^(min n k.bits)<=_;exact Int.ediv_le_ediv hp hx
 ·have:=Int.ediv_le_self (2^(min (b.ev ρ).toNat k.bits)) h0;omega
def rng(bd:Bd):IE->Option (Int×Int)
 | .lit n=>some (n,n)
 | .var i=>bd i
 | .add a b=>match rng bd a,rng bd b with
   |some (l,h),some (l',h')=>some (l+l',h+h')
   |_,_=>none
 | .sub a b=>match rng bd a,rng bd b with
   |some (l,h),some (l',h')=>some (l-h',h-l')
   |_,_=>none
 | .mul a b=>match rng bd a,rng bd b with
   |some (l,h),some (l',h')=>if aL 0 l&&aL 0 l' then some (l*l',h*h') else none
   |_,_=>none
 | .wrap k _=>some (kLo k,kHi k)
 | .bits .and k _ (.lit m)=>if aL 0 m&&aL m (kHi k) then some (0,m) else some (kLo k,kHi k)
 | .bits _ k _ _=>some (kLo k,kHi k)
 | .quo a (.lit m)=>match rng bd a with
   |some (l,h)=>if aL 0 l&&aL 1 m then some (l / m,h / m) else none
   |none=>none
 | .rem a (.lit m)=>match rng bd a with
   |some (l,_)=>if aL 1 m then (if aL 0 l then some (0,m-1) else some (1-m,m-1)) else none
   |none=>if aL 1 m then some (1-m,m-1) else none
 | .rem a _=>match rng bd a with
   |some (l,h)=>if aL 0 l then some (0,h) else none
   |none=>none
 | .shl k _ _=>some (kLo k,kHi k)
 | .shr k a b=>match rng bd a with
   |some (l,h)=>if aL 0 l then some (0,Gv k b h) else none
   |none=>none
 | .sel _ _ _ x y=>match rng bd x,rng bd y with
   |some (l,h),some (l',h')=>some (if aL l l' then l else l',if aL h h' then h' else h)
   |_,_=>none
 |_=>none
theorem Ad(op:BinOp)(k:IntKind)(x y:Int):kLo k<=aN op k x y/\aN op k x y<=kHi k:=by
 unfold aN;cases op<;>exact wrap_mem _ _
theorem wrap_small(k:IntKind)(n m:Nat)(h:n<=m)(hm:(m:Int)<=kHi k):k.wrap (n:Int)=n:=
 bI k _ (by cases k<;>simp [kLo]<;>omega) (by omega)
theorem tI(k:IntKind)(x:Int)(m:Nat)(hm:(m:Int)<=kHi k):0<=aN .and k x m/\aN .and k x m<=m:=by
 have h1:(BitVec.ofInt k.bits x &&& BitVec.ofInt k.bits (m:Int)).toNat<=m:=by
  rw [BitVec.toNat_and];refine Nat.le_trans Nat.and_le_right ?_;rw [BitVec.ofInt_natCast,BitVec.toNat_ofNat];exact Nat.mod_le _ _
 simp only [aN];rw [wrap_small k _ m h1 hm];omega
theorem rem_in(a b:Int)(h:0<=a){m:Int}(hm:a<=m):0<=a.tmod b/\a.tmod b<=m:=by
 obtain ⟨n,rfl⟩:=Int.eq_ofNat_of_zero_le h;refine ⟨Int.tmod_nonneg _ h,?_⟩
 have:((n:Int).tmod b)<=(n:Int):=by
  cases b with
  |ofNat k=>exact Int.ofNat_le.2 (Nat.mod_le n k)
  |negSucc k=>exact Int.ofNat_le.2 (Nat.mod_le n (k+1))
 omega
theorem bD{ρ:Env}{bd:Bd}(hρ:ρ.ok bd)(e:IE): ∀lo hi,rng bd e=some (lo,hi)->lo<=e.ev ρ/\e.ev ρ<=hi:=by
 induction e with
 |lit n=>intro lo hi h; simp [rng] at h; simp [IE.ev]; omega
 |var i=>intro lo hi h; exact hρ i lo hi h
 |add a b iha ihb=>
  intro lo hi h;simp only [rng] at h;split at h
  ·rename_i l hh l' hh' ha hb;have h1:=iha _ _ ha; have h2:=ihb _ _ hb;simp at h; simp only [IE.ev]; omega
  ·cases h
 |sub a b iha ihb=>
  intro lo hi h;simp only [rng] at h;split at h
  ·rename_i l hh l' hh' ha hb;have h1:=iha _ _ ha; have h2:=ihb _ _ hb;simp at h; simp only [IE.ev]; omega
  ·cases h
 |mul a b iha ihb=>
  intro lo hi h;simp only [rng] at h;split at h
  ·rename_i l hh l' hh' ha hb;have h1:=iha _ _ ha; have h2:=ihb _ _ hb;split at h
   ·rename_i hc;simp [ay] at hc h;obtain ⟨rfl,rfl⟩:=h;simp only [IE.ev];exact ⟨Int.mul_le_mul h1.1 h2.1 hc.2 (by omega),Int.mul_le_mul h1.2 h2.2 (by omega) (by omega)⟩
   ·cases h
  ·cases h
 |wrap k a _=>intro lo hi h; simp [rng] at h; obtain ⟨rfl,rfl⟩:=h; exact wrap_mem _ _
 |bits op k a b _ _=>
  intro lo hi h
  have gen:some (kLo k,kHi k)=some (lo,hi)->lo<=(IE.bits op k a b).ev ρ/\(IE.bits op k a b).ev ρ<=hi:=by
   intro h; simp at h; obtain ⟨rfl,rfl⟩:=h; exact Ad _ _ _ _
  by_cases hop:op= .and
  ·subst hop;cases b with
   |lit m=>
    simp only [rng] at h;split at h
    ·rename_i hc;simp [ay] at hc h;obtain ⟨rfl,rfl⟩:=h;obtain ⟨m,rfl⟩:=Int.eq_ofNat_of_zero_le hc.1;exact tI k _ m hc.2
    ·exact gen h
   |_=>exact gen (by simpa [rng] using h)
  ·refine gen ?_;cases op<;>simp [rng] at h hop ⊢ <;>exact h
 |quo a b iha _=>
  intro lo hi h;cases b with
  |lit m=>
   simp only [rng] at h;split at h
   ·rename_i l hh ha;have h1:=iha _ _ ha;split at h
    ·rename_i hc;simp [ay] at hc h;obtain ⟨rfl,rfl⟩:=h;simp only [IE.ev];rw [Int.tdiv_eq_ediv_of_nonneg (by omega)]
     exact ⟨Int.ediv_le_ediv (by omega) h1.1,Int.ediv_le_ediv (by omega) h1.2⟩
    ·cases h
   ·cases h
  |_=>simp [rng] at h
 |rem a b iha _=>
  intro lo hi h;cases b with
  |lit m=>
   simp only [rng] at h
   have gen:1<=m->1-m<=(a.ev ρ).tmod m/\(a.ev ρ).tmod m<=m-1:=by
    intro hm;have h1:=Int.tmod_lt_of_pos (a.ev ρ) (show 0<m by omega)
    have h2:=Int.lt_tmod_of_pos (a.ev ρ) (show 0<m by omega)
    omega
   split at h
   ·rename_i l hh ha;have h1:=iha _ _ ha;split at h
    ·rename_i hc;simp [ay] at hc;have hg:=gen hc;split at h
     ·rename_i hl;simp [ay] at hl h;obtain ⟨rfl,rfl⟩:=h;simp only [IE.ev];exact ⟨Int.tmod_nonneg _ (by omega),hg.2⟩
     ·simp at h;obtain ⟨rfl,rfl⟩:=h;exact hg
    ·cases h
   ·split at h
    ·rename_i hc;simp [ay] at hc h;obtain ⟨rfl,rfl⟩:=h;exact gen hc
    ·cases h
  |_=>
   simp only [rng] at h;split at h
   ·rename_i l hh ha;have h1:=iha _ _ ha;split at h
    ·rename_i hl;simp [ay] at hl h;obtain ⟨rfl,rfl⟩:=h;simp only [IE.ev];exact rem_in _ _ (by omega) h1.2
    ·cases h
   ·cases h
 |shl k a b _ _=>intro lo hi h; simp [rng] at h; obtain ⟨rfl,rfl⟩:=h; exact wrap_mem _ _
 |shr k a b iha _=>
  intro lo hi h;simp only [rng] at h;split at h
  ·rename_i l hh ha;have h1:=iha _ _ ha;split at h
   ·rename_i hc;simp [ay] at hc h;obtain ⟨rfl,rfl⟩:=h;simp only [IE.ev,CX];have hp:(0:Int)<2^(min (b.ev ρ).toNat k.bits):=Int.pow_pos (by omega)
    rw [Int.fdiv_eq_ediv_of_nonneg _ (by omega)]
    have h0:0<=a.ev ρ:=by omega
    exact ⟨Int.ediv_nonneg h0 (by omega),Nj h0 h1.2⟩
   ·cases h
  ·cases h
 |fn=>intro lo hi h; simp [rng] at h
 |sel s a b x y _ _ ihx ihy=>
  intro lo hi h;simp only [rng] at h;split at h
  ·rename_i l hh l' hh' hx hy;have h1:=ihx _ _ hx; have h2:=ihy _ _ hy;simp only [ay,decide_eq_true_eq] at h;simp only [Option.some.injEq,Prod.mk.injEq] at h;obtain ⟨h3,h4⟩:=h;simp only [IE.ev,aA];split<;>split at h3<;>split at h4<;>omega
  ·cases h
def mkAdd:IE->IE->IE
 | .lit x,.lit y=> .lit (x+y)
 | .lit x,b=>
   match aK x 0 with
   |true=>b
   |false=> .add (.lit x) b
 |a,.lit y=>
  match aK y 0 with
  |true=>a
  |false=> .add a (.lit y)
 |a,b=> .add a b
def mkSub:IE->IE->IE
 | .lit x,.lit y=> .lit (x-y)
 |a,.lit y=>
  match aK y 0 with
  |true=>a
  |false=> .sub a (.lit y)
 |a,b=> .sub a b
def mkMul:IE->IE->IE
 | .lit x,.lit y=> .lit (x*y)
 |a,.lit y=>
  match aK y 1 with
  |true=>a
  |false=> .mul a (.lit y)
 |a,b=> .mul a b
def fits(k:IntKind):Option (Int×Int)->Bool
 |some (l,h)=>aL (kLo k) l&&aL h (kHi k)
 |none=>false
theorem ep{ρ:Env}{bd:Bd}(hρ:ρ.ok bd){k:IntKind}{e:IE}(h:fits k (rng bd e)=true):kLo k<=e.ev ρ/\e.ev ρ<=kHi k:=by
 unfold fits at h;split at h
 ·rename_i l hh hr;simp [ay] at h;have:=bD hρ _ _ _ hr;omega
 ·cases h
def eP:IntKind->Int
 | .u8 | .i8=>256
 | .u16 | .i16=>65536
 | .u32 | .i32=>4294967296
 | .u64 | .i64=>18446744073709551616
def kb:IntKind->Nat
 | .u8 | .i8=>8
 | .u16 | .i16=>16
 | .u32 | .i32=>32
 | .u64 | .i64=>64
theorem OF{k j:IntKind}(h:Nat.ble (kb k) (kb j)=true):eP k ∣ eP j:=by
 cases k<;>cases j<;>first | (exact absurd h (by decide)) |decide
theorem xY(k:IntKind)(n:Int):eP k ∣ k.wrap n-n:=by
 rw [dM];cases k<;>simp only [rq,eP]<;>(try split)<;>omega
theorem qh(k:IntKind){x y:Int}(h:eP k ∣ x-y):k.wrap x=k.wrap y:=by
 rw [dM,dM];obtain ⟨q,hq⟩:=h;cases k<;>simp only [rq,eP] at* <;>(repeat' split)<;>omega
theorem D5(k:IntKind){x y:Int}(h:eP k ∣ x-y)(hx:kLo k<=x/\x<=kHi k)(hy:kLo k<=y/\y<=kHi k):x=y:=by
 rw [<- bI k x hx.1 hx.2,<-bI k y hy.1 hy.2];exact qh k h
abbrev Lin:=List (IE×Int)
def aO(ρ:Env):Lin->Int
 | []=>0
 | (a,s)::l=>s*a.ev ρ+aO ρ l
def addAtom(e:IE)(s:Int):Lin->Lin
 | []=>[(e,s)]
 | (a,t)::l=>if a.eq e then (a,t+s)::l else (a,t)::addAtom e s l
theorem xV(ρ:Env)(e:IE)(s:Int)(l:Lin):aO ρ (addAtom e s l)=s*e.ev ρ+aO ρ l:=by
 induction l with
 |nil=>rfl
 |cons p l ih=>
  obtain ⟨a,t⟩:=p;unfold addAtom;split
  ·rename_i h;simp only [aO,IE.eq_eq h,Int.add_mul];omega
  ·simp only [aO,ih];omega
def cm(k:IntKind):IE->Int->Lin->Int->Lin×Int
 | .lit n,s,l,c=>(l,c+s*n)
 | .add a b,s,l,c=>cm k b s (cm k a s l c).1 (cm k a s l c).2
 | .sub a b,s,l,c=>cm k b (-s) (cm k a s l c).1 (cm k a s l c).2
 | .wrap j a,s,l,c=>if Nat.ble (kb k) (kb j) then cm k a s l c else (addAtom (.wrap j a) s l,c)
 | .mul (.lit n) b,s,l,c=>cm k b (s*n) l c
 | .mul a (.lit n),s,l,c=>cm k a (s*n) l c
 |e,s,l,c=>(addAtom e s l,c)
theorem xc(ρ:Env)(k:IntKind)(e:IE): ∀(s:Int) (l:Lin) (c:Int),eP k ∣ (aO ρ (cm k e s l c).1+(cm k e s l c).2)-(s*e.ev ρ+(aO ρ l+c)):=by
 have atom: ∀(e:IE) (s:Int) (l:Lin) (c:Int),eP k ∣ (aO ρ (addAtom e s l,c).1+(addAtom e s l,c).2)-(s*e.ev ρ+(aO ρ l+c)):=by
  intro e s l c
  have:(aO ρ (addAtom e s l,c).1+(addAtom e s l,c).2)-(s*e.ev ρ+(aO ρ l+c))=0:=by
   simp only [xV];omega
  rw [this];exact Int.dvd_zero _
 induction e with
 |lit n=>
  intro s l c
  have:(aO ρ (cm k (.lit n) s l c).1+(cm k (.lit n) s l c).2)-(s*(IE.lit n).ev ρ+(aO ρ l+c))=0:=by
   simp only [cm,IE.ev];omega
  rw [this];exact Int.dvd_zero _
 |add a b iha ihb=>
  intro s l c;have h1:=iha s l c;have h2:=ihb s (cm k a s l c).1 (cm k a s l c).2;have h3:=Int.dvd_add h1 h2
  have e: ∀R,R-(s*(IE.add a b).ev ρ+(aO ρ l+c))=(aO ρ (cm k a s l c).1+(cm k a s l c).2-(s*a.ev ρ+(aO ρ l+c)))+(R-(s*b.ev ρ+(aO ρ (cm k a s l c).1+(cm k a s l c).2))):=by
   intro R;simp only [IE.ev,Int.mul_add];omega
  rw [e];exact h3
 |sub a b iha ihb=>
  intro s l c;have h1:=iha s l c;have h2:=ihb (-s) (cm k a s l c).1 (cm k a s l c).2;have h3:=Int.dvd_add h1 h2
  have e: ∀R,R-(s*(IE.sub a b).ev ρ+(aO ρ l+c))=(aO ρ (cm k a s l c).1+(cm k a s l c).2-(s*a.ev ρ+(aO ρ l+c)))+(R-(-s*b.ev ρ+(aO ρ (cm k a s l c).1+(cm k a s l c).2))):=by
   intro R;simp only [IE.ev,Int.mul_sub,Int.neg_mul];omega
  rw [e];exact h3
 |wrap j a iha=>
  intro s l c;unfold cm;split
  ·rename_i h;have h1:=iha s l c;have h2:eP k ∣ s*(j.wrap (a.ev ρ)-a.ev ρ):=Int.dvd_trans (Int.dvd_trans (OF h) (xY j _)) (Int.dvd_mul_left _ _);have h3:=Int.dvd_sub h1 h2
   have e: ∀R,R-(s*(IE.wrap j a).ev ρ+(aO ρ l+c))=(R-(s*a.ev ρ+(aO ρ l+c)))-s*(j.wrap (a.ev ρ)-a.ev ρ):=by
    intro R;simp only [IE.ev,Int.mul_sub];omega
   rw [e];exact h3
  ·exact atom _ s l c
 |mul a b iha ihb=>
  intro s l c;cases a with
  |lit n=>
   have h:=ihb (s*n) l c;have e:s*(IE.mul (.lit n) b).ev ρ=s*n*b.ev ρ:=by simp only [IE.ev,Int.mul_assoc]
   rw [e];exact h
  |_=>
   cases b with
   |lit n=>
    have h:=iha (s*n) l c;have e: ∀x y z:Int,x*(y*z)=x*z*y:=fun x y z=>by rw [Int.mul_comm y z,Int.mul_assoc]
    simp only [IE.ev,e] at h ⊢;exact h
   |_=>exact atom _ s l c
 |var i=>intro s l c; exact atom _ s l c
 |bits=>intro s l c; exact atom _ s l c
 |quo=>intro s l c; exact atom _ s l c
 |rem=>intro s l c; exact atom _ s l c
 |shl=>intro s l c; exact atom _ s l c
 |shr=>intro s l c; exact atom _ s l c
 |fn=>intro s l c; exact atom _ s l c
 |sel=>intro s l c; exact atom _ s l c
def trim(k:IntKind):Lin->Lin
 | []=>[]
 | (a,s)::l=>if aK (s % eP k) 0 then trim k l else (a,s)::trim k l
theorem JF(ρ:Env)(k:IntKind)(l:Lin):eP k ∣ aO ρ l-aO ρ (trim k l):=by
 induction l with
 |nil=>exact Int.dvd_zero _
 |cons p l ih=>
  obtain ⟨a,s⟩:=p;unfold trim;split
  ·rename_i h;have hs:eP k ∣ s:=Int.dvd_of_emod_eq_zero (ar h);have h2:eP k ∣ s*a.ev ρ:=Int.dvd_trans hs (Int.dvd_mul_right _ _);have h3:=Int.dvd_add h2 ih
   have e:aO ρ ((a,s)::l)-aO ρ (trim k l)=s*a.ev ρ+(aO ρ l-aO ρ (trim k l)):=by
    simp only [aO];omega
   rw [e];exact h3
  ·have e:aO ρ ((a,s)::l)-aO ρ ((a,s)::trim k l)=aO ρ l-aO ρ (trim k l):=by
    simp only [aO];omega
   rw [e];exact ih
def BX(bd:Bd)(k:IntKind)(e:IE):IE:=
 match cm k e 1 [] 0 with
 | (l,c)=>
   match trim k l with
   | []=> .lit (vW k c)
   | [(a,s)]=>
     match aK (c % eP k) 0&&aK (s % eP k) 1 with
     |true=>
      match fits k (rng bd a) with
      |true=>a
      |false=> .wrap k a
     |false=> .wrap k e
   |_=> .wrap k e
theorem I5{ρ:Env}{bd:Bd}(hρ:ρ.ok bd)(k:IntKind)(e:IE):(BX bd k e).ev ρ=k.wrap (e.ev ρ):=by
 unfold BX;have h0:=xc ρ k e 1 [] 0;generalize cm k e 1 [] 0=r at h0;obtain ⟨l,c⟩:=r;have h1:=JF ρ k l;simp only [aO,Int.one_mul] at h0;simp only;split
 ·rename_i ht;rw [ht] at h1;simp only [aO] at h1;show vW k c=_;rw [rj];refine qh k ?_;have:=Int.dvd_sub h1 h0;have e':aO ρ l-0-(aO ρ l+c-(e.ev ρ+(0+0)))= -(c-e.ev ρ):=by omega
  rw [e'] at this;exact Int.dvd_neg.1 this
 ·rename_i a s ht;rw [ht] at h1;simp only [aO] at h1;split
  ·rename_i hc;simp only [Bool.and_eq_true] at hc;obtain ⟨hc,hs⟩:=hc;have hc':eP k ∣ c:=Int.dvd_of_emod_eq_zero (ar hc)
   have hs':eP k ∣ s-1:=by
    have:=ar hs;have h5:=Int.emod_add_mul_ediv s (eP k);rw [this] at h5;exact ⟨s / eP k,by omega⟩
   have hsa:eP k ∣ (s-1)*a.ev ρ:=Int.dvd_trans hs' (Int.dvd_mul_right _ _)
   have key:k.wrap (a.ev ρ)=k.wrap (e.ev ρ):=by
    refine qh k ?_;have h2:=Int.dvd_sub h1 h0;have h3:=Int.dvd_add (Int.dvd_add h2 hc') hsa
    have e':aO ρ l-(s*a.ev ρ+0)-(aO ρ l+c-(e.ev ρ+(0+0)))+c+(s-1)*a.ev ρ= -(a.ev ρ-e.ev ρ):=by
     rw [Int.sub_mul];omega
    rw [e'] at h3;exact Int.dvd_neg.1 h3
   split
   ·rename_i hf;have hr:=ep hρ hf;rw [<- key];exact (bI k (a.ev ρ) hr.1 hr.2).symm
   ·exact key
  ·rfl
 ·rfl
def Cu(ra rb:Option (Int×Int)):Option IntKind:=
 if fits .u32 ra&&fits .u32 rb then some .u32 else if fits .i64 ra&&fits .i64 rb then some .i64 else if fits .u64 ra&&fits .u64 rb then some .u64 else none
def vI(bd:Bd)(a b:IE):Option Bool:=
 match Cu (rng bd a) (rng bd b) with
 |none=>none
 |some k=>
  match cm k b (-1) (cm k a 1 [] 0).1 (cm k a 1 [] 0).2 with
  | (l,c)=>
    match trim k l with
    | []=>some (aK (c % eP k) 0)
    |_=>none
theorem Jp{ρ:Env}{bd:Bd}(hρ:ρ.ok bd){a b:IE}{k:IntKind}(h:Cu (rng bd a) (rng bd b)=some k):(kLo k<=a.ev ρ/\a.ev ρ<=kHi k)/\(kLo k<=b.ev ρ/\b.ev ρ<=kHi k):=by
 unfold Cu at h;split at h
 ·rename_i q;simp only [Bool.and_eq_true] at q;cases h;exact ⟨ep hρ q.1,ep hρ q.2⟩
 ·split at h
  ·rename_i q;simp only [Bool.and_eq_true] at q;cases h;exact ⟨ep hρ q.1,ep hρ q.2⟩
  ·split at h
   ·rename_i q;simp only [Bool.and_eq_true] at q;cases h;exact ⟨ep hρ q.1,ep hρ q.2⟩
   ·cases h
theorem wo{ρ:Env}{bd:Bd}(hρ:ρ.ok bd){a b:IE}{v:Bool}(h:vI bd a b=some v):decide (a.ev ρ=b.ev ρ)=v:=by
 unfold vI at h;split at h
 ·cases h
 ·rename_i k hk;obtain ⟨ha,hb⟩:=Jp hρ hk;have h1:=xc ρ k a 1 [] 0;have h2:=xc ρ k b (-1) (cm k a 1 [] 0).1 (cm k a 1 [] 0).2;generalize cm k b (-1) (cm k a 1 [] 0).1 (cm k a 1 [] 0).2=r at h h2;obtain ⟨l,c⟩:=r;have h3:=JF ρ k l;simp only at h h2;split at h
  ·rename_i ht;rw [ht] at h3;cases h;simp only [aO,Int.one_mul] at h1 h3;have h4:=Int.dvd_sub (Int.dvd_add h1 h2) h3;have e:aO ρ (cm k a 1 [] 0).1+(cm k a 1 [] 0).2-(a.ev ρ+(0+0))+(aO ρ l+c-(-1*b.ev ρ+(aO ρ (cm k a 1 [] 0).1+(cm k a 1 [] 0).2)))-(aO ρ l-0)=c-(a.ev ρ-b.ev ρ):=by omega
   rw [e] at h4;cases hc:aK (c % eP k) 0
   ·apply decide_eq_false;intro he
    have h5:eP k ∣ c:=by
     have e':c-(a.ev ρ-b.ev ρ)=c:=by omega
     rw [e'] at h4;exact h4
    have:=Int.emod_eq_zero_of_dvd h5;rw [this] at hc;cases hc
   ·apply decide_eq_true;have h5:eP k ∣ c:=Int.dvd_of_emod_eq_zero (ar hc);have h6:=Int.dvd_sub h5 h4;have e':c-(c-(a.ev ρ-b.ev ρ))=a.ev ρ-b.ev ρ:=by omega
    rw [e'] at h6;exact D5 k h6 ha hb
  ·cases h
def mkWrap(bd:Bd)(k:IntKind):IE->IE
 | .lit n=> .lit (vW k n)
 |e=>if fits k (rng bd e) then e else BX bd k e
theorem f8{ρ:Env}{bd:Bd}(hρ:ρ.ok bd)(k:IntKind)(e:IE):(mkWrap bd k e).ev ρ=k.wrap (e.ev ρ):=by
 unfold mkWrap;split
 ·exact rj _ _
 ·split
  ·rename_i h;have:=ep hρ h;exact (bI k _ this.1 this.2).symm
  ·exact I5 hρ k e
theorem bE(ρ:Env)(a b:IE):(mkAdd a b).ev ρ=a.ev ρ+b.ev ρ:=by
 unfold mkAdd;split
 ·rfl
 ·split
  ·rename_i h; simp [IE.ev,ar h]
  ·rfl
 ·split
  ·rename_i h; simp [IE.ev,ar h]
  ·rfl
 ·rfl
theorem na(ρ:Env)(a b:IE):(mkSub a b).ev ρ=a.ev ρ-b.ev ρ:=by
 unfold mkSub;split
 ·rfl
 ·split
  ·rename_i h; simp [IE.ev,ar h]
  ·rfl
 ·rfl
theorem fH(ρ:Env)(a b:IE):(mkMul a b).ev ρ=a.ev ρ*b.ev ρ:=by
 unfold mkMul;split
 ·rfl
 ·split
  ·rename_i h; simp [IE.ev,ar h]
  ·rfl
 ·rfl
def sB(a b:Nat):Bool:=Nat.ble a b
def F4(op:BinOp)(a b:Nat):Nat:=
 match op with
 | .and=>Nat.land a b
 | .or=>Nat.lor a b
 | .xor=>Nat.xor a b
 |_=>Nat.xor a (Nat.land a b)
def iU:IntKind->Nat
 | .i8=>127 | .i16=>32767 | .i32=>2147483647 | .i64=>9223372036854775807
 | .u8=>255 | .u16=>65535 | .u32=>4294967295 | .u64=>18446744073709551615
def Ss:IntKind->Nat
 | .i8=>7 | .i16=>15 | .i32=>31 | .i64=>63 | .u8=>8 | .u16=>16 | .u32=>32 | .u64=>64
theorem Fp(k:IntKind):iU k+1=2^Ss k:=by cases k<;>rfl
theorem lR(k:IntKind):(iU k:Int)=kHi k:=by cases k<;>rfl
theorem Nq(k:IntKind):Ss k<=k.bits:=by cases k<;>decide
theorem Pt(op:BinOp)(k:IntKind)(a b:Nat)(ha:a<=iU k)(hb:b<=iU k):F4 op a b<=iU k:=by
 have hp:=Fp k;have ha':a<2^Ss k:=by omega
 have hb':b<2^Ss k:=by omega
 have h1:=Nat.and_lt_two_pow a hb';have h2:=Nat.or_lt_two_pow ha' hb';have h3:=Nat.xor_lt_two_pow ha' hb';have h4:=Nat.xor_lt_two_pow ha' h1;unfold F4;cases op<;>simp only []<;>first | (show a &&& b<=_; omega) | (show a ||| b<=_; omega) | (show a ^^^ b<=_; omega) | (show a ^^^ (a &&& b)<=_; omega)
theorem Fw(n a b:Nat)(ha:a<2^n)(hb:b<2^n):(BitVec.ofNat n a &&& ~~~ BitVec.ofNat n b).toNat=a ^^^ (a &&& b):=by
 apply Nat.eq_of_testBit_eq;intro i;rw [BitVec.toNat_and,Nat.testBit_and,Nat.testBit_xor,Nat.testBit_and,BitVec.toNat_ofNat,Nat.mod_eq_of_lt ha,BitVec.toNat_not,BitVec.toNat_ofNat,Nat.mod_eq_of_lt hb];rw [show 2^n-1-b=2^n-(b+1) by omega,Nat.testBit_two_pow_sub_succ hb]
 by_cases hi:i<n
 ·cases a.testBit i<;>cases b.testBit i<;>simp [hi]
 ·have:a.testBit i=false:=Nat.testBit_lt_two_pow (Nat.lt_of_lt_of_le ha (Nat.pow_le_pow_right (by omega) (by omega)))
  simp [this]
theorem gQ(op:BinOp)(k:IntKind)(a b:Nat)(ha:a<=iU k)(hb:b<=iU k):aN op k a b=F4 op a b:=by
 have hp:=Fp k;have hle:2^Ss k<=2^k.bits:=Nat.pow_le_pow_right (by omega) (Nq k)
 have ha':a<2^k.bits:=by omega
 have hb':b<2^k.bits:=by omega
 have hw: ∀m:Nat,m<=iU k->k.wrap (m:Int)=m:=fun m hm=>wrap_small k m (iU k) hm (by rw [lR]; exact Int.le_refl _)
 have hn:=Pt op k a b ha hb
 have e1:(BitVec.ofNat k.bits a &&& BitVec.ofNat k.bits b).toNat=Nat.land a b:=by
  rw [BitVec.toNat_and,BitVec.toNat_ofNat,BitVec.toNat_ofNat,Nat.mod_eq_of_lt ha',Nat.mod_eq_of_lt hb']; rfl
 have e2:(BitVec.ofNat k.bits a ||| BitVec.ofNat k.bits b).toNat=Nat.lor a b:=by
  rw [BitVec.toNat_or,BitVec.toNat_ofNat,BitVec.toNat_ofNat,Nat.mod_eq_of_lt ha',Nat.mod_eq_of_lt hb']; rfl
 have e3:(BitVec.ofNat k.bits a ^^^ BitVec.ofNat k.bits b).toNat=Nat.xor a b:=by
  rw [BitVec.toNat_xor,BitVec.toNat_ofNat,BitVec.toNat_ofNat,Nat.mod_eq_of_lt ha',Nat.mod_eq_of_lt hb']; rfl
 have e4:=Fw k.bits a b ha' hb';unfold aN;simp only [BitVec.ofInt_natCast];unfold F4 at hn ⊢;cases op<;>simp only [e1,e2,e3,e4]<;>exact hw _ hn
def rR(op:BinOp)(k:IntKind):Int->Int->Int
 | .ofNat a,.ofNat b=>
   match sB a (iU k)&&sB b (iU k) with
   |true=> .ofNat (F4 op a b)
   |false=>aN op k (.ofNat a) (.ofNat b)
 |a,b=>aN op k a b
theorem xQ(op:BinOp)(k:IntKind)(a b:Int):rR op k a b=aN op k a b:=by
 unfold rR;split
 ·rename_i a b;cases h:sB a (iU k)&&sB b (iU k)
  ·rfl
  ·simp [sB] at h;exact (gQ op k a b h.1 h.2).symm
 ·rfl
theorem xy(k:IntKind)(z:BitVec k.bits):BitVec.ofInt k.bits (k.wrap (z.toNat:Int))=z:=by
 apply BitVec.eq_of_toNat_eq;rw [BitVec.toNat_ofInt];have h:=xY k (z.toNat:Int);have hz:=z.isLt
 revert h hz
 generalize z.toNat=n;intro h hz;have hp:((2^k.bits:Nat):Int)=eP k:=by cases k<;>rfl
 rw [hp];have hp2:(n:Int)<eP k:=by rw [<- hp]; exact Int.ofNat_lt.2 hz
 have h0:0<eP k:=by cases k<;>decide
 have e:k.wrap (n:Int) % eP k=(n:Int):=by
  have h1:k.wrap (n:Int) % eP k=(n:Int) % eP k:=Int.emod_eq_emod_iff_emod_sub_eq_zero.2 (Int.emod_eq_zero_of_dvd h);rw [h1,Int.emod_eq_of_lt (Int.natCast_nonneg n) hp2]
 rw [e];exact Int.toNat_natCast n
theorem y9(k:IntKind)(x m n:Int):aN .and k (aN .and k x m) n=aN .and k x (aN .and k m n):=by
 unfold aN;simp only;rw [xy,xy,BitVec.and_assoc]
def mkMask(k:IntKind)(a:IE)(n:Int):IE:=
 match a with
 | .bits .and j b (.lit m)=>
   match bf j k with
   |true=> .bits .and k b (.lit (rR .and k m n))
   |false=> .bits .and k a (.lit n)
 |_=> .bits .and k a (.lit n)
theorem NZ(ρ:Env)(k:IntKind)(a:IE)(n:Int):(mkMask k a n).ev ρ=aN .and k (a.ev ρ) n:=by
 unfold mkMask;split
 ·rename_i j b m;split
  ·rename_i h;rw [aH h];show aN .and k (b.ev ρ) (rR .and k m n)=aN .and k (aN .and k (b.ev ρ) m) n;rw [xQ,y9]
  ·rfl
 ·rfl
def iY(op:BinOp)(k:IntKind):IE->IE->IE
 | .lit a,.lit b=> .lit (rR op k a b)
 |a,.lit b=>
  match op with
  | .and=>mkMask k a b
  |o=> .bits o k a (.lit b)
 |a,b=> .bits op k a b
theorem dL(ρ:Env)(op:BinOp)(k:IntKind)(a b:IE):(iY op k a b).ev ρ=aN op k (a.ev ρ) (b.ev ρ):=by
 unfold iY;split
 ·exact xQ _ _ _ _
 ·split
  ·exact NZ ρ k a _
  ·rfl
 ·rfl
def sP:IE->IE->IE
 | .lit x,.lit y=> .lit (x.tdiv y)
 |a,b=> .quo a b
def ml:IE->IE->IE
 | .lit x,.lit y=> .lit (x.tmod y)
 |a,b=> .rem a b
theorem jB(ρ:Env)(a b:IE):(sP a b).ev ρ=(a.ev ρ).tdiv (b.ev ρ):=by
 unfold sP; split<;>rfl
theorem gp(ρ:Env)(a b:IE):(ml a b).ev ρ=(a.ev ρ).tmod (b.ev ρ):=by
 unfold ml; split<;>rfl
def Lh(k:IntKind):IE->IE->IE
 | .lit x,.lit (.ofNat n)=> .lit (vW k (x*((2^(min n k.bits):Nat):Int)))
 |a,b=> .shl k a b
def DS(k:IntKind):IE->IE->IE
 | .lit x,.lit (.ofNat n)=> .lit (x.fdiv ((2^(min n k.bits):Nat):Int))
 |a,b=> .shr k a b
theorem E8(ρ:Env)(k:IntKind)(a b:IE):(Lh k a b).ev ρ=R0 k (a.ev ρ) (b.ev ρ):=by
 unfold Lh; split
 ·simp [IE.ev,R0,rj]
 ·rfl
theorem xb(ρ:Env)(k:IntKind)(a b:IE):(DS k a b).ev ρ=CX k (a.ev ρ) (b.ev ρ):=by
 unfold DS; split
 ·simp [IE.ev,CX]
 ·rfl
inductive BE where
 |lit (b:Bool)
 |var (i:Nat)
 |eq (a b:IE)
 |lt (a b:IE)
 |not (a:BE)
 deriving Inhabited
def BE.ev(ρ:Env):BE->Bool
 | .lit b=>b
 | .var i=>ρ.b i
 | .eq a b=>decide (a.ev ρ=b.ev ρ)
 | .lt a b=>decide (a.ev ρ<b.ev ρ)
 | .not a=> !(a.ev ρ)
def BE.same:BE->BE->Bool
 | .lit a,.lit b=>a==b
 | .var i,.var j=>Nat.beq i j
 | .eq a b,.eq c d=>a.eq c&&b.eq d
 | .lt a b,.lt c d=>a.eq c&&b.eq d
 | .not a,.not b=>a.same b
 |_,_=>false
theorem BE.cT{a b:BE}(h:a.same b=true):a=b:=by
 induction a generalizing b with
 |lit a=>cases b<;>simp [BE.same] at h; rw [h]
 |var i=>cases b<;>simp [BE.same] at h; rw [h]
 |eq a b=>cases b<;>simp [BE.same] at h; rw [IE.eq_eq h.1,IE.eq_eq h.2]
 |lt a b=>cases b<;>simp [BE.same] at h; rw [IE.eq_eq h.1,IE.eq_eq h.2]
 |not a ih=>cases b<;>simp [BE.same] at h; rw [ih h]
def mkNot:BE->BE
 | .lit b=> .lit (!b)
 | .not a=>a
 |a=> .not a
theorem mB(ρ:Env)(a:BE):(mkNot a).ev ρ= !(a.ev ρ):=by
 unfold mkNot; split<;>simp [BE.ev]
def OU:Option (Int×Int)->Option (Int×Int)->Bool
 |some (l,h),some (l',h')=>cC h l'||cC h' l
 |_,_=>false
def Jy(bd:Bd)(a b:IE):BE:=
 if a.eq b then .lit true else if OU (rng bd a) (rng bd b) then .lit false else
  match vI bd a b with
  |some v=> .lit v
  |none=> .eq a b
def mkEq(bd:Bd):IE->IE->BE
 | .lit x,.lit y=> .lit (aK x y)
 | .lit x,b=>Jy bd b (.lit x)
 |a,b=>Jy bd a b
theorem FY{ρ:Env}{bd:Bd}(hρ:ρ.ok bd)(a b:IE):(Jy bd a b).ev ρ=decide (a.ev ρ=b.ev ρ):=by
 unfold Jy;split
 ·rename_i h; rw [IE.eq_eq h]; simp [BE.ev]
 ·split
  ·rename_i h;unfold OU at h;split at h
   ·rename_i l hh l' hh' ha hb;have h1:=bD hρ a _ _ ha;have h2:=bD hρ b _ _ hb;simp [bj] at h;simp [BE.ev];omega
   ·cases h
  ·split
   ·rename_i v hv;exact (wo hρ hv).symm
   ·rfl
theorem dU{ρ:Env}{bd:Bd}(hρ:ρ.ok bd)(a b:IE):(mkEq bd a b).ev ρ=decide (a.ev ρ=b.ev ρ):=by
 unfold mkEq;split
 ·rename_i x y;show aK x y=decide (x=y);exact om
 ·rw [FY hρ]; simp [eq_comm]
 ·exact FY hρ _ _
def V1(bd:Bd)(a b:IE):BE:=
 match rng bd a,rng bd b with
 |some (l,h),some (l',h')=>if cC h l' then .lit true else if aL h' l then .lit false else if a.eq b then .lit false else .lt a b
 |_,_=>if a.eq b then .lit false else .lt a b
def mkLt(bd:Bd):IE->IE->BE
 | .lit x,.lit y=> .lit (cC x y)
 |a,b=>V1 bd a b
theorem cK{ρ:Env}{bd:Bd}(hρ:ρ.ok bd)(a b:IE):(mkLt bd a b).ev ρ=decide (a.ev ρ<b.ev ρ):=by
 unfold mkLt;split
 ·rename_i x y;show cC x y=decide (x<y);exact bj
 ·unfold V1;split
  ·rename_i l hh l' hh' ha hb;have h1:=bD hρ _ _ _ ha;have h2:=bD hρ _ _ _ hb;split
   ·rename_i h; simp [bj] at h; simp [BE.ev]; omega
   ·split
    ·rename_i h; simp [ay] at h; simp [BE.ev]; omega
    ·split
     ·rename_i h; rw [IE.eq_eq h]; simp [BE.ev]
     ·rfl
  ·split
   ·rename_i h; rw [IE.eq_eq h]; simp [BE.ev]
   ·rfl
def dG(c:Nat):IE->IE->IE->IE
 | .lit x,.lit y,.lit z=>
   match fnL c x y z with
   |some v=> .lit v
   |none=> .fn c (.lit x) (.lit y) (.lit z)
 |x,y,z=> .fn c x y z
theorem cz(ρ:Env)(c:Nat)(x y z:IE):(dG c x y z).ev ρ=fnI ρ c (x.ev ρ) (y.ev ρ) (z.ev ρ):=by
 unfold dG;split
 ·rename_i x y z;split
  ·rename_i v hv;simp [IE.ev,fnI,hv]
  ·rfl
 ·rfl
def jY(bd:Bd)(s:Bool)(a b x y:IE):IE:=
 match (if s then mkLt bd a b else mkEq bd a b) with
 | .lit true=>x
 | .lit false=>y
 |_=>if x.eq y then x else .sel s a b x y
theorem gw{ρ:Env}{bd:Bd}(hρ:ρ.ok bd)(s:Bool)(a b x y:IE):(jY bd s a b x y).ev ρ=aA s (a.ev ρ) (b.ev ρ) (x.ev ρ) (y.ev ρ):=by
 have key:(if s then mkLt bd a b else mkEq bd a b).ev ρ=(if s then decide (a.ev ρ<b.ev ρ) else decide (a.ev ρ=b.ev ρ)):=by
  cases s
  ·exact dU hρ a b
  ·exact cK hρ a b
 unfold jY;split
 ·rename_i h;rw [h] at key;cases s<;>simp [BE.ev] at key<;>simp [aA]<;>intro h'<;>omega
 ·rename_i h;rw [h] at key;cases s<;>simp [BE.ev] at key<;>simp [aA]<;>intro h'<;>omega
 ·split
  ·rename_i h;rw [IE.eq_eq h];simp [aA]
  ·rfl
abbrev Dec:=List (BE×Bool)
def Dec.holds(ρ:Env)(dec:Dec):Prop:= ∀p∈dec,p.1.ev ρ=p.2
def Dec.look:Dec->BE->Option Bool
 | [],_=>none
 | (c,v)::rest,b=>if c.same b then some v else Dec.look rest b
theorem Dec.look_ok{ρ:Env}{dec:Dec}(h:dec.holds ρ){b:BE}{v:Bool}(hl:dec.look b=some v):b.ev ρ=v:=by
 induction dec with
 |nil=>cases hl
 |cons p rest ih=>
  obtain ⟨c,u⟩:=p;simp only [Dec.look] at hl;split at hl
  ·rename_i hs;cases hl;rw [<- BE.cT hs];exact h (c,v) (by simp)
  ·exact ih (fun p hp=>h p (by simp [hp])) hl
def pN(a:Option Int)(n:Int):Option Int:=
 match a with
 |none=>some n
 |some m=>if cC m n then some n else some m
def lN(a:Option Int)(n:Int):Option Int:=
 match a with
 |none=>some n
 |some m=>if cC n m then some n else some m
def X0(a:Option Int)(n:Int):Option Int:=
 match a with
 |none=>none
 |some m=>if aK m n then some (m+1) else some m
def Pw(a:Option Int)(n:Int):Option Int:=
 match a with
 |none=>none
 |some m=>if aK m n then some (m-1) else some m
def narrow(e:IE):Dec->Option Int×Option Int
 | []=>(none,none)
 | (.eq a (.lit n),true)::rest=>if a.eq e then (some n,some n) else narrow e rest
 | (.eq a (.lit n),false)::rest=>if a.eq e then (X0 (narrow e rest).1 n,Pw (narrow e rest).2 n) else narrow e rest
 | (.lt a (.lit n),true)::rest=>if a.eq e then ((narrow e rest).1,lN (narrow e rest).2 (n-1)) else narrow e rest
 | (.lt a (.lit n),false)::rest=>if a.eq e then (pN (narrow e rest).1 n,(narrow e rest).2) else narrow e rest
 | (.lt (.lit n) a,true)::rest=>if a.eq e then (pN (narrow e rest).1 (n+1),(narrow e rest).2) else narrow e rest
 | (.lt (.lit n) a,false)::rest=>if a.eq e then ((narrow e rest).1,lN (narrow e rest).2 n) else narrow e rest
 |_::rest=>narrow e rest
def within(r:Option Int×Option Int)(x:Int):Prop:=(∀ lo,r.1=some lo->lo<=x)/\(∀ hi,r.2=some hi->x<=hi)
theorem oF{a:Option Int}{n x:Int}(h: ∀lo,a=some lo->lo<=x)(hn:n<=x): ∀lo,pN a n=some lo->lo<=x:=by
 intro lo hlo;unfold pN at hlo;split at hlo
 ·cases hlo; exact hn
 ·rename_i m;split at hlo
  ·cases hlo; exact hn
  ·cases hlo; exact h _ rfl
theorem jt{a:Option Int}{n x:Int}(h: ∀hi,a=some hi->x<=hi)(hn:x<=n): ∀hi,lN a n=some hi->x<=hi:=by
 intro hi hhi;unfold lN at hhi;split at hhi
 ·cases hhi; exact hn
 ·rename_i m;split at hhi
  ·cases hhi; exact hn
  ·cases hhi; exact h _ rfl
theorem Te{a:Option Int}{n x:Int}(h: ∀lo,a=some lo->lo<=x)(hn:x≠n): ∀lo,X0 a n=some lo->lo<=x:=by
 intro lo hlo;unfold X0 at hlo;split at hlo
 ·cases hlo
 ·rename_i m;have:=h m rfl;split at hlo
  ·rename_i he;have:=ar he;cases hlo;omega
  ·cases hlo; exact this
theorem Oj{a:Option Int}{n x:Int}(h: ∀hi,a=some hi->x<=hi)(hn:x≠n): ∀hi,Pw a n=some hi->x<=hi:=by
 intro hi hhi;unfold Pw at hhi;split at hhi
 ·cases hhi
 ·rename_i m;have:=h m rfl;split at hhi
  ·rename_i he;have:=ar he;cases hhi;omega
  ·cases hhi; exact this
theorem oE{ρ:Env}{a:IE}{n:Int}:(BE.eq a (.lit n)).ev ρ=true ↔ a.ev ρ=n:=decide_eq_true_iff
theorem rG{ρ:Env}{a:IE}{n:Int}:(BE.eq a (.lit n)).ev ρ=false ↔ ¬a.ev ρ=n:=decide_eq_false_iff_not
theorem rU{ρ:Env}{a:IE}{n:Int}:(BE.lt a (.lit n)).ev ρ=true ↔ a.ev ρ<n:=decide_eq_true_iff
theorem qZ{ρ:Env}{a:IE}{n:Int}:(BE.lt a (.lit n)).ev ρ=false ↔ ¬a.ev ρ<n:=decide_eq_false_iff_not
theorem qz{ρ:Env}{a:IE}{n:Int}:(BE.lt (.lit n) a).ev ρ=true ↔ n<a.ev ρ:=decide_eq_true_iff
theorem qF{ρ:Env}{a:IE}{n:Int}:(BE.lt (.lit n) a).ev ρ=false ↔ ¬n<a.ev ρ:=decide_eq_false_iff_not
theorem gY{ρ:Env}(e:IE): ∀ {dec:Dec},dec.holds ρ->within (narrow e dec) (e.ev ρ):=by
 intro dec
 induction dec with
 |nil=>intro _; exact ⟨fun _ h=>(by cases h),fun _ h=>(by cases h)⟩
 |cons p rest ih=>
  intro h;have hr:=ih (fun p hp=>h p (by simp [hp]))
  have hp:=h p (by simp)
  obtain ⟨b,v⟩:=p;unfold narrow;split
  ·rename_i he; cases he
  ·rename_i a n rest' he;cases he;split
   ·rename_i hs;rw [IE.eq_eq hs] at hp;replace hp:=oE.1 hp;exact ⟨fun lo hl=>(by cases hl; omega),fun hi hl=>(by cases hl; omega)⟩
   ·exact hr
  ·rename_i a n rest' he;cases he;split
   ·rename_i hs;rw [IE.eq_eq hs] at hp;replace hp:=rG.1 hp;exact ⟨Te hr.1 hp,Oj hr.2 hp⟩
   ·exact hr
  ·rename_i a n rest' he;cases he;split
   ·rename_i hs;rw [IE.eq_eq hs] at hp;replace hp:=rU.1 hp;exact ⟨hr.1,jt hr.2 (by omega)⟩
   ·exact hr
  ·rename_i a n rest' he;cases he;split
   ·rename_i hs;rw [IE.eq_eq hs] at hp;replace hp:=qZ.1 hp;exact ⟨oF hr.1 (by omega),hr.2⟩
   ·exact hr
  ·rename_i a n rest' _ he;cases he;split
   ·rename_i hs;rw [IE.eq_eq hs] at hp;replace hp:=qz.1 hp;exact ⟨oF hr.1 (by omega),hr.2⟩
   ·exact hr
  ·rename_i a n rest' _ he;cases he;split
   ·rename_i hs;rw [IE.eq_eq hs] at hp;replace hp:=qF.1 hp;exact ⟨hr.1,jt hr.2 (by omega)⟩
   ·exact hr
  ·rename_i he;cases he;exact hr
def ZJ(r:Option Int×Option Int)(n:Int):Option Bool:=
 match r with
 | (some lo,some hi)=>
   if cC n lo then some false else if cC hi n then some false else if aK lo n then (if aK hi n then some true else none) else none
 | (some lo,none)=>if cC n lo then some false else none
 | (none,some hi)=>if cC hi n then some false else none
 |_=>none
def Z7(r:Option Int×Option Int)(n:Int):Option Bool:=
 match r with
 | (some lo,some hi)=>if cC hi n then some true else if cC lo n then none else some false
 | (some lo,none)=>if cC lo n then none else some false
 | (none,some hi)=>if cC hi n then some true else none
 |_=>none
def aa3(r:Option Int×Option Int)(n:Int):Option Bool:=
 match r with
 | (some lo,some hi)=>if cC n lo then some true else if cC n hi then none else some false
 | (some lo,none)=>if cC n lo then some true else none
 | (none,some hi)=>if cC n hi then none else some false
 |_=>none
def CQ(dec:Dec):BE->Option Bool
 | .eq a (.lit n)=>ZJ (narrow a dec) n
 | .lt a (.lit n)=>Z7 (narrow a dec) n
 | .lt (.lit n) a=>aa3 (narrow a dec) n
 |_=>none
theorem HC{ρ:Env}{dec:Dec}(h:dec.holds ρ){b:BE}{v:Bool}(hv:CQ dec b=some v):b.ev ρ=v:=by
 unfold CQ at hv;split at hv
 ·rename_i a n;have hn:=gY a h
  revert hn hv
  generalize narrow a dec=r;obtain ⟨r1,r2⟩:=r;intro hv hn;have h1:=hn.1;have h2:=hn.2;simp only at h1 h2;cases r1<;>cases r2<;>simp only [ZJ] at hv
  ·cases hv
  ·rename_i hi;have h2:=h2 hi rfl;split at hv
   ·rename_i q; rw [bj] at q; simp at q; cases hv; first |exact oE.2 (by omega) |exact rG.2 (by omega)
   ·cases hv
  ·rename_i lo;have h1:=h1 lo rfl;split at hv
   ·rename_i q; rw [bj] at q; simp at q; cases hv; first |exact oE.2 (by omega) |exact rG.2 (by omega)
   ·cases hv
  ·rename_i lo hi;have h1:=h1 lo rfl;have h2:=h2 hi rfl;split at hv
   ·rename_i q; rw [bj] at q; simp at q; cases hv; first |exact oE.2 (by omega) |exact rG.2 (by omega)
   ·split at hv
    ·rename_i q; rw [bj] at q; simp at q; cases hv; first |exact oE.2 (by omega) |exact rG.2 (by omega)
    ·split at hv
     ·rename_i q1;have q1:=ar q1;split at hv
      ·rename_i q2;have q2:=ar q2;cases hv;exact oE.2 (by omega)
      ·cases hv
     ·cases hv
 ·rename_i a n;have hn:=gY a h
  revert hn hv
  generalize narrow a dec=r;obtain ⟨r1,r2⟩:=r;intro hv hn;have h1:=hn.1;have h2:=hn.2;simp only at h1 h2;cases r1<;>cases r2<;>simp only [Z7] at hv
  ·cases hv
  ·rename_i hi;have h2:=h2 hi rfl;split at hv
   ·rename_i q; rw [bj] at q; simp at q; cases hv; first |exact rU.2 (by omega) |exact qZ.2 (by omega)
   ·cases hv
  ·rename_i lo;have h1:=h1 lo rfl;split at hv
   ·cases hv
   ·rename_i q; rw [bj] at q; simp at q; cases hv; first |exact rU.2 (by omega) |exact qZ.2 (by omega)
  ·rename_i lo hi;have h1:=h1 lo rfl;have h2:=h2 hi rfl;split at hv
   ·rename_i q; rw [bj] at q; simp at q; cases hv; first |exact rU.2 (by omega) |exact qZ.2 (by omega)
   ·split at hv
    ·cases hv
    ·rename_i q; rw [bj] at q; simp at q; cases hv; first |exact rU.2 (by omega) |exact qZ.2 (by omega)
 ·rename_i n a _;have hn:=gY a h
  revert hn hv
  generalize narrow a dec=r;obtain ⟨r1,r2⟩:=r;intro hv hn;have h1:=hn.1;have h2:=hn.2;simp only at h1 h2;cases r1<;>cases r2<;>simp only [aa3] at hv
  ·cases hv
  ·rename_i hi;have h2:=h2 hi rfl;split at hv
   ·cases hv
   ·rename_i q; rw [bj] at q; simp at q; cases hv; first |exact qz.2 (by omega) |exact qF.2 (by omega)
  ·rename_i lo;have h1:=h1 lo rfl;split at hv
   ·rename_i q; rw [bj] at q; simp at q; cases hv; first |exact qz.2 (by omega) |exact qF.2 (by omega)
   ·cases hv
  ·rename_i lo hi;have h1:=h1 lo rfl;have h2:=h2 hi rfl;split at hv
   ·rename_i q; rw [bj] at q; simp at q; cases hv; first |exact qz.2 (by omega) |exact qF.2 (by omega)
   ·split at hv
    ·cases hv
    ·rename_i q; rw [bj] at q; simp at q; cases hv; first |exact qz.2 (by omega) |exact qF.2 (by omega)
 ·cases hv
def Dec.ask(dec:Dec)(b:BE):Option Bool:=
 match dec.look b with
 |some v=>some v
 |none=>CQ dec b
theorem Dec.IQ{ρ:Env}{dec:Dec}(h:dec.holds ρ){b:BE}{v:Bool}(hl:dec.ask b=some v):b.ev ρ=v:=by
 unfold Dec.ask at hl;split at hl
 ·rename_i u hu;cases hl;exact Dec.look_ok h hu
 ·exact HC h hl
def settle(dec:Dec):BE->Option Bool
 | .lit b=>some b
 | .not a=>match settle dec a with
   |some b=>some (!b)
   |none=>none
 |b=>dec.ask b
theorem aq{ρ:Env}{dec:Dec}(h:dec.holds ρ)(b:BE): ∀v,settle dec b=some v->b.ev ρ=v:=by
 induction b with
 |lit b=>intro v hv; simp [settle] at hv; exact hv
 |not a ih=>
  intro v hv;simp only [settle] at hv;split at hv
  ·rename_i u hu; cases hv; simp [BE.ev,ih _ hu]
  ·cases hv
 |var i=>intro v hv; exact Dec.IQ h hv
 |eq a b=>intro v hv; exact Dec.IQ h hv
 |lt a b=>intro v hv; exact Dec.IQ h hv
def Dec.num(e:IE):Dec->Option Int
 | []=>none
 | (.eq a (.lit n),true)::rest=>if a.eq e then some n else Dec.num e rest
 |_::rest=>Dec.num e rest
def KL(dec:Dec):IE->Option Int
 | .lit n=>some n
 |e=>Dec.num e dec
theorem Dec.PY{ρ:Env}(e:IE): ∀ {dec:Dec},dec.holds ρ-> ∀ {n:Int},Dec.num e dec=some n->e.ev ρ=n:=by
 intro dec
 induction dec with
 |nil=>intro _ n h; cases h
 |cons p rest ih=>
  intro h n hn;have hr:Dec.holds ρ rest:=fun p hp=>h p (by simp [hp])
  unfold Dec.num at hn;split at hn
  ·cases ‹_=[]›
  ·rename_i a m rest' he;cases he;split at hn
   ·rename_i hs;cases hn;have:=h (.eq a (.lit n),true) (by simp)
    rw [<- IE.eq_eq hs];exact of_decide_eq_true this
   ·exact ih hr hn
  ·rename_i q rest' _ he;cases he;exact ih hr hn
theorem E2{ρ:Env}{dec:Dec}(h:dec.holds ρ){e:IE}{n:Int}(hn:KL dec e=some n):e.ev ρ=n:=by
 unfold KL at hn;split at hn
 ·cases hn; rfl
 ·exact Dec.PY _ h hn
end Go.Sx
namespace Go.Sx
open Go.RowKit (Below)
inductive T (α:Type) where
 |nil
 |node (v:Option α) (l r:T α)
 deriving Inhabited
def T.cw{α:Type}:T α->Nat->Option α
 | .nil,_=>none
 | .node v l r,k=>
   match Nat.beq k 0 with
   |true=>v
   |false=>
    match Nat.beq (k % 2) 1 with
    |true=>l.cw ((k-1) / 2)
    |false=>r.cw ((k-1) / 2)
def T.dx{α:Type}(x:Option α):Nat->T α->Nat->T α
 |0,_,_=> .nil
 |f+1,.nil,k=>
  match Nat.beq k 0 with
  |true=> .node x .nil .nil
  |false=>
   match Nat.beq (k % 2) 1 with
   |true=>match T.dx x f .nil ((k-1) / 2) with
    | .nil=> .nil
    | .node a b c=> .node none (.node a b c) .nil
   |false=>match T.dx x f .nil ((k-1) / 2) with
    | .nil=> .nil
    | .node a b c=> .node none .nil (.node a b c)
 |f+1,.node v l r,k=>
  match Nat.beq k 0 with
  |true=> .node x l r
  |false=>
   match Nat.beq (k % 2) 1 with
   |true=>match T.dx x f l ((k-1) / 2) with
    | .nil=> .nil
    | .node a b c=> .node v (.node a b c) r
   |false=>match T.dx x f r ((k-1) / 2) with
    | .nil=> .nil
    | .node a b c=> .node v l (.node a b c)
theorem T.Hs{α:Type}(x:Option α): ∀(f:Nat) (t:T α) (k j:Nat) (y:α),(T.dx x f t k).cw j=some y->(j=k/\x=some y)\/(j≠k/\t.cw j=some y):=by
 intro f
 induction f with
 |zero=>intro t k j y h; simp [T.dx,T.cw] at h
 |succ f ih=>
  have half: ∀(k j:Nat),k≠0->j≠0->k % 2=j % 2->(k-1) / 2=(j-1) / 2->k=j:=by intro k j; omega
  have main: ∀(v:Option α) (l r:T α) (k j:Nat) (y:α),(match Nat.beq k 0 with
   |true=>T.node x l r
   |false=>match Nat.beq (k % 2) 1 with
    |true=>match T.dx x f l ((k-1) / 2) with
     | .nil=> .nil
     | .node a b c=> .node v (.node a b c) r
    |false=>match T.dx x f r ((k-1) / 2) with
     | .nil=> .nil
     | .node a b c=> .node v l (.node a b c)).cw j=some y->(j=k/\x=some y)\/(j≠k/\(T.node v l r).cw j=some y):=by
   intro v l r k j y h;cases hk:Nat.beq k 0
   ·simp only [hk] at h;have hk0:k≠0:=by intro e; simp [e] at hk
    cases ho:Nat.beq (k % 2) 1
    ·simp only [ho] at h;have ho':k % 2≠1:=by intro e; simp [e] at ho
     split at h
     ·simp [T.cw] at h
     ·rename_i a b c e;simp only [T.cw] at h ⊢;cases hj:Nat.beq j 0
      ·simp only [hj] at h ⊢;have hj0:j≠0:=by intro e; simp [e] at hj
       cases hjo:Nat.beq (j % 2) 1
       ·simp only [hjo] at h ⊢;have hjo':j % 2≠1:=by intro e; simp [e] at hjo
        rcases ih r _ _ y (by rw [e]; simpa only [T.cw] using h) with ⟨e1,e2⟩ | ⟨e1,e2⟩
        ·exact .inl ⟨(half k j hk0 hj0 (by omega) e1.symm).symm,e2⟩
        ·exact .inr ⟨fun e=>e1 (by rw [e]),e2⟩
       ·simp only [hjo] at h ⊢;have hjo':j % 2=1:=Nat.eq_of_beq_eq_true hjo;exact .inr ⟨fun e=>ho' (by rw [<- e]; exact hjo'),h⟩
      ·simp only [hj] at h ⊢;have hj0:j=0:=Nat.eq_of_beq_eq_true hj;exact .inr ⟨fun e=>hk0 (by omega),h⟩
    ·simp only [ho] at h;have ho':k % 2=1:=Nat.eq_of_beq_eq_true ho;split at h
     ·simp [T.cw] at h
     ·rename_i a b c e;simp only [T.cw] at h ⊢;cases hj:Nat.beq j 0
      ·simp only [hj] at h ⊢;have hj0:j≠0:=by intro e; simp [e] at hj
       cases hjo:Nat.beq (j % 2) 1
       ·simp only [hjo] at h ⊢;have hjo':j % 2≠1:=by intro e; simp [e] at hjo
        exact .inr ⟨fun e=>hjo' (by rw [e]; exact ho'),h⟩
       ·simp only [hjo] at h ⊢;have hjo':j % 2=1:=Nat.eq_of_beq_eq_true hjo
        rcases ih l _ _ y (by rw [e]; simpa only [T.cw] using h) with ⟨e1,e2⟩ | ⟨e1,e2⟩
        ·exact .inl ⟨(half k j hk0 hj0 (by omega) e1.symm).symm,e2⟩
        ·exact .inr ⟨fun e=>e1 (by rw [e]),e2⟩
      ·simp only [hj] at h ⊢;have hj0:j=0:=Nat.eq_of_beq_eq_true hj;exact .inr ⟨fun e=>hk0 (by omega),h⟩
   ·simp only [hk] at h;have hk0:k=0:=Nat.eq_of_beq_eq_true hk;subst hk0;simp only [T.cw] at h ⊢;cases hj:Nat.beq j 0
    ·simp only [hj] at h ⊢;exact .inr ⟨fun e=>by simp [e] at hj,h⟩
    ·simp only [hj] at h ⊢;exact .inl ⟨Nat.eq_of_beq_eq_true hj,h⟩
  intro t k j y h;cases t with
  |nil=>
   rcases main none .nil .nil k j y (by simpa only [T.dx] using h) with h1 | ⟨h1,h2⟩
   ·exact .inl h1
   ·exfalso;simp only [T.cw] at h2;cases hj:Nat.beq j 0<;>simp only [hj] at h2
    ·cases hjo:Nat.beq (j % 2) 1<;>simp only [hjo] at h2<;>cases h2
    ·cases h2
  |node v l r=>exact main v l r k j y (by simpa only [T.dx] using h)
noncomputable def T.get{α:Type}(t:T α):Nat->Option α:=
 T.rec (motive:=fun _=>Nat->Option α) (fun _=>none)
  (fun v _ _ gl gr k=>Bool.rec (motive:=fun _=>Option α)
   (Bool.rec (motive:=fun _=>Option α) (gr (Nat.div (Nat.sub k 1) 2)) (gl (Nat.div (Nat.sub k 1) 2)) (Nat.beq (Nat.mod k 2) 1))
   v (Nat.beq k 0)) t
noncomputable def T.EN{α:Type}(x:Option α)(f:Nat):T α->Nat->T α:=
 Nat.rec (motive:=fun _=>T α->Nat->T α) (fun _ _=> .nil)
  (fun _ ih t k=>T.rec (motive:=fun _=>T α)
   (Bool.rec (motive:=fun _=>T α)
    (Bool.rec (motive:=fun _=>T α)
     (T.rec (motive:=fun _=>T α) .nil (fun a b c _ _=> .node none .nil (.node a b c)) (ih .nil (Nat.div (Nat.sub k 1) 2)))
     (T.rec (motive:=fun _=>T α) .nil (fun a b c _ _=> .node none (.node a b c) .nil) (ih .nil (Nat.div (Nat.sub k 1) 2)))
     (Nat.beq (Nat.mod k 2) 1))
    (.node x .nil .nil) (Nat.beq k 0))
   (fun v l r _ _=>Bool.rec (motive:=fun _=>T α)
    (Bool.rec (motive:=fun _=>T α)
     (T.rec (motive:=fun _=>T α) .nil (fun a b c _ _=> .node v l (.node a b c)) (ih r (Nat.div (Nat.sub k 1) 2)))
     (T.rec (motive:=fun _=>T α) .nil (fun a b c _ _=> .node v (.node a b c) r) (ih l (Nat.div (Nat.sub k 1) 2)))
     (Nat.beq (Nat.mod k 2) 1))
    (.node x l r) (Nat.beq k 0)) t) f
theorem T.get_eq{α:Type}(t:T α): ∀k,t.get k=t.cw k:=by
 induction t with
 |nil=>intro k; rfl
 |node v l r ihl ihr=>
  intro k;show (Bool.rec (motive:=fun _=>Option α) (Bool.rec (motive:=fun _=>Option α) (r.get (Nat.div (Nat.sub k 1) 2)) (l.get (Nat.div (Nat.sub k 1) 2)) (Nat.beq (Nat.mod k 2) 1)) v (Nat.beq k 0):Option α)=_
  rw [ihl,ihr];simp only [T.cw];cases h0:Nat.beq k 0
  ·have e:Nat.mod k 2=k % 2:=rfl;rw [e];cases h1:Nat.beq (k % 2) 1<;>rfl
  ·rfl
theorem T.vw{α:Type}(x:Option α): ∀(f:Nat) (t:T α) (k:Nat),T.EN x f t k=T.dx x f t k:=by
 intro f
 induction f with
 |zero=>intro t k; rfl
 |succ f ih=>
  intro t k;have e:Nat.mod k 2=k % 2:=rfl;have e2:Nat.div (Nat.sub k 1) 2=(k-1) / 2:=rfl;cases t with
  |nil=>
   show (Bool.rec (motive:=fun _=>T α) (Bool.rec (motive:=fun _=>T α) (T.rec (motive:=fun _=>T α) .nil (fun a b c _ _=> .node none .nil (.node a b c)) (T.EN x f .nil (Nat.div (Nat.sub k 1) 2))) (T.rec (motive:=fun _=>T α) .nil (fun a b c _ _=> .node none (.node a b c) .nil) (T.EN x f .nil (Nat.div (Nat.sub k 1) 2))) (Nat.beq (Nat.mod k 2) 1)) (.node x .nil .nil) (Nat.beq k 0):T α)=_
   rw [ih,e,e2];simp only [T.dx];cases h0:Nat.beq k 0
   ·cases h1:Nat.beq (k % 2) 1<;>simp only []<;>cases T.dx x f .nil ((k-1) / 2)<;>rfl
   ·rfl
  |node v l r=>
   show (Bool.rec (motive:=fun _=>T α) (Bool.rec (motive:=fun _=>T α) (T.rec (motive:=fun _=>T α) .nil (fun a b c _ _=> .node v l (.node a b c)) (T.EN x f r (Nat.div (Nat.sub k 1) 2))) (T.rec (motive:=fun _=>T α) .nil (fun a b c _ _=> .node v (.node a b c) r) (T.EN x f l (Nat.div (Nat.sub k 1) 2))) (Nat.beq (Nat.mod k 2) 1)) (.node x l r) (Nat.beq k 0):T α)=_
   rw [ih,ih,e,e2];simp only [T.dx];cases h0:Nat.beq k 0
   ·cases h1:Nat.beq (k % 2) 1
    ·simp only [];cases T.dx x f r ((k-1) / 2)<;>rfl
    ·simp only [];cases T.dx x f l ((k-1) / 2)<;>rfl
   ·rfl
noncomputable def T.set{α:Type}(t:T α)(k:Nat)(x:α):T α:=T.EN (some x) 64 t k
noncomputable def T.del{α:Type}(t:T α)(k:Nat):T α:=T.EN none 64 t k
theorem T.get_nil{α:Type}(k:Nat):(T.nil:T α).get k=none:=rfl
theorem T.Er{α:Type}(x:Option α)(f:Nat)(t:T α)(k j:Nat)(y:α)(h:(T.EN x f t k).get j=some y):(j=k/\x=some y)\/(j≠k/\t.get j=some y):=by
 rw [T.get_eq,T.vw] at h;rw [T.get_eq];exact T.Hs x f t k j y h
theorem T.aB{α:Type}{t:T α}{k j:Nat}{x y:α}(h:(t.set k x).get j=some y):(j=k/\x=y)\/(j≠k/\t.get j=some y):=by
 rcases T.Er _ _ _ _ _ _ h with ⟨h1,h2⟩ |h
 ·exact .inl ⟨h1,by simpa using h2⟩
 ·exact .inr h
theorem T.eU{α:Type}{t:T α}{k j:Nat}{y:α}(h:(t.del k).get j=some y):j≠k/\t.get j=some y:=by
 rcases T.Er _ _ _ _ _ _ h with ⟨_,h2⟩ |h
 ·cases h2
 ·exact h
end Go.Sx
namespace Go.Sx
def dig(n j:Nat):Nat:=n / 2^(80*j) % 2^80
theorem bx(d:Int)(j:Nat):ag d j=ff (dig d.toNat j):=by
 unfold ag dig;have e:(1208925819614629174706176:Nat)=2^80:=by decide
 show ff (Nat.mod (Nat.shiftRight d.toNat (Nat.mul 80 (j:Int).toNat)) 1208925819614629174706176)=_;rw [Int.toNat_natCast,e]
 congr 1
 show (d.toNat >>> (80*j)) % 2^80=_;rw [Nat.shiftRight_eq_div_pow]
theorem ub{i j:Nat}(h:i<=j):2^(80*j)=2^(80*i)*2^(80*(j-i)):=by
 rw [<- Nat.pow_add]
 congr 1
 omega
def put(n i u:Nat):Nat:=n-dig n i*2^(80*i)+u*2^(80*i)
theorem zt(n i u:Nat):put n i u=n % 2^(80*i)+2^(80*i)*(u+2^80*(n / 2^(80*i) / 2^80)):=by
 unfold put dig;have h1:=Nat.div_add_mod n (2^(80*i));have h2:=Nat.div_add_mod (n / 2^(80*i)) (2^80);generalize n / 2^(80*i) / 2^80=q at*;generalize n / 2^(80*i) % 2^80=r at*;generalize n % 2^(80*i)=m at*;generalize hp:2^(80*i)=p at*;generalize n / p=x at*;subst h2;rw [<- h1,Nat.mul_add,Nat.mul_add,Nat.mul_comm r p,Nat.mul_comm u p];omega
theorem vl{m p x i j:Nat}(hp:p=2^(80*i))(h:j<i):dig (m+p*x) j=dig m j:=by
 unfold dig
 have e:p=2^(80*j)*(2^80*2^(80*(i-j-1))):=by
  rw [hp,ub (Nat.le_of_lt h)]
  congr 1
  rw [<- Nat.pow_add]
  congr 1
  omega
 rw [e,Nat.mul_assoc,Nat.add_mul_div_left _ _ (Nat.two_pow_pos _),Nat.mul_assoc,Nat.add_mul_mod_self_left]
theorem rN{m p x i j:Nat}(hp:p=2^(80*i))(hm:m<p)(h:i<=j):dig (m+p*x) j=x / 2^(80*(j-i)) % 2^80:=by
 unfold dig;rw [ub h,<-Nat.div_div_eq_div_mul,<-hp,Nat.add_mul_div_left _ _ (by omega),Nat.div_eq_of_lt hm,Nat.zero_add]
theorem K7(n i u j:Nat)(hu:u<2^80):dig (put n i u) j=if j=i then u else dig n j:=by
 have hm:n % 2^(80*i)<2^(80*i):=Nat.mod_lt _ (Nat.two_pow_pos _);have hn:n=n % 2^(80*i)+2^(80*i)*(n / 2^(80*i)):=by have:=Nat.div_add_mod n (2^(80*i)); omega
 rw [zt];split
 ·rename_i e;subst e;rw [rN rfl hm (Nat.le_refl _),Nat.sub_self,Nat.mul_zero,Nat.pow_zero,Nat.div_one,Nat.add_mul_mod_self_left,Nat.mod_eq_of_lt hu]
 ·rename_i e
  rcases Nat.lt_or_gt_of_ne e with h |h
  ·rw [vl rfl h]
   conv=>rhs; rw [hn]
   rw [vl rfl h]
  ·rw [rN rfl hm (Nat.le_of_lt h)]
   conv=>rhs; rw [hn]
   rw [rN rfl hm (Nat.le_of_lt h)]
   have e:2^(80*(j-i))=2^80*2^(80*(j-i-1)):=by
    rw [<- Nat.pow_add]
    congr 1
    omega
   rw [e,<-Nat.div_div_eq_div_mul,<-Nat.div_div_eq_div_mul,Nat.add_mul_div_left _ _ (Nat.two_pow_pos _),Nat.div_eq_of_lt hu,Nat.zero_add]
theorem nZ(v:Int):gz v<2^80:=by
 unfold gz;have:(2:Nat)^80=1208925819614629174706176:=by decide
 omega
theorem wN(v:Int)(h: -604462909807314587353088<=v)(h':v<604462909807314587353088):ff (gz v)=v:=by
 unfold ff gz;split
 ·rename_i hb;have:=Nat.le_of_ble_eq_true hb;omega
 ·rename_i hb
  have: ¬(v % 1208925819614629174706176).toNat<604462909807314587353088:=by
   intro hlt;exact hb (Nat.ble_eq_true_of_le hlt)
  omega
theorem gD(d v:Int)(i:Nat):(aD d i v).toNat=put d.toNat i (gz v):=by
 unfold aD put dig;have e:(1208925819614629174706176:Nat)=2^80:=by decide
 show ((((d.toNat-((d.toNat >>> (80*(i:Int).toNat)) % 1208925819614629174706176) <<< (80*(i:Int).toNat))+gz v <<< (80*(i:Int).toNat):Nat)):Int).toNat=_;rw [Int.toNat_natCast,Int.toNat_natCast,Nat.shiftLeft_eq,Nat.shiftLeft_eq,Nat.shiftRight_eq_div_pow,e]
theorem eW(d v:Int)(i j:Nat)(h: -604462909807314587353088<=v)(h':v<604462909807314587353088):ag (aD d i v) j=if j=i then v else ag d j:=by
 rw [bx,gD,K7 _ _ _ _ (nZ v)];split
 ·exact wN v h h'
 ·rw [bx]
theorem M4: ∀(l:List Int) (j:Nat),dig (rowOf l) j=match l[j]? with
 |some v=>gz v
 |none=>0:=by
 intro l
 induction l with
 |nil=>intro j; simp [rowOf,dig]
 |cons v l ih=>
  intro j;cases j with
  |zero=>
   simp only [dig,rowOf,Nat.mul_zero,Nat.pow_zero,Nat.div_one,List.getElem?_cons_zero];rw [Nat.add_mul_mod_self_left,Nat.mod_eq_of_lt (nZ v)]
  |succ j=>
   have:=ih j;simp only [List.getElem?_cons_succ];rw [<- this];show (gz v+2^80*rowOf l) / 2^(80*(j+1)) % 2^80=rowOf l / 2^(80*j) % 2^80
   have e:2^(80*(j+1))=2^80*2^(80*j):=by
    rw [<- Nat.pow_add]
    congr 1
    omega
   rw [e,<-Nat.div_div_eq_div_mul,Nat.add_mul_div_left _ _ (Nat.two_pow_pos _),Nat.div_eq_of_lt (nZ v),Nat.zero_add]
def fE(v:Int):Prop:= -604462909807314587353088<=v/\v<604462909807314587353088
theorem cP(l:List Int)(j:Nat)(v:Int)(h:l[j]? =some v)(hv:fE v):ag (rowOf l:Nat) j=v:=by
 rw [bx,Int.toNat_natCast,M4,h];exact wN v hv.1 hv.2
theorem Xs(k:IntKind):kOf (l5 k)=k:=by cases k<;>rfl
theorem xF(k:IntKind)(n:Int):fE (k.wrap n):=by
 have h:=wrap_mem k n;unfold fE;cases k<;>simp only [kLo,kHi] at h<;>omega
theorem uB(d n z:Int)(j:Nat)(h:j<n.toNat):ag (qS d n z) j=(kOf z).wrap (ag d j):=
 cP _ j _ (by simp [h]) (xF _ _)
theorem ez{k:IntKind}{v:Int}(h:kLo k<=v)(h':v<=kHi k):fE v:=by
 unfold fE;cases k<;>simp only [kLo,kHi] at* <;>omega
theorem fF(d v:Int)(i j:Nat){k:IntKind}(h:kLo k<=v)(h':v<=kHi k):ag (aD d i v) j=if j=i then v else ag d j:=
 eW d v i j (ez h h').1 (ez h h').2
theorem jg(d:Int)(o k:Nat):(aY d o k).toNat=d.toNat / 2^(80*o) % 2^(80*k):=by
 unfold aY;show (((d.toNat >>> (80*(o:Int).toNat)) % (1 <<< (80*(k:Int).toNat)):Nat):Int).toNat=_;rw [Int.toNat_natCast,Int.toNat_natCast,Int.toNat_natCast,Nat.shiftRight_eq_div_pow,Nat.shiftLeft_eq,Nat.one_mul]
theorem Am(d:Int)(o k:Nat):(aY d o k).toNat<2^(80*k):=by
 rw [jg];exact Nat.mod_lt _ (Nat.two_pow_pos _)
theorem ch(d:Int)(o k j:Nat)(h:j<k):ag (aY d o k) j=ag d (o+j:Nat):=by
 rw [bx,bx,jg]
 congr 1
 generalize d.toNat=n
 have e1:dig (n / 2^(80*o) % 2^(80*k)) j=dig (n / 2^(80*o)) j:=by
  conv=>rhs; rw [<- Nat.mod_add_div (n / 2^(80*o)) (2^(80*k))]
  exact (vl rfl h).symm
 rw [e1];unfold dig;rw [Nat.div_div_eq_div_mul,<-Nat.pow_add,Nat.mul_add]
theorem ri(d e:Int)(k:Nat):(lS d k e).toNat=d.toNat+2^(80*k)*e.toNat:=by
 unfold lS;show ((d.toNat+e.toNat <<< (80*(k:Int).toNat):Nat):Int).toNat=_;rw [Int.toNat_natCast,Int.toNat_natCast,Nat.shiftLeft_eq,Nat.mul_comm]
theorem mf(d e:Int)(k j:Nat)(h:j<k):ag (lS d k e) j=ag d j:=by
 rw [bx,bx,ri,vl rfl h]
theorem qy(d e:Int)(k j:Nat)(hd:d.toNat<2^(80*k))(h:k<=j):ag (lS d k e) j=ag e (j-k:Nat):=by
 rw [bx,bx,ri,rN rfl hd h];rfl
def eH:List IntKind->List IntKind->Bool
 | [],[]=>true
 |a::l,b::m=>bf a b&&eH l m
 |_,_=>false
theorem fm: ∀ {l m:List IntKind},eH l m=true->l=m:=by
 intro l
 induction l with
 |nil=>intro m h; cases m<;>simp only [eH] at h<;>first |rfl | (cases h; done)
 |cons a l ih=>
  intro m h;cases m<;>simp only [eH] at h
  ·cases h
  ·obtain ⟨h1,h2⟩:=Bool.and_eq_true_iff.1 h;rw [aH h1,ih h2]
theorem HF(d e:Int)(n j:Nat)(h:j<n):ag (jL d n e) j=ag d j:=by
 have e0:((0:Nat):Int)=0:=rfl;unfold jL;split
 ·rename_i hc;have h1:=ch e 0 n j h;have h2:=ch d 0 n j h;rw [Nat.zero_add,e0] at h1 h2;rw [<- h1,<-h2,hc]
 ·rw [mf _ _ _ _ h,<-e0,ch _ _ _ _ h,Nat.zero_add]
end Go.Sx
namespace Go.Sx
open Go.RowKit (Below)
noncomputable section
structure Loc where
 blk:Nat
 base:Nat
 sz:Nat
abbrev Ren:=Nat->Option Loc
def Ren.le(f g:Ren):Prop:= ∀i L,f i=some L->g i=some L
theorem Ren.le_refl(f:Ren):f.le f:=fun _ _ h=>h
theorem Ren.le_trans{f g h:Ren}(a:f.le g)(b:g.le h):f.le h:=fun i L e=>b i L (a i L e)
def Ren.put(f:Ren)(i:Nat)(L:Loc):Ren:=fun j=>if j=i then some L else f j
theorem Ren.cn(f:Ren)(i:Nat)(L:Loc):f.put i L i=some L:=by simp [Ren.put]
theorem Ren.bM(f:Ren){i j:Nat}(L:Loc)(h:j≠i):f.put i L j=f j:=by simp [Ren.put,h]
theorem Ren.fv{f:Ren}{i:Nat}(L:Loc)(h:f i=none):f.le (f.put i L):=fun j M e=>by
 by_cases hj:j=i
 ·subst hj; rw [h] at e; cases e
 ·rw [Ren.bM f L hj]; exact e
inductive ab where
 |bool (b:BE)
 |int (k:IntKind) (e:IE)
 |str (l:List IE)
 |ptr (a:Option (Nat×Nat))
 |slice (a:Option (Nat×Nat)) (len cap g:Nat)
 |map (r:Option Nat)
 |func (fn:Fn) (first capt:List ab)
 |nilFunc
 |iface (t:TypeId) (v:ab)
 |nilIface
 |agg (cs:List ab)
 |tuple (vs:List ab)
 |ptrE (i:Nat) (idx:IE) (s c:Nat)
 |sliceS (i:Nat) (st len:IE) (s:Nat) (nn:Bool)
 |strS (code len:IE)
 |sliceA (i:Nat) (len:IE) (s:Nat)
 deriving Inhabited
def ab.cells:ab->List ab
 | .agg cs=>cs
 |v=>[v]
def ab.one:ab->Bool
 | .agg _ | .tuple _=>false
 |_=>true
def eu(ρ:Env)(l:List IE)(s:ByteArray):Prop:=s.data.toList.map (fun b=>(b.toNat:Int))=l.map (·.ev ρ)
inductive ai (ρ:Env) (f:Ren):ab->Value->Prop where
 |bool (b:BE):ai ρ f (.bool b) (.bool (b.ev ρ))
 |int (k:IntKind) (e:IE):ai ρ f (.int k e) (.int k (e.ev ρ))
 |str {l:List IE} {s:ByteArray} (h:eu ρ l s):ai ρ f (.str l) (.string s)
 |nilPtr:ai ρ f (.ptr none) (.pointer none)
 |ptr {i o:Nat} {L:Loc} (h:f i=some L):ai ρ f (.ptr (some (i,o))) (.pointer (some ⟨L.blk,L.base+o,none⟩))
 |nilSlice:ai ρ f (.slice none 0 0 0) (.slice none 0 0)
 |slice {i o n c:Nat} {L:Loc} (h:f i=some L):ai ρ f (.slice (some (i,o)) n c 0) (.slice (some ⟨L.blk,L.base+o,none⟩) n c)
 |sliceG {i o n c c' g:Nat} {L:Loc} (h:f i=some L) (hn:n<=c) (hc:c<=c') (hs:L.base+o+c'*(g+1)<=L.sz):
  ai ρ f (.slice (some (i,o)) n c (g+1)) (.slice (some ⟨L.blk,L.base+o,none⟩) n c')
 |sliceE {i o o' c' g:Nat} {L:Loc} (h:f i=some L) (hg:g=0->c'=0) (hs:o'+c'*g<=L.sz):
  ai ρ f (.slice (some (i,o)) 0 0 g) (.slice (some ⟨L.blk,o',none⟩) 0 c')
 |nilMap:ai ρ f (.map none) (.map none)
 |map {i:Nat} {L:Loc} (h:f i=some L):ai ρ f (.map (some i)) (.map (some L.blk))
 |func {fn:Fn} {a b:List ab} {a' b':Array Value} (ha:a'.size=a.length) (hb:b'.size=b.length)
  (ha': ∀(i:Nat) (v:ab) (v':Value),a[i]? =some v->a'[i]? =some v'->ai ρ f v v') (hb': ∀(i:Nat) (v:ab) (v':Value),b[i]? =some v->b'[i]? =some v'->ai ρ f v v'):
  ai ρ f (.func fn a b) (.func fn a' b')
 |nilFunc:ai ρ f .nilFunc .nilFunc
 |iface {t:TypeId} {v:ab} {v':Value} (h:ai ρ f v v'):ai ρ f (.iface t v) (.iface t v')
 |nilIface:ai ρ f .nilIface .nilIface
 |agg {a:List ab} {a':Array Value} (ha:a'.size=a.length) (ha': ∀(i:Nat) (v:ab) (v':Value),a[i]? =some v->a'[i]? =some v'->ai ρ f v v'):
  ai ρ f (.agg a) (.agg a')
 |tuple {a:List ab} {a':Array Value} (ha:a'.size=a.length) (ha': ∀(i:Nat) (v:ab) (v':Value),a[i]? =some v->a'[i]? =some v'->ai ρ f v v'):
  ai ρ f (.tuple a) (.tuple a')
 |ptrE {i s c:Nat} {idx:IE} {L:Loc} (h:f i=some L) (h0:0<=idx.ev ρ):ai ρ f (.ptrE i idx s c) (.pointer (some ⟨L.blk,L.base+((idx.ev ρ).toNat*s+c),none⟩))
 |sliceS {i s:Nat} {st len:IE} {nn:Bool} {L:Loc} {c:Nat} (h:f i=some L) (h0:0<=st.ev ρ) (hl:0<=len.ev ρ) (hc:(len.ev ρ).toNat<=c):
  ai ρ f (.sliceS i st len s nn) (.slice (some ⟨L.blk,L.base+(st.ev ρ).toNat*s,none⟩) (len.ev ρ).toNat c)
 |sliceZ {i s:Nat} {st len:IE} {nn:Bool} {a:Option Addr} {c:Nat} (hl:len.ev ρ=0) (ha:a=none->c=0/\nn=false):ai ρ f (.sliceS i st len s nn) (.slice a 0 c)
 |strS {code len:IE} {s:ByteArray} (hl:len.ev ρ=s.size) (hs: ∀(j:Nat) (b:UInt8),s.data[j]? =some b->ag (code.ev ρ) j=b.toNat):ai ρ f (.strS code len) (.string s)
 |sliceA {i s c:Nat} {len:IE} {L:Loc} (h:f i=some L) (hl:0<=len.ev ρ) (hc:(len.ev ρ).toNat<=c) (hs:L.base+c*s<=L.sz):ai ρ f (.sliceA i len s) (.slice (some ⟨L.blk,L.base,none⟩) (len.ev ρ).toNat c)
 |sliceN {i s:Nat} {len:IE} {a:Option Addr} (hl:len.ev ρ=0):ai ρ f (.sliceA i len s) (.slice a 0 0)
theorem ai.mono{ρ:Env}{f g:Ren}(h:f.le g){v:ab}{v':Value}(hv:ai ρ f v v'):ai ρ g v v':=by
 induction hv with
 |bool b=>exact .bool b
 |int k e=>exact .int k e
 |str h=>exact .str h
 |nilPtr=>exact .nilPtr
 |ptr hh=>exact .ptr (h _ _ hh)
 |nilSlice=>exact .nilSlice
 |slice hh=>exact .slice (h _ _ hh)
 |sliceG hh hn hc hs=>exact .sliceG (h _ _ hh) hn hc hs
 |sliceE hh hg hs=>exact .sliceE (h _ _ hh) hg hs
 |nilMap=>exact .nilMap
 |map hh=>exact .map (h _ _ hh)
 |func ha hb _ _ iha ihb=>exact .func ha hb iha ihb
 |nilFunc=>exact .nilFunc
 |iface _ ih=>exact .iface ih
 |nilIface=>exact .nilIface
 |agg ha _ ih=>exact .agg ha ih
 |tuple ha _ ih=>exact .tuple ha ih
 |ptrE hh h0=>exact .ptrE (h _ _ hh) h0
 |sliceS hh h0 hl hc=>exact .sliceS (h _ _ hh) h0 hl hc
 |sliceZ hl ha=>exact .sliceZ hl ha
 |strS hl hs=>exact .strS hl hs
 |sliceA hh hl hc hs=>exact .sliceA (h _ _ hh) hl hc hs
 |sliceN hl=>exact .sliceN hl
def ab.soft:ab->ab
 | .sliceA i l s=> .sliceS i (.lit 0) l s false
 |v=>v
theorem ai.soft{ρ:Env}{f:Ren}{v:ab}{v':Value}(h:ai ρ f v v'):ai ρ f v.soft v':=by
 cases h with
 |sliceA hh hl hc hs=>
  rename_i i s c len L;have:=ai.sliceS (ρ:=ρ) (f:=f) (i:=i) (s:=s) (st:= .lit 0) (len:=len) (nn:=false) hh (Int.le_refl 0) hl hc;have e:L.base+((IE.lit 0).ev ρ).toNat*s=L.base:=by show L.base+0*s=_; rw [Nat.zero_mul,Nat.add_zero]
  rw [e] at this;exact this
 |sliceN hl=>exact .sliceZ hl (fun _=>⟨rfl,rfl⟩)
 |bool b=>exact .bool b
 |int k e=>exact .int k e
 |str h=>exact .str h
 |nilPtr=>exact .nilPtr
 |ptr hh=>exact .ptr hh
 |nilSlice=>exact .nilSlice
 |slice hh=>exact .slice hh
 |sliceG hh hn hc hs=>exact .sliceG hh hn hc hs
 |sliceE hh hg hs=>exact .sliceE hh hg hs
 |nilMap=>exact .nilMap
 |map hh=>exact .map hh
 |func ha hb iha ihb=>exact .func ha hb iha ihb
 |nilFunc=>exact .nilFunc
 |iface ih=>exact .iface ih
 |nilIface=>exact .nilIface
 |agg ha ih=>exact .agg ha ih
 |tuple ha ih=>exact .tuple ha ih
 |ptrE hh h0=>exact .ptrE hh h0
 |sliceS hh h0 hl hc=>exact .sliceS hh h0 hl hc
 |sliceZ hl ha=>exact .sliceZ hl ha
 |strS hl hs=>exact .strS hl hs
def az(ρ:Env)(f:Ren)(l:List ab)(a:Array Value):Prop:=
 a.size=l.length/\ ∀(i:Nat) (v:ab) (v':Value),l[i]? =some v->a[i]? =some v'->ai ρ f v v'
theorem az.mono{ρ:Env}{f g:Ren}(h:f.le g){l:List ab}{a:Array Value}(hl:az ρ f l a):az ρ g l a:=
 ⟨hl.1,fun i v v' h1 h2=>(hl.2 i v v' h1 h2).mono h⟩
theorem az.get{ρ:Env}{f:Ren}{l:List ab}{a:Array Value}(hl:az ρ f l a){i:Nat}{v:ab}(h:l[i]? =some v):
 ∃v',a[i]? =some v'/\ai ρ f v v':=by
 have hi:i<l.length:=(List.getElem?_eq_some_iff.1 h).1;have hi':i<a.size:=by rw [hl.1]; exact hi
 exact ⟨a[i],by simp [hi'],hl.2 i v _ h (by simp [hi'])⟩
theorem az.nil{ρ:Env}{f:Ren}:az ρ f [] #[]:=⟨rfl,by simp⟩
theorem az.cons{ρ:Env}{f:Ren}{l:List ab}{v:ab}{a:List Value}{v':Value}(hv:ai ρ f v v')(h:az ρ f l a.toArray):az ρ f (v::l) (v'::a).toArray:=by
 refine ⟨by have:=h.1; simp at this ⊢; exact this,fun i u u' h1 h2=> ?_⟩
 cases i with
 |zero=>simp at h1 h2; subst h1; subst h2; exact hv
 |succ i=>exact h.2 i u u' (by simpa using h1) (by simpa using h2)
theorem az.cells{ρ:Env}{f:Ren}{v:ab}{v':Value}(h:ai ρ f v v'):az ρ f v.cells v'.cells:=by
 have one: ∀ {u:ab} {u':Value},ai ρ f u u'->az ρ f [u] #[u']:=fun hu=>by simpa using az.cons hu (a:=[]) az.nil
 cases h with
 |agg ha ha'=>exact ⟨ha,ha'⟩
 |bool b=>exact one (.bool b)
 |int k e=>exact one (.int k e)
 |str h=>exact one (.str h)
 |nilPtr=>exact one .nilPtr
 |ptr hh=>exact one (.ptr hh)
 |nilSlice=>exact one .nilSlice
 |slice hh=>exact one (.slice hh)
 |sliceG hh hn hc hs=>exact one (.sliceG hh hn hc hs)
 |sliceE hh hg hs=>exact one (.sliceE hh hg hs)
 |nilMap=>exact one .nilMap
 |map hh=>exact one (.map hh)
 |func ha hb iha ihb=>exact one (.func ha hb iha ihb)
 |nilFunc=>exact one .nilFunc
 |iface ih=>exact one (.iface ih)
 |nilIface=>exact one .nilIface
 |tuple ha ih=>exact one (.tuple ha ih)
 |ptrE hh h0=>exact one (.ptrE hh h0)
 |sliceS hh h0 hl hc=>exact one (.sliceS hh h0 hl hc)
 |sliceZ hl ha=>exact one (.sliceZ hl ha)
 |strS hl hs=>exact one (.strS hl hs)
 |sliceA hh hl hc hs=>exact one (.sliceA hh hl hc hs)
 |sliceN hl=>exact one (.sliceN hl)
theorem ai.one{ρ:Env}{f:Ren}{v:ab}{v':Value}(h:ai ρ f v v')(h1:v.one=true):v'.oneCell'=true:=by
 cases h<;>first |rfl |cases h1
inductive ah where
 |cells (c:T ab) (elem:TypeId) (own:Bool) (top:Nat)
 |map (es:List (ab×ab))
 |arr (ks:List IntKind) (code n:IE) (own:Bool)
 |ghost (k:Nat) (vs:List IE) (c:T ab)
 |win (idx:IE) (s:Nat) (c:T ab) (elem:TypeId) (own:Bool)
 |col (s c:Nat) (k:IntKind) (code:IE) (m d:Nat) (n:IE)
 |it0
 deriving Inhabited
def ah.own:ah->Bool
 | .cells _ _ o _=>o
 | .map _=>true
 | .arr _ _ _ o=>o
 | .ghost _ _ _=>true
 | .win _ _ _ _ o=>o
 | .col _ _ _ _ _ _ _=>false
 | .it0=>false
def ah.aZ(ρ:Env)(w:World)(L:Loc):ah->Nat->Prop
 | .ghost k _ _,b=>(ρ.gh k).aZ w L.blk L.base b
 |_,b=>b=L.blk
def c9(ρ:Env)(f:Ren)(B:Nat->Prop)(w:World)(L:Loc):ah->Prop
 | .cells c elem own top=> ∃cs fr,w.heap[L.blk]? =some (.cells cs elem fr)/\cs.size=L.sz/\
  (own=true-> ¬B L.blk/\ ∀j,j<L.sz-> ¬(fr.1<=j/\j<fr.2))/\
  ∀(j:Nat) (v:ab),c.get j=some v->j<top/\ ∃v',cs[L.base+j]? =some v'/\ai ρ f v v'
 | .map es=> ¬B L.blk/\ ∃es' clock,w.heap[L.blk]? =some (.map es' clock)/\es'.size=es.length/\
  ∀(i:Nat) (e:ab×ab) (e':MapEntry),es[i]? =some e->es'[i]? =some e'->ai ρ f e.1 e'.key/\ai ρ f e.2 e'.val
 | .arr ks code n own=> ∃cs elem fr,w.heap[L.blk]? =some (.cells cs elem fr)/\cs.size=L.sz/\
  (own=true-> ¬B L.blk/\ ∀j,j<L.sz-> ¬(fr.1<=j/\j<fr.2))/\
  ∀(j c:Nat) (k:IntKind),(j:Int)<n.ev ρ->ks[c]? =some k->cs[L.base+(j*ks.length+c)]? =some (.int k (ag (code.ev ρ) (j*ks.length+c:Nat)))/\kLo k<=ag (code.ev ρ) (j*ks.length+c:Nat)/\ag (code.ev ρ) (j*ks.length+c:Nat)<=kHi k
 | .ghost k vs c=>((ρ.gh k).rel (vs.map (·.ev ρ)) w L.blk L.base/\ ∀b,(ρ.gh k).aZ w L.blk L.base b-> ¬B b)/\True/\
  ∃cs elem fr,w.heap[L.blk]? =some (.cells cs elem fr)/\cs.size=L.sz/\(∀ j,j<L.sz-> ¬(fr.1<=j/\j<fr.2))/\
   ∀(j:Nat) (v:ab),c.get j=some v->(ρ.gh k).hd<=j/\ ∃v',cs[L.base+j]? =some v'/\ai ρ f v v'
 | .win idx s c elem own=> ∃cs fr,w.heap[L.blk]? =some (.cells cs elem fr)/\cs.size=L.sz/\
  (own=true-> ¬B L.blk/\ ∀j,j<L.sz-> ¬(fr.1<=j/\j<fr.2))/\
  (∀ j:Nat,(j<L.base+(idx.ev ρ).toNat*s\/L.base+(idx.ev ρ).toNat*s+s<=j)->cs[j]? =ρ.sn[j]?)/\
  ∀(j:Nat) (v:ab),c.get j=some v-> ∃v',cs[L.base+((idx.ev ρ).toNat*s+j)]? =some v'/\ai ρ f v v'
 | .col s c k code m d n=> ∃cs elem fr,w.heap[L.blk]? =some (.cells cs elem fr)/\
  ∀j:Nat,(j:Int)<n.ev ρ->cs[L.base+(j*s+c)]? =some (.int k (ag (code.ev ρ) (j*m+d:Nat)))/\kLo k<=ag (code.ev ρ) (j*m+d:Nat)/\ag (code.ev ρ) (j*m+d:Nat)<=kHi k
 | .it0=>L.base=0/\ ∃a s t,w.heap[L.blk]? =some (.mapIter none a s t)
structure Kept (B:Nat->Prop) (w w':World):Prop where
 os:w'.os=w.os
 tape:w'.tape=w.tape
 output:w'.output=w.output
 size:w.heap.size<=w'.heap.size
 block: ∀k,B k->w'.heap[k]? =w.heap[k]?
theorem Kept.refl(B:Nat->Prop)(w:World):Kept B w w:=⟨rfl,rfl,rfl,Nat.le_refl _,fun _ _=>rfl⟩
theorem Kept.trans{B:Nat->Prop}{a b c:World}(h:Kept B a b)(k:Kept B b c):Kept B a c:=
 ⟨k.os.trans h.os,k.tape.trans h.tape,k.output.trans h.output,Nat.le_trans h.size k.size,fun i hi=>(k.block i hi).trans (h.block i hi)⟩
theorem Kept.mono{B B':Nat->Prop}{w w':World}(h:Kept B w w')(hB: ∀b,B' b->B b):Kept B' w w':=⟨h.os,h.tape,h.output,h.size,fun k hk=>h.block k (hB k hk)⟩
theorem Kept.below{W w:World}(h:Kept (· <W.heap.size) W w):Below W.heap.size W w:=⟨h.os,h.tape,h.output,h.size,h.block⟩
theorem Below.kept{n:Nat}{W w:World}(h:Below n W w){B:Nat->Prop}(hB: ∀b,B b->b<n):Kept B W w:=⟨h.os,h.tape,h.output,h.size,fun b hb=>h.block b (hB b hb)⟩
structure au (ρ:Env) (B:Nat->Prop) (W:World) (f:Ren) (h:T ah) (w:World):Prop where
 below:Kept B W w
 bsize: ∀b,B b->b<W.heap.size
 lt: ∀i L,f i=some L->L.blk<w.heap.size
 apart: ∀i j Li Lj oi oj,f i=some Li->f j=some Lj->h.get i=some oi->h.get j=some oj->i≠j->oi.own=true-> ∀b,oi.aZ ρ w Li b-> ¬oj.aZ ρ w Lj b
 obj: ∀i L o,f i=some L->h.get i=some o->c9 ρ f B w L o
theorem au.fresh{ρ:Env}{B:Nat->Prop}{W w:World}{f:Ren}{h:T ah}(hr:au ρ B W f h w){b:Nat}(hb:w.heap.size<=b): ¬B b:=fun hB=>by
 have h1:=hr.bsize b hB;have h2:=hr.below.size;omega
theorem c9.mono{ρ:Env}{f g:Ren}(h:f.le g){B:Nat->Prop}{w:World}{L:Loc}{o:ah}(ho:c9 ρ f B w L o):c9 ρ g B w L o:=by
 cases o with
 |cells c elem own top=>
  obtain ⟨cs,fr,h1,h2,h3,h4⟩:=ho;exact ⟨cs,fr,h1,h2,h3,fun j v hj=>let ⟨lt,v',a,b⟩:=h4 j v hj; ⟨lt,v',a,b.mono h⟩⟩
 |map es=>
  obtain ⟨h0,es',cl,h1,h2,h3⟩:=ho;exact ⟨h0,es',cl,h1,h2,fun i e e' a b=>⟨(h3 i e e' a b).1.mono h,(h3 i e e' a b).2.mono h⟩⟩
 |arr ks code n own=>exact ho
 |ghost k vs c=>
  obtain ⟨h0,hb,cs,el,fr,h1,h2,h3,h4⟩:=ho;exact ⟨h0,hb,cs,el,fr,h1,h2,h3,fun j v hj=>let ⟨lt,v',a,b⟩:=h4 j v hj; ⟨lt,v',a,b.mono h⟩⟩
 |win idx s c elem own=>
  obtain ⟨cs,fr,h1,h2,h3,h0,h4⟩:=ho;exact ⟨cs,fr,h1,h2,h3,h0,fun j v hj=>let ⟨v',a,b⟩:=h4 j v hj; ⟨v',a,b.mono h⟩⟩
 |col s c k code m d n=>exact ho
 |it0=>exact ho
theorem c9.lz{ρ:Env}{f:Ren}{B:Nat->Prop}{w:World}{L:Loc}{o:ah}(ho:c9 ρ f B w L o){b:Nat}(hb:o.aZ ρ w L b):b<w.heap.size:=by
 have lt: ∀ {O:Obj},w.heap[L.blk]? =some O->L.blk<w.heap.size:=fun h=>(Array.getElem?_eq_some_iff.1 h).1
 cases o with
 |cells c elem own top=>obtain ⟨cs,fr,h1,_⟩:=ho; cases hb; exact lt h1
 |map es=>obtain ⟨_,es',cl,h1,_⟩:=ho; cases hb; exact lt h1
 |arr ks code n own=>obtain ⟨cs,el,fr,h1,_⟩:=ho; cases hb; exact lt h1
 |ghost k vs c=>exact (ρ.gh k).inb ho.1.1 hb
 |win idx s c elem own=>obtain ⟨cs,fr,h1,_⟩:=ho; cases hb; exact lt h1
 |col s c k code m d n=>obtain ⟨cs,el,fr,h1,_⟩:=ho; cases hb; exact lt h1
 |it0=>obtain ⟨_,a,s,t,h1⟩:=ho; cases hb; exact lt h1
theorem c9.rP{ρ:Env}{f:Ren}{B:Nat->Prop}{w w':World}{L:Loc}{o:ah}(hs:w.heap.size<=w'.heap.size)(ho:c9 ρ f B w L o)(he: ∀b,o.aZ ρ w L b->w'.heap[b]? =w.heap[b]?):c9 ρ f B w' L o/\ ∀b,o.aZ ρ w' L b->o.aZ ρ w L b:=by
 cases o with
 |cells c elem own top=>obtain ⟨cs,fr,h1,h⟩:=ho; exact ⟨⟨cs,fr,(he L.blk rfl).trans h1,h⟩,fun _ h=>h⟩
 |map es=>obtain ⟨h0,es',cl,h1,h⟩:=ho; exact ⟨⟨h0,es',cl,(he L.blk rfl).trans h1,h⟩,fun _ h=>h⟩
 |arr ks code n own=>obtain ⟨cs,el,fr,h1,h⟩:=ho; exact ⟨⟨cs,el,fr,(he L.blk rfl).trans h1,h⟩,fun _ h=>h⟩
 |ghost k vs c=>
  obtain ⟨⟨h1,h2⟩,h3,cs,el,fr,h4,h5⟩:=ho;obtain ⟨q1,q2⟩:=(ρ.gh k).frame h1 hs he;exact ⟨⟨⟨q1,fun b hb=>h2 b (q2 b hb)⟩,h3,cs,el,fr,(he L.blk ((ρ.gh k).self h1)).trans h4,h5⟩,q2⟩
 |win idx s c elem own=>obtain ⟨cs,fr,h1,h⟩:=ho; exact ⟨⟨cs,fr,(he L.blk rfl).trans h1,h⟩,fun _ h=>h⟩
 |col s c k code m d n=>obtain ⟨cs,el,fr,h1,h⟩:=ho; exact ⟨⟨cs,el,fr,(he L.blk rfl).trans h1,h⟩,fun _ h=>h⟩
 |it0=>obtain ⟨h0,a,s,t,h1⟩:=ho; exact ⟨⟨h0,a,s,t,(he L.blk rfl).trans h1⟩,fun _ h=>h⟩
theorem au.of_same{ρ:Env}{B:Nat->Prop}{W w w':World}{f:Ren}{h:T ah}(hr:au ρ B W f h w)(hb:Kept B W w')(hs:w.heap.size<=w'.heap.size)(he: ∀i L o,f i=some L->h.get i=some o-> ∀b,o.aZ ρ w L b->w'.heap[b]? =w.heap[b]?):au ρ B W f h w':=by
 have key:=fun i L o hi hg=>(hr.obj i L o hi hg).rP hs (he i L o hi hg)
 exact ⟨hb,hr.bsize,fun i L e=>Nat.lt_of_lt_of_le (hr.lt i L e) hs,
  fun i j Li Lj oi oj hi hj gi gj hij ho b hb' hb''=>hr.apart i j Li Lj oi oj hi hj gi gj hij ho b ((key i Li oi hi gi).2 b hb') ((key j Lj oj hj gj).2 b hb''),fun i L o hi hg=>(key i L o hi hg).1⟩
theorem au.of_heap{ρ:Env}{B:Nat->Prop}{W w w':World}{f:Ren}{h:T ah}(hr:au ρ B W f h w)(he:w'.heap=w.heap)(hb:Kept B W w'):au ρ B W f h w':=
 hr.of_same hb (by rw [he]; exact Nat.le_refl _) (fun _ _ _ _ _ b _=>by rw [he])
theorem au.drew{ρ:Env}{B:Nat->Prop}{W w:World}{f:Ren}{h:T ah}(hr:au ρ B W f h w)(n:Nat):au ρ B W f h {w with drawn:=n}:=
 hr.of_heap rfl ⟨hr.below.os,hr.below.tape,hr.below.output,hr.below.size,hr.below.block⟩
theorem au.less{ρ:Env}{B:Nat->Prop}{W w:World}{f:Ren}{h h':T ah}(hr:au ρ B W f h w)(hl: ∀i o,h'.get i=some o->h.get i=some o):au ρ B W f h' w:=
 ⟨hr.below,hr.bsize,hr.lt,fun i j Li Lj oi oj a b c d=>hr.apart i j Li Lj oi oj a b (hl _ _ c) (hl _ _ d),fun i L o a b=>hr.obj i L o a (hl _ _ b)⟩
theorem au.Wm{ρ:Env}{B:Nat->Prop}{W w w':World}{f:Ren}{h:T ah}(hr:au ρ B W f h w){i:Nat}{L:Loc}{o o':ah}(hf:f i=some L)(hg:h.get i=some o)(hown:o.own=true)(hB: ¬B L.blk)
 (hfoot:o.aZ ρ w L L.blk) (hfoot': ∀b,o'.aZ ρ w' L b->o.aZ ρ w L b) (hk:w'.os=w.os/\w'.tape=w.tape/\w'.output=w.output) (hs:w'.heap.size=w.heap.size)
 (he: ∀b,b≠L.blk->w'.heap[b]? =w.heap[b]?) (ho:c9 ρ f B w' L o'):au ρ B W f (h.set i o') w':=by
 have other: ∀j M ok,f j=some M->h.get j=some ok->j≠i->(∀ b,ok.aZ ρ w M b->w'.heap[b]? =w.heap[b]?)/\ ∀b,o.aZ ρ w L b-> ¬ok.aZ ρ w M b:=by
  intro j M ok hj hgj hji;have:=hr.apart i j L M o ok hf hj hg hgj (Ne.symm hji) hown;exact ⟨fun b hb=>he b (fun e=>this L.blk hfoot (e▸hb)),this⟩
 have cO:=fun j M ok hj hgj hji=>(hr.obj j M ok hj hgj).rP (Nat.le_of_eq hs.symm) (other j M ok hj hgj hji).1
 refine ⟨hr.below.trans ⟨hk.1,hk.2.1,hk.2.2,Nat.le_of_eq hs.symm,fun b hb=>he b (fun e=>hB (e▸hb))⟩,hr.bsize,fun j M e=>by rw [hs]; exact hr.lt j M e,?_,?_⟩
 ·intro a b La Lb oa ob ha hb hga hgb hab hao x hx hx'
  rcases T.aB hga with ⟨ea,eo⟩ | ⟨hai,hga1⟩
  ·subst eo;rw [ea] at ha hab;have hLa:L=La:=Option.some.inj (hf.symm.trans ha);subst hLa
   rcases T.aB hgb with ⟨eb,_⟩ | ⟨hbi,hgb1⟩
   ·exact hab eb.symm
   ·exact (other b Lb ob hb hgb1 hbi).2 x (hfoot' x hx) ((cO b Lb ob hb hgb1 hbi).2 _ hx')
  ·rcases T.aB hgb with ⟨eb,eo⟩ | ⟨hbi,hgb1⟩
   ·subst eo;rw [eb] at hb;have hLb:L=Lb:=Option.some.inj (hf.symm.trans hb);subst hLb;exact (other a La oa ha hga1 hai).2 x (hfoot' x hx') ((cO a La oa ha hga1 hai).2 _ hx)
   ·exact hr.apart a b La Lb oa ob ha hb hga1 hgb1 hab hao x ((cO a La oa ha hga1 hai).2 x hx) ((cO b Lb ob hb hgb1 hbi).2 x hx')
 ·intro j M ok hj hgj
  rcases T.aB hgj with ⟨rfl,rfl⟩ | ⟨hji,hgj⟩
  ·have:L=M:=Option.some.inj (hf.symm.trans hj);subst this;exact ho
  ·exact (cO j M ok hj hgj hji).1
theorem au.A7{ρ:Env}{B:Nat->Prop}{W w w':World}{f:Ren}{h:T ah}(hr:au ρ B W f h w){i:Nat}{L:Loc}{o o':ah}(hf:f i=some L)(hg:h.get i=some o)(hown:o.own=true)(hB: ¬B L.blk)
 (hfoot: ∀w b,o.aZ ρ w L b ↔ b=L.blk) (hfoot': ∀w b,o'.aZ ρ w L b ↔ b=L.blk) (hk:w'.os=w.os/\w'.tape=w.tape/\w'.output=w.output) (hs:w'.heap.size=w.heap.size)
 (he: ∀b,b≠L.blk->w'.heap[b]? =w.heap[b]?) (ho:c9 ρ f B w' L o'):au ρ B W f (h.set i o') w':=
 hr.Wm hf hg hown hB ((hfoot w _).2 rfl) (fun b hb=>(hfoot w b).2 ((hfoot' w' b).1 hb)) hk hs he ho
theorem bQ(w:World)(g i:Nat)(cs:Array Value)(t:TypeId)(fr:Nat×Nat)(v:Value)(hg:w.heap[g]? =some (.cells cs t fr)):
 (w.setCell ⟨g,i,none⟩ v).heap[g]? =some (.cells (cs.setIfInBounds i v) t fr):=by
 simp only [World.setCell,Array.getElem?_modify,if_true,hg];rfl
def UJ(k:IntKind)(code:IE)(o:Nat):IE:=
 match dG 0 code (.lit (.ofNat o)) (.lit 0) with
 | .lit v=> .lit (vW k v)
 |e=> .wrap k e
theorem Vj(ρ:Env)(k:IntKind)(code:IE)(o:Nat):(UJ k code o).ev ρ=k.wrap (ag (code.ev ρ) o):=by
 have h:(dG 0 code (.lit (.ofNat o)) (.lit 0)).ev ρ=ag (code.ev ρ) o:=cz ρ 0 code _ _;unfold UJ;split
 ·rename_i v hv;rw [hv] at h;have h:v=ag (code.ev ρ) o:=h;rw [<- h];exact rj k v
 ·show k.wrap ((dG 0 code (.lit (.ofNat o)) (.lit 0)).ev ρ)=_;rw [h]
def B4(k:IntKind):IE->Bool
 | .wrap j _=>bf k j
 | .bits _ j _ _=>bf k j
 | .lit n=>aL (kLo k) n&&aL n (kHi k)
 |_=>false
theorem MU{ρ:Env}{k:IntKind}{e:IE}(h:B4 k e=true):kLo k<=e.ev ρ/\e.ev ρ<=kHi k:=by
 unfold B4 at h;split at h
 ·rw [aH h]; exact wrap_mem _ _
 ·rw [aH h]; exact Ad _ _ _ _
 ·simp only [Bool.and_eq_true,ay,decide_eq_true_eq] at h;exact h
 ·cases h
def TM(h:T ah)(i o:Nat):Option ab:=
 match h.get i with
 |some (.cells c _ _ _)=>c.get o
 |some (.ghost _ _ c)=>c.get o
 |some (.arr ks code (.lit (.ofNat n)) _)=>
  match Nat.blt o (Nat.mul n ks.length),ks[Nat.mod o ks.length]? with
  |true,some k=>some (.int k (UJ k code o))
  |_,_=>none
 |_=>none
theorem Kb{ρ:Env}{B:Nat->Prop}{W w:World}{f:Ren}{h:T ah}(hr:au ρ B W f h w){i o:Nat}{L:Loc}(hf:f i=some L){v:ab}(hg:TM h i o=some v):
 ∃v',w.cell? ⟨L.blk,L.base+o,none⟩=some v'/\ai ρ f v v':=by
 unfold TM at hg;split at hg
 ·rename_i c elem own top he;obtain ⟨cs,fr,h1,_,_,h4⟩:=hr.obj i L _ hf he;obtain ⟨_,v',a,b⟩:=h4 _ _ hg;exact ⟨v',by simp [World.cell?,h1,a],b⟩
 ·rename_i k vs c he;obtain ⟨_,hb,cs,el,fr,h1,_,_,h4⟩:=hr.obj i L _ hf he;obtain ⟨_,v',a,b⟩:=h4 _ _ hg;exact ⟨v',by simp [World.cell?,h1,a],b⟩
 ·rename_i ks code n own he;obtain ⟨cs,el,fr,h1,_,_,h4⟩:=hr.obj i L _ hf he;split at hg
  ·rename_i k hlt hk;cases hg;have hlt:o<n*ks.length:=by simpa [Nat.blt_eq] using hlt
   have hdiv:o / ks.length<n:=Nat.div_lt_of_lt_mul (by rw [Nat.mul_comm]; exact hlt)
   have e:o / ks.length*ks.length+o % ks.length=o:=Nat.div_add_mod' o ks.length;obtain ⟨q1,q2,q3⟩:=h4 (o / ks.length) (o % ks.length) k (by show ((o / ks.length:Nat):Int)<(n:Int); omega) hk
   rw [e] at q1 q2 q3;refine ⟨.int k (ag (code.ev ρ) o),by simp [World.cell?,h1,q1],?_⟩
   have:ag (code.ev ρ) o=(UJ k code o).ev ρ:=by rw [Vj,bI k _ q2 q3]
   rw [this];exact .int k _
  ·cases hg
 ·cases hg
def kU(h:T ah)(i:Nat):Nat->Nat->Option (List ab)
 |_,0=>some []
 |o,n+1=>
  match TM h i o with
  |none=>none
  |some v=>
   match kU h i (o+1) n with
   |none=>none
   |some l=>some (v::l)
theorem qw{ρ:Env}{B:Nat->Prop}{W w:World}{f:Ren}{h:T ah}(hr:au ρ B W f h w){i:Nat}{L:Loc}(hf:f i=some L):
 ∀(n o:Nat) (l:List ab),kU h i o n=some l-> ∃cs:List Value,az ρ f l cs.toArray/\cs.length=n/\ ∀j v',cs[j]? =some v'->w.cell? ⟨L.blk,L.base+o+j,none⟩=some v':=by
 intro n
 induction n with
 |zero=>intro o l hl; simp [kU] at hl; subst hl; exact ⟨[],az.nil,rfl,by simp⟩
 |succ n ih=>
  intro o l hl;simp only [kU] at hl;split at hl
  ·cases hl
  ·rename_i v hv;split at hl
   ·cases hl
   ·rename_i l' hl';cases hl;obtain ⟨v',h1,h2⟩:=Kb hr hf hv;obtain ⟨cs,h3,h4,h5⟩:=ih _ _ hl';refine ⟨v'::cs,az.cons h2 h3,by simp [h4],fun j u hj=> ?_⟩
    cases j with
    |zero=>simp at hj; subst hj; simpa using h1
    |succ j=>
     have:=h5 j u (by simpa using hj)
     rw [show L.base+o+(j+1)=L.base+(o+1)+j by omega]
     exact this
theorem bo{P:Program}{w:World}{b o n:Nat}{cs:List Value}(hn:cs.length=n)(h: ∀j v',cs[j]? =some v'->w.cell? ⟨b,o+j,none⟩=some v'):
 (loadCells ⟨b,o,none⟩ n).run P w= .ok cs.toArray w:=by
 rw [<- hn];refine run_loadCells_list w _ cs fun j v hv=> ?_
 rw [<- h j v hv];unfold Addr.add;split
 ·rename_i e; subst e; rfl
 ·rfl
def WR(h:T ah)(i o:Nat)(v:ab):Option (T ah):=
 match h.get i with
 |some (.cells c elem true top)=>
  match c.get o,v.one with
  |some _,true=>some (h.set i (.cells (c.set o v) elem true top))
  |_,_=>none
 |some (.ghost k vs c)=>
  match c.get o,v.one with
  |some _,true=>some (h.set i (.ghost k vs (c.set o v)))
  |_,_=>none
 |some (.arr ks code (.lit (.ofNat n)) true)=>
  match v with
  | .int k e=>
    match Nat.blt o (Nat.mul n ks.length),ks[Nat.mod o ks.length]? with
    |true,some k'=>
     match bf k k'&&B4 k e with
     |true=>some (h.set i (.arr ks (dG 1 code (.lit (.ofNat o)) e) (.lit (.ofNat n)) true))
     |false=>none
    |_,_=>none
  |_=>none
 |_=>none
theorem Tt{ρ:Env}{B:Nat->Prop}{W w:World}{f:Ren}{h h':T ah}(hr:au ρ B W f h w){i o:Nat}{L:Loc}(hf:f i=some L){v:ab}{v':Value}(hv:ai ρ f v v')(hg:WR h i o v=some h'):
 au ρ B W f h' (w.setCell ⟨L.blk,L.base+o,none⟩ v')/\ ∀P,(store ⟨L.blk,L.base+o,none⟩ v').run P w= .ok () (w.setCell ⟨L.blk,L.base+o,none⟩ v'):=by
 unfold WR at hg;split at hg
 ·rename_i c elem top he;split at hg
  ·rename_i u hu hone;cases hg;obtain ⟨cs,fr,h1,h2,h3,h4⟩:=hr.obj i L _ hf he;obtain ⟨hB,hfr⟩:=h3 rfl;obtain ⟨hlt0,u',hu1,_⟩:=h4 _ _ hu;have hlt:L.base+o<cs.size:=(Array.getElem?_eq_some_iff.1 hu1).1;have hcell:w.cell? ⟨L.blk,L.base+o,none⟩=some u':=by simp [World.cell?,h1,hu1]
   have hfro:w.frozen? ⟨L.blk,L.base+o,none⟩=false:=by
    have:=hfr (L.base+o) (by omega)
    simp only [World.frozen?,h1]
    simpa using this
   refine ⟨?_,fun P=> ?_⟩
   ·refine hr.A7 hf he rfl hB (fun _ _=>Iff.rfl) (fun _ _=>Iff.rfl) ⟨rfl,rfl,rfl⟩ (by simp [World.setCell]) (fun b hb=>Below.heap_setCell _ _ _ _ hb) ?_
    refine ⟨cs.setIfInBounds (L.base+o) v',fr,bQ w _ _ cs elem fr v' h1,by simpa using h2,h3,fun j x hx=> ?_⟩
    rcases T.aB hx with ⟨rfl,rfl⟩ | ⟨hjo,hx⟩
    ·exact ⟨hlt0,v',by simp [hlt],hv⟩
    ·obtain ⟨hx0,x',hx1,hx2⟩:=h4 _ _ hx;refine ⟨hx0,x',?_,hx2⟩;rw [Array.getElem?_setIfInBounds_ne (by omega)]
     exact hx1
   ·rw [run_store P w _ v' _ (hv.one hone),hcell];simp [hfro]
  ·cases hg
 ·rename_i k vs c he;split at hg
  ·rename_i u hu hone;cases hg;obtain ⟨⟨h0,hB⟩,hb,cs,elem,fr,h1,h2,h3,h4⟩:=hr.obj i L _ hf he;obtain ⟨hhd,u',hu1,_⟩:=h4 _ _ hu;have hlt:L.base+o<cs.size:=(Array.getElem?_eq_some_iff.1 hu1).1;have hself:=(ρ.gh k).self h0;have hcell:w.cell? ⟨L.blk,L.base+o,none⟩=some u':=by simp [World.cell?,h1,hu1]
   have hfro:w.frozen? ⟨L.blk,L.base+o,none⟩=false:=by
    have:=h3 (L.base+o) (by omega)
    simp only [World.frozen?,h1]
    simpa using this
   obtain ⟨q1,q2⟩:=(ρ.gh k).stay (v:=v') h0 h1 (show L.base+(ρ.gh k).hd<=L.base+o by omega)
   refine ⟨?_,fun P=> ?_⟩
   ·refine hr.Wm hf he rfl (hB _ hself) hself q2 ⟨rfl,rfl,rfl⟩ (by simp [World.setCell]) (fun b hb=>Below.heap_setCell _ _ _ _ hb) ?_
    refine ⟨⟨q1,fun b hb=>hB b (q2 b hb)⟩,hb,cs.setIfInBounds (L.base+o) v',elem,fr,bQ w _ _ cs elem fr v' h1,by simpa using h2,h3,fun j x hx=> ?_⟩
    rcases T.aB hx with ⟨rfl,rfl⟩ | ⟨hjo,hx⟩
    ·exact ⟨hhd,v',by simp [hlt],hv⟩
    ·obtain ⟨hx0,x',hx1,hx2⟩:=h4 _ _ hx;refine ⟨hx0,x',?_,hx2⟩;rw [Array.getElem?_setIfInBounds_ne (by omega)]
     exact hx1
   ·rw [run_store P w _ v' _ (hv.one hone),hcell];simp [hfro]
  ·cases hg
 ·rename_i ks code n he;split at hg
  ·rename_i k e;split at hg
   ·rename_i k' hlt hk;split at hg
    ·rename_i hkk;cases hg;obtain ⟨hkk,hin⟩:bf k k'=true/\B4 k e=true:=by simpa using hkk
     have:=aH hkk;subst this;cases hv;have hx:=MU (ρ:=ρ) hin;have hlt:o<n*ks.length:=by simpa [Nat.blt_eq] using hlt
     have hdiv:o / ks.length<n:=Nat.div_lt_of_lt_mul (by rw [Nat.mul_comm]; exact hlt)
     have eo:o / ks.length*ks.length+o % ks.length=o:=Nat.div_add_mod' o ks.length;obtain ⟨cs,el,fr,h1,h2,h3,h4⟩:=hr.obj i L _ hf he;obtain ⟨hB,hfr⟩:=h3 rfl;obtain ⟨q1,_,_⟩:=h4 (o / ks.length) (o % ks.length) k (by show ((o / ks.length:Nat):Int)<(n:Int); omega) hk
     rw [eo] at q1;have hc:o % ks.length<ks.length:=(List.getElem?_eq_some_iff.1 hk).1;have hlt2:L.base+o<cs.size:=(Array.getElem?_eq_some_iff.1 q1).1;have hcell:w.cell? ⟨L.blk,L.base+o,none⟩=some (.int k (ag (code.ev ρ) o)):=by simp [World.cell?,h1,q1]
     have hfro:w.frozen? ⟨L.blk,L.base+o,none⟩=false:=by
      have:=hfr (L.base+o) (by omega)
      simp only [World.frozen?,h1]
      simpa using this
     refine ⟨?_,fun P=> ?_⟩
     ·refine hr.A7 hf he rfl hB (fun _ _=>Iff.rfl) (fun _ _=>Iff.rfl) ⟨rfl,rfl,rfl⟩ (by simp [World.setCell]) (fun b hb=>Below.heap_setCell _ _ _ _ hb) ?_
      refine ⟨_,el,fr,bQ w _ _ cs el fr _ h1,by simpa using h2,h3,fun j d kd hj hd=> ?_⟩
      have hd':d<ks.length:=(List.getElem?_eq_some_iff.1 hd).1;have ecode:(dG 1 code (.lit (.ofNat o)) e).ev ρ=aD (code.ev ρ) (o:Nat) (e.ev ρ):=cz ρ 1 code _ _;rw [ecode,fF _ _ _ _ hx.1 hx.2]
      by_cases hp:j*ks.length+d=o
      ·have hdc:d=o % ks.length:=by
        rw [<- hp];simp [Nat.mul_add_mod_self_right,Nat.mod_eq_of_lt hd']
       have hk:ks[o % ks.length]? =some k:=hk;rw [hdc,hk] at hd;cases hd;rw [hp,if_pos rfl];exact ⟨by simp [hlt2],hx⟩
      ·rw [if_neg hp,Array.getElem?_setIfInBounds_ne (by omega)]
       exact h4 j d kd hj hd
     ·rw [run_store P w _ _ _ rfl,hcell];simp [hfro]
    ·cases hg
   ·cases hg
  ·cases hg
 ·cases hg
def pd(i:Nat):T ah->Nat->List ab->Option (T ah)
 |h,_,[]=>some h
 |h,o,v::l=>
  match WR h i o v with
  |none=>none
  |some h'=>pd i h' (o+1) l
theorem rz{ρ:Env}{B:Nat->Prop}{W:World}{f:Ren}{i:Nat}{L:Loc}(hf:f i=some L)(P:Program)(o:Nat):
 ∀(l:List ab) (k:Nat) (h h':T ah) (w:World) (cs:List Value),au ρ B W f h w->az ρ f l cs.toArray->pd i h (o+k) l=some h'->
  ∃w',(storeCells ⟨L.blk,L.base+o,none⟩ cs k).run P w= .ok () w'/\au ρ B W f h' w'/\w'.heap.size=w.heap.size:=by
 intro l
 induction l with
 |nil=>
  intro k h h' w cs hr hl hs;have:cs=[]:=by have:=hl.1; simpa using this
  subst this;simp only [pd] at hs;cases hs;exact ⟨w,rfl,hr,rfl⟩
 |cons v l ih=>
  intro k h h' w cs hr hl hs;simp only [pd] at hs;split at hs
  ·cases hs
  ·rename_i h1 he;cases cs with
   |nil=>have:=hl.1; simp at this
   |cons v' cs=>
    have hv:ai ρ f v v':=hl.2 0 v v' (by simp) (by simp)
    obtain ⟨a,b⟩:=Tt hr hf hv he;have hl':az ρ f l cs.toArray:=⟨by have:=hl.1; simp at this ⊢; exact this,fun j x x' hx hx'=>hl.2 (j+1) x x' (by simpa using hx) (by simpa using hx')⟩
    obtain ⟨w',c1,c2,c3⟩:=ih (k+1) h1 h' _ cs a hl' (by rw [<- Nat.add_assoc]; exact hs)
    refine ⟨w',?_,c2,by rw [c3]; simp [World.setCell]⟩
    have hadd:(⟨L.blk,L.base+o,none⟩:Addr).add k=⟨L.blk,L.base+(o+k),none⟩:=by
     unfold Addr.add; split
     ·rename_i e; subst e; rfl
     ·simp [Nat.add_assoc]
    simp only [storeCells,Sem.run_bind,hadd,b P,Result.andThen_ok];exact c1
structure Ctx where
 ty:T TypeInfo
 fn:T Func
 bd:Bd
 dec:Dec
 plain:TypeId->Bool
structure Ctx.Ok (C:Ctx) (P:Program) (ρ:Env):Prop where
 ty: ∀t i,C.ty.get t=some i->P.info? t=some i
 fn: ∀t i,C.fn.get t=some i->P.funcs[t]? =some i
 bd:ρ.ok C.bd
 dec:C.dec.holds ρ
 plain: ∀t,C.plain t=true->P.stoodInHeld t=false/\P.eqGuardType P.depth t=false
 mixed:P.follows .mixedOrders=true
def aF{α:Type}:List α->Nat->T α->T α
 | [],_,t=>t
 |x::l,k,t=>aF l (k+1) (t.set k x)
theorem eK{α:Type}: ∀(l:List α) (k:Nat) (t:T α) (j:Nat) (x:α),(aF l k t).get j=some x->(k<=j/\l[j-k]? =some x)\/t.get j=some x:=by
 intro l
 induction l with
 |nil=>intro k t j x h; exact .inr h
 |cons y l ih=>
  intro k t j x h
  rcases ih _ _ _ _ h with ⟨h1,h2⟩ |h
  ·exact .inl ⟨by omega,by rw [show j-k=(j-(k+1))+1 by omega]; simpa using h2⟩
  ·rcases T.aB h with ⟨rfl,rfl⟩ | ⟨_,h⟩
   ·exact .inl ⟨Nat.le_refl _,by simp⟩
   ·exact .inr h
def OV(P:Program):T TypeInfo:=aF P.types.toList 0 .nil
def P7(P:Program):T Func:=aF P.funcs.toList 0 .nil
theorem MR(P:Program)(t:Nat)(i:TypeInfo)(h:(OV P).get t=some i):P.info? t=some i:=by
 rcases eK _ _ _ _ _ h with ⟨_,h⟩ |h
 ·have h':P.types[t]? =some i:=by simpa using h
  have hlt:t<P.types.size:=(Array.getElem?_eq_some_iff.1 h').1;unfold Tables.info?;rw [if_pos hlt,h']
 · (rw [T.get_nil] at h; cases h)
theorem Nd(P:Program)(t:Nat)(i:Func)(h:(P7 P).get t=some i):P.funcs[t]? =some i:=by
 rcases eK _ _ _ _ _ h with ⟨_,h⟩ |h
 ·simpa using h
 · (rw [T.get_nil] at h; cases h)
def Ctx.und(C:Ctx)(t:TypeId):Option TypeDesc:=
 match C.ty.get t with
 |none=>none
 |some i=>
  match i.desc with
  | .named _ u=>
    match C.ty.get u with
    |none=>none
    |some j=>some j.desc
  |d=>some d
theorem Ctx.ax{C:Ctx}{P:Program}{ρ:Env}(hC:C.Ok P ρ){t:TypeId}{d:TypeDesc}(h:C.und t=some d):P.underlying t=some d:=by
 unfold Ctx.und at h;split at h
 ·cases h
 ·rename_i i hi;have hi':=hC.ty _ _ hi;obtain ⟨desc,str,size,bytes,hp,al,fa,zero,cmp,ms⟩:=i;unfold Program.underlying;rw [hi']
  cases desc<;>simp only at h ⊢ <;>first
   |exact h
   | (split at h
      ·cases h
      ·rename_i j hj;rw [hC.ty _ _ hj];exact h)
def Ctx.size(C:Ctx)(t:TypeId):Option Nat:=
 match C.ty.get t with
 |none=>none
 |some i=>some i.size
theorem Ctx.info{C:Ctx}{P:Program}{ρ:Env}(hC:C.Ok P ρ){t:TypeId}{n:Nat}(h:C.size t=some n): ∃i,P.info? t=some i/\i.size=n:=by
 unfold Ctx.size at h;split at h
 ·cases h
 ·rename_i i hi;cases h;exact ⟨i,hC.ty _ _ hi,rfl⟩
theorem Ctx.bh{C:Ctx}{P:Program}{ρ:Env}(hC:C.Ok P ρ){t:TypeId}{n:Nat}(h:C.size t=some n)(w:World):(sizeOf t).run P w= .ok n w:=by
 obtain ⟨i,hi,rfl⟩:=Ctx.info hC h;simp [sizeOf,typeInfo,hi]
theorem Ctx.cellsOf{C:Ctx}{P:Program}{ρ:Env}(hC:C.Ok P ρ){t:TypeId}{n:Nat}(h:C.size t=some n):P.cellsOf t=n:=by
 obtain ⟨i,hi,rfl⟩:=Ctx.info hC h;simp [Program.cellsOf,hi]
def ME:TypeDesc->Bool
 | .struct _ | .array _ _=>true
 |_=>false
theorem gf{P:Program}{t:TypeId}{d:TypeDesc}(h:P.underlying t=some d)(w:World):(isAgg t).run P w= .ok (ME d) w:=by
 unfold isAgg;rw [Sem.run_bind,run_underlying h];cases d<;>rfl
def sw(C:Ctx)(t:TypeId)(cs:List ab)(off:Nat):Option ab:=
 match C.und t with
 |none=>none
 |some d=>
  match ME d with
  |true=>
   match C.size t with
   |none=>none
   |some n=>some (.agg ((cs.drop off).take n))
  |false=>cs[off]?
theorem az.extract{ρ:Env}{f:Ren}{l:List ab}{a:Array Value}(h:az ρ f l a)(o n:Nat):az ρ f ((l.drop o).take n) (a.extract o (o+n)):=by
 refine ⟨?_,fun i v v' h1 h2=> ?_⟩
 ·have:=h.1;simp only [Array.size_extract,List.length_take,List.length_drop];omega
 ·rw [List.getElem?_take,List.getElem?_drop] at h1;split at h1
  ·rw [Array.getElem?_extract] at h2;split at h2
   ·exact h.2 _ _ _ h1 h2
   ·cases h2
  ·cases h1
theorem jK{C:Ctx}{P:Program}{ρ:Env}(hC:C.Ok P ρ){f:Ren}{t:TypeId}{cs:List ab}{off:Nat}{v:ab}{a:Array Value}(h:az ρ f cs a)(hp:sw C t cs off=some v)(w:World):
 ∃v',(part t a off).run P w= .ok v' w/\ai ρ f v v':=by
 unfold sw at hp;split at hp
 ·cases hp
 ·rename_i d hd;have hu:=Ctx.ax hC hd;split at hp
  ·rename_i hagg;split at hp
   ·cases hp
   ·rename_i n hn;cases hp;refine ⟨.agg (a.extract off (off+n)),?_,?_⟩
    ·simp [part,gf hu,hagg,Ctx.bh hC hn]
    ·have:=h.extract off n;exact .agg this.1 this.2
  ·rename_i hagg;obtain ⟨v',h1,h2⟩:=h.get hp;exact ⟨v',by simp [part,gf hu,hagg,h1],h2⟩
def jb(C:Ctx):List IE->List IE->Option Bool
 | [],[]=>some true
 |a::l,b::m=>
  match settle C.dec (mkEq C.bd a b) with
  |some true=>jb C l m
  |some false=>some false
  |none=>none
 |_,_=>some false
theorem ma{C:Ctx}{P:Program}{ρ:Env}(hC:C.Ok P ρ): ∀(l m:List IE) (r:Bool),jb C l m=some r->r=decide (l.map (·.ev ρ)=m.map (·.ev ρ)):=by
 intro l
 induction l with
 |nil=>intro m r h; cases m<;>simp [jb] at h<;>simp [h]
 |cons a l ih=>
  intro m r h;cases m with
  |nil=>simp [jb] at h; simp [h]
  |cons b m=>
   simp only [jb] at h
   have key: ∀v,settle C.dec (mkEq C.bd a b)=some v->decide (a.ev ρ=b.ev ρ)=v:=fun v hv=>by
    rw [<- dU hC.bd]; exact aq hC.dec _ _ hv
   split at h
   ·rename_i hs;have:=of_decide_eq_true (key _ hs);rw [ih _ _ h];simp [this]
   ·rename_i hs;have:=of_decide_eq_false (key _ hs);simp at h;simp [h,this]
   ·cases h
theorem eu.toList{ρ:Env}{l:List IE}{s:ByteArray}(h:eu ρ l s):s.toList.map (fun b=>(b.toNat:Int))=l.map (·.ev ρ):=by
 rw [ByteArray.toList_eq]; exact h
theorem R8:Function.Injective (fun b:UInt8=>(b.toNat:Int)):=by
 intro a b h;exact UInt8.toNat_inj.1 (Int.ofNat_inj.1 h)
theorem eu.eq_iff{ρ:Env}{l m:List IE}{s t:ByteArray}(h:eu ρ l s)(h':eu ρ m t):(s.toList=t.toList) ↔ l.map (·.ev ρ)=m.map (·.ev ρ):=by
 rw [<- h.toList,<-h'.toList];constructor
 ·intro e; rw [e]
 ·exact fun e=>(List.map_inj_right (fun _ _ e=>R8 e)).1 e
def eqFields(C:Ctx)(eq:TypeId->ab->ab->Option Bool)(xs ys:List ab):List Field->Option Bool
 | []=>some true
 |f::fs=>
  match f.name== "_" with
  |true=>none
  |false=>
   match sw C f.type xs f.offset,sw C f.type ys f.offset with
   |some a,some b=>
    match eq f.type a b with
    |some true=>eqFields C eq xs ys fs
    |r=>r
   |_,_=>none
def eqItems(C:Ctx)(eq:TypeId->ab->ab->Option Bool)(e:TypeId)(s:Nat)(xs ys:List ab):Nat->Nat->Option Bool
 |_,0=>some true
 |j,n+1=>
  match sw C e xs (j*s),sw C e ys (j*s) with
  |some a,some b=>
   match eq e a b with
   |some true=>eqItems C eq e s xs ys (j+1) n
   |r=>r
  |_,_=>none
def lA(C:Ctx):Nat->TypeId->ab->ab->Option Bool
 |0,_,_,_=>none
 |d+1,t,x,y=>
  match C.und t with
  |none=>none
  |some u=>
   match u,x,y with
   | .bool,.bool a,.bool b=>
     match settle C.dec a,settle C.dec b with
     |some a,some b=>some (a==b)
     |_,_=>none
   | .int _,.int k a,.int l b=>
     match bf k l with
     |true=>settle C.dec (mkEq C.bd a b)
     |false=>none
   | .string,.str a,.str b=>jb C a b
   | .pointer _,.ptr none,.ptr b=>some b.isNone
   | .pointer _,.ptr (some _),.ptr none=>some false
   | .pointer e,.ptr (some (i,o)),.ptr (some (j,p))=>
     match C.size e,Nat.beq i j with
     |some (_+1),true=>some (Nat.beq o p)
     |_,_=>none
   | .pointer _,.ptrE _ _ _ _,.ptr none=>some false
   | .pointer _,.ptr none,.ptrE _ _ _ _=>some false
   | .slice _,.slice none 0 0 0,.slice b _ _ _=>some b.isNone
   | .slice _,.slice (some _) _ _ _,.slice none 0 0 0=>some false
   | .slice _,.sliceS _ _ _ _ true,.slice none 0 0 0=>some false
   | .slice _,.sliceS _ _ l _ false,.slice none 0 0 0=>
     match settle C.dec (mkEq C.bd l (.lit 0)) with
     |some false=>some false
     |_=>none
   | .slice _,.sliceA _ l _,.slice none 0 0 0=>
     match settle C.dec (mkEq C.bd l (.lit 0)) with
     |some false=>some false
     |_=>none
   | .map _ _,.map none,.map b=>some b.isNone
   | .map _ _,.map (some _),.map none=>some false
   | .func _ _ _,.nilFunc,.nilFunc=>some true
   | .func _ _ _,.nilFunc,.func _ _ _=>some false
   | .func _ _ _,.func _ _ _,.nilFunc=>some false
   | .interface _,.nilIface,.nilIface=>some true
   | .interface _,.nilIface,.iface _ _=>some false
   | .interface _,.iface _ _,.nilIface=>some false
   | .interface _,.iface tx vx,.iface ty vy=>
     match Nat.beq tx ty with
     |false=>some false
     |true=>
      match C.ty.get tx with
      |none=>none
      |some i=>
       match i.comparable with
       |true=>lA C d tx vx vy
       |false=>none
   | .struct fs,.agg xs,.agg ys=>
     match C.plain t with
     |true=>eqFields C (lA C d) xs ys fs.toList
     |false=>none
   | .array n e,.agg xs,.agg ys=>
     match C.size e with
     |none=>none
     |some s=>eqItems C (lA C d) e s xs ys 0 n
   |_,_,_=>none
set_option maxHeartbeats 800000 in
theorem NJ{C:Ctx}{P:Program}{ρ:Env}(hC:C.Ok P ρ){f:Ren}(w:World): ∀(d D:Nat) (t:TypeId) (x y:ab) (x' y':Value) (r:Bool),d<=D->ai ρ f x x'->ai ρ f y y'->lA C d t x y=some r->
 (Op.equalIn D t x' y').run P w= .ok r w:=by
 intro d
 induction d with
 |zero=>intro D t x y x' y' r _ _ _ h; cases h
 |succ d ih=>
  intro D t x y x' y' r hD hx hy h;obtain ⟨D,rfl⟩: ∃D',D=D'+1:=⟨D-1,by omega⟩
  simp only [lA] at h;split at h
  ·cases h
  ·rename_i u hu0;have hu:=Ctx.ax hC hu0;split at h
   -- bool
   ·rename_i a b;cases hx; cases hy;split at h
    ·rename_i p q ha hb;simp only [Op.equalIn,Sem.run_bind,run_underlying hu,Result.andThen_ok,Sem.run_pure];rw [aq hC.dec _ _ ha,aq hC.dec _ _ hb];cases h; rfl
    ·cases h
   -- int
   ·rename_i k a l b;cases hx; cases hy;split at h
    ·rename_i hk;have:=aH hk;subst this;have hs:=aq hC.dec _ _ h;rw [dU hC.bd] at hs;simp only [Op.equalIn,Sem.run_bind,run_underlying hu,Result.andThen_ok,if_true,Sem.run_pure];rw [<- hs]
     congr 1
    ·cases h
   -- string
   ·rename_i a b;cases hx; cases hy; rename_i s1 h1 s2 h2;rw [run_equalIn_string w D t _ _ hu,ma hC _ _ _ h]
    congr 1
    rw [Bool.eq_iff_iff];simp [h1.eq_iff h2]
   -- pointers
   ·rename_i e b;cases hx;cases hy<;>simp only [Op.equalIn,Sem.run_bind,run_underlying hu,Result.andThen_ok,Sem.run_pure]<;>simp at h<;>simp [h]
   ·cases hx; cases hy;simp only [Op.equalIn,Sem.run_bind,run_underlying hu,Result.andThen_ok,Sem.run_pure];cases h; rfl
   ·rename_i e i o j p;cases hx; cases hy; rename_i L1 hf L2 hg;split at h
    ·rename_i n hn hij;have:=Nat.eq_of_beq_eq_true hij;subst this;rw [hf] at hg;cases hg;cases h;simp only [Op.equalIn,Sem.run_bind,run_underlying hu,Result.andThen_ok,Ctx.bh hC hn,ne_eq];rw [if_pos (Nat.succ_ne_zero n)];simp only [sameAddr,beq_self_eq_true,if_true,Sem.run_pure]
     congr 1
     rw [Bool.eq_iff_iff];simp
    ·cases h
   ·cases hx; cases hy;simp only [Op.equalIn,Sem.run_bind,run_underlying hu,Result.andThen_ok,Sem.run_pure];cases h; rfl
   ·cases hx; cases hy;simp only [Op.equalIn,Sem.run_bind,run_underlying hu,Result.andThen_ok,Sem.run_pure];cases h; rfl
   -- slices
   ·cases hx;cases hy<;>simp only [Op.equalIn,Sem.run_bind,run_underlying hu,Result.andThen_ok,Sem.run_pure]<;>simp at h<;>simp [h]
   ·cases hy;cases hx<;>simp only [Op.equalIn,Sem.run_bind,run_underlying hu,Result.andThen_ok,Sem.run_pure]<;>cases h<;>rfl
   ·cases hy;cases hx with
    |sliceS hf h0 hl hc=>simp only [Op.equalIn,Sem.run_bind,run_underlying hu,Result.andThen_ok,Sem.run_pure]; cases h; rfl
    |sliceZ hl ha=>
     rename_i a c;cases a with
     |none=>exact absurd (ha rfl).2 (by simp)
     |some a=>simp only [Op.equalIn,Sem.run_bind,run_underlying hu,Result.andThen_ok,Sem.run_pure]; cases h; rfl
   ·cases hy;split at h
    ·rename_i hs;have h0:=aq hC.dec _ _ hs;rw [dU hC.bd] at h0;have h0:=of_decide_eq_false h0;cases hx with
     |sliceS hf _ hl hc=>simp only [Op.equalIn,Sem.run_bind,run_underlying hu,Result.andThen_ok,Sem.run_pure]; cases h; rfl
     |sliceZ hl ha=>exact absurd hl h0
    ·cases h
   ·cases hy;split at h
    ·rename_i hs;have h0:=aq hC.dec _ _ hs;rw [dU hC.bd] at h0;have h0:=of_decide_eq_false h0;cases hx with
     |sliceA hf hl hc hz=>simp only [Op.equalIn,Sem.run_bind,run_underlying hu,Result.andThen_ok,Sem.run_pure]; cases h; rfl
     |sliceN hl=>exact absurd hl h0
    ·cases h
   -- maps
   ·cases hx;cases hy<;>simp only [Op.equalIn,Sem.run_bind,run_underlying hu,Result.andThen_ok,Sem.run_pure]<;>simp at h<;>simp [h]
   ·cases hx; cases hy;simp only [Op.equalIn,Sem.run_bind,run_underlying hu,Result.andThen_ok,Sem.run_pure];cases h; rfl
   -- functions
   ·cases hx; cases hy;simp only [Op.equalIn,Sem.run_bind,run_underlying hu,Result.andThen_ok,Sem.run_pure];cases h; rfl
   ·cases hx; cases hy;simp only [Op.equalIn,Sem.run_bind,run_underlying hu,Result.andThen_ok,Sem.run_pure];cases h; rfl
   ·cases hx; cases hy;simp only [Op.equalIn,Sem.run_bind,run_underlying hu,Result.andThen_ok,Sem.run_pure];cases h; rfl
   -- interfaces
   ·cases hx; cases hy;simp only [Op.equalIn,Sem.run_bind,run_underlying hu,Result.andThen_ok,Sem.run_pure];cases h; rfl
   ·cases hx; cases hy;simp only [Op.equalIn,Sem.run_bind,run_underlying hu,Result.andThen_ok,Sem.run_pure];cases h; rfl
   ·cases hx; cases hy;simp only [Op.equalIn,Sem.run_bind,run_underlying hu,Result.andThen_ok,Sem.run_pure];cases h; rfl
   ·rename_i tx vx ty vy;cases hx; cases hy; rename_i vx' hx vy' hy;split at h
    ·rename_i hne;have hne':tx≠ty:=by intro e; simp [e] at hne
     simp only [Op.equalIn,Sem.run_bind,run_underlying hu,Result.andThen_ok,Sem.run_pure,ne_eq,hne',not_false_eq_true,if_true];cases h; rfl
    ·rename_i heq;have:=Nat.eq_of_beq_eq_true heq;subst this;split at h
     ·cases h
     ·rename_i i hi;split at h
      ·rename_i hc;have hrun:=ih D tx vx vy _ _ r (by omega) hx hy h
       simp only [Op.equalIn,Sem.run_bind,run_underlying hu,Result.andThen_ok,Sem.run_pure,ne_eq,not_true_eq_false,if_false,typeInfo,run_program,hC.ty _ _ hi,hc,Bool.not_true,Bool.false_eq_true];exact hrun
      ·cases h
   -- structs
   ·rename_i fs xs ys;cases hx; cases hy; rename_i xs' hx1 hx2 ys' hy1 hy2;split at h
    ·rename_i hp;obtain ⟨hp1,hp2⟩:=hC.plain _ hp;have hfs:P.fieldsOf t=fs:=by simp [Program.fieldsOf,hu]
     rw [run_equalIn_struct w D t _ _ (by rw [hfs]; exact hu) hp1,hfs]
     generalize fs.toList=l at h;clear hfs hu hu0
     induction l with
     |nil=>simp [eqFields] at h; simp [Op.eqFields,h]
     |cons fd l ihl=>
      simp only [eqFields] at h;split at h
      ·cases h
      ·rename_i hn;have hn':fd.name≠ "_" :=by simpa using hn
       split at h
       ·rename_i a b ha hb;obtain ⟨a',ha1,ha2⟩:=jK hC ⟨hx1,hx2⟩ ha w;obtain ⟨b',hb1,hb2⟩:=jK hC ⟨hy1,hy2⟩ hb w;simp only [Op.eqFields,if_pos hn',Sem.run_bind,ha1,hb1,Result.andThen_ok];split at h
        ·rename_i he;rw [ih D _ _ _ _ _ _ (by omega) ha2 hb2 he]
         simpa using ihl h
        ·rename_i he;rw [ih D _ _ _ _ _ r (by omega) ha2 hb2 h]
         cases r
         ·simp
         ·exact absurd h (he)
       ·cases h
    ·cases h
   -- arrays
   ·rename_i n e xs ys;cases hx; cases hy; rename_i xs' hx1 hx2 ys' hy1 hy2;split at h
    ·cases h
    ·rename_i s hs;obtain ⟨i,hi,_⟩:=Ctx.info hC hs;rw [run_equalIn_array w D _ _ hu hi,Ctx.cellsOf hC hs,List.range_eq_range']
     have gen: ∀(n j:Nat),eqItems C (lA C d) e s xs ys j n=some r->(Op.eqItems D e s xs' ys' (List.range' j n)).run P w= .ok r w:=by
      intro n
      induction n with
      |zero=>intro j h; simp [eqItems] at h; simp [Op.eqItems,h]
      |succ n ihn=>
       intro j h;simp only [eqItems] at h;split at h
       ·rename_i a b ha hb;obtain ⟨a',ha1,ha2⟩:=jK hC ⟨hx1,hx2⟩ ha w;obtain ⟨b',hb1,hb2⟩:=jK hC ⟨hy1,hy2⟩ hb w;simp only [List.range'_succ,Op.eqItems,Sem.run_bind,ha1,hb1,Result.andThen_ok];split at h
        ·rename_i he;rw [ih D _ _ _ _ _ _ (by omega) ha2 hb2 he]
         simpa using ihn (j+1) h
        ·rename_i he;rw [ih D _ _ _ _ _ r (by omega) ha2 hb2 h]
         cases r
         ·simp
         ·exact absurd h (he)
       ·cases h
     exact gen n 0 h
   ·cases h
end
end Go.Sx
