/- A state that is normal stays so: the runs of a step of K. No condition. -/
import Derived.Test.YtbhlmedfhilkbaaGreatBi3
import Derived.Test.YtbhlmedfhilkbaaGreatKc0
import Derived.Test.YtbhlmedfhilkbaaGreatQd5
set_option linter.unusedSimpArgs false
set_option linter.unusedVariables false
set_option linter.unusedSectionVars false
namespace Go.Proofs.YtbhlmedfhilkbaaGreat
open Go Go.Sx
set_option maxRecDepth 1000000
noncomputable section
end
end Go.Proofs.YtbhlmedfhilkbaaGreat
namespace Go.Proofs.YtbhlmedfhilkbaaGreat
open Go Go.Sx
set_option maxRecDepth 1000000
noncomputable section
end
end Go.Proofs.YtbhlmedfhilkbaaGreat
namespace Go.Proofs.YtbhlmedfhilkbaaGreat
open Go Go.Sx
set_option maxRecDepth 1000000
noncomputable section
structure NrmS (coh:Bool) (S:Int):Prop where
 p:ajf coh fun j=>dgN (D3 j) S j
 d:0<=N3 S
theorem aen: ∀j,j<24->aW[j]? =some (D3 j)
 |0,_=>rfl
 |1,_=>rfl
 |2,_=>rfl
 |3,_=>rfl
 |4,_=>rfl
 |5,_=>rfl
 |6,_=>rfl
 |7,_=>rfl
 |8,_=>rfl
 |9,_=>rfl
 |10,_=>rfl
 |11,_=>rfl
 |12,_=>rfl
 |13,_=>rfl
 |14,_=>rfl
 |15,_=>rfl
 |16,_=>rfl
 |17,_=>rfl
 |18,_=>rfl
 |19,_=>rfl
 |20,_=>rfl
 |21,_=>rfl
 |22,_=>rfl
 |23,_=>rfl
 |j+24,h=>absurd h (by omega)
section
variable{G:Nat->Int->Int->Int->Int}(hP:gg G){F R:Fns}(hFx:F.vars=[0,90])(hRx:R.vars=[0,90,2,3])(hk:7<F.KR/\7<F.KV)(hR:R.Def G (jQ F).rt)
include hP hFx hRx hk hR
theorem aga{M S d w:Int}{l:List Int}(h:R.is G (pk4 M S d w) (qm S aW 0++l)){j:Nat}(hj:j<24):dgN (D3 j) (G R.KR (pk4 M S d w) 0 0) j=dgN (D3 j) S j:=by
 refine WA hP hFx hRx hk hR h (k:=D3 j) (j:=j) (v:=ag S j) ?_
 have:=ER (S:=S) (j:=0) (aen j hj)
 rw [List.getElem?_append_left (by rw [uH]; exact hj),this,Nat.zero_add]
 rfl
end
section
variable{G:Nat->Int->Int->Int->Int}(hG:RunG G)
include hG
end
end
end Go.Proofs.YtbhlmedfhilkbaaGreat
namespace Go.Proofs.YtbhlmedfhilkbaaGreat
open Go Go.Sx
set_option maxRecDepth 1000000
noncomputable section
def ahf(hi:Int)(e:IE):Bool:=match rng (fun _=>none) e with
 |some (_,b)=>aL b hi
 |none=>false
theorem ahb{ρ:Env}{hi:Int}{e:IE}(h:ahf hi e=true):e.ev ρ<=hi:=by
 unfold ahf at h
 split at h
 ·rename_i a b hr
  have q:=ahk h
  have:=bD (ρ:=ρ) (fun i lo hi h=>by cases h) e _ _ hr
  omega
 ·cases h
theorem afq(d j:Int):ag d j=ag d (j.toNat:Nat):=by
 unfold ag
 rw [Int.toNat_natCast]
theorem agd{k:IntKind}(hk:k≠ .i64/\k≠ .u64)(x:Int):k.wrap (IntKind.u32.wrap x)=k.wrap x:=by
 rw [dM,dM,dM]
 cases k
 case i64=>exact absurd rfl hk.1
 case u64=>exact absurd rfl hk.2
 all_goals
  simp only [rq]
  first
   |omega
   | (split<;>split<;>omega)
def aef:IE->Bool
 | .lit _=>true
 | .var i=> !(Nat.beq i 90)
 | .add a b=>aef a&&aef b
 | .sub a b=>aef a&&aef b
 | .mul a b=>aef a&&aef b
 | .wrap k a=>aef a||(match a with
   | .fn c (.var v) x z=>Nat.beq c 0&&(Nat.beq v 90&&(aef x&&(aef z&&(match k with
     | .i64=>x.eq (.lit 22)||x.eq (.lit 23)
     | .u64=>false
     |_=>ahf 21 x))))
   |_=>false)
 | .bits _ _ a b=>aef a&&aef b
 | .quo a b=>aef a&&aef b
 | .rem a b=>aef a&&aef b
 | .shl _ a b=>aef a&&aef b
 | .shr _ a b=>aef a&&aef b
 | .fn _ x y z=>aef x&&(aef y&&aef z)
 | .sel _ a b x y=>aef a&&(aef b&&(aef x&&aef y))
def ah0:BE->Bool
 | .lit _=>true
 | .var _=>true
 | .eq a b=>aef a&&aef b
 | .lt a b=>aef a&&aef b
 | .not a=>ah0 a
def aft:RT->Bool
 | .bad=>false
 | .again _=>false
 | .done l=>l.all aef
 | .split b y n=>ah0 b&&(aft y&&aft n)
def aee(f:Int->Out)(c:Con)(F:Fns)(l:List Int):Bool:=l.all fun n=>aft (c.rows F (f n))
theorem agy{e:IE}{f:Int->Out}{c:Con}{F:Fns}(he:aef e=true): ∀ {l:List Int},l≠[]->aee f c F l=true->aft (c.rows F (cg e f l))=true:=by
 intro l
 induction l with
 |nil=>intro h _; exact absurd rfl h
 |cons n l ih=>
  intro _ h
  unfold aee at h
  rw [List.all_cons,Bool.and_eq_true] at h
  cases l with
  |nil=>exact h.1
  |cons m l=>
   show (ah0 (.eq e (.lit n))&&(aft (c.rows F (f n))&&aft (c.rows F (cg e f (m::l)))))=true
   rw [h.1,ih (by simp) h.2]
   show (aef e&&true&&(true&&true))=true
   rw [he]; rfl
theorem aeh{f:Int->Out}{c:Con}{F:Fns}{l m:List Int}(h1:aee f c F l=true)(h2:aee f c F m=true):aee f c F (l++m)=true:=by
 unfold aee at*
 rw [List.all_append,h1,h2]
 rfl
structure aeg (S T:Int):Prop where
 u: ∀j:Nat,j<22->IntKind.u32.wrap (ag S (j:Nat))=IntKind.u32.wrap (ag T (j:Nat))
 p:IntKind.i64.wrap (ag S (22:Nat))=IntKind.i64.wrap (ag T (22:Nat))
 d:IntKind.i64.wrap (ag S (23:Nat))=IntKind.i64.wrap (ag T (23:Nat))
theorem age{S T:Int}(h: ∀j,j<24->dgN (D3 j) S j=dgN (D3 j) T j):aeg S T:=
 ⟨fun j hj=>by
  have:=h j (by omega)
  have k:D3 j= .u32:=by
   unfold D3
   have:Nat.ble 22 j=false:=by
    cases hb:Nat.ble 22 j
    ·rfl
    ·have:=Nat.le_of_ble_eq_true hb; omega
   rw [this]
  rw [k] at this
  exact this,h 22 (by decide),h 23 (by decide)⟩
theorem aeg.dig{S T:Int}(h:aeg S T){j:Nat}(hj:j<24):dgN (D3 j) S j=dgN (D3 j) T j:=by
 rcases Nat.lt_or_ge j 22 with h1 |h1
 ·have k:D3 j= .u32:=by
   unfold D3
   have:Nat.ble 22 j=false:=by
    cases hb:Nat.ble 22 j
    ·rfl
    ·have:=Nat.le_of_ble_eq_true hb; omega
   rw [this]
  rw [k]
  exact h.u j h1
 ·match j,hj,h1 with
  |22,_,_=>exact h.p
  |23,_,_=>exact h.d
  |j+24,hj,_=>exact absurd hj (by omega)
theorem aeg.symm{S T:Int}(h:aeg S T):aeg T S:=⟨fun j hj=>(h.u j hj).symm,h.p.symm,h.d.symm⟩
theorem aeg.trans{S T U:Int}(h:aeg S T)(k:aeg T U):aeg S U:=⟨fun j hj=>(h.u j hj).trans (k.u j hj),h.p.trans k.p,h.d.trans k.d⟩
section
variable{ρ ρ':Env}(hi: ∀i,i≠90->ρ.i i=ρ'.i i)(hg:ρ.g=ρ'.g)(hS:aeg (ρ.i 90) (ρ'.i 90))
include hi hg hS
theorem ah5(e:IE):(aef e=true->e.ev ρ=e.ev ρ')/\ ∀c r x z,e= .fn c r x z->aef x=true->x.ev ρ=x.ev ρ':=by
 induction e with
 |lit n=>exact ⟨fun _=>rfl,fun _ _ _ _ he=>by cases he⟩
 |var i=>
  refine ⟨fun h=>hi i fun e=> ?_,fun _ _ _ _ he=>by cases he⟩
  subst e
  cases h
 |add a b iha ihb=>exact ⟨fun h=>by obtain ⟨h1,h2⟩:=aa h; simp only [IE.ev,iha.1 h1,ihb.1 h2],fun _ _ _ _ he=>(by cases he)⟩
 |sub a b iha ihb=>exact ⟨fun h=>by obtain ⟨h1,h2⟩:=aa h; simp only [IE.ev,iha.1 h1,ihb.1 h2],fun _ _ _ _ he=>(by cases he)⟩
 |mul a b iha ihb=>exact ⟨fun h=>by obtain ⟨h1,h2⟩:=aa h; simp only [IE.ev,iha.1 h1,ihb.1 h2],fun _ _ _ _ he=>(by cases he)⟩
 |wrap k a iha=>
  refine ⟨fun h=> ?_,fun _ _ _ _ he=>by cases he⟩
  by_cases h0:aef a=true
  ·simp only [IE.ev,iha.1 h0]
  ·unfold aef at h
   rw [Bool.eq_false_iff.2 h0,Bool.false_or] at h
   clear h0
   split at h
   ·rename_i c v x z
    obtain ⟨h1,h⟩:=aa h
    obtain ⟨h2,h⟩:=aa h
    obtain ⟨h3,h⟩:=aa h
    obtain ⟨_,h5⟩:=aa h
    have h1:=Nat.eq_of_beq_eq_true h1
    have h2:=Nat.eq_of_beq_eq_true h2
    subst h1 h2
    have ex:x.ev ρ=x.ev ρ':=iha.2 _ _ _ _ rfl h3
    show k.wrap (ag (ρ.i 90) (x.ev ρ))=k.wrap (ag (ρ'.i 90) (x.ev ρ'))
    rw [<- ex]
    split at h5
    ·rcases Bool.or_eq_true_iff.1 h5 with h5 |h5
     ·rw [IE.eq_eq h5]
      exact hS.p
     ·rw [IE.eq_eq h5]
      exact hS.d
    ·cases h5
    ·rename_i hk1 hk2
     have b1:=ahb (ρ:=ρ) h5
     rw [afq (ρ.i 90),afq (ρ'.i 90),<-agd ⟨hk1,hk2⟩,<-agd ⟨hk1,hk2⟩ (ag (ρ'.i 90) _),hS.u _ (by omega)]
   ·cases h
 |bits op k a b iha ihb=>exact ⟨fun h=>by obtain ⟨h1,h2⟩:=aa h; simp only [IE.ev,iha.1 h1,ihb.1 h2],fun _ _ _ _ he=>(by cases he)⟩
 |quo a b iha ihb=>exact ⟨fun h=>by obtain ⟨h1,h2⟩:=aa h; simp only [IE.ev,iha.1 h1,ihb.1 h2],fun _ _ _ _ he=>(by cases he)⟩
 |rem a b iha ihb=>exact ⟨fun h=>by obtain ⟨h1,h2⟩:=aa h; simp only [IE.ev,iha.1 h1,ihb.1 h2],fun _ _ _ _ he=>(by cases he)⟩
 |shl k a b iha ihb=>exact ⟨fun h=>by obtain ⟨h1,h2⟩:=aa h; simp only [IE.ev,iha.1 h1,ihb.1 h2],fun _ _ _ _ he=>(by cases he)⟩
 |shr k a b iha ihb=>exact ⟨fun h=>by obtain ⟨h1,h2⟩:=aa h; simp only [IE.ev,iha.1 h1,ihb.1 h2],fun _ _ _ _ he=>(by cases he)⟩
 |fn c x y z ihx ihy ihz=>
  refine ⟨fun h=> ?_,fun _ _ _ _ he=>by cases he; exact ihy.1⟩
  obtain ⟨h1,h⟩:=aa h
  obtain ⟨h2,h3⟩:=aa h
  simp only [IE.ev,ihx.1 h1,ihy.1 h2,ihz.1 h3,fnI,hg]
 |sel s a b x y iha ihb ihx ihy=>
  refine ⟨fun h=> ?_,fun _ _ _ _ he=>by cases he⟩
  obtain ⟨h0,h⟩:=aa h
  obtain ⟨h1,h⟩:=aa h
  obtain ⟨h2,h3⟩:=aa h
  simp only [IE.ev,iha.1 h0,ihb.1 h1,ihx.1 h2,ihy.1 h3]
theorem afb{e:IE}(h:aef e=true):e.ev ρ=e.ev ρ':=(ah5 hi hg hS e).1 h
theorem ah8(hb:ρ.b=ρ'.b)(e:BE):ah0 e=true->e.ev ρ=e.ev ρ':=by
 induction e with
 |lit b=>intro _; rfl
 |var i=>intro _; simp only [BE.ev,hb]
 |eq a b=>intro h; obtain ⟨h1,h2⟩:=aa h; simp only [BE.ev,afb hi hg hS h1,afb hi hg hS h2]
 |lt a b=>intro h; obtain ⟨h1,h2⟩:=aa h; simp only [BE.ev,afb hi hg hS h1,afb hi hg hS h2]
 |not a ih=>intro h; simp only [BE.ev,ih h]
theorem ag1(hb:ρ.b=ρ'.b)(t:RT):aft t=true->t.pick ρ=t.pick ρ'/\ ∃l,t.pick ρ= .done l:=by
 induction t with
 |bad=>intro h; cases h
 |again x=>intro h; cases h
 |done l=>
  intro h
  have e:RT.pick ρ (.done l)=RT.pick ρ' (.done l):=by
   simp only [RT.pick]
   congr 1
   exact List.map_congr_left fun e he=>afb hi hg hS (List.all_eq_true.1 h e he)
  exact ⟨e,_,rfl⟩
 |split b y n ihy ihn=>
  intro h
  obtain ⟨h1,h2⟩:=aa h
  obtain ⟨h2,h3⟩:=aa h2
  obtain ⟨y1,ly,y2⟩:=ihy h2
  obtain ⟨n1,ln,n2⟩:=ihn h3
  have e:=ah8 hi hg hS hb b h1
  simp only [RT.pick]
  rw [<- e]
  cases b.ev ρ
  ·exact ⟨n1,ln,n2⟩
  ·exact ⟨y1,ly,y2⟩
end
end
end Go.Proofs.YtbhlmedfhilkbaaGreat
