/- Part Tw7. No condition. -/
import Derived.Test.YtpdhneemedlgaaaGreatTw5
set_option linter.all false
namespace Go.Proofs.YtpdhneemedlgaaaGreat
open Go Go.Sx Go.ChangeShapes Go.WideShapes Go.ChangeAt Go.RowKit
set_option maxRecDepth 1000000
noncomputable section
def gX(c:Nat)(x y z:Int):Int:=
 if c<100 then gA c x y z else
 match c with
 |110=>zrF 0 x y.toNat (z-y).toNat
 |111=>pcF x ((unpI y).1+1).toNat (unpI y).2.toNat (z-(unpI y).2).toNat
 |112=>zrF 1 x y.toNat (z-y).toNat
 |113=>cyF pkS x y (unpI z).1 (unpI z).2.toNat (256-(unpI z).2).toNat
 |114=>cyF cdS x y (unpI z).1 (unpI z).2.toNat (256-(unpI z).2).toNat
 |115=>g9 x y (unpI z).1.toNat ((unpI z).2-(unpI z).1).toNat
 |116=>nt x y (unpI z).1.toNat ((unpI z).2-(unpI z).1).toNat
 |117=>nR x y (unpI z).2 (unpI z).1.toNat ((unpI z).2-(unpI z).1).toNat
 |_=>0
theorem Dv:CopG gX:=
 ⟨⟨⟨fun c hc x y z=>if_pos hc,fun _ _ _=>⟨if_neg (by decide),if_neg (by decide)⟩,fun _ _ _=>if_neg (by decide)⟩,fun _ _ _=>if_neg (by decide),fun _ _ _=>if_neg (by decide)⟩,fun _ _ _=>if_neg (by decide),fun _ _ _=>if_neg (by decide),fun _ _ _=>if_neg (by decide)⟩
def Eu:List PK:=[.int .i64,.int .i64,.agg [.u8,.u8,.u8,.u8,.u8]]
def Js(I:Nat->Int):Env:={i:=I,b:=fun _=>false,g:=gX,gh:=gh}
theorem Bt{ρ:Env}{f:Ren}{k:IntKind}{e e':IE}{l:List ab}{args:Array Value}(he:e.ev ρ=e'.ev ρ)(h:az ρ f (.int k e::l) args):az ρ f (.int k e'::l) args:=by
 refine ⟨h.1,fun i v v' h1 h2=> ?_⟩
 match i,h1 with
 |0,h1=>
  have h1:some (ab.int k e')=some v:=h1;cases h1;have q:=h.2 0 _ v' rfl h2;cases q;rw [he];exact .int k e'
 |i+1,h1=>exact h.2 (i+1) v v' h1 h2
theorem w5:JN.Ok PR gX gh:=te.vL
theorem EP:((KL 1).cons.all Con.wf&&(KL 2).cons.all Con.wf)=true:=by kernel_rfl
theorem Ek:K0.cons.all Con.wf=true:=by kernel_rfl
theorem w8:K0.Ok PR gX gh:=⟨ku Ek fun c hc=>by
 simp only [K0,List.mem_cons,List.not_mem_nil,or_false] at hc;subst hc;exact w5,fun _ h=>by cases h⟩
theorem yZ{a:Nat}(ha:a=1\/a=2):(KL a).Ok PR gX gh:=by
 have hw:(KL a).cons.all Con.wf=true:=by
  have h:=EP;rw [Bool.and_eq_true] at h
  rcases ha with rfl |rfl
  ·exact h.1
  ·exact h.2
 refine ⟨ku hw fun c hc=> ?_,fun c hc=> ?_⟩
 ·simp only [KL,List.mem_cons,List.not_mem_nil,or_false] at hc
  rcases hc with rfl |rfl |rfl |rfl |rfl |rfl
  ·exact w5
  ·exact qI
  ·exact pP
  ·exact (xP a 0 ha (by decide)).1
  ·exact MB (by decide)
  ·exact MB (by decide)
 ·simp only [KL,List.mem_cons,List.not_mem_nil,or_false] at hc;subst hc;exact ⟨ng ha (by decide) (by decide),Cv Dv ha 5 (Nat.le_refl 5) 0 (by decide) (by decide)⟩
theorem D3{W:World}{base:Nat}{args:Array Value}{ts:List TypeId}(shapes:mG PR ts Eu=true)(hl:args.size=ts.length)(hv: ∀(j:Nat) t v,ts[j]? =some t->args[j]? =some v->Value.okWide PR W .any base t v):
 Calls PR 3 args W fun e w'=>e= .returned (.bool true)/\Below W.heap.size W w':=by
 obtain ⟨I,hI⟩:=sj shapes hl hv;obtain ⟨h1,h2⟩:=hI (Js I) (fun _ _=>rfl)
 have b0: -9223372036854775808<=I 0/\I 0<=9223372036854775807:=h1 0 _ _ (by kernel_rfl)
 have b1: -9223372036854775808<=I 1/\I 1<=9223372036854775807:=h1 1 _ _ (by kernel_rfl)
 have b2:0<=I 2/\I 2<=255:=h1 2 0 255 (by kernel_rfl)
 have b3:0<=I 3/\I 3<=255:=h1 3 0 255 (by kernel_rfl)
 have b4:0<=I 4/\I 4<=255:=h1 4 0 255 (by kernel_rfl)
 have b5:0<=I 5/\I 5<=255:=h1 5 0 255 (by kernel_rfl)
 have b6:0<=I 6/\I 6<=255:=h1 6 0 255 (by kernel_rfl)
 have fin: ∀(K:Know) (kE:IE) (bds:List (Nat×Int×Int)) (pre:Dec),K.Ok PR gX gh->tL K (cLw kE bds pre)=true->(Js I).ok (bdL bds)->pre.holds (Js I)->(IE.var 0).ev (Js I)=kE.ev (Js I)->
  Calls PR 3 args W fun e w'=>e= .returned (.bool true)/\Below W.heap.size W w':=by
  intro K kE bds pre hK hok hb hp hq;have ha:az (Js I) (fun _=>none) (cLw kE bds pre).args args:=Bt hq (h2 fun _=>none)
  have r:=bA hK hok (Js I) ⟨rfl,rfl⟩ hb hp _ W (fun _=>none) W args (au.start _ W) ha (fun _ _=>rfl)
  refine Calls.mono r ?_
  rintro e w' ⟨v,rfl,f',_,_,hr,hv⟩
  refine ⟨?_,hr.below.below⟩;cases hv;rfl
 have in8: ∀(l:List (Nat×Int×Int)),(∀ x∈l,x.2.1<=I x.1/\I x.1<=x.2.2)->(Js I).ok (bdL (l++b8)):=fun l hl'=>Dg fun i lo hi h=>by
  rcases List.mem_append.1 h with h |h
  ·exact hl' _ h
  ·simp only [b8,u8B,List.mem_cons,List.not_mem_nil,or_false,Prod.mk.injEq] at h
   rcases h with ⟨rfl,rfl,rfl⟩ | ⟨rfl,rfl,rfl⟩ | ⟨rfl,rfl,rfl⟩ | ⟨rfl,rfl,rfl⟩ | ⟨rfl,rfl,rfl⟩
   ·exact b2
   ·exact b3
   ·exact b4
   ·exact b5
   ·exact b6
 have one: ∀ {x:Nat×Int×Int},x.2.1<=I x.1/\I x.1<=x.2.2-> ∀y∈[x],y.2.1<=I y.1/\I y.1<=y.2.2:=fun h y hy=>by
  rw [List.mem_singleton.1 hy]; exact h
 have two': ∀ {x y:Nat×Int×Int},(x.2.1<=I x.1/\I x.1<=x.2.2)->(y.2.1<=I y.1/\I y.1<=y.2.2)-> ∀z∈[x,y],z.2.1<=I z.1/\I z.1<=z.2.2:=fun h h' z hz=>by
  rcases List.mem_cons.1 hz with rfl |hz
  ·exact h
  ·exact one h' z hz
 by_cases c1:I 1<=0
 ·exact fin K0 (.var 0) _ _ w8 lwF (in8 [s9 0,(1,-9223372036854775808,0)] (two' b0 ⟨b1.1,c1⟩)) aw rfl
 by_cases c2:4097<=I 1
 ·exact fin K0 (.var 0) _ _ w8 lwM (in8 [s9 0,(1,4097,9223372036854775807)] (two' b0 ⟨c2,b1.2⟩)) aw rfl
 have p1:(1:Int)<=I 1/\I 1<=4096:=⟨by omega,by omega⟩
 by_cases k1:I 0=1
 ·exact fin (KL 1) (.lit 1) _ _ (yZ (.inl rfl)) lw1 (in8 [(1,1,4096)] (one p1)) aw k1
 by_cases k2:I 0=2
 ·exact fin (KL 2) (.lit 2) _ _ (yZ (.inr rfl)) lw2 (in8 [(1,1,4096)] (one p1)) aw k2
 ·refine fin K0 (.var 0) _ _ w8 lwN (in8 [s9 0,(1,1,4096)] (two' b0 p1)) (fun p hp=> ?_) rfl
  rcases List.mem_cons.1 hp with rfl |hp
  ·exact decide_eq_false k1
  ·rw [List.mem_singleton.1 hp];exact decide_eq_false k2
end
end Go.Proofs.YtpdhneemedlgaaaGreat
