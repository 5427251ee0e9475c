/- Part Sf. No condition. -/
import Derived.Test.YtpdhneemedlgaaaGreatSe
set_option linter.all false
namespace Go.Sx
open Go.RowKit (Below)
noncomputable section
def cR(P:Program)(ρ:Env)(B:Nat->Prop)(W:World)(n:Nat)(c:Code)(s:ASt)(e:aM)(s':ASt):Prop:=s.nx<=s'.nx/\
    ∀N f a w Q,s'.nx<=N->eh ρ B W n N f s a w->
     (∀ f' a' w',f.le f'->Outside f f' s.nx s'.nx->eh ρ B W n N f' s' a' w'->Q e.to a' w')->c.wp P Q a w
section
variable{P:Program}{ρ:Env}{B:Nat->Prop}{W:World}{n:Nat}
theorem cR.of{c:Code}{g:eX}(h:bZ P ρ B W n c g){s s':ASt}{e:aM}(hs:g s=some (e,s')):cR P ρ B W n c s e s':=h s e s' hs
theorem cR.here{c:Code}{s:ASt}{e:aM}(h: ∀Q a w,Q e.to a w->c.wp P Q a w):cR P ρ B W n c s e s:=
 ⟨Nat.le_refl _,fun N f a w Q hN hr hq=>h Q a w (hq f a w (Ren.le_refl f) (fun _ _=>rfl) hr)⟩
theorem cR.cov{c:Code}{s s1 s2:ASt}{e:aM}(h:cR P ρ B W n c s e s1)(hc:dP ρ s1 s2):cR P ρ B W n c s e s2:=by
 refine ⟨Nat.le_trans h.1 hc.nx,fun N f a w Q hN hr hq=>h.2 N f a w Q (Nat.le_trans hc.nx hN) hr fun f' a' w' l o r=>hq f' a' w' l (fun j hj=>o j ?_) (hc.st r)⟩
 have:=hc.nx;omega
theorem cR.seq{x y:Code}{s s1 s2:ASt}{e:aM}(h:cR P ρ B W n x s .normal s1)(k:cR P ρ B W n y s1 e s2):cR P ρ B W n (.seq x y) s e s2:=by
 refine ⟨Nat.le_trans h.1 k.1,fun N f a w Q hN hr hq=>wp_seq (h.2 N f a w _ (Nat.le_trans k.1 hN) hr fun f1 a1 w1 l1 o1 r1=> ?_)⟩
 exact k.2 N f1 a1 w1 Q hN r1 fun f2 a2 w2 l2 o2 r2=>hq f2 a2 w2 (Ren.le_trans l1 l2) (o1.trans o2 h.1 k.1) r2
theorem cR.KQ{x y:Code}{s s1:ASt}{e:aM}(he:e≠ .normal)(h:cR P ρ B W n x s e s1):cR P ρ B W n (.seq x y) s e s1:=by
 refine ⟨h.1,fun N f a w Q hN hr hq=>wp_seq (h.2 N f a w _ hN hr fun f1 a1 w1 l1 o1 r1=> ?_)⟩
 have:=hq f1 a1 w1 l1 o1 r1;cases e with
 |normal=>exact absurd rfl he
 |exit i=>exact this
 |ret=>exact this
theorem cR.cond{x y:Code}{c:Operand}{s s1:ASt}{e:aM}{v:Bool}(ht: ∀N f (a:Act) w,eh ρ B W n N f s a w->a.eval c= .bool v)(h:cR P ρ B W n (aS v x y) s e s1):cR P ρ B W n (.cond c x y) s e s1:=by
 refine ⟨h.1,fun N f a w Q hN hr hq=> ?_⟩
 cases v
 ·exact wp_cond_false (ht N f a w hr) (h.2 N f a w Q hN hr hq)
 ·exact wp_cond_true (ht N f a w hr) (h.2 N f a w Q hN hr hq)
theorem cR.Ba{c:Code}{id:Nat}{s s1:ASt}(h:cR P ρ B W n c s .normal s1):cR P ρ B W n (.block id c) s .normal s1:=
 ⟨h.1,fun N f a w Q hN hr hq=>wp_block (h.2 N f a w _ hN hr fun f1 a1 w1 l1 o1 r1=>hq f1 a1 w1 l1 o1 r1)⟩
theorem cR.NT{c:Code}{id:Nat}{s s1:ASt}(h:cR P ρ B W n c s .ret s1):cR P ρ B W n (.block id c) s .ret s1:=
 ⟨h.1,fun N f a w Q hN hr hq=>wp_block (h.2 N f a w _ hN hr fun f1 a1 w1 l1 o1 r1=>hq f1 a1 w1 l1 o1 r1)⟩
theorem cR.IC{c:Code}{id:Nat}{s s1:ASt}(h:cR P ρ B W n c s (.exit id) s1):cR P ρ B W n (.block id c) s .normal s1:=
 ⟨h.1,fun N f a w Q hN hr hq=>wp_block (h.2 N f a w _ hN hr fun f1 a1 w1 l1 o1 r1=>by
  show Exit.inBlock id Q (.exit id) a1 w1;simp only [Exit.inBlock,if_true];exact hq f1 a1 w1 l1 o1 r1)⟩
theorem cR.NH{c:Code}{id i:Nat}(hi:i≠id){s s1:ASt}(h:cR P ρ B W n c s (.exit i) s1):cR P ρ B W n (.block id c) s (.exit i) s1:=
 ⟨h.1,fun N f a w Q hN hr hq=>wp_block (h.2 N f a w _ hN hr fun f1 a1 w1 l1 o1 r1=>by
  show Exit.inBlock id Q (.exit i) a1 w1;simp only [Exit.inBlock,hi,if_false];exact hq f1 a1 w1 l1 o1 r1)⟩
theorem cR.scope{c:Code}{s s1:ASt}{e:aM}(h:cR P ρ B W n c s e s1):cR P ρ B W n (.scope c) s e s1:=
 ⟨h.1,fun N f a w Q hN hr hq=>wp_scope_straight (h.2 N f a w _ hN hr fun f1 a1 w1 l1 o1 r1=>by
  have:=hq f1 a1 w1 l1 o1 r1;cases e<;>exact this)⟩
def fX(P:Program)(ρ:Env)(B:Nat->Prop)(W:World)(n:Nat)(c:Code)(L:Nat)(s:ASt)(e:aM)(s':ASt):Prop:=s.nx<=s'.nx/\
    ∀N f a w Q,s'.nx<=N->eh ρ B W n N f s a w->(∀ f' a' w',f.le f'->Outside f f' s.nx s'.nx->eh ρ B W n N f' s' a' w'->Q e.to a' w')->Code.rounds P c Q L a w
theorem fX.more{c:Code}{L:Nat}{s s1 s2:ASt}{e:aM}(h:cR P ρ B W n c s .normal s1)(k:fX P ρ B W n c L s1 e s2):fX P ρ B W n c (L+1) s e s2:=by
 refine ⟨Nat.le_trans h.1 k.1,fun N f a w Q hN hr hq=>h.2 N f a w _ (Nat.le_trans k.1 hN) hr fun f1 a1 w1 l1 o1 r1=> ?_⟩
 exact k.2 N f1 a1 w1 Q hN r1 fun f2 a2 w2 l2 o2 r2=>hq f2 a2 w2 (Ren.le_trans l1 l2) (o1.trans o2 h.1 k.1) r2
theorem fX.out{c:Code}{L:Nat}{s s1:ASt}{e:aM}(he:e≠ .normal)(h:cR P ρ B W n c s e s1):fX P ρ B W n c (L+1) s e s1:=by
 refine ⟨h.1,fun N f a w Q hN hr hq=>h.2 N f a w _ hN hr fun f1 a1 w1 l1 o1 r1=> ?_⟩
 have:=hq f1 a1 w1 l1 o1 r1;cases e with
 |normal=>exact absurd rfl he
 |exit i=>exact this
 |ret=>exact this
theorem cR.loop{c:Code}{L:Nat}{s s1:ASt}{e:aM}(h:fX P ρ B W n c L s e s1):cR P ρ B W n (.loop c) s e s1:=
 ⟨h.1,fun N f a w Q hN hr hq=>wp_loop_rounds L (h.2 N f a w Q hN hr hq)⟩
end
inductive Why where
 |num (n:Nat)
 |op (n:Nat) (o:Oper) (dec:Dec) (tm:T ab) (hp:T ah)
 |fn (n:Nat) (g:FuncId) (args:List ab)
 |ops (l:List Oper) (dec:Dec) (tm:T ab) (hp:T ah)
inductive Out where
 |bad (w:Why)
 |leaf (e:aM) (s:ASt)
 |split (b:BE) (y n:Out)
def Out.pick(ρ:Env):Out->Option (aM×ASt)
 | .bad _=>none
 | .leaf e s=>some (e,s)
 | .split b y n=>aS (b.ev ρ) (y.pick ρ) (n.pick ρ)
def Out.part:BE->Dec->(Dec->Out)->(Dec->Out)->Out
 | .not t,dec,y,n=>Out.part t dec n y
 |t,dec,y,n=> .split t (y ((t,true)::dec)) (n ((t,false)::dec))
theorem aR{ρ:Env}{dec:Dec}(h:dec.holds ρ){t:BE}{v:Bool}(ht:t.ev ρ=v):Dec.holds ρ ((t,v)::dec):=by
 intro p hp
 rcases List.mem_cons.1 hp with rfl |hp
 ·exact ht
 ·exact h p hp
theorem Out.jr{ρ:Env}{dec:Dec}(h:dec.holds ρ): ∀(t:BE) (y n:Dec->Out),∃dec':Dec,dec'.holds ρ/\(Out.part t dec y n).pick ρ=((aS (t.ev ρ) y n) dec').pick ρ:=by
 intro t
 have base: ∀(t:BE) (y n:Dec->Out),∃dec':Dec,dec'.holds ρ/\(Out.split t (y ((t,true)::dec)) (n ((t,false)::dec))).pick ρ=((aS (t.ev ρ) y n) dec').pick ρ:=by
  intro t y n;cases ht:t.ev ρ
  ·exact ⟨_,aR h ht,by simp only [Out.pick,ht,aS]⟩
  ·exact ⟨_,aR h ht,by simp only [Out.pick,ht,aS]⟩
 induction t with
 |not t ih=>
  intro y n;obtain ⟨d,h1,h2⟩:=ih n y;refine ⟨d,h1,?_⟩;show (Out.part t dec n y).pick ρ=_;rw [h2];simp only [BE.ev];cases t.ev ρ<;>rfl
 |lit b=>exact base _
 |var i=>exact base _
 |eq a b=>exact base _
 |lt a b=>exact base _
def Out.bind:Out->Dec->(Dec->aM->ASt->Out)->Out
 | .bad w,_,_=> .bad w
 | .leaf e s,dec,k=>k dec e s
 | .split b y n,dec,k=> .split b (y.bind ((b,true)::dec) k) (n.bind ((b,false)::dec) k)
theorem Out.hJ{ρ:Env}{k:Dec->aM->ASt->Out}{r:aM×ASt}: ∀ {o:Out} {dec:Dec},dec.holds ρ->(o.bind dec k).pick ρ=some r-> ∃e s dec',Dec.holds ρ dec'/\o.pick ρ=some (e,s)/\(k dec' e s).pick ρ=some r:=by
 intro o
 induction o with
 |bad w=>intro dec _ h; cases h
 |leaf e s=>intro dec hd h; exact ⟨e,s,dec,hd,rfl,h⟩
 |split b y n ihy ihn=>
  intro dec hd h;simp only [Out.bind,Out.pick] at h ⊢;cases hb:b.ev ρ
  ·rw [hb] at h;exact ihn (aR hd hb) h
  ·rw [hb] at h;exact ihy (aR hd hb) h
def Out.merge:Out->Out
 | .bad w=> .bad w
 | .leaf e s=> .leaf e s
 | .split b y n=>
   match Out.merge y with
   | .leaf e s=>
     match Out.merge n with
     | .leaf e' s'=>
       match kO e e' with
       |true=> .leaf e (ASt.mrg b s s')
       |false=> .split b (.leaf e s) (.leaf e' s')
     | .bad w=> .split b (.leaf e s) (.bad w)
     | .split c p q=> .split b (.leaf e s) (.split c p q)
   | .bad w=> .split b (.bad w) (Out.merge n)
   | .split c p q=> .split b (.split c p q) (Out.merge n)
theorem Out.Jb{ρ:Env}: ∀ {o:Out} {e:aM} {s:ASt},o.merge.pick ρ=some (e,s)-> ∃s',o.pick ρ=some (e,s')/\dP ρ s' s:=by
 intro o
 induction o with
 |bad w=>intro e s h; cases h
 |leaf e s=>intro e' s' h; cases h; exact ⟨s,rfl,dP.refl ρ s⟩
 |split b y n ihy ihn=>
  intro e s h
  have plain:(Out.split b y.merge n.merge).pick ρ=some (e,s)-> ∃s',(Out.split b y n).pick ρ=some (e,s')/\dP ρ s' s:=by
   intro h;simp only [Out.pick] at h ⊢;cases hb:b.ev ρ
   ·rw [hb] at h;exact ihn h
   ·rw [hb] at h;exact ihy h
  simp only [Out.merge] at h;split at h
  ·rename_i e1 s1 h1;split at h
   ·rename_i e2 s2 h2;split at h
    ·rename_i he;have he:=j5 he;subst he;cases h;obtain ⟨p,p1,p2⟩:=ihy (e:=e) (s:=s1) (by rw [h1]; rfl)
     obtain ⟨q,q1,q2⟩:=ihn (e:=e) (s:=s2) (by rw [h2]; rfl)
     refine ⟨aS (b.ev ρ) p q,?_,dP.trans ?_ (ASt.hU rfl s1 s2)⟩
     ·simp only [Out.pick];cases b.ev ρ<;>first |exact p1 |exact q1
     ·cases b.ev ρ<;>first |exact p2 |exact q2
    ·exact plain (by rw [h1,h2]; exact h)
   ·rename_i h2;exact plain (by rw [h1,h2]; exact h)
   ·rename_i h2;exact plain (by rw [h1,h2]; exact h)
  ·rename_i h1;exact plain (by rw [h1]; exact h)
  ·rename_i h1;exact plain (by rw [h1]; exact h)
def fl:Code->List Nat
 | .region _ ops _=>ops.toList.filterMap (·.dst)
 | .seq a b=>fl a++fl b
 | .cond _ a b=>fl a++fl b
 | .block _ c=>fl c
 | .loop c=>fl c
 | .scope c=>fl c
 |_=>[]
def nub:List Nat->T Unit->List Nat
 | [],_=>[]
 |k::l,t=>
  match t.get k with
  |some _=>nub l t
  |none=>k::nub l (t.set k ())
theorem S4{k:Nat}: ∀(l:List Nat) (t:T Unit),k∈l->k∈nub l t\/t.get k=some ():=by
 intro l
 induction l with
 |nil=>intro t h; cases h
 |cons x l ih=>
  intro t h;unfold nub;split
  ·rename_i u hu
   rcases List.mem_cons.1 h with rfl |h
   ·exact .inr hu
   ·exact ih t h
  ·rcases List.mem_cons.1 h with rfl |h
   ·exact .inl (List.mem_cons_self ..)
   ·rcases ih _ h with h1 |h1
    ·exact .inl (List.mem_cons_of_mem _ h1)
    ·rcases T.aB h1 with ⟨rfl,_⟩ | ⟨_,h1⟩
     ·exact .inl (List.mem_cons_self ..)
     ·exact .inr h1
def iL(c:Code):List Nat:=nub (fl c) .nil
theorem MF{c:Code}{k:Nat}(h:k∈fl c):k∈iL c:=by
 rcases S4 _ .nil h with h |h
 ·exact h
 ·rw [T.get_nil] at h; cases h
def jI:List Nat->Bool
 | []=>true
 |k::l=>
  match Nat.blt k 1000000 with
  |true=>jI l
  |false=>false
theorem DG: ∀ {l:List Nat},jI l=true-> ∀k∈l,k<1000000:=by
 intro l
 induction l with
 |nil=>intro _ k hk; cases hk
 |cons x l ih=>
  intro h k hk;unfold jI at h;split at h
  ·rename_i hx
   rcases List.mem_cons.1 hk with rfl |hk
   ·simpa [Nat.blt_eq] using hx
   ·exact ih h k hk
  ·cases h
def Bz(hs:Nat->Bool):List Code->Bool
 | []=>true
 |b::l=>
  match hs (Code.key b) with
  |true=>false
  |false=>Bz hs l
theorem Az{hs:Nat->Bool}: ∀ {l:List Code},Bz hs l=true ↔ ∀b∈l,hs (Code.key b)=false:=by
 intro l
 induction l with
 |nil=>exact ⟨fun _ b hb=>(by cases hb),fun _=>rfl⟩
 |cons x l ih=>
  unfold Bz;cases hx:hs (Code.key x)
  ·exact ih.trans ⟨fun h b hb=>(List.mem_cons.1 hb).elim (fun e=>by rw [e]; exact hx) (h b),fun h b hb=>h b (List.mem_cons_of_mem _ hb)⟩
  ·exact ⟨fun h=>(by cases h),fun h=>by have:=h x (List.mem_cons_self ..); rw [hx] at this; cases this⟩
def pQ(hs:Nat->Bool)(c:Code):Bool:=
 match jI (fl c) with
 |true=>Bz hs (cS c)
 |false=>false
def br(D:List Nat)(t t':T ab):Prop:= ∀k,k ∉ D-> ∀v,t.get k=some v->t'.get k=some v
theorem br.refl(D:List Nat)(t:T ab):br D t t:=fun _ _ _ h=>h
theorem br.trans{D:List Nat}{a b c:T ab}(h:br D a b)(k:br D b c):br D a c:=fun i hi v hv=>k i hi v (h i hi v hv)
theorem br.mono{D D':List Nat}{a b:T ab}(h:br D a b)(hD: ∀k,k∈D->k∈D'):br D' a b:=fun i hi v hv=>h i (fun hm=>hi (hD i hm)) v hv
def AZ(b:BE)(p q:T ab):List Nat->T ab->T ab
 | [],t=>t
 |k::l,t=>AZ b p q l (match p.get k with
  |some x=>
   match q.get k with
   |some y=>
    match ab.zq b x y with
    |some z=>t.set k z
    |none=>t.del k
   |none=>t.del k
  |none=>
   match t.get k with
   |some _=>t.del k
   |none=>t)
theorem Rd{b:BE}{p q:T ab}: ∀(D:List Nat) (t:T ab) (k:Nat) (z:ab),(AZ b p q D t).get k=some z->(∃ x y,p.get k=some x/\q.get k=some y/\ab.zq b x y=some z)\/(k ∉ D/\t.get k=some z):=by
 intro D
 induction D with
 |nil=>intro t k z h; exact .inr ⟨by simp,h⟩
 |cons i D ih=>
  intro t k z h;unfold AZ at h
  rcases ih _ k z h with h | ⟨hn,h⟩
  ·exact .inl h
  ·have put: ∀ {P:Prop},(k≠i/\t.get k=some z->P)->(∃ x y,p.get k=some x/\q.get k=some y/\ab.zq b x y=some z)\/(k≠i/\t.get k=some z)->(∃ x y,p.get k=some x/\q.get k=some y/\ab.zq b x y=some z)\/P:=fun hP h=>h.imp id hP
   refine put (fun h=>(⟨by simp [h.1,hn],h.2⟩:k ∉ i::D/\t.get k=some z)) ?_
   split at h
   ·rename_i x hx;split at h
    ·rename_i y hy;split at h
     ·rename_i w hw
      rcases T.aB h with ⟨rfl,rfl⟩ |h
      ·exact .inl ⟨x,y,hx,hy,hw⟩
      ·exact .inr h
     ·exact .inr (T.eU h)
    ·exact .inr (T.eU h)
   ·split at h
    ·exact .inr (T.eU h)
    ·rename_i ht;refine .inr ⟨?_,h⟩;intro e;rw [e] at h;rw [ht] at h;cases h
theorem T.Ir{α:Type}{t:T α}{k j:Nat}(hk:k<4611686018427387904)(hj:j≠k):(t.del k).get j=t.get j:=by
 have h:(2:Nat)^64=18446744073709551616:=by decide
 have e:=T.oQ (none:Option α) 64 t k j (by omega) hj
 rw [<- T.vw,<-T.get_eq,<-T.get_eq] at e;exact e
theorem zV{b:BE}{p q:T ab}: ∀(D:List Nat) (t:T ab),(∀ k∈D,k<1000000)->br D t (AZ b p q D t):=by
 intro D
 induction D with
 |nil=>intro t _; exact br.refl _ _
 |cons i D ih=>
  intro t hD k hk v hv;unfold AZ;have hki:k≠i:=fun e=>hk (e▸List.mem_cons_self ..)
  have hi:=hD i (List.mem_cons_self ..);refine ih _ (fun k hk=>hD k (List.mem_cons_of_mem _ hk)) k (fun h=>hk (List.mem_cons_of_mem _ h)) v ?_
  split
  ·split
   ·split
    ·rw [T.bp (by omega) hki]; exact hv
    ·rw [T.Ir (by omega) hki]; exact hv
   ·rw [T.Ir (by omega) hki]; exact hv
  ·split
   ·rw [T.Ir (by omega) hki]; exact hv
   ·exact hv
def ASt.AZ(b:BE)(base:T ab)(D:List Nat)(s t:ASt):ASt:=
 ⟨Go.Sx.AZ b s.tm t.tm D base,T.mrg (ah.mrg b) s.hp t.hp,match Nat.ble s.nx t.nx with |true=>t.nx |false=>s.nx⟩
def Out.l8(base:T ab)(D:List Nat):Out->Out
 | .bad w=> .bad w
 | .leaf e s=> .leaf e s
 | .split b y n=>
   match Out.l8 base D y with
   | .leaf e s=>
     match Out.l8 base D n with
     | .leaf e' s'=>
       match kO e e' with
       |true=> .leaf e (ASt.AZ b base D s s')
       |false=> .split b (.leaf e s) (.leaf e' s')
     | .bad w=> .split b (.leaf e s) (.bad w)
     | .split c p q=> .split b (.leaf e s) (.split c p q)
   | .bad w=> .split b (.bad w) (Out.l8 base D n)
   | .split c p q=> .split b (.split c p q) (Out.l8 base D n)
theorem Out.ED{ρ:Env}{base:T ab}{D:List Nat}(hD: ∀k∈D,k<1000000): ∀ {o:Out},(∀ e s,o.pick ρ=some (e,s)->br D base s.tm)-> ∀ {e:aM} {s:ASt},(o.l8 base D).pick ρ=some (e,s)-> ∃s',o.pick ρ=some (e,s')/\dP ρ s' s/\br D base s.tm:=by
 intro o
 induction o with
 |bad w=>intro _ e s h; cases h
 |leaf e s=>intro hk e' s' h; cases h; exact ⟨s,rfl,dP.refl ρ s,hk _ _ rfl⟩
 |split b y n ihy ihn=>
  intro hk e s h;have hky:b.ev ρ=true-> ∀e s,y.pick ρ=some (e,s)->br D base s.tm:=fun hb e s h=>hk e s (by simp only [Out.pick,hb,aS]; exact h)
  have hkn:b.ev ρ=false-> ∀e s,n.pick ρ=some (e,s)->br D base s.tm:=fun hb e s h=>hk e s (by simp only [Out.pick,hb,aS]; exact h)
  have plain:(Out.split b (y.l8 base D) (n.l8 base D)).pick ρ=some (e,s)-> ∃s',(Out.split b y n).pick ρ=some (e,s')/\dP ρ s' s/\br D base s.tm:=by
   intro h;simp only [Out.pick] at h ⊢;cases hb:b.ev ρ
   ·rw [hb] at h;exact ihn (hkn hb) h
   ·rw [hb] at h;exact ihy (hky hb) h
  simp only [Out.l8] at h;split at h
  ·rename_i e1 s1 h1;split at h
   ·rename_i e2 s2 h2;split at h
    ·rename_i he;have he:=j5 he;subst he;cases h
     have join: ∀p,(Out.split b y n).pick ρ=some (e,p)->dP ρ p (aS (b.ev ρ) s1 s2)->dP ρ p (ASt.AZ b base D s1 s2):=by
      intro p hp hc;have full:=dP.trans hc (ASt.hU rfl s1 s2);refine ⟨fun k z hz=> ?_,full.hp,full.nx⟩
      rcases Rd D base k z hz with ⟨x,y',g1,g2,g3⟩ | ⟨hkD,hz⟩
      ·have hx:(aS (b.ev ρ) s1 s2).tm.get k=some (aS (b.ev ρ) x y'):=by cases b.ev ρ<;>first |exact g1 |exact g2
       obtain ⟨u,h6,h7⟩:=hc.tm k _ hx;exact ⟨u,h6,fun f w hw=>ab.hU x y' z _ f w (by rw [<- ab.qR]; exact g3) rfl (h7 f w hw)⟩
      ·exact ⟨z,hk e p hp k hkD z hz,fun _ _ h=>h⟩
     cases hb:b.ev ρ
     ·obtain ⟨q,q1,q2,_⟩:=ihn (hkn hb) (e:=e) (s:=s2) (by rw [h2]; rfl)
      have hp:(Out.split b y n).pick ρ=some (e,q):=by simp only [Out.pick,hb,aS]; exact q1
      exact ⟨q,hp,join q hp (by rw [hb]; exact q2),zV D base hD⟩
     ·obtain ⟨p,p1,p2,_⟩:=ihy (hky hb) (e:=e) (s:=s1) (by rw [h1]; rfl)
      have hp:(Out.split b y n).pick ρ=some (e,p):=by simp only [Out.pick,hb,aS]; exact p1
      exact ⟨p,hp,join p hp (by rw [hb]; exact p2),zV D base hD⟩
    ·exact plain (by rw [h1,h2]; exact h)
   ·rename_i h2;exact plain (by rw [h1,h2]; exact h)
   ·rename_i h2;exact plain (by rw [h1,h2]; exact h)
  ·rename_i h1;exact plain (by rw [h1]; exact h)
  ·rename_i h1;exact plain (by rw [h1]; exact h)
def Out.tj(ok:Bool)(base:T ab)(D:List Nat)(o:Out):Out:=
 match ok with
 |true=>o.l8 base D
 |false=>o.merge
abbrev dS:=Dec->ASt->Out
def x4:BE->Bool->Dec->Dec
 | .not t,v,d=>x4 t (!v) d
 |t,v,d=>(t,v)::d
theorem tt{ρ:Env}: ∀ {t:BE} {v:Bool} {d:Dec},t.ev ρ=v->d.holds ρ->(x4 t v d).holds ρ:=by
 intro t
 induction t with
 |not t ih=>
  intro v d h hd;refine ih ?_ hd;have:(!(t.ev ρ))=v:=h;rw [<- this,Bool.not_not]
 |_=>intro v d h hd; exact aR hd h
def aaw(x y:dS):dS:=fun dec s=>(x dec s).bind dec fun dec' e s'=>
 match e with
 | .normal=>y dec' s'
 | .exit i=> .leaf (.exit i) s'
 | .ret=> .leaf .ret s'
def Jz(bd:Bd)(c:Operand)(x y:dS):dS:=fun dec s=>
 match aev s.tm c with
 |some (.bool t)=>
  match settle dec t with
  |some true=>x dec s
  |some false=>y dec s
  |none=>
   match prove bd 40 dec t with
   |some true=>x (x4 t true dec) s
   |some false=>y (x4 t false dec) s
   |none=>Out.part t (facts bd t dec) (fun d=>x d s) (fun d=>y d s)
 |_=> .bad (.num 101)
def jG(id:Nat)(x:dS):dS:=fun dec s=>(x dec s).bind dec fun _ e s'=>
 match e with
 | .exit i=>
   match Nat.beq i id with
   |true=> .leaf .normal s'
   |false=> .leaf (.exit i) s'
 | .normal=> .leaf .normal s'
 | .ret=> .leaf .ret s'
def Pr(cO ok:Bool)(D:List Nat)(id:Nat)(x:dS):dS:=fun dec s=>
 match cO with
 |true=>jG id x dec s
 |false=>Out.tj ok s.tm D (jG id x dec s)
def qJ(ok:Bool)(D:List Nat)(x:dS):Nat->dS
 |0,_,_=> .bad (.num 102)
 |L+1,dec,s=>(Out.tj ok s.tm D (x dec s)).bind dec fun dec' e s'=>
  match e with
  | .normal=>qJ ok D x L dec' s'
  | .exit i=> .leaf (.exit i) s'
  | .ret=> .leaf .ret s'
def VX:Option (aM×ASt)->Out
 |some (e,s)=> .leaf e s
 |none=> .bad (.num 103)
def Rx:BE->Bool->Option IE
 | .lt c d,true=>some (.sub (.sub d c) (.lit 1))
 | .lt c d,false=>some (.sub c d)
 |_,_=>none
theorem P9{ρ:Env}{b:BE}{v:Bool}{e:IE}(h:Rx b v=some e)(hv:b.ev ρ=v):0<=e.ev ρ:=by
 unfold Rx at h;split at h
 ·rename_i c d;cases h;have hv:decide (c.ev ρ<d.ev ρ)=true:=hv;have hv:=of_decide_eq_true hv;show 0<=d.ev ρ-c.ev ρ-1;omega
 ·rename_i c d;cases h;have hv:decide (c.ev ρ<d.ev ρ)=false:=hv;have hv:=of_decide_eq_false hv;show 0<=c.ev ρ-d.ev ρ;omega
 ·cases h
def lts:Dec->List IE
 | []=>[]
 | (b,v)::l=>
   match Rx b v with
   |some e=>e::lts l
   |none=>lts l
theorem Sd{ρ:Env}: ∀ {l:Dec},l.holds ρ-> ∀e∈lts l,0<=e.ev ρ:=by
 intro l
 induction l with
 |nil=>intro _ e he; cases he
 |cons p l ih=>
  obtain ⟨b,v⟩:=p;intro hd e he;have hl:Dec.holds ρ l:=fun p hp=>hd p (List.mem_cons_of_mem _ hp)
  unfold lts at he;split at he
  ·rename_i x hx
   rcases List.mem_cons.1 he with rfl |he
   ·exact P9 hx (hd _ (List.mem_cons_self ..))
   ·exact ih hl e he
  ·exact ih hl e he
def wK(bd:Bd)(g:IE):List IE->Bool
 | []=>false
 |f::l=>
  match l.any fun x=>geK bd g (.add f x) 0 with
  |true=>true
  |false=>wK bd g l
theorem Af{ρ:Env}{bd:Bd}(hρ:ρ.ok bd){g:IE}: ∀ {l:List IE},(∀ e∈l,0<=e.ev ρ)->wK bd g l=true->0<=g.ev ρ:=by
 intro l
 induction l with
 |nil=>intro _ h; cases h
 |cons f l ih=>
  intro hl h;unfold wK at h;split at h
  ·rename_i hx;obtain ⟨x,h1,h2⟩:=List.any_eq_true.1 hx;have q1:=hl f (List.mem_cons_self ..);have q2:=hl x (List.mem_cons_of_mem _ h1);have q3:=xA hρ h2;have e:(IE.add f x).ev ρ=f.ev ρ+x.ev ρ:=rfl;rw [e] at q3;omega
  ·exact ih (fun e he=>hl e (List.mem_cons_of_mem _ he)) h
def AS(bd:Bd)(a b:IE)(dec:Dec):Option Bool:=
 match Nat.ble (lts dec).length 10 with
 |true=>
  match wK bd (.sub (.sub b a) (.lit 1)) (lts dec) with
  |true=>some true
  |false=>
   match wK bd (.sub a b) (lts dec) with
   |true=>some false
   |false=>none
 |false=>none
theorem Io{ρ:Env}{bd:Bd}(hρ:ρ.ok bd){a b:IE}{u:Bool}{dec:Dec}(hd:dec.holds ρ)(h:AS bd a b dec=some u):(BE.lt a b).ev ρ=u:=by
 unfold AS at h;split at h
 ·split at h
  ·rename_i h1;cases h;have q:0<=b.ev ρ-a.ev ρ-1:=Af hρ (Sd hd) h1;exact decide_eq_true (by omega)
  ·split at h
   ·rename_i h1;cases h;have q:0<=a.ev ρ-b.ev ρ:=Af hρ (Sd hd) h1;exact decide_eq_false (by omega)
   ·cases h
 ·cases h
def wz(bd:Bd)(k:Nat)(dec:Dec)(b:BE):Option Bool:=
 match prove bd k dec b with
 |some v=>some v
 |none=>
  match b with
  | .lt x y=>
    match lu bd x y dec with
    |some v=>some v
    |none=>AS bd x y dec
  |_=>none
theorem tf{ρ:Env}{bd:Bd}(hρ:ρ.ok bd)(k:Nat)(dec:Dec)(b:BE)(v:Bool)(hd:dec.holds ρ)(h:wz bd k dec b=some v):b.ev ρ=v:=by
 unfold wz at h;split at h
 ·rename_i u hu;cases h;exact cU hρ k dec b _ hd hu
 ·split at h
  ·split at h
   ·rename_i u hu;cases h;exact fW hρ dec hd hu
   ·exact Io hρ hd h
  ·cases h
def jH(bd:Bd)(t:BE)(v:Bool):Dec->Dec->Bool
 |_,[]=>false
 |pre,(b,u)::l=>
  match b.choice with
  |none=>jH bd t v ((b,u)::pre) l
  |some _=>
   match prove bd 6 ((t,v)::List.append pre l) b with
   |some u'=>
    match bEq u u' with
    |false=>true
    |true=>jH bd t v ((b,u)::pre) l
   |none=>jH bd t v ((b,u)::pre) l
theorem uj{ρ:Env}{bd:Bd}(hρ:ρ.ok bd){t:BE}{v:Bool}: ∀(l pre:Dec),Dec.holds ρ pre->Dec.holds ρ l->jH bd t v pre l=true->t.ev ρ= !v:=by
 intro l
 induction l with
 |nil=>intro pre _ _ h; cases h
 |cons p l ih=>
  intro pre hp hl h;obtain ⟨b,u⟩:=p;have hb:b.ev ρ=u:=hl (b,u) (List.mem_cons_self ..);have hl':Dec.holds ρ l:=fun q hq=>hl q (List.mem_cons_of_mem _ hq)
  have next:=ih ((b,u)::pre) (aR hp hb) hl';unfold jH at h;split at h
  ·exact next h
  ·split at h
   ·rename_i u' hu;split at h
    ·rename_i he;cases ht:t.ev ρ with
     |true=>
      cases v with
      |false=>rfl
      |true=>
       have:=cU hρ 6 _ b u' (aR (show Dec.holds ρ (List.append pre l) from fun q hq=>(List.mem_append.1 hq).elim (hp q) (hl' q)) ht) hu
       rw [hb] at this;subst this;cases u<;>cases he
     |false=>
      cases v with
      |true=>rfl
      |false=>
       have:=cU hρ 6 _ b u' (aR (show Dec.holds ρ (List.append pre l) from fun q hq=>(List.mem_append.1 hq).elim (hp q) (hl' q)) ht) hu
       rw [hb] at this;subst this;cases u<;>cases he
    ·exact next h
   ·exact next h
def tu(bd:Bd)(k:Nat)(dec:Dec)(b:BE):Option Bool:=
 match wz bd k dec b with
 |some v=>some v
 |none=>
  match jH bd b false [] dec with
  |true=>some true
  |false=>
   match jH bd b true [] dec with
   |true=>some false
   |false=>none
theorem nW{ρ:Env}{bd:Bd}(hρ:ρ.ok bd)(k:Nat)(dec:Dec)(b:BE)(v:Bool)(hd:dec.holds ρ)(h:tu bd k dec b=some v):b.ev ρ=v:=by
 unfold tu at h;split at h
 ·rename_i u hu;cases h;exact tf hρ k dec b _ hd hu
 ·split at h
  ·rename_i hg;cases h;exact uj hρ dec [] (fun p hp=>by cases hp) hd hg
  ·split at h
   ·rename_i hg;cases h;exact uj hρ dec [] (fun p hp=>by cases hp) hd hg
   ·cases h
structure Learnt where
 any:Bool
 dec:Dec
 left:Option BE
def pw(bd:Bd)(dec:Dec):List BE->Learnt
 | []=>⟨false,dec,none⟩
 |t::l=>
  match settle dec t with
  |some _=>pw bd dec l
  |none=>
   match tu bd 40 dec t with
   |some v=>
    match pw bd dec l with
    | ⟨_,d,q⟩=>⟨true,x4 t v d,q⟩
   |none=>
    match pw bd dec l with
    | ⟨a,d,_⟩=>⟨a,d,some t⟩
theorem ni{ρ:Env}{bd:Bd}(hρ:ρ.ok bd){dec:Dec}(hd:dec.holds ρ): ∀(l:List BE),(pw bd dec l).dec.holds ρ:=by
 intro l
 induction l with
 |nil=>exact hd
 |cons t l ih=>
  unfold pw;split
  ·exact ih
  ·split
   ·rename_i v hv;exact tt (nW hρ 40 dec t v hd hv) ih
   ·exact ih
def DP(tm:T ab)(all:List Oper):Option (Nat×Bool)->List BE
 |none=>[]
 |some (j,_)=>
  match pX all j with
  |some d=>
   match tm.get d with
   |some (.bool t)=>[t]
   |_=>[]
  |none=>[]
mutual
/-- What the equality of two values asks. -/
def askEq(bd:Bd):ab->ab->List BE
 | .int _ x,.int _ y=>[mkEq bd x y]
 | .bool x,.bool y=>[x,y]
 | .agg l,.agg m=>askEqs bd l m
 | .strS _ l,.strS _ m=>[mkEq bd l m]
 | .strS _ l,.str m=>[mkEq bd l (.lit (.ofNat m.length))]
 | .str l,.strS _ m=>[mkEq bd (.lit (.ofNat l.length)) m]
 |_,_=>[]
def askEqs(bd:Bd):List ab->List ab->List BE
 |x::l,y::m=>askEq bd x y++askEqs bd l m
 |_,_=>[]
end
def ji(bd:Bd)(run:Dec->ASt->Option (aM×ASt))(ask:Dec->ASt->List BE)(why:Dec->ASt->Why):Nat->dS
 |0,dec,s=>VX (run dec s)
 |k+1,dec,s=>
  match run dec s with
  |some r=> .leaf r.1 r.2
  |none=>
   match pw bd dec (ask dec s) with
   | ⟨true,d,_⟩=>ji bd run ask why k d s
   | ⟨false,_,some t⟩=>Out.part t (facts bd t dec) (fun d=>ji bd run ask why k d s) (fun d=>ji bd run ask why k d s)
   | ⟨false,_,none⟩=> .bad (why dec s)
abbrev fh:=Dec->FuncId->List ab->T ah->Nat->Out
def GA(C:Ctx)(tr:fh)(dec:Dec)(o:Oper)(tm:T ab)(hp:T ah)(nx:Nat)(k:Dec->T ab->T ah->Nat->Out):Out:=
 match o.op with
 | .call c=>
   match oC (C.with dec) hp (aev tm) c with
   |some (g,args)=>
    match C.fn.get g with
    |some fn=>
     match wi fn with
     |true=>(tr dec g args hp nx).bind dec fun d _ s=>
      match s.tm.get 0 with
      |some v=>k d (qt tm o.dst (some v)) s.hp s.nx
      |none=> .bad (.num 105)
     |false=> .bad (.op 106 o dec tm hp)
    |none=> .bad (.op 107 o dec tm hp)
   |none=> .bad (.op 108 o dec tm hp)
 |_=> .bad (.op 109 o dec tm hp)
def gT(C:Ctx)(call:Dec->bV)(tr:fh)(askg:T ab->Option (Nat×Bool)->List BE)(asko:Dec->Oper->T ab->T ah->Nat->List BE)(n:Nat)(all:List Oper)(o:Oper)(k:Dec->T ab->T ah->Nat->Out):Nat->Dec->T ab->T ah->Nat->Out
 |0,_,_,_,_=> .bad (.num 110)
 |f+1,dec,tm,hp,nx=>
  match i5 n o.dst with
  |false=> .bad (.num 111)
  |true=>
   match lY (C.with dec) tm all o.guard with
   |some false=>k dec (qt tm o.dst none) hp nx
   |some true=>
    match mq (C.with dec) (call dec) hp nx (aev tm) o.op with
    |some (r,hp',nx')=>k dec (qt tm o.dst r) hp' nx'
    |none=>
     match pw C.bd dec (asko dec o tm hp nx) with
     | ⟨true,d,_⟩=>gT C call tr askg asko n all o k f d tm hp nx
     | ⟨false,_,some t⟩=>Out.part t (facts C.bd t dec) (fun d=>gT C call tr askg asko n all o k f d tm hp nx) (fun d=>gT C call tr askg asko n all o k f d tm hp nx)
     | ⟨false,_,none⟩=>GA C tr dec o tm hp nx k
   |none=>
    match pw C.bd dec (askg tm o.guard) with
    | ⟨true,d,_⟩=>gT C call tr askg asko n all o k f d tm hp nx
    | ⟨false,_,some t⟩=>Out.part t (facts C.bd t dec) (fun d=>gT C call tr askg asko n all o k f d tm hp nx) (fun d=>gT C call tr askg asko n all o k f d tm hp nx)
    | ⟨false,_,none⟩=> .bad (.op 112 o dec tm hp)
def N1(C:Ctx)(call:Dec->bV)(tr:fh)(askg:T ab->Option (Nat×Bool)->List BE)(asko:Dec->Oper->T ab->T ah->Nat->List BE)(n:Nat)(all:List Oper):List Oper->Dec->T ab->T ah->Nat->Out
 | []=>fun _ tm hp nx=> .leaf .normal ⟨tm,hp,nx⟩
 |o::l=>gT C call tr askg asko n all o (N1 C call tr askg asko n all l) 60
def Du(b ok:Bool)(D:List Nat)(base:T ab)(o:Out):Out:=match b with |true=>Out.tj ok base D o |false=>o
def ug(bd:Bd)(lp:Dec->ASt->Option (aM×ASt))(ask:Dec->ASt->List BE)(rounds:dS):Nat->dS
 |0,dec,s=>rounds dec s
 |k+1,dec,s=>
  match lp dec s with
  |some r=> .leaf r.1 r.2
  |none=>
   match pw bd dec (ask dec s) with
   | ⟨true,d,_⟩=>ug bd lp ask rounds k d s
   | ⟨false,_,some t⟩=>Out.part t (facts bd t dec) (fun d=>ug bd lp ask rounds k d s) (fun d=>ug bd lp ask rounds k d s)
   | ⟨false,_,none⟩=>rounds dec s
def PL(ok:Bool)(D:List Nat)(x next:dS):dS:=fun dec s=>(Out.tj ok s.tm D (x dec s)).bind dec fun dec' e s'=>
 match e with
 | .normal=>next dec' s'
 | .exit i=> .leaf (.exit i) s'
 | .ret=> .leaf .ret s'
def B6(bd:Bd)(lp:Dec->ASt->Option (aM×ASt))(ask:Dec->ASt->List BE)(ok:Bool)(D:List Nat)(x:dS):Nat->dS
 |0=>fun _ _=> .bad (.num 102)
 |L+1=>ug bd lp ask (PL ok D x (B6 bd lp ask ok D x L)) 20
structure Lps where
 has:Nat->Bool:=fun _=>false
 run:Nat->Nat->Dec->ASt->Option (aM×ASt):=fun _ _ _ _=>none
 ask:Nat->Dec->ASt->List BE:=fun _ _ _=>[]
def Og(h:Bool)(known rounds:dS):dS:=match h with |true=>known |false=>rounds
def uf(C:Ctx)(call call1:Dec->bV)(tr:fh)(ask:Dec->List Oper->ASt->List BE)(asko:Dec->Oper->T ab->T ah->Nat->List BE)(lps:Lps)(n L:Nat)(pol:Nat->Bool)(c:Code):dS:=
 Code.rec (motive:=fun _=>dS)
  (fun _ s=> .leaf .normal s)
  (fun _ ops draw=>
   match draw with
   |true=>ji C.bd (fun dec s=>ov (C.with dec) (call dec) (xp (C.with dec)) n ops.toList true s) (fun dec s=>ask dec ops.toList s) (fun dec s=> .ops ops.toList dec s.tm s.hp) 8
   |false=>fun dec s=>N1 C call1 tr (fun tm g=>DP tm ops.toList g) asko n ops.toList ops.toList dec s.tm s.hp s.nx)
  (fun _ _ x y=>aaw x y)
  (fun c a b x y dec s=>Du (pol (Code.key (.cond c a b))) (pQ lps.has (.cond c a b)) (iL (.cond c a b)) s.tm (Jz C.bd c x y dec s))
  (fun id c x=>Pr (pol (Nat.add 3000000 id)) (pQ lps.has c) (iL c) id x)
  (fun c x=>Og (lps.has (Code.key c)) (B6 C.bd (lps.run n (Code.key c)) (lps.ask (Code.key c)) (pQ lps.has c) (iL c) x L) (qJ (pQ lps.has c) (iL c) x L))
  (fun _ _ _ _ _ _ _ _=> .bad (.num 113))
  (fun id _ s=> .leaf (.exit id) s)
  (fun _ x=>x)
  (fun _ _ s=> .leaf .normal s)
  (fun _ _ _=> .bad (.num 114))
  (fun _ s=> .leaf .ret s)
  (fun _ _ _=> .bad (.num 115)) c
section
variable{P:Program}{ρ:Env}{B:Nat->Prop}{W:World}{n:Nat}{hs:Nat->Bool}
def Low(hs:Nat->Bool)(c:Code):Prop:=(∀ k∈fl c,k<1000000)/\ ∀b∈cS c,hs (Code.key b)=false
theorem S9{c:Code}(h:pQ hs c=true):Low hs c:=by
 unfold pQ at h;split at h
 ·rename_i h1;exact ⟨DG h1,Az.1 h⟩
 ·cases h
def OD(P:Program)(ρ:Env)(B:Nat->Prop)(W:World)(n:Nat)(lps:Lps)(c:Code):Prop:=
 ∀b∈cS c,∀dec,Dec.holds ρ dec-> ∀s e s',lps.run n (Code.key b) dec s=some (e,s')-> ∃m,fX P ρ B W n b m s e s'
def OOk(P:Program)(ρ:Env)(B:Nat->Prop)(W:World)(n:Nat)(hs:Nat->Bool)(c:Code)(x:dS):Prop:=
 ∀dec,Dec.holds ρ dec-> ∀s e s',(x dec s).pick ρ=some (e,s')->cR P ρ B W n c s e s'/\(Low hs c->br (fl c) s.tm s'.tm)
theorem Fs{c:Code}{k:Nat}(h:k∈iL c):k∈fl c:=by
 have key: ∀(l:List Nat) (t:T Unit),k∈nub l t->k∈l:=by
  intro l
  induction l with
  |nil=>intro t h; cases h
  |cons x l ih=>
   intro t h;unfold nub at h;split at h
   ·exact List.mem_cons_of_mem _ (ih t h)
   ·rcases List.mem_cons.1 h with rfl |h
    ·exact List.mem_cons_self ..
    ·exact List.mem_cons_of_mem _ (ih _ h)
 exact key _ _ h
theorem br.toN{c:Code}{a b:T ab}(h:br (fl c) a b):br (iL c) a b:=h.mono fun k hk=>MF hk
theorem br.ofN{c:Code}{a b:T ab}(h:br (iL c) a b):br (fl c) a b:=h.mono fun k hk=>Fs hk
theorem oI{c:Code}{o:Out}{s:ASt}(hk: ∀e s',o.pick ρ=some (e,s')->cR P ρ B W n c s e s'/\(Low hs c->br (fl c) s.tm s'.tm)){e:aM}{s':ASt}(h:(Out.tj (pQ hs c) s.tm (iL c) o).pick ρ=some (e,s')):cR P ρ B W n c s e s'/\(Low hs c->br (fl c) s.tm s'.tm):=by
 unfold Out.tj at h;split at h
 ·rename_i hok;have hlow:Low hs c:=S9 hok;obtain ⟨s1,h1,h2,h3⟩:=Out.ED (base:=s.tm) (D:=iL c) (fun k hk=>hlow.1 k (Fs hk)) (fun e s' h=>((hk e s' h).2 hlow).toN) h
  exact ⟨(hk e s1 h1).1.cov h2,fun _=>h3.ofN⟩
 ·rename_i hok;obtain ⟨s1,h1,h2⟩:=Out.Jb h;refine ⟨(hk e s1 h1).1.cov h2,fun hl=> ?_⟩
  have:jI (fl c)=true:=by
   have key: ∀l:List Nat,(∀ k∈l,k<1000000)->jI l=true:=by
    intro l
    induction l with
    |nil=>intro _; rfl
    |cons x l ih=>
     intro h;unfold jI;have hx:Nat.blt x 1000000=true:=by simpa [Nat.blt_eq] using h x (List.mem_cons_self ..)
     rw [hx];exact ih fun k hk=>h k (List.mem_cons_of_mem _ hk)
   exact key _ hl.1
  unfold pQ at hok;rw [this] at hok;simp only at hok;rw [Az.2 hl.2] at hok;cases hok
theorem Ms{C:Ctx}{call:bV}{n:Nat}{all:List Oper}{D:List Nat}(hD: ∀k∈D,k<1000000): ∀(l:List Oper) (tm:T ab) (hp:T ah) (nx:Nat) (s:ASt),(∀ k∈l.filterMap (·.dst),k∈D)->CY C call n all l tm hp nx=some s->br D tm s.tm:=by
 intro l
 induction l with
 |nil=>intro tm hp nx s _ h; cases h; exact br.refl _ _
 |cons o l ih=>
  intro tm hp nx s hl h
  have hl': ∀k∈l.filterMap (·.dst),k∈D:=fun k hk=>hl k (by
   rw [List.filterMap_cons];split
   ·exact hk
   ·exact List.mem_cons_of_mem _ hk)
  have put: ∀r,br D tm (qt tm o.dst r):=by
   intro r k hk v hv;unfold qt;split
   ·exact hv
   ·rename_i d hd;have hdD:d∈D:=hl d (by rw [List.filterMap_cons,hd]; exact List.mem_cons_self ..)
    have hlt:=hD d hdD;have hne:k≠d:=fun e=>hk (by rw [e]; exact hdD)
    rw [T.bp (by omega) hne]
    exact hv
  unfold CY at h;split at h
  ·cases h
  ·split at h
   ·cases h
   ·exact (put _).trans (ih _ _ _ _ hl' h)
   ·split at h
    ·exact (put _).trans (ih _ _ _ _ hl' h)
    ·cases h
theorem GW{vt:T ab}{D:List Nat}(hD: ∀k∈D,k<1000000): ∀(l:List Oper) (i:Nat) (tm tm':T ab),(∀ k∈l.filterMap (·.dst),k∈D)->ym vt l i tm=some tm'->br D tm tm':=by
 intro l
 induction l with
 |nil=>intro i tm tm' _ h; cases h; exact br.refl _ _
 |cons o l ih=>
  intro i tm tm' hl h
  have hl': ∀k∈l.filterMap (·.dst),k∈D:=fun k hk=>hl k (by
   rw [List.filterMap_cons];split
   ·exact hk
   ·exact List.mem_cons_of_mem _ hk)
  unfold ym at h;split at h
  ·exact ih _ _ _ hl' h
  ·rename_i d hd;split at h
   ·refine br.trans ?_ (ih _ _ _ hl' h);intro k hk v hv;have hdD:d∈D:=hl d (by rw [List.filterMap_cons,hd]; exact List.mem_cons_self ..)
    have hlt:=hD d hdD;have hne:k≠d:=fun e=>hk (by rw [e]; exact hdD)
    rw [T.bp (by omega) hne]
    exact hv
   ·cases h
theorem Ix{C:Ctx}{call:bV}{n:Nat}{ops:List Oper}{s s':ASt}{D:List Nat}(hD: ∀k∈D,k<1000000)(hl: ∀k∈ops.filterMap (·.dst),k∈D)(h:xp C call n ops s=some s'):br D s.tm s'.tm:=by
 unfold xp at h;split at h
 ·cases h
 ·split at h
  ·split at h
   ·split at h
    ·rename_i tm htm;cases h;exact GW hD _ _ _ _ hl htm
    ·cases h
   ·cases h
  ·cases h
theorem Cl{C:Ctx}{call:bV}{n id:Nat}{ops:Array Oper}{draw:Bool}{s s':ASt}{e:aM}(hl:Low hs (.region id ops draw))(h:ov C call (xp C) n ops.toList draw s=some (e,s')):br (fl (.region id ops draw)) s.tm s'.tm:=by
 unfold ov at h;split at h
 ·split at h
  ·rename_i s1 h1;cases h;exact Ms hl.1 _ _ _ _ _ (fun k hk=>hk) h1
  ·cases h
 ·split at h
  ·rename_i s1 h1;cases h;exact Ix hl.1 (fun k hk=>hk) h1
  ·cases h
def dA(P:Program)(ρ:Env)(B:Nat->Prop)(W:World)(g:FuncId)(args:List ab)(h:T ah)(nx:Nat)(s:ASt):Prop:=nx<=s.nx/\
 ∀f w args',au ρ B W f h w->az ρ f args args'->iF f nx s.nx->
  Calls P g args' w fun e w'=> ∃v' f',e= .returned v'/\f.le f'/\Outside f f' nx s.nx/\au ρ B W f' s.hp w'/\ ∀v,s.tm.get 0=some v->ai ρ f' v v'
def iZ(P:Program)(ρ:Env)(tr:fh):Prop:= ∀B W dec,Dec.holds ρ dec-> ∀g args h nx e s,(tr dec g args h nx).pick ρ=some (e,s)->dA P ρ B W g args h nx s
def qx(ρ:Env)(tr:fh)(dec:Dec):bV:=fun g args h nx=>
 match (tr dec g args h nx).pick ρ with
 |some (_,s)=>
  match s.tm.get 0 with
  |some v=>some (v,s.hp,s.nx)
  |none=>none
 |none=>none
theorem Ej{tr:fh}(htr:iZ P ρ tr){dec:Dec}(hd:dec.holds ρ):cI P ρ B W (qx ρ tr dec):=by
 intro g args h nx v h' nx' hc;unfold qx at hc;split at hc
 ·rename_i e s hs;split at hc
  ·rename_i v0 hv0;cases hc;have q:=htr B W dec hd g args h nx e s hs;exact ⟨q.1,fun f w args' hr ha hf=>(q.2 f w args' hr ha hf).mono fun e w' ⟨v',f',a1,a2,a3,a4,a5⟩=>⟨v',f',a1,a2,a3,a4,a5 _ hv0⟩⟩
  ·cases hc
 ·cases hc
theorem Ik{C:Ctx}{tr:fh}{dec:Dec}(hd:dec.holds ρ){o:Oper}{tm:T ab}{hp:T ah}{nx:Nat}{k:Dec->T ab->T ah->Nat->Out}{r:aM×ASt}{call:bV}(hn:mq (C.with dec) call hp nx (aev tm) o.op=none)(h:(GA C tr dec o tm hp nx k).pick ρ=some r):
 ∃d u hp' nx',Dec.holds ρ d/\mq (C.with dec) (qx ρ tr dec) hp nx (aev tm) o.op=some (u,hp',nx')/\(k d (qt tm o.dst u) hp' nx').pick ρ=some r:=by
 unfold GA at h;split at h
 ·rename_i c hop;rw [hop] at hn ⊢;split at h
  ·rename_i g args hca;split at h
   ·rename_i fn hfn;split at h
    ·rename_i hgood;obtain ⟨e,s,d,hd',h1,h2⟩:=Out.hJ hd h;split at h2
     ·rename_i v hv;refine ⟨d,some v,s.hp,s.nx,hd',?_,h2⟩;have hca':oC (C.with dec) hp (aev tm) c=some (g,args):=hca
      have hfn':(C.with dec).fn.get g=some fn:=hfn
      unfold mq at hn ⊢;split at hn
      ·cases hn
      ·split at hn
       ·cases hn
       ·split at hn
        ·cases hn
        ·simp only [hca',hfn',hgood];unfold qx;rw [h1];simp only [hv]
     ·cases h2
    ·cases h
   ·cases h
  ·cases h
 ·cases h
theorem pT{C:Ctx}(hCb:ρ.ok C.bd){call:Dec->bV}(hcall: ∀dec,Dec.holds ρ dec->cI P ρ B W (call dec)){tr:fh}(htr:iZ P ρ tr){askg:T ab->Option (Nat×Bool)->List BE}{asko:Dec->Oper->T ab->T ah->Nat->List BE}{n:Nat}{all:List Oper}{o:Oper}{k:Dec->T ab->T ah->Nat->Out}{r:aM×ASt}: ∀(f:Nat) (dec:Dec) (tm:T ab) (hp:T ah) (nx:Nat),Dec.holds ρ dec->(gT C call tr askg asko n all o k f dec tm hp nx).pick ρ=some r->
 ∃d,Dec.holds ρ d/\i5 n o.dst=true/\((lY (C.with d) tm all o.guard=some false/\(k d (qt tm o.dst none) hp nx).pick ρ=some r)\/
  (lY (C.with d) tm all o.guard=some true/\ ∃d' call' u hp' nx',Dec.holds ρ d'/\cI P ρ B W call'/\mq (C.with d) call' hp nx (aev tm) o.op=some (u,hp',nx')/\(k d' (qt tm o.dst u) hp' nx').pick ρ=some r)):=by
 intro f
 induction f with
 |zero=>intro dec tm hp nx hd h; cases h
 |succ f ih=>
  intro dec tm hp nx hd h;unfold gT at h;split at h
  ·cases h
  ·rename_i hok;split at h
   ·rename_i hw;exact ⟨dec,hd,hok,.inl ⟨hw,h⟩⟩
   ·rename_i hw;split at h
    ·rename_i u hp' nx' hst;exact ⟨dec,hd,hok,.inr ⟨hw,dec,call dec,u,hp',nx',hd,hcall dec hd,hst,h⟩⟩
    ·rename_i hst;have hl:=ni hCb hd (asko dec o tm hp nx);split at h
     ·rename_i d q hq;rw [hq] at hl;exact ih d tm hp nx hl h
     ·rename_i t _;obtain ⟨d,h1,h2⟩:=Out.jr (jz hCb t hd) t (fun d=>gT C call tr askg asko n all o k f d tm hp nx) (fun d=>gT C call tr askg asko n all o k f d tm hp nx)
      rw [h2] at h;cases ht:t.ev ρ
      ·rw [ht] at h; exact ih d tm hp nx h1 h
      ·rw [ht] at h; exact ih d tm hp nx h1 h
     ·obtain ⟨d,u,hp',nx',hd',h1,h2⟩:=Ik hd hst h;exact ⟨dec,hd,hok,.inr ⟨hw,d,_,u,hp',nx',hd',Ej htr hd,h1,h2⟩⟩
   ·have hl:=ni hCb hd (askg tm o.guard);split at h
    ·rename_i d q hq;rw [hq] at hl;exact ih d tm hp nx hl h
    ·rename_i t _;obtain ⟨d,h1,h2⟩:=Out.jr (jz hCb t hd) t (fun d=>gT C call tr askg asko n all o k f d tm hp nx) (fun d=>gT C call tr askg asko n all o k f d tm hp nx)
     rw [h2] at h;cases ht:t.ev ρ
     ·rw [ht] at h; exact ih d tm hp nx h1 h
     ·rw [ht] at h; exact ih d tm hp nx h1 h
    ·cases h
theorem Kf{C:Ctx}(hCb:ρ.ok C.bd){call:Dec->bV}(hcall: ∀dec,Dec.holds ρ dec->cI P ρ B W (call dec)){tr:fh}(htr:iZ P ρ tr){askg:T ab->Option (Nat×Bool)->List BE}{asko:Dec->Oper->T ab->T ah->Nat->List BE}{all:List Oper}: ∀(l:List Oper) (dec:Dec) (tm:T ab) (hp:T ah) (nx:Nat) (e:aM) (s:ASt),Dec.holds ρ dec->(N1 C call tr askg asko n all l dec tm hp nx).pick ρ=some (e,s)->e= .normal/\nx<=s.nx:=by
 intro l
 induction l with
 |nil=>intro dec tm hp nx e s hd h; cases h; exact ⟨rfl,Nat.le_refl _⟩
 |cons o l ih=>
  intro dec tm hp nx e s hd h;obtain ⟨d,hd',_,⟨_,h⟩ | ⟨_,d1,call',u,hp',nx',hd1,hc',hst,h⟩⟩:=pT hCb hcall htr 60 dec tm hp nx hd h
  ·exact ih _ _ _ _ _ _ hd' h
  ·have q:=ih _ _ _ _ _ _ hd1 h;exact ⟨q.1,Nat.le_trans (nF hc' hst) q.2⟩
theorem TH{C:Ctx}(hC:C.Ok P ρ){call:Dec->bV}(hcall: ∀dec,Dec.holds ρ dec->cI P ρ B W (call dec)){tr:fh}(htr:iZ P ρ tr){askg:T ab->Option (Nat×Bool)->List BE}{asko:Dec->Oper->T ab->T ah->Nat->List BE}{N:Nat}{ops:Array Oper}{Q:Exit->Act->World->Prop}{e':aM}{s':ASt}(hN:s'.nx<=N){f₀:Ren}{n₀:Nat}
 (hQ: ∀f' a' w',f₀.le f'->Outside f₀ f' n₀ s'.nx->eh ρ B W n N f' s' a' w'->Q .normal a' w'):
 ∀(l:List Oper) (k:Nat),ops.toList.drop k=l-> ∀(dec:Dec) (tm:T ab) (hp:T ah) (nx:Nat) (f:Ren) (a:Act) (w:World),Dec.holds ρ dec->(N1 C call tr askg asko n ops.toList l dec tm hp nx).pick ρ=some (e',s')->n₀<=nx->f₀.le f->Outside f₀ f n₀ nx->eh ρ B W n N f ⟨tm,hp,nx⟩ a w->
  wpOps P ops Q (List.range' k (ops.size-k)) a w:=by
 intro l
 induction l with
 |nil=>
  intro k hk dec tm hp nx f a w hd h hn hle hout hs
  have:ops.size-k=0:=by
   have:=congrArg List.length hk
   simpa using this
  rw [this];cases h;exact hQ f a w hle hout hs
 |cons o l ih=>
  intro k hk dec tm hp nx f a w hd h hn hle hout hs
  have hlen:ops.size-k=l.length+1:=by
   have:=congrArg List.length hk
   simpa using this
  have ho:ops[k]? =some o:=by
   have:(ops.toList.drop k)[0]? =some o:=by rw [hk]; rfl
   simpa using this
  have hk':ops.toList.drop (k+1)=l:=by
   rw [<- List.drop_drop,hk];rfl
  rw [hlen,List.range'_succ];have hl:l.length=ops.size-(k+1):=by omega
  rw [hl];unfold wpOps;simp only [ho];obtain ⟨d,hd',hok,⟨hw,h⟩ | ⟨hw,d1,call',u,hp',nx',hd1,hc',hst,h⟩⟩:=pT hC.bd hcall htr 60 dec tm hp nx hd h
  ·have hok':i5 a.tmps.size o.dst=true:=by rw [hs.size]; exact hok
   rw [l7 (hC.with hd') hs.tm hw]
   simp only [Bool.false_eq_true,if_false];exact ih (k+1) hk' d _ _ _ f _ _ hd' h hn hle hout ⟨by rw [Act.kB]; exact hs.size,hs.tm.put hok' (r:=none) ai.undef,by rw [Act.fV]; exact hs.defers,hs.heap,hs.fresh⟩
  ·have hok':i5 a.tmps.size o.dst=true:=by rw [hs.size]; exact hok
   rw [l7 (hC.with hd') hs.tm hw]
   simp only [if_true];have hnx:=nF hc' hst;have hnx':=(Kf hC.bd hcall htr l d1 _ _ _ _ _ hd1 h).2;refine .inl (w9 (hC.with hd') hc' hs.heap hst (hs.fresh.sub (Nat.le_refl _) (by omega)) hs.tm.ev fun f' w' v' h1 h2 h3 h4=> ?_)
   exact ih (k+1) hk' d1 _ _ _ f' _ _ hd1 h (Nat.le_trans hn hnx) (Ren.le_trans hle h1) (hout.trans h2 hn hnx) ⟨by rw [Act.kB]; exact hs.size,(hs.tm.mono h1).put hok' h4,by rw [Act.fV]; exact hs.defers,h3,hs.fresh.step h2 hnx⟩
theorem MI{C:Ctx}(hCb:ρ.ok C.bd){call:Dec->bV}(hcall: ∀dec,Dec.holds ρ dec->cI P ρ B W (call dec)){tr:fh}(htr:iZ P ρ tr){askg:T ab->Option (Nat×Bool)->List BE}{asko:Dec->Oper->T ab->T ah->Nat->List BE}{all:List Oper}{D:List Nat}(hD: ∀k∈D,k<1000000): ∀(l:List Oper) (dec:Dec) (tm:T ab) (hp:T ah) (nx:Nat) (e:aM) (s:ASt),(∀ k∈l.filterMap (·.dst),k∈D)->Dec.holds ρ dec->(N1 C call tr askg asko n all l dec tm hp nx).pick ρ=some (e,s)->br D tm s.tm:=by
 intro l
 induction l with
 |nil=>intro dec tm hp nx e s _ hd h; cases h; exact br.refl _ _
 |cons o l ih=>
  intro dec tm hp nx e s hl hd h
  have hl': ∀k∈l.filterMap (·.dst),k∈D:=fun k hk=>hl k (by
   rw [List.filterMap_cons];split
   ·exact hk
   ·exact List.mem_cons_of_mem _ hk)
  have put: ∀r,br D tm (qt tm o.dst r):=by
   intro r k hk v hv;unfold qt;split
   ·exact hv
   ·rename_i d hd;have hdD:d∈D:=hl d (by rw [List.filterMap_cons,hd]; exact List.mem_cons_self ..)
    have hlt:=hD d hdD;have hne:k≠d:=fun e=>hk (by rw [e]; exact hdD)
    rw [T.bp (by omega) hne]
    exact hv
  obtain ⟨d,hd',_,⟨_,h⟩ | ⟨_,d1,call',u,hp',nx',hd1,hc',hst,h⟩⟩:=pT hCb hcall htr 60 dec tm hp nx hd h
  ·exact (put _).trans (ih _ _ _ _ _ _ hl' hd' h)
  ·exact (put _).trans (ih _ _ _ _ _ _ hl' hd1 h)
theorem OOk.ops{C:Ctx}(hC:C.Ok P ρ){call:Dec->bV}(hcall: ∀dec,Dec.holds ρ dec->cI P ρ B W (call dec)){tr:fh}(htr:iZ P ρ tr)(askg:T ab->Option (Nat×Bool)->List BE)(asko:Dec->Oper->T ab->T ah->Nat->List BE)(id:Nat)(ops:Array Oper):OOk P ρ B W n hs (.region id ops false) (fun dec s=>N1 C call tr askg asko n ops.toList ops.toList dec s.tm s.hp s.nx):=by
 intro dec hd s e s' h;obtain ⟨he,hnx⟩:=Kf hC.bd hcall htr _ _ _ _ _ _ _ hd h;subst he;refine ⟨⟨hnx,fun N f a w Q hN hr hq=>wp_region ?_⟩,fun hl=>MI hC.bd hcall htr hl.1 _ _ _ _ _ _ _ (fun k hk=>hk) hd h⟩
 have:=TH hC hcall htr (n:=n) (ops:=ops) hN (f₀:=f) (n₀:=s.nx) hq ops.toList 0 rfl dec s.tm s.hp s.nx f a w hd h (Nat.le_refl _) (Ren.le_refl f) (fun _ _=>rfl) hr
 rw [List.range_eq_range'];exact this
theorem Hg{bd:Bd}(hρ:ρ.ok bd){c:Code}{run:Dec->ASt->Option (aM×ASt)}(h: ∀dec,Dec.holds ρ dec-> ∀s e s',run dec s=some (e,s')->cR P ρ B W n c s e s'/\(Low hs c->br (fl c) s.tm s'.tm))(ask:Dec->ASt->List BE)(why:Dec->ASt->Why): ∀k,OOk P ρ B W n hs c (ji bd run ask why k):=by
 intro k
 induction k with
 |zero=>
  intro dec hd s e s' hs;unfold ji VX at hs;split at hs
  ·rename_i e1 s1 h1;cases hs;exact h dec hd _ _ _ h1
  ·cases hs
 |succ k ih=>
  intro dec hd s e s' hs;unfold ji at hs;split at hs
  ·rename_i r h1;cases hs;exact h dec hd _ _ _ h1
  ·have hl:=ni hρ hd (ask dec s);split at hs
   ·rename_i d q hq;rw [hq] at hl;exact ih d hl s e s' hs
   ·rename_i t _;obtain ⟨d,h1,h2⟩:=Out.jr (jz hρ t hd) t (fun d=>ji bd run ask why k d s) (fun d=>ji bd run ask why k d s)
    rw [h2] at hs;cases ht:t.ev ρ
    ·rw [ht] at hs;exact ih d h1 s e s' hs
    ·rw [ht] at hs;exact ih d h1 s e s' hs
   ·cases hs
theorem OOk.seq{a b:Code}{x y:dS}(hx:OOk P ρ B W n hs a x)(hy:OOk P ρ B W n hs b y):OOk P ρ B W n hs (.seq a b) (aaw x y):=by
 intro dec hd s e s' h;obtain ⟨e1,s1,d1,hd1,h1,h2⟩:=Out.hJ hd h;have q1:=hx dec hd s e1 s1 h1;have la:Low hs (.seq a b)->Low hs a:=fun hl=>⟨fun k hk=>hl.1 k (List.mem_append.2 (.inl hk)),fun b hb=>hl.2 b (List.mem_append.2 (.inl hb))⟩
 have lb:Low hs (.seq a b)->Low hs b:=fun hl=>⟨fun k hk=>hl.1 k (List.mem_append.2 (.inr hk)),fun b hb=>hl.2 b (List.mem_append.2 (.inr hb))⟩
 have ka: ∀ {u v},br (fl a) u v->br (fl (.seq a b)) u v:=fun h=>h.mono fun k hk=>List.mem_append.2 (.inl hk)
 have kb: ∀ {u v},br (fl b) u v->br (fl (.seq a b)) u v:=fun h=>h.mono fun k hk=>List.mem_append.2 (.inr hk)
 cases e1 with
 |normal=>
  have q2:=hy d1 hd1 s1 e s' h2;exact ⟨q1.1.seq q2.1,fun hl=>(ka (q1.2 (la hl))).trans (kb (q2.2 (lb hl)))⟩
 |exit i=>cases h2; exact ⟨q1.1.KQ (by intro h; cases h),fun hl=>ka (q1.2 (la hl))⟩
 |ret=>cases h2; exact ⟨q1.1.KQ (by intro h; cases h),fun hl=>ka (q1.2 (la hl))⟩
theorem OOk.cond{bd:Bd}(hρ:ρ.ok bd){a b:Code}{c:Operand}{x y:dS}(hx:OOk P ρ B W n hs a x)(hy:OOk P ρ B W n hs b y):OOk P ρ B W n hs (.cond c a b) (Jz bd c x y):=by
 intro dec hd s e s' h;have ka:(cR P ρ B W n a s e s'/\(Low hs a->br (fl a) s.tm s'.tm))->Low hs (.cond c a b)->br (fl (.cond c a b)) s.tm s'.tm:=fun h hl=>(h.2 ⟨fun k hk=>hl.1 k (List.mem_append.2 (.inl hk)),fun b hb=>hl.2 b (List.mem_append.2 (.inl hb))⟩).mono fun k hk=>List.mem_append.2 (.inl hk)
 have kb:(cR P ρ B W n b s e s'/\(Low hs b->br (fl b) s.tm s'.tm))->Low hs (.cond c a b)->br (fl (.cond c a b)) s.tm s'.tm:=fun h hl=>(h.2 ⟨fun k hk=>hl.1 k (List.mem_append.2 (.inr hk)),fun b hb=>hl.2 b (List.mem_append.2 (.inr hb))⟩).mono fun k hk=>List.mem_append.2 (.inr hk)
 unfold Jz at h;split at h
 ·rename_i t ht
  have key: ∀N f (a:Act) w,eh ρ B W n N f s a w->a.eval c= .bool (t.ev ρ):=by
   intro N f a w hr;have hev:=hr.tm.ev _ _ ht;generalize a.eval c=z at hev;cases hev;rfl
  have yes:t.ev ρ=true->(cR P ρ B W n a s e s'/\(Low hs a->br (fl a) s.tm s'.tm))->cR P ρ B W n (.cond c a b) s e s'/\(Low hs (.cond c a b)->br (fl (.cond c a b)) s.tm s'.tm):=fun hv q=>⟨cR.cond key (by rw [hv]; exact q.1),ka q⟩
  have no:t.ev ρ=false->(cR P ρ B W n b s e s'/\(Low hs b->br (fl b) s.tm s'.tm))->cR P ρ B W n (.cond c a b) s e s'/\(Low hs (.cond c a b)->br (fl (.cond c a b)) s.tm s'.tm):=fun hv q=>⟨cR.cond key (by rw [hv]; exact q.1),kb q⟩
  split at h
  ·rename_i hv;exact yes (aq hd t _ hv) (hx dec hd s e s' h)
  ·rename_i hv;exact no (aq hd t _ hv) (hy dec hd s e s' h)
  ·split at h
   ·rename_i hv;have hv:=cU hρ 40 dec t _ hd hv;exact yes hv (hx _ (tt hv hd) s e s' h)
   ·rename_i hv;have hv:=cU hρ 40 dec t _ hd hv;exact no hv (hy _ (tt hv hd) s e s' h)
   ·obtain ⟨d,h1,h2⟩:=Out.jr (jz hρ t hd) t (fun d=>x d s) (fun d=>y d s)
    rw [h2] at h;cases ht:t.ev ρ
    ·rw [ht] at h;exact no ht (hy d h1 s e s' h)
    ·rw [ht] at h;exact yes ht (hx d h1 s e s' h)
 ·cases h
theorem OOk.xj{c:Code}{id:Nat}{x:dS}(hx:OOk P ρ B W n hs c x):OOk P ρ B W n hs (.block id c) (jG id x):=by
 intro dec hd s e s' h;obtain ⟨e1,s1,d1,hd1,h1,h2⟩:=Out.hJ hd h;have q1:=hx dec hd s e1 s1 h1;cases e1 with
 |normal=>cases h2; exact ⟨q1.1.Ba,q1.2⟩
 |exit i=>
  simp only at h2;split at h2
  ·rename_i hi;cases h2;rw [Nat.eq_of_beq_eq_true hi] at q1;exact ⟨q1.1.IC,q1.2⟩
  ·rename_i hi;cases h2;exact ⟨q1.1.NH (Nat.ne_of_beq_eq_false hi),q1.2⟩
 |ret=>cases h2; exact ⟨q1.1.NT,q1.2⟩
theorem OOk.block{c:Code}{cO:Bool}{id:Nat}{x:dS}(hx:OOk P ρ B W n hs c x):OOk P ρ B W n hs (.block id c) (Pr cO (pQ hs c) (iL c) id x):=by
 intro dec hd s e s' h;unfold Pr at h;split at h
 ·exact OOk.xj hx dec hd s e s' h
 ·exact oI (c:= .block id c) (fun e s' h=>OOk.xj hx dec hd s e s' h) h
theorem IT{c:Code}{x:dS}(hx:OOk P ρ B W n hs c x): ∀(L:Nat) dec,Dec.holds ρ dec-> ∀s e s',(qJ (pQ hs c) (iL c) x L dec s).pick ρ=some (e,s')->fX P ρ B W n c L s e s'/\(Low hs c->br (fl c) s.tm s'.tm):=by
 intro L
 induction L with
 |zero=>intro dec hd s e s' h; cases h
 |succ L ih=>
  intro dec hd s e s' h;unfold qJ at h;obtain ⟨e1,s1,d1,hd1,h1,h2⟩:=Out.hJ hd h;have q1:=oI (c:=c) (fun e s' h=>hx dec hd s e s' h) h1
  cases e1 with
  |normal=>
   have q2:=ih d1 hd1 s1 e s' h2;exact ⟨fX.more q1.1 q2.1,fun hl=>(q1.2 hl).trans (q2.2 hl)⟩
  |exit i=>cases h2; exact ⟨fX.out (by intro h; cases h) q1.1,q1.2⟩
  |ret=>cases h2; exact ⟨fX.out (by intro h; cases h) q1.1,q1.2⟩
def LOk(P:Program)(ρ:Env)(B:Nat->Prop)(W:World)(n:Nat)(hs:Nat->Bool)(c:Code)(x:dS):Prop:=
 ∀dec,Dec.holds ρ dec-> ∀s e s',(x dec s).pick ρ=some (e,s')->(∃ m,fX P ρ B W n c m s e s')/\(Low hs (.loop c)->br (fl c) s.tm s'.tm)
theorem Low.body{hs:Nat->Bool}{c:Code}(h:Low hs (.loop c)):Low hs c:=⟨h.1,fun b hb=>h.2 b (List.mem_cons_of_mem _ hb)⟩
theorem RB{bd:Bd}(hρ:ρ.ok bd){c:Code}{lp:Dec->ASt->Option (aM×ASt)}(h: ∀dec,Dec.holds ρ dec-> ∀s e s',lp dec s=some (e,s')-> ∃m,fX P ρ B W n c m s e s')(hlow: ¬Low hs (.loop c))(ask:Dec->ASt->List BE){rounds:dS}(hr:LOk P ρ B W n hs c rounds): ∀k,LOk P ρ B W n hs c (ug bd lp ask rounds k):=by
 intro k
 induction k with
 |zero=>exact hr
 |succ k ih=>
  intro dec hd s e s' hs';unfold ug at hs';split at hs'
  ·rename_i r h1;cases hs';exact ⟨h dec hd _ _ _ h1,fun hl=>absurd hl hlow⟩
  ·have hl:=ni hρ hd (ask dec s);split at hs'
   ·rename_i d q hq;rw [hq] at hl;exact ih d hl s e s' hs'
   ·rename_i t _;obtain ⟨d,h1,h2⟩:=Out.jr (jz hρ t hd) t (fun d=>ug bd lp ask rounds k d s) (fun d=>ug bd lp ask rounds k d s)
    rw [h2] at hs';cases ht:t.ev ρ
    ·rw [ht] at hs';exact ih d h1 s e s' hs'
    ·rw [ht] at hs';exact ih d h1 s e s' hs'
   ·exact hr dec hd s e s' hs'
theorem RX{c:Code}{x next:dS}(hx:OOk P ρ B W n hs c x)(hn:LOk P ρ B W n hs c next):LOk P ρ B W n hs c (PL (pQ hs c) (iL c) x next):=by
 intro dec hd s e s' h;unfold PL at h;obtain ⟨e1,s1,d1,hd1,h1,h2⟩:=Out.hJ hd h;have q1:=oI (c:=c) (fun e s' h=>hx dec hd s e s' h) h1
 cases e1 with
 |normal=>
  obtain ⟨⟨m,q2⟩,q3⟩:=hn d1 hd1 s1 e s' h2;exact ⟨⟨m+1,fX.more q1.1 q2⟩,fun hl=>(q1.2 hl.body).trans (q3 hl)⟩
 |exit i=>cases h2; exact ⟨⟨1,fX.out (L:=0) (by intro h; cases h) q1.1⟩,fun hl=>q1.2 hl.body⟩
 |ret=>cases h2; exact ⟨⟨1,fX.out (L:=0) (by intro h; cases h) q1.1⟩,fun hl=>q1.2 hl.body⟩
theorem NC{bd:Bd}(hρ:ρ.ok bd){c:Code}{lp:Dec->ASt->Option (aM×ASt)}(h: ∀dec,Dec.holds ρ dec-> ∀s e s',lp dec s=some (e,s')-> ∃m,fX P ρ B W n c m s e s')(hlow: ¬Low hs (.loop c))(ask:Dec->ASt->List BE){x:dS}(hx:OOk P ρ B W n hs c x): ∀L,LOk P ρ B W n hs c (B6 bd lp ask (pQ hs c) (iL c) x L):=by
 intro L
 induction L with
 |zero=>intro dec hd s e s' h; cases h
 |succ L ih=>exact RB hρ h hlow ask (RX hx ih) 20
theorem Eb{C:Ctx}(hC:C.Ok P ρ){call call1:Dec->bV}(hcall: ∀dec,Dec.holds ρ dec->cI P ρ B W (call dec))(hcall1: ∀dec,Dec.holds ρ dec->cI P ρ B W (call1 dec)){tr:fh}(htr:iZ P ρ tr){ask:Dec->List Oper->ASt->List BE}{asko:Dec->Oper->T ab->T ah->Nat->List BE}{lps:Lps}(L:Nat)(pol:Nat->Bool)(c:Code)(hlps:OD P ρ B W n lps c):OOk P ρ B W n lps.has c (uf C call call1 tr ask asko lps n L pol c):=by
 induction c with
 |skip=>intro dec hd s e s' h; cases h; exact ⟨cR.here (e:= .normal) fun Q a w h=>wp_skip h,fun _=>br.refl _ _⟩
 |region id ops draw=>
  cases draw with
  |true=>exact Hg hC.bd (fun dec hd s e s' h=>⟨cR.of (bZ.region (hC.with hd) (hcall dec hd) (Es (hC.with hd)) id ops true) h,fun hl=>Cl hl h⟩) _ _ 8
  |false=>exact OOk.ops hC hcall1 htr _ _ id ops
 |seq a b ha hb=>exact OOk.seq (ha fun x hx=>hlps x (List.mem_append.2 (.inl hx))) (hb fun x hx=>hlps x (List.mem_append.2 (.inr hx)))
 |cond c a b ha hb=>
  have q:=OOk.cond hC.bd (c:=c) (ha fun x hx=>hlps x (List.mem_append.2 (.inl hx))) (hb fun x hx=>hlps x (List.mem_append.2 (.inr hx)))
  intro dec hd s e s' h;have h:(Du (pol (Code.key (.cond c a b))) (pQ lps.has (.cond c a b)) (iL (.cond c a b)) s.tm (Jz C.bd c (uf C call call1 tr ask asko lps n L pol a) (uf C call call1 tr ask asko lps n L pol b) dec s)).pick ρ=some (e,s'):=h;unfold Du at h;split at h
  ·exact oI (c:= .cond c a b) (fun e s' h=>q dec hd s e s' h) h
  ·exact q dec hd s e s' h
 |block id c hc=>exact OOk.block (hc hlps)
 |loop c hc=>
  intro dec hd s e s' h;have hb:OOk P ρ B W n lps.has c (uf C call call1 tr ask asko lps n L pol c):=hc fun x hx=>hlps x (List.mem_cons_of_mem _ hx)
  have h:(Og (lps.has (Code.key c)) (B6 C.bd (lps.run n (Code.key c)) (lps.ask (Code.key c)) (pQ lps.has c) (iL c) (uf C call call1 tr ask asko lps n L pol c) L) (qJ (pQ lps.has c) (iL c) (uf C call call1 tr ask asko lps n L pol c) L) dec s).pick ρ=some (e,s'):=h;cases hk:lps.has (Code.key c)
  ·rw [hk] at h;have q:=IT hb L dec hd s e s' h;exact ⟨cR.loop q.1,fun hl=>q.2 hl.body⟩
  ·rw [hk] at h;obtain ⟨⟨m,q1⟩,q2⟩:=NC hC.bd (hlps c (List.mem_cons_self ..)) (fun hl=>by rw [hl.2 c (List.mem_cons_self ..)] at hk; cases hk) _ hb L dec hd s e s' h
   exact ⟨cR.loop q1,q2⟩
 |rangeFunc=>intro dec hd s e s' h; cases h
 |exit id=>intro dec hd s e s' h; cases h; exact ⟨cR.here (e:= .exit id) fun Q a w h=>wp_exit h,fun _=>br.refl _ _⟩
 |scope c hc=>intro dec hd s e s' h; exact ⟨(hc hlps dec hd s e s' h).1.scope,(hc hlps dec hd s e s' h).2⟩
 |label=>intro dec hd s e s' h; cases h; exact ⟨cR.here (e:= .normal) fun Q a w h=>wp_label h,fun _=>br.refl _ _⟩
 |goto=>intro dec hd s e s' h; cases h
 |ret=>intro dec hd s e s' h; cases h; exact ⟨cR.here (e:= .ret) fun Q a w h=>wp_ret h,fun _=>br.refl _ _⟩
 |refuse=>intro dec hd s e s' h; cases h
end
def Out.lL:Out->Out
 | .bad w=> .bad w
 | .leaf e s=> .leaf e s
 | .split b y n=>
   match Out.lL y with
   | .leaf e s=>
     match Out.lL n with
     | .leaf e' s'=>
       match kO e e' with
       |true=>
        match ASt.mrg b s s' with
        |t=>
         match t.tm.get 0 with
         |some _=> .leaf e t
         |none=> .split b (.leaf e s) (.leaf e' s')
       |false=> .split b (.leaf e s) (.leaf e' s')
     | .bad w=> .split b (.leaf e s) (.bad w)
     | .split c p q=> .split b (.leaf e s) (.split c p q)
   | .bad w=> .split b (.bad w) (Out.lL n)
   | .split c p q=> .split b (.split c p q) (Out.lL n)
theorem Out.Gm{ρ:Env}: ∀ {o:Out} {e:aM} {s:ASt},o.lL.pick ρ=some (e,s)-> ∃s',o.pick ρ=some (e,s')/\dP ρ s' s:=by
 intro o
 induction o with
 |bad w=>intro e s h; cases h
 |leaf e s=>intro e' s' h; cases h; exact ⟨s,rfl,dP.refl ρ s⟩
 |split b y n ihy ihn=>
  intro e s h
  have plain:(Out.split b y.lL n.lL).pick ρ=some (e,s)-> ∃s',(Out.split b y n).pick ρ=some (e,s')/\dP ρ s' s:=by
   intro h;simp only [Out.pick] at h ⊢;cases hb:b.ev ρ
   ·rw [hb] at h;exact ihn h
   ·rw [hb] at h;exact ihy h
  simp only [Out.lL] at h;split at h
  ·rename_i e1 s1 h1;split at h
   ·rename_i e2 s2 h2;split at h
    ·rename_i he;split at h
     ·have he:=j5 he;subst he;cases h;obtain ⟨p,p1,p2⟩:=ihy (e:=e) (s:=s1) (by rw [h1]; rfl)
      obtain ⟨q,q1,q2⟩:=ihn (e:=e) (s:=s2) (by rw [h2]; rfl)
      refine ⟨aS (b.ev ρ) p q,?_,dP.trans ?_ (ASt.hU rfl s1 s2)⟩
      ·simp only [Out.pick];cases b.ev ρ<;>first |exact p1 |exact q1
      ·cases b.ev ρ<;>first |exact p2 |exact q2
     ·exact plain (by rw [h1,h2]; exact h)
    ·exact plain (by rw [h1,h2]; exact h)
   ·rename_i h2;exact plain (by rw [h1,h2]; exact h)
   ·rename_i h2;exact plain (by rw [h1,h2]; exact h)
  ·rename_i h1;exact plain (by rw [h1]; exact h)
  ·rename_i h1;exact plain (by rw [h1]; exact h)
def Out.IB(cO:Bool)(o:Out):Out:=
 match cO with
 |true=>o
 |false=>o.lL
theorem Out.F1{ρ:Env}{k:Bool}{o:Out}{e:aM}{s:ASt}(h:(o.IB k).pick ρ=some (e,s)): ∃s',o.pick ρ=some (e,s')/\dP ρ s' s:=by
 unfold Out.IB at h;split at h
 ·exact ⟨s,h,dP.refl ρ s⟩
 ·exact Out.Gm h
mutual
def refsV:ab->List Nat->List Nat
 | .ptr (some (i,_)),l=>i::l
 | .slice (some (i,_)) _ _ _,l=>i::l
 | .map (some i),l=>i::l
 | .func _ a b,l=>refsL a (refsL b l)
 | .iface _ v,l=>refsV v l
 | .agg a,l=>refsL a l
 | .tuple a,l=>refsL a l
 | .ptrE i _ _ _,l=>i::l
 | .sliceS i _ _ _ _,l=>i::l
 | .sliceA i _ _,l=>i::l
 |_,l=>l
def refsL:List ab->List Nat->List Nat
 | [],l=>l
 |v::a,l=>refsV v (refsL a l)
end
def Qn(c:T ab)(l:List Nat):List Nat:=
 T.rec (motive:=fun _=>List Nat->List Nat) (fun l=>l) (fun v _ _ il ir l=>Option.rec (motive:=fun _=>List Nat) (il (ir l)) (fun x=>refsV x (il (ir l))) v) c l
def VV:List (ab×ab)->List Nat->List Nat
 | [],l=>l
 |e::es,l=>refsV e.1 (refsV e.2 (VV es l))
def abz:ah->List Nat->List Nat
 | .cells c _ _ _,l=>Qn c l
 | .map es,l=>VV es l
 | .ghost _ _ c,l=>Qn c l
 | .win _ _ c _ _,l=>Qn c l
 |_,l=>l
def reach(hp:T ah)(nx0:Nat):Nat->List Nat->T Unit->T Unit
 |0,_,seen=>seen
 |n+1,todo,seen=>
  match todo with
  | []=>seen
  |i::l=>
   match Nat.blt i nx0 with
   |true=>reach hp nx0 n l seen
   |false=>
    match seen.get i with
    |some _=>reach hp nx0 n l seen
    |none=>
     match hp.get i with
     |some o=>reach hp nx0 n (abz o l) (seen.set i ())
     |none=>reach hp nx0 n l seen
def E0(seen:T Unit):Nat->Nat->T ah->T ah
 |0,_,h=>h
 |n+1,i,h=>
  match seen.get i with
  |some _=>E0 seen n (i+1) h
  |none=>E0 seen n (i+1) (h.del i)
theorem tX{seen:T Unit}: ∀ {n i:Nat} {h:T ah} {j:Nat} {o:ah},(E0 seen n i h).get j=some o->h.get j=some o
 |0,_,_,_,_,h=>h
 |n+1,i,h,j,o,hg=>by
  unfold E0 at hg;split at hg
  ·exact tX hg
  ·exact (T.eU (tX hg)).2
def ASt.gc(nx0:Nat)(s:ASt):ASt:=
 match s.tm.get 0 with
 |some v=>⟨s.tm,E0 (reach s.hp nx0 100000 (refsV v []) .nil) (s.nx-nx0) nx0 s.hp,s.nx⟩
 |none=>s
theorem ASt.XD(ρ:Env)(nx0:Nat)(s:ASt):dP ρ s (s.gc nx0):=by
 unfold ASt.gc;split
 ·exact ⟨fun k v h=>⟨v,h,fun _ _ h=>h⟩,fun i o h=>⟨o,tX h,⟨rfl,fun _ _ _=>Iff.rfl,fun _ _ _ _ h=>h⟩⟩,Nat.le_refl _⟩
 ·exact dP.refl ρ s
def Out.gc(nx0:Nat):Out->Out
 | .bad w=> .bad w
 | .leaf e s=> .leaf e (s.gc nx0)
 | .split b y n=> .split b (Out.gc nx0 y) (Out.gc nx0 n)
theorem Out.UB{ρ:Env}{nx0:Nat}: ∀ {o:Out} {e:aM} {s:ASt},(o.gc nx0).pick ρ=some (e,s)-> ∃s',o.pick ρ=some (e,s')/\dP ρ s' s:=by
 intro o
 induction o with
 |bad w=>intro e s h; cases h
 |leaf e' s'=>intro e s h; cases h; exact ⟨s',rfl,ASt.XD ρ nx0 s'⟩
 |split b y n ihy ihn=>
  intro e s h;simp only [Out.gc,Out.pick] at h ⊢;cases hb:b.ev ρ
  ·rw [hb] at h; exact ihn h
  ·rw [hb] at h; exact ihy h
def Out.gcB(on:Bool)(nx0:Nat)(o:Out):Out:=
 match on with
 |true=>o.gc nx0
 |false=>o
theorem Out.RL{ρ:Env}{on:Bool}{nx0:Nat}{o:Out}{e:aM}{s:ASt}(h:(o.gcB on nx0).pick ρ=some (e,s)): ∃s',o.pick ρ=some (e,s')/\dP ρ s' s:=by
 unfold Out.gcB at h;split at h
 ·exact Out.UB h
 ·exact ⟨s,h,dP.refl ρ s⟩
def Sq(C:Ctx)(fn:Func):Dec->aM->ASt->Out:=fun dec e s=>
 match e with
 | .exit _=> .bad (.num 116)
 |_=>
  match uu (C.with dec) s.tm s.hp fn.results.toList with
  |some vs=> .leaf .ret ⟨T.nil.set 0 (j6 vs),s.hp,s.nx⟩
  |none=> .bad (.num 117)
def VT(C:Ctx)(call call1:Dec->bV)(tr:fh)(ask:Dec->List Oper->ASt->List BE)(asko:Dec->Oper->T ab->T ah->Nat->List BE)(lps:FuncId->Lps)(L:Nat)(pol:FuncId->Nat->Bool)(g:FuncId)(fn:Func)(c:Code)(dec:Dec)(args:List ab)(h:T ah)(nx:Nat):Out:=
 (uf C call call1 tr ask asko (lps g) (args.length+(fn.ntmps-args.length)) L (pol g) c dec ⟨aF args 0 .nil,h,nx⟩).bind dec (Sq C fn)
def ab.free(v:ab):Bool:=
 match v.within (fun _=>false) with
 |true=>(v.rep IE.var id).same v
 |false=>false
structure Sm where
 call:Dec->bV
 ask:Dec->FuncId->List ab->T ah->List BE
 lps:FuncId->Lps:=fun _=>{}
structure SmOk (P:Program) (ρ:Env) (sm:Sm):Prop where
 call: ∀dec,Dec.holds ρ dec-> ∀B W,cI P ρ B W (sm.call dec)
 lps: ∀g fn c,P.funcs[g]? =some fn->fn.body=some c-> ∀B W n,OD P ρ B W n (sm.lps g) c
def xJ(sm:Sm)(pure:FuncId->Bool)(tr:fh):Dec->bV:=fun dec g args h nx=>
 match sm.call dec g args h nx with
 |some r=>some r
 |none=>
  match pure g with
  |true=>
   match tr dec g args .nil nx with
   | .leaf _ s=>
     match s.tm.get 0 with
     |some v=>
      match v.free with
      |true=>some (v,h,s.nx)
      |false=>none
     |none=>none
   |_=>none
  |false=>
   match tr dec g args h nx with
   | .leaf _ s=>
     match s.tm.get 0 with
     |some v=>some (v,s.hp,s.nx)
     |none=>none
   |_=>none
def Out.top:Out->List BE
 | .split b _ _=>[b]
 |_=>[]
def aam(C:Ctx)(t:TypeId):ab->Option IE
 | .sliceS _ _ l _ _=>some l
 | .sliceA _ l _=>some l
 | .strS _ l=>some l
 | .slice (some _) n _ _=>some (.lit (.ofNat n))
 | .agg _=>
   match C.und t with
   |some (.array n _)=>some (.lit (.ofNat n))
   |_=>none
 | .ptr (some _)=>
   match C.und t with
   |some (.array n _)=>some (.lit (.ofNat n))
   |_=>none
 |_=>none
def VN(C:Ctx)(t:TypeId)(x i:Option ab):List BE:=
 match x,i with
 |some x,some (.int _ e)=>
  match aam C t x with
  |some n=>[mkLt C.bd e (.lit 0),mkLt C.bd e n]
  |none=>[]
 |_,_=>[]
def acy(C:Ctx)(x:Option ab)(lo hi:Option (Option ab)):List BE:=
 match x with
 |some x=>
  match (match x.soft with
   | .sliceS _ _ l _ _=>some l
   | .strS _ l=>some l
   |_=>none) with
  |some l=>
   match A3 (.lit 0) lo,A3 l hi with
   |some a,some b=>[mkLt C.bd a (.lit 0),mkLt C.bd b (.lit 0),mkLt C.bd b a,mkLt C.bd l b]
   |_,_=>[]
  |none=>[]
 |none=>[]
def V0(C:Ctx)(ca:FuncId->List ab->T ah->List BE)(tr:FuncId->List ab->T ah->Nat->Out)(o:Oper)(tm:T ab)(hp:T ah)(nx:Nat):List BE:=
 match o.op with
 | .call c=>
   match oC C hp (aev tm) c with
   |some (g,args)=>
    match ca g args hp with
    | []=>(tr g args hp nx).top
    |l=>l
   |none=>[]
 | .binOp _ _ x y _=>
   match aev tm x,aev tm y with
   |some x,some y=>askEq C.bd x y
   |_,_=>[]
 | .indexAddr t x i=>VN C t (aev tm x) (aev tm i)
 | .index t x i=>VN C t (aev tm x) (aev tm i)
 | .slice _ x lo hi _=>acy C (aev tm x) (jF (aev tm) lo) (jF (aev tm) hi)
 |_=>[]
def Gy(C:Ctx)(call:bV)(ca:FuncId->List ab->T ah->List BE)(tr:FuncId->List ab->T ah->Nat->Out)(all:List Oper):List Oper->T ab->T ah->Nat->List BE
 | [],_,_,_=>[]
 |o::rest,tm,hp,nx=>
  match lY C tm all o.guard with
  |none=>DP tm all o.guard
  |some false=>Gy C call ca tr all rest (qt tm o.dst none) hp nx
  |some true=>
   match mq C call hp nx (aev tm) o.op with
   |some (r,hp',nx')=>Gy C call ca tr all rest (qt tm o.dst r) hp' nx'
   |none=>V0 C ca tr o tm hp nx
def HE(C:Ctx)(sm:Sm):Dec->Oper->T ab->T ah->Nat->List BE:=fun dec o tm hp nx=>V0 (C.with dec) (sm.ask dec) (fun _ _ _ _=> .bad (.num 1)) o tm hp nx
def Qp(C:Ctx)(sm:Sm)(pure:FuncId->Bool)(tr:fh):Dec->List Oper->ASt->List BE:=fun dec ops s=>Gy (C.with dec) (xJ sm pure tr dec) (sm.ask dec) (fun g args h nx=>tr dec g args (match pure g with |true=> .nil |false=>h) nx) ops ops s.tm s.hp s.nx
def Out.NX(f:ASt->Option ASt):Out->Out
 | .bad w=> .bad w
 | .leaf e s=>
   match f s with
   |some t=> .leaf e t
   |none=> .bad (.num 118)
 | .split b y n=> .split b (y.NX f) (n.NX f)
theorem Out.ML{ρ:Env}{f:ASt->Option ASt}: ∀ {o:Out} {e:aM} {t:ASt},(o.NX f).pick ρ=some (e,t)-> ∃s,o.pick ρ=some (e,s)/\f s=some t:=by
 intro o
 induction o with
 |bad w=>intro e t h; cases h
 |leaf e s=>
  intro e' t h;unfold Out.NX at h;split at h
  ·rename_i t' ht;cases h;exact ⟨s,rfl,ht⟩
  ·cases h
 |split b y n ihy ihn=>
  intro e t h;simp only [Out.NX,Out.pick] at h ⊢;cases hb:b.ev ρ
  ·rw [hb] at h; exact ihn h
  ·rw [hb] at h; exact ihy h
def qM(pure:FuncId->Bool)(tr:fh):fh:=fun dec g args h nx=>
 match pure g with
 |true=>(tr dec g args .nil nx).NX fun s=>
  match s.tm.get 0 with
  |some v=>
   match v.free with
   |true=>some ⟨T.nil.set 0 v,h,s.nx⟩
   |false=>none
  |none=>none
 |false=>tr dec g args h nx
def pE(C:Ctx)(sm:Sm)(L:Nat)(pol:FuncId->Nat->Bool)(pure:FuncId->Bool):Nat->fh
 |0,_,g,args,_,_=> .bad (.fn 119 g args)
 |d+1,dec,g,args,h,nx=>
  match C.fn.get g with
  |none=> .bad (.fn 120 g args)
  |some fn=>
   match fn.body with
   |none=> .bad (.fn 121 g args)
   |some c=>(VT C (xJ sm pure (pE C sm L pol pure d)) sm.call (qM pure (pE C sm L pol pure d)) (Qp C sm pure (pE C sm L pol pure d)) (HE C sm) sm.lps L pol g fn c dec args h nx).gcB (pol g 2000000) nx |>.IB (pol g 1000000)
theorem dA.cov{P:Program}{ρ:Env}{B:Nat->Prop}{W:World}{g:FuncId}{args:List ab}{h:T ah}{nx:Nat}{s t:ASt}(k:dA P ρ B W g args h nx s)(hc:dP ρ s t):dA P ρ B W g args h nx t:=by
 have hnx:=hc.nx;refine ⟨Nat.le_trans k.1 hnx,fun f w args' hr ha hf=>(k.2 f w args' hr ha (fun j h1 h2=>hf j h1 (by omega))).mono fun e w' ⟨v',f',h1,h2,h3,h4,h5⟩=>⟨v',f',h1,h2,fun j hj=>h3 j (by omega),hc.heap h4,fun v hv=> ?_⟩⟩
 obtain ⟨u,h6,h7⟩:=hc.tm 0 v hv;exact h7 f' v' (h5 u h6)
theorem Rk{C:Ctx}{P:Program}{ρ:Env}(hC:C.Ok P ρ){B:Nat->Prop}{W:World}{call call1:Dec->bV}(hcall: ∀dec,Dec.holds ρ dec->cI P ρ B W (call dec))(hcall1: ∀dec,Dec.holds ρ dec->cI P ρ B W (call1 dec)){tr:fh}(htr:iZ P ρ tr){ask:Dec->List Oper->ASt->List BE}{asko:Dec->Oper->T ab->T ah->Nat->List BE}{lps:FuncId->Lps}{L:Nat}{pol:FuncId->Nat->Bool}{g:FuncId}{fn:Func}{c:Code}
 (hfn:C.fn.get g=some fn) (hb:fn.body=some c) (hlps: ∀n,OD P ρ B W n (lps g) c) {dec:Dec} (hd:dec.holds ρ) {args:List ab} {h:T ah} {nx:Nat} {e:aM} {s:ASt} (hs:(VT C call call1 tr ask asko lps L pol g fn c dec args h nx).pick ρ=some (e,s)):dA P ρ B W g args h nx s:=by
 obtain ⟨e1,s1,d1,hd1,h1,h2⟩:=Out.hJ hd hs;have q:=(Eb (n:=args.length+(fn.ntmps-args.length)) (ask:=ask) (asko:=asko) hC hcall hcall1 htr L (pol g) c (hlps _) dec hd _ _ _ h1).1
 have key:e1= .normal\/e1= .ret-> ∀vs,uu (C.with d1) s1.tm s1.hp fn.results.toList=some vs->s=⟨T.nil.set 0 (j6 vs),s1.hp,s1.nx⟩->dA P ρ B W g args h nx s:=by
  intro he vs hvs hs;subst hs;refine ⟨q.1,fun f w args' hr ha hf=>calls_of_wp (hC.fn _ _ hfn) hb (q.2 s1.nx f _ w _ (Nat.le_refl _) ⟨?_,?_,rfl,hr,hf⟩ fun f' a' w' l1 o1 r1=> ?_)⟩
  ·simp [ha.1]
  ·intro j v hj
   rcases eK _ _ _ _ _ hj with ⟨_,hj⟩ |hj
   ·obtain ⟨v',h1,h2⟩:=ha.get (by simpa using hj)
    have:(args'++Array.replicate (fn.ntmps-args'.size) Go.undef).getD j Go.undef=v':=by
     rw [Array.getD_eq_getD_getElem?,Array.getElem?_append_left (Array.getElem?_eq_some_iff.1 h1).1,h1];rfl
    rw [this];exact h2
   · (rw [T.get_nil] at hj; cases hj)
  ·obtain ⟨us,h1,h2⟩:=D0 (P:=P) (hC.with hd1) r1.heap r1.tm _ _ hvs
   have hpost:a'.defers=[]/\ ∃v,(results fn a'.tmps).run P w'= .ok v w'/\ ∃v' f'',(Ending.returned v)= .returned v'/\f.le f''/\Outside f f'' nx s1.nx/\au ρ B W f'' s1.hp w'/\ ∀v,(T.nil.set 0 (j6 vs)).get 0=some v->ai ρ f'' v v':=
    ⟨r1.defers,_,ue h1,_,f',rfl,l1,o1,r1.heap,fun v hv=>by
     rcases T.aB hv with ⟨_,rfl⟩ | ⟨h0,_⟩
     ·exact xZ h2
     ·exact absurd rfl h0⟩
   rcases he with rfl |rfl
   ·exact hpost
   ·exact hpost
 unfold Sq at h2;split at h2
 ·cases h2
 ·rename_i hne
  have he:e1= .normal\/e1= .ret:=by
   cases e1 with
   |normal=>exact .inl rfl
   |ret=>exact .inr rfl
   |exit i=>exact absurd rfl (hne i)
  split at h2
  ·rename_i vs hvs;cases h2;exact key he vs hvs rfl
  ·cases h2
theorem ai.zx{ρ:Env}{f f':Ren}{v:ab}{u:Value}(hf:v.free=true)(h:ai ρ f' v u):ai ρ f v u:=by
 unfold ab.free at hf;split at hf
 ·rename_i hw;have e:=ab.cT hf;have h1:ai ρ f' (v.rep IE.var id) u:=by rw [e]; exact h
  have h2:=ai.sub_of (σ:=IE.var) (π:=id) (d:=fun _=>false) v u hw h1
  exact ai.mono (fun i L hi=>by simp [Ren.via] at hi) h2
 ·cases hf
theorem dA.XN{P:Program}{ρ:Env}{g:FuncId}{args:List ab}{nx:Nat}{s:ASt}(q1: ∀B W,dA P ρ B W g args .nil nx s){v:ab}(hv:s.tm.get 0=some v)(hfree:v.free=true)(h:T ah)(B:Nat->Prop)(W:World):dA P ρ B W g args h nx ⟨T.nil.set 0 v,h,s.nx⟩:=by
 refine ⟨(q1 B W).1,fun f w args' hr ha hf=> ?_⟩
 have hr0:au ρ (· <w.heap.size) w f (.nil:T ah) w:=⟨Kept.refl _ _,fun b hb=>hb,hr.lt,fun i j Li Lj oi oj hi hj gi=>(by rw [T.get_nil] at gi; cases gi),fun i L o hi gi=>(by rw [T.get_nil] at gi; cases gi)⟩
 refine ((q1 (· <w.heap.size) w).2 f w args' hr0 ha hf).mono fun e w' ⟨v',f',a1,a2,a3,a4,a5⟩=>⟨v',f,a1,Ren.le_refl f,fun _ _=>rfl,?_,fun u hu=> ?_⟩
 ·refine hr.of_same (hr.below.trans (a4.below.mono fun b hb=>Nat.lt_of_lt_of_le (hr.bsize b hb) hr.below.size)) a4.below.size fun i L o hi ho b hb=>a4.below.block b ((hr.obj i L o hi ho).lz hb)
 ·have hu:(T.nil.set 0 v).get 0=some u:=hu
  rcases T.aB hu with ⟨_,rfl⟩ | ⟨h0,_⟩
  ·exact (a5 _ hv).zx hfree
  ·exact absurd rfl h0
theorem uJ{P:Program}{ρ:Env}{pure:FuncId->Bool}{tr:fh}(htr:iZ P ρ tr):iZ P ρ (qM pure tr):=by
 intro B W dec hd g args h nx e s hs;unfold qM at hs;split at hs
 ·obtain ⟨s0,h1,h2⟩:=Out.ML hs;split at h2
  ·rename_i v hv;split at h2
   ·rename_i hfree;cases h2;exact dA.XN (fun B W=>htr B W dec hd g args .nil nx e s0 h1) hv hfree h B W
   ·cases h2
  ·cases h2
 ·exact htr B W dec hd g args h nx e s hs
theorem zO{P:Program}{ρ:Env}{B:Nat->Prop}{W:World}{sm:Sm}(hsm:SmOk P ρ sm){pure:FuncId->Bool}{tr:fh}(htr:iZ P ρ tr): ∀dec,Dec.holds ρ dec->cI P ρ B W (xJ sm pure tr dec):=by
 intro dec hd g args h nx v h' nx' hc;unfold xJ at hc;split at hc
 ·rename_i r hr;cases hc;exact hsm.call dec hd B W _ _ _ _ _ _ _ hr
 split at hc
 ·split at hc
  ·rename_i e s hs;split at hc
   ·rename_i v0 hv0;split at hc
    ·rename_i hfree;cases hc;have q1:=fun B W=>htr B W dec hd g args .nil nx e s (by rw [hs]; rfl)
     refine ⟨(q1 B W).1,fun f w args' hr ha hf=> ?_⟩
     have hr0:au ρ (· <w.heap.size) w f (.nil:T ah) w:=⟨Kept.refl _ _,fun b hb=>hb,hr.lt,fun i j Li Lj oi oj hi hj gi=>(by rw [T.get_nil] at gi; cases gi),fun i L o hi gi=>(by rw [T.get_nil] at gi; cases gi)⟩
     refine ((q1 (· <w.heap.size) w).2 f w args' hr0 ha hf).mono fun e w' ⟨v',f',a1,a2,a3,a4,a5⟩=>⟨v',f,a1,Ren.le_refl f,fun _ _=>rfl,?_,(a5 _ hv0).zx hfree⟩
     refine hr.of_same (hr.below.trans (a4.below.mono fun b hb=>Nat.lt_of_lt_of_le (hr.bsize b hb) hr.below.size)) a4.below.size fun i L o hi ho b hb=>a4.below.block b ((hr.obj i L o hi ho).lz hb)
    ·cases hc
   ·cases hc
  ·cases hc
 ·split at hc
  ·rename_i e s hs;split at hc
   ·rename_i v0 hv0;cases hc;have q:=htr B W dec hd g args h nx e s (by rw [hs]; rfl)
    exact ⟨q.1,fun f w args' hr ha hf=>(q.2 f w args' hr ha hf).mono fun e w' ⟨v',f',a1,a2,a3,a4,a5⟩=>⟨v',f',a1,a2,a3,a4,a5 _ hv0⟩⟩
   ·cases hc
  ·cases hc
theorem DI{C:Ctx}{P:Program}{ρ:Env}(hC:C.Ok P ρ){sm:Sm}(hsm:SmOk P ρ sm)(L:Nat)(pol:FuncId->Nat->Bool)(pure:FuncId->Bool): ∀d,iZ P ρ (pE C sm L pol pure d):=by
 intro d
 induction d with
 |zero=>intro B W dec hd g args h nx e s hc; cases hc
 |succ d ih=>
  intro B W dec hd g args h nx e s hc;unfold pE at hc;split at hc
  ·cases hc
  ·rename_i fn hfn;split at hc
   ·cases hc
   ·rename_i c hb;obtain ⟨s1,h1,h2⟩:=Out.F1 hc;obtain ⟨s0,h1,h3⟩:=Out.RL h1;exact (Rk hC (zO hsm ih) (fun dec hd=>hsm.call dec hd B W) (uJ ih) hfn hb (fun n=>hsm.lps g fn c (hC.fn _ _ hfn) hb B W n) hd h1).cov (h3.trans h2)
def Out.all(p:Dec->aM->ASt->Bool):Out->Dec->Bool
 | .bad _,_=>false
 | .leaf e s,dec=>p dec e s
 | .split b y n,dec=>
   match Out.all p y ((b,true)::dec) with
   |true=>Out.all p n ((b,false)::dec)
   |false=>false
theorem Out.bP{ρ:Env}{p:Dec->aM->ASt->Bool}: ∀ {o:Out} {dec:Dec},dec.holds ρ->o.all p dec=true-> ∃e s dec',Dec.holds ρ dec'/\o.pick ρ=some (e,s)/\p dec' e s=true:=by
 intro o
 induction o with
 |bad w=>intro dec _ h; cases h
 |leaf e s=>intro dec hd h; exact ⟨e,s,dec,hd,rfl,h⟩
 |split b y n ihy ihn=>
  intro dec hd h;simp only [Out.all] at h;split at h
  ·rename_i h1;simp only [Out.pick];cases hb:b.ev ρ
   ·exact ihn (aR hd hb) h
   ·exact ihy (aR hd hb) h1
  ·cases h
end
end Go.Sx
namespace Go.Sx
open Go.RowKit (Below)
noncomputable section
def IE.eqN(bd:Bd)(dec:Dec)(a b:IE):Bool:=
 match a.eqF b with
 |true=>true
 |false=>
  match (a.nrm bd dec).eq (b.nrm bd dec) with
  |true=>true
  |false=>
   match vI bd (a.nrm bd dec) (b.nrm bd dec) with
   |some v=>v
   |none=>false
section
variable{ρ:Env}{bd:Bd}{dec:Dec}{f:Ren}
theorem IE.cf(hρ:ρ.ok bd)(hd:dec.holds ρ){a b:IE}(h:a.eqN bd dec b=true):a.ev ρ=b.ev ρ:=by
 unfold IE.eqN at h;split at h
 ·rename_i e;rw [IE.tP e]
 ·split at h
  ·rename_i h1;rw [<- IE.bX hρ hd a,IE.eq_eq h1,IE.bX hρ hd]
  ·split at h
   ·rename_i v hv;subst h;have:=wo hρ hv;rw [IE.bX hρ hd,IE.bX hρ hd] at this;exact of_decide_eq_true this
   ·cases h
def isNum(bd:Bd)(dec:Dec):BE->BE->Bool
 | .eq x (.lit n),b=>
   match aK n 1,b.num with
   |true,some y=>x.eqN bd dec y
   |_,_=>false
 |_,_=>false
theorem P8(hρ:ρ.ok bd)(hd:dec.holds ρ){a b:BE}(h:isNum bd dec a b=true):a.ev ρ=b.ev ρ:=by
 cases a with
 |eq x z=>
  cases z with
  |lit n=>
   simp only [isNum] at h;split at h
   ·rename_i y h1 h2;have:=ar h1;subst this;have h3:=IE.cf hρ hd h;have h4:=BE.s7 (ρ:=ρ) h2;show decide (x.ev ρ=1)=_;rw [h3,h4];cases b.ev ρ<;>rfl
   ·cases h
  |_=>simp [isNum] at h
 |_=>simp [isNum] at h
def BE.eqN(bd:Bd)(dec:Dec)(a b:BE):Bool:=
 match a.same b with
 |true=>true
 |false=>
  match isNum bd dec a b with
  |true=>true
  |false=>(a.nrm bd dec).same (b.nrm bd dec)
theorem BE.cf(hρ:ρ.ok bd)(hd:dec.holds ρ){a b:BE}(h:a.eqN bd dec b=true):a.ev ρ=b.ev ρ:=by
 unfold BE.eqN at h;split at h
 ·rename_i e;rw [BE.cT e]
 ·split at h
  ·rename_i hn;exact P8 hρ hd hn
  ·rw [<- BE.bX hρ hd a,BE.cT h,BE.bX hρ hd]
def sO(bd:Bd)(dec:Dec):List IE->List IE->Bool
 | [],[]=>true
 |a::l,b::m=>
  match a.eqN bd dec b with
  |true=>sO bd dec l m
  |false=>false
 |_,_=>false
theorem xD(hρ:ρ.ok bd)(hd:dec.holds ρ): ∀ {l m:List IE},sO bd dec l m=true->l.map (·.ev ρ)=m.map (·.ev ρ):=by
 intro l
 induction l with
 |nil=>intro m h; cases m with
  |nil=>rfl
  |cons b m=>cases h
 |cons a l ih=>
  intro m h;cases m with
  |nil=>cases h
  |cons b m=>
   simp only [sO] at h;split at h
   ·rename_i e;simp only [List.map_cons,IE.cf hρ hd e,ih h]
   ·cases h
def Ed(bd:Bd)(dec:Dec)(code:IE):Nat->List IE->Bool
 |_,[]=>true
 |j,e::l=>
  match (Ey bd 0 (code.nrm bd dec) (.lit (.ofNat j)) (.lit 0)).eqN bd dec e with
  |true=>Ed bd dec code (j+1) l
  |false=>false
theorem El(hρ:ρ.ok bd)(hd:dec.holds ρ){code:IE}: ∀ {l:List IE} {j:Nat},Ed bd dec code j l=true-> ∀(i:Nat) (e:IE),l[i]? =some e->ag (code.ev ρ) (j+i:Nat)=e.ev ρ:=by
 intro l
 induction l with
 |nil=>intro j _ i e h; simp at h
 |cons a l ih=>
  intro j h i e he;simp only [Ed] at h;split at h
  ·rename_i h1;cases i with
   |zero=>
    simp at he;subst he;have:=IE.cf hρ hd h1;rw [wD hρ,IE.bX hρ hd] at this;exact this
   |succ i=>
    have:=ih h i e (by simpa using he)
    rw [show j+(i+1)=j+1+i by omega]
    exact this
  ·cases h
def vf:List IE->Nat->Bool
 | [],_=>true
 |e::l,m=>
  match e with
  | .lit (.ofNat v)=>
    match Nat.beq (Nat.mod m 1208925819614629174706176) v&&Nat.blt v 604462909807314587353088 with
    |true=>vf l (Nat.shiftRight m 80)
    |false=>false
  |_=>false
theorem IS{ρ:Env}{n:Nat}: ∀ {l:List IE} {j:Nat},vf l (Nat.shiftRight n (Nat.mul 80 j))=true-> ∀(i:Nat) (e:IE),l[i]? =some e->ag (n:Int) (j+i:Nat)=e.ev ρ:=by
 intro l
 induction l with
 |nil=>intro j _ i e h; simp at h
 |cons a l ih=>
  intro j h i e he;unfold vf at h;split at h
  ·rename_i v;split at h
   ·rename_i h1;obtain ⟨h1,h2⟩:=aa h1;have h1:=Nat.eq_of_beq_eq_true h1;cases i with
    |zero=>
     simp at he;subst he;show ff (Nat.mod (Nat.shiftRight ((n:Int).toNat) (Nat.mul 80 ((j:Nat):Int).toNat)) 1208925819614629174706176)=(v:Int);rw [Int.toNat_natCast,Int.toNat_natCast,h1];unfold ff;rw [h2];rfl
    |succ i=>
     have e1:Nat.shiftRight (Nat.shiftRight n (Nat.mul 80 j)) 80=Nat.shiftRight n (Nat.mul 80 (j+1)):=by
      show (n >>> (80*j)) >>> 80=n >>> (80*(j+1));rw [<- Nat.shiftRight_add];rfl
     rw [e1] at h;have:=ih h i e (by simpa using he)
     rw [show j+(i+1)=j+1+i by omega]
     exact this
   ·cases h
  ·cases h
def HY(bd:Bd)(dec:Dec)(code:IE)(l:List IE):Bool:=
 match code with
 | .lit (.ofNat n)=>
   match vf l n with
   |true=>true
   |false=>Ed bd dec (.lit (.ofNat n)) 0 l
 |code=>Ed bd dec code 0 l
theorem NP(hρ:ρ.ok bd)(hd:dec.holds ρ){code:IE}{l:List IE}(h:HY bd dec code l=true)(i:Nat)(e:IE)(he:l[i]? =some e):ag (code.ev ρ) (i:Nat)=e.ev ρ:=by
 unfold HY at h;split at h
 ·rename_i n;split at h
  ·rename_i h1;have:=IS (ρ:=ρ) (n:=n) (l:=l) (j:=0) (by simpa using h1) i e he
   rw [Nat.zero_add] at this;exact this
  ·have:=El hρ hd h i e he;rw [Nat.zero_add] at this;exact this
 ·have:=El hρ hd h i e he;rw [Nat.zero_add] at this;exact this
mutual
/-- The first says what the second says. -/
def ab.cov(bd:Bd)(dec:Dec):ab->ab->Bool
 | .bool a,.bool b=>a.eqN bd dec b
 | .int k a,.int j b=>bf k j&&a.eqN bd dec b
 | .str a,.str b=>sO bd dec a b
 | .ptr a,.ptr b=>lO a b
 | .slice a l c g,.slice b l' c' g'=>lO a b&&(Nat.beq l l'&&(Nat.beq c c'&&Nat.beq g g'))
 | .map none,.map none=>true
 | .map (some a),.map (some b)=>Nat.beq a b
 | .func a l m,.func b l' m'=>C3 a b&&(covList bd dec l l'&&covList bd dec m m')
 | .nilFunc,.nilFunc=>true
 | .iface t a,.iface u b=>Nat.beq t u&&a.cov bd dec b
 | .nilIface,.nilIface=>true
 | .agg l,.agg m=>covList bd dec l m
 | .tuple l,.tuple m=>covList bd dec l m
 | .ptrE i a s c,.ptrE j b t d=>Nat.beq i j&&(a.eqN bd dec b&&(Nat.beq s t&&Nat.beq c d))
 | .sliceS i a b s nn,.sliceS j c d t nn'=>Nat.beq i j&&(a.eqN bd dec c&&(b.eqN bd dec d&&(Nat.beq s t&&bEq nn nn')))
 | .sliceS i a b s nn,.slice (some (j,o)) n c _=>Nat.beq i j&&(b.eqN bd dec (.lit (.ofNat n))&&(Nat.ble n c&&(match a with
   | .lit (.ofNat st)=>Nat.beq (Nat.mul st s) o
   |_=>false)))
 | .sliceS _ _ b _ nn,.slice none 0 0 0=>bEq nn false&&b.eqN bd dec (.lit 0)
 | .sliceS i a b s nn,.sliceA j l t=>Nat.beq i j&&(a.eqN bd dec (.lit 0)&&(b.eqN bd dec l&&(Nat.beq s t&&bEq nn false)))
 | .sliceA i l s,.sliceA j l' t=>Nat.beq i j&&(l.eqN bd dec l'&&Nat.beq s t)
 | .sliceA _ l _,.slice none 0 0 0=>l.eqN bd dec (.lit 0)
 | .strS a b,.strS c d=>a.eqN bd dec c&&b.eqN bd dec d
 | .strS a b,.str l=>b.eqN bd dec (.lit (.ofNat l.length))&&HY bd dec a l
 |_,_=>false
def covList(bd:Bd)(dec:Dec):List ab->List ab->Bool
 | [],[]=>true
 |a::l,b::m=>
  match a.cov bd dec b with
  |true=>covList bd dec l m
  |false=>false
 |_,_=>false
end
theorem uN: ∀ {l m:List ab},covList bd dec l m=true->l.length=m.length/\ ∀(i:Nat) (a:ab),l[i]? =some a-> ∃b,m[i]? =some b/\a.cov bd dec b=true:=by
 intro l
 induction l with
 |nil=>intro m h; cases m with
  |nil=>exact ⟨rfl,fun i a ha=>by simp at ha⟩
  |cons b m=>simp only [covList] at h; cases h
 |cons x l ih=>
  intro m h;cases m with
  |nil=>simp only [covList] at h; cases h
  |cons b m=>
   simp only [covList] at h;split at h
   ·rename_i e;obtain ⟨h1,h2⟩:=ih h;refine ⟨by simp [h1],fun i a ha=> ?_⟩
    cases i with
    |zero=>simp at ha; subst ha; exact ⟨b,rfl,e⟩
    |succ i=>exact h2 i a (by simpa using ha)
   ·cases h
theorem ai.ac3{i i' s c:Nat}{L:Loc}{st len b:IE}{nn:Bool}(h1:i=i')(e:st.ev ρ=(IE.lit 0).ev ρ)(e3:b.ev ρ=len.ev ρ)(hnn:nn=false)(hh:f i'=some L)(hl:0<=len.ev ρ)(hc:(len.ev ρ).toNat<=c):ai ρ f (.sliceS i st b s nn) (.slice (some ⟨L.blk,L.base,none⟩) (len.ev ρ).toNat c):=by
 subst h1 hnn;have e:st.ev ρ=0:=e;have:=ai.sliceS (ρ:=ρ) (f:=f) (s:=s) (st:=st) (len:=b) (nn:=false) (c:=c) hh (by rw [e]; exact Int.le_refl 0) (by rw [e3]; exact hl) (by rw [e3]; exact hc)
 rw [e,e3,Int.toNat_zero,Nat.zero_mul,Nat.add_zero] at this;exact this
theorem ab.xX(hρ:ρ.ok bd)(hd:dec.holds ρ){b:ab}{v:Value}(h:ai ρ f b v): ∀ {a:ab},a.cov bd dec b=true->ai ρ f a v:=by
 have lists: ∀ {m:List ab} {vs:Array Value},vs.size=m.length->(∀ (i:Nat) (b:ab) (v:Value),m[i]? =some b->vs[i]? =some v-> ∀ {a:ab},a.cov bd dec b=true->ai ρ f a v)-> ∀ {l:List ab},covList bd dec l m=true->
  vs.size=l.length/\ ∀(i:Nat) (a:ab) (v:Value),l[i]? =some a->vs[i]? =some v->ai ρ f a v:=by
  intro m vs hs ih l hl;obtain ⟨h1,h2⟩:=uN hl;refine ⟨by omega,fun i a v ha hv=> ?_⟩
  obtain ⟨b,hb,hc⟩:=h2 i a ha;exact ih i b v hb hv hc
 induction h with
 |bool b=>
  intro a hc;cases a<;>(try simp only [ab.cov] at hc)<;>first | (cases hc; done) |skip
  rw [<- BE.cf hρ hd hc];exact .bool _
 |int k e=>
  intro a hc;cases a<;>(try simp only [ab.cov] at hc)<;>first | (cases hc; done) |skip
  obtain ⟨h1,h2⟩:=aa hc;rw [<- aH h1,<-IE.cf hρ hd h2];exact .int _ _
 |str hs=>
  intro a hc;cases a<;>(try simp only [ab.cov] at hc)<;>first | (cases hc; done) |skip
  ·refine .str ?_;unfold eu at hs ⊢;rw [hs,xD hρ hd hc]
  ·obtain ⟨h1,h2⟩:=aa hc;refine .strS ?_ fun j b hb=> ?_
   ·rw [IE.cf hρ hd h1];show ((_:Nat):Int)=_;rw [eu.size hs]
   ·obtain ⟨b',h3,h4⟩:=hs.get (n:=j) (e:=_) (List.getElem?_eq_getElem (by rw [<- eu.size hs]; exact (Array.getElem?_eq_some_iff.1 hb).1))
    have h5:=NP hρ hd h2 j _ (List.getElem?_eq_getElem (by rw [<- eu.size hs]; exact (Array.getElem?_eq_some_iff.1 hb).1))
    rw [h5,h4]
    have:b'=b:=by
     have e1:_=some b':=h3;have e2:_=some b:=hb
     have e3: ∀(s:ByteArray) (n:Nat),s[n]? =s.data[n]? :=fun s n=>by
      rcases s with ⟨d⟩
      show getElem? (ByteArray.mk d) n=getElem? d n
      by_cases hlt:n<d.size
      ·rw [getElem?_pos (ByteArray.mk d) n hlt,getElem?_pos d n hlt]; rfl
      ·rw [getElem?_neg (ByteArray.mk d) n hlt,getElem?_neg d n hlt]
     rw [e3] at e1;rw [e1] at e2;cases e2;rfl
    rw [this]
 |nilPtr=>intro a hc; cases a<;>simp only [ab.cov] at hc<;>first | (cases hc; done) | (rw [eZ hc]; exact .nilPtr)
 |ptr hh=>intro a hc; cases a<;>simp only [ab.cov] at hc<;>first | (cases hc; done) | (rw [eZ hc]; exact .ptr hh)
 |nilSlice=>
  intro a hc;cases a<;>(try simp only [ab.cov] at hc)<;>first | (cases hc; done) |skip
  ·obtain ⟨h1,h2⟩:=aa hc;obtain ⟨h2,h3⟩:=aa h2;obtain ⟨h3,h4⟩:=aa h3;rw [eZ h1,Nat.eq_of_beq_eq_true h2,Nat.eq_of_beq_eq_true h3,Nat.eq_of_beq_eq_true h4];exact .nilSlice
  ·obtain ⟨h1,h2⟩:=aa hc;exact .sliceZ (IE.cf hρ hd h2) fun _=>⟨rfl,dt h1⟩
  ·exact .sliceN (IE.cf hρ hd hc)
 | @slice i0 o n c L hh=>
   intro a hc;cases a<;>(try simp only [ab.cov] at hc)<;>first | (cases hc; done) |skip
   ·obtain ⟨h1,h2⟩:=aa hc;obtain ⟨h2,h3⟩:=aa h2;obtain ⟨h3,h4⟩:=aa h3;rw [eZ h1,Nat.eq_of_beq_eq_true h2,Nat.eq_of_beq_eq_true h3,Nat.eq_of_beq_eq_true h4];exact .slice hh
   ·rename_i i a b s nn;obtain ⟨g1,hc2⟩:=aa hc;obtain ⟨g2,hc3⟩:=aa hc2;obtain ⟨h3,h4⟩:=aa hc3;have h1:=Nat.eq_of_beq_eq_true g1;subst h1;have h2:=IE.cf hρ hd g2;clear hc hc2 hc3 g1 g2;split at h4
    ·rename_i st;have h4:=Nat.eq_of_beq_eq_true h4;have e1:(IE.lit (Int.ofNat st)).ev ρ=(st:Int):=rfl;have e2:b.ev ρ=(n:Int):=h2;have:=ai.sliceS (ρ:=ρ) (f:=f) (i:=i) (s:=s) (st:= .lit (.ofNat st)) (len:=b) (nn:=nn) (L:=L) (c:=c) hh (by rw [e1]; omega) (by rw [e2]; omega) (by rw [e2]; have:=Nat.le_of_ble_eq_true h3; omega)
     rw [e1,e2,Int.toNat_natCast,Int.toNat_natCast] at this;have e3:st*s=o:=h4;rw [e3] at this;exact this
    ·cases h4
 | @sliceG i0 o n c c' g L hh hn hcc hs=>
   intro a hc;cases a<;>(try simp only [ab.cov] at hc)<;>first | (cases hc; done) |skip
   ·obtain ⟨h1,h2⟩:=aa hc;obtain ⟨h2,h3⟩:=aa h2;obtain ⟨h3,h4⟩:=aa h3;rw [eZ h1,Nat.eq_of_beq_eq_true h2,Nat.eq_of_beq_eq_true h3,Nat.eq_of_beq_eq_true h4];exact .sliceG hh hn hcc hs
   ·rename_i i a b s nn;obtain ⟨g1,hc2⟩:=aa hc;obtain ⟨g2,hc3⟩:=aa hc2;obtain ⟨h3,h4⟩:=aa hc3;have h1:=Nat.eq_of_beq_eq_true g1;subst h1;have h2:=IE.cf hρ hd g2;clear hc hc2 hc3 g1 g2;split at h4
    ·rename_i st;have h4:=Nat.eq_of_beq_eq_true h4;have e1:(IE.lit (Int.ofNat st)).ev ρ=(st:Int):=rfl;have e2:b.ev ρ=(n:Int):=h2;have:=ai.sliceS (ρ:=ρ) (f:=f) (i:=i) (s:=s) (st:= .lit (.ofNat st)) (len:=b) (nn:=nn) (L:=L) (c:=c') hh (by rw [e1]; omega) (by rw [e2]; omega) (by rw [e2]; omega)
     rw [e1,e2,Int.toNat_natCast,Int.toNat_natCast] at this;have e3:st*s=o:=h4;rw [e3] at this;exact this
    ·cases h4
 |sliceE hh hg hs=>
  rename_i i o o' c' g L;intro a hc
  have hk: ∀ {p:Option (Nat×Nat)} {l c'' g':Nat},(lO p (some (i,o))&&(Nat.beq l 0&&(Nat.beq c'' 0&&Nat.beq g' g)))=true->ai ρ f (.slice p l c'' g') (.slice (some ⟨L.blk,o',none⟩) 0 c'):=by
   intro p l c'' g' hc;obtain ⟨h1,h2⟩:=aa hc;obtain ⟨h2,h3⟩:=aa h2;obtain ⟨h3,h4⟩:=aa h3;rw [eZ h1,Nat.eq_of_beq_eq_true h2,Nat.eq_of_beq_eq_true h3,Nat.eq_of_beq_eq_true h4];exact .sliceE hh hg hs
  cases a with
  |slice p l c'' g'=>simp only [ab.cov] at hc; exact hk hc
  |sliceS j a b s nn=>
   simp only [ab.cov] at hc;obtain ⟨h1,h2⟩:=aa hc;obtain ⟨h2,h3⟩:=aa h2;exact .sliceZ (IE.cf hρ hd h2) (fun h=>by cases h)
  |_=>simp only [ab.cov] at hc; cases hc
 |nilMap=>
  intro a hc;cases a with
  |map p=>cases p<;>simp only [ab.cov] at hc<;>first | (cases hc; done) |exact .nilMap
  |_=>simp only [ab.cov] at hc; cases hc
 |map hh=>
  intro a hc;cases a with
  |map p=>cases p<;>simp only [ab.cov] at hc<;>first | (cases hc; done) | (rw [Nat.eq_of_beq_eq_true hc]; exact .map hh)
  |_=>simp only [ab.cov] at hc; cases hc
 |func ha hb ha' hb' iha ihb=>
  intro a hc;cases a<;>(try simp only [ab.cov] at hc)<;>first | (cases hc; done) |skip
  obtain ⟨h1,h2⟩:=aa hc;obtain ⟨h2,h3⟩:=aa h2;rw [zX h1];have p:=lists ha iha h2;have q:=lists hb ihb h3;exact .func p.1 q.1 p.2 q.2
 |nilFunc=>intro a hc; cases a<;>simp only [ab.cov] at hc<;>first | (cases hc; done) |exact .nilFunc
 |iface h ih=>
  intro a hc;cases a<;>(try simp only [ab.cov] at hc)<;>first | (cases hc; done) |skip
  obtain ⟨h1,h2⟩:=aa hc;rw [Nat.eq_of_beq_eq_true h1];exact .iface (ih h2)
 |nilIface=>intro a hc; cases a<;>simp only [ab.cov] at hc<;>first | (cases hc; done) |exact .nilIface
 |agg ha ha' ih=>
  intro a hc;cases a<;>(try simp only [ab.cov] at hc)<;>first | (cases hc; done) |skip
  have p:=lists ha ih hc;exact .agg p.1 p.2
 |tuple ha ha' ih=>
  intro a hc;cases a<;>(try simp only [ab.cov] at hc)<;>first | (cases hc; done) |skip
  have p:=lists ha ih hc;exact .tuple p.1 p.2
 |ptrE hh h0=>
  intro a hc;cases a<;>(try simp only [ab.cov] at hc)<;>first | (cases hc; done) |skip
  obtain ⟨h1,h2⟩:=aa hc;obtain ⟨h2,h3⟩:=aa h2;obtain ⟨h3,h4⟩:=aa h3;have h2:=IE.cf hρ hd h2;rw [Nat.eq_of_beq_eq_true h1,Nat.eq_of_beq_eq_true h3,Nat.eq_of_beq_eq_true h4,<-h2];exact .ptrE hh (by rw [h2]; exact h0)
 |sliceS hh h0 hl hcap=>
  intro a hc;cases a<;>(try simp only [ab.cov] at hc)<;>first | (cases hc; done) |skip
  obtain ⟨h1,h2⟩:=aa hc;obtain ⟨h2,h3⟩:=aa h2;obtain ⟨h3,h4⟩:=aa h3;obtain ⟨h4,h5⟩:=aa h4;have h2:=IE.cf hρ hd h2;have h3:=IE.cf hρ hd h3;rw [Nat.eq_of_beq_eq_true h1,Nat.eq_of_beq_eq_true h4,dt h5,<-h2,<-h3];exact .sliceS hh (by rw [h2]; exact h0) (by rw [h3]; exact hl) (by rw [h3]; exact hcap)
 |sliceZ hl hz=>
  intro a hc;cases a<;>(try simp only [ab.cov] at hc)<;>first | (cases hc; done) |skip
  obtain ⟨h1,h2⟩:=aa hc;obtain ⟨h2,h3⟩:=aa h2;obtain ⟨h3,h4⟩:=aa h3;obtain ⟨h4,h5⟩:=aa h4;have h3:=IE.cf hρ hd h3;rw [Nat.eq_of_beq_eq_true h1,Nat.eq_of_beq_eq_true h4,dt h5];exact .sliceZ (by rw [h3]; exact hl) hz
 |sliceA hh hl hcap hs=>
  intro a hc;cases a<;>(try simp only [ab.cov] at hc)<;>first | (cases hc; done) |skip
  ·obtain ⟨h1,h2⟩:=aa hc;obtain ⟨h2,h3⟩:=aa h2;obtain ⟨h3,h4⟩:=aa h3;obtain ⟨h4,h5⟩:=aa h4;have h2:=IE.cf hρ hd h2;have h3:=IE.cf hρ hd h3;exact ai.ac3 (Nat.eq_of_beq_eq_true h1) h2 h3 (dt h5) hh hl hcap
  ·obtain ⟨h1,h2⟩:=aa hc;obtain ⟨h2,h3⟩:=aa h2;have h2:=IE.cf hρ hd h2;rw [Nat.eq_of_beq_eq_true h1,Nat.eq_of_beq_eq_true h3,<-h2];exact .sliceA hh (by rw [h2]; exact hl) (by rw [h2]; exact hcap) hs
 |sliceN hl=>
  intro a hc;cases a<;>(try simp only [ab.cov] at hc)<;>first | (cases hc; done) |skip
  ·obtain ⟨h1,h2⟩:=aa hc;obtain ⟨h2,h3⟩:=aa h2;obtain ⟨h3,h4⟩:=aa h3;obtain ⟨h4,h5⟩:=aa h4;have h3:=IE.cf hρ hd h3;rw [dt h5];exact .sliceZ (by rw [h3]; exact hl) fun _=>⟨rfl,rfl⟩
  ·obtain ⟨h1,h2⟩:=aa hc;obtain ⟨h2,h3⟩:=aa h2;have h2:=IE.cf hρ hd h2;exact .sliceN (by rw [h2]; exact hl)
 |strS hl hs=>
  intro a hc;cases a<;>(try simp only [ab.cov] at hc)<;>first | (cases hc; done) |skip
  obtain ⟨h1,h2⟩:=aa hc;have h1:=IE.cf hρ hd h1;have h2:=IE.cf hρ hd h2;exact .strS (by rw [h2]; exact hl) (fun j b hb=>by rw [h1]; exact hs j b hb)
theorem Hd(hρ:ρ.ok bd)(hd:dec.holds ρ){m:List ab}{vs:Array Value}(h:az ρ f m vs){l:List ab}(hc:covList bd dec l m=true):az ρ f l vs:=by
 obtain ⟨h1,h2⟩:=uN hc;refine ⟨by rw [h.1,h1],fun i a v ha hv=> ?_⟩
 obtain ⟨b,hb,hcb⟩:=h2 i a ha;exact ab.xX hρ hd (h.2 i b v hb hv) hcb
def sK(bd:Bd)(dec:Dec)(c:T ab)(k:Nat)(v:ab):Bool:=
 match c.get k with
 |some u=>v.cov bd dec u
 |none=>false
def lg(bd:Bd)(dec:Dec)(ks:List IntKind)(code:IE)(c:T ab):Nat->Nat->Bool
 |0,_=>true
 |n+1,j=>
  match ks[j % ks.length]?,c.get j with
  |some k,some (.int k' e)=>
   match bf k k'&&(fits k (rng bd e)&&(Ey bd 0 (code.nrm bd dec) (.lit (.ofNat j)) (.lit 0)).eqN bd dec e) with
   |true=>lg bd dec ks code c n (j+1)
   |false=>false
  |_,_=>false
theorem nG(hρ:ρ.ok bd)(hd:dec.holds ρ){ks:List IntKind}{code:IE}{c:T ab}: ∀ {n j:Nat},lg bd dec ks code c n j=true-> ∀i,j<=i->i<j+n->
 ∃k e,ks[i % ks.length]? =some k/\c.get i=some (.int k e)/\e.ev ρ=ag (code.ev ρ) i/\kLo k<=e.ev ρ/\e.ev ρ<=kHi k:=by
 intro n
 induction n with
 |zero=>intro j _ i h1 h2; omega
 |succ n ih=>
  intro j h i h1 h2;simp only [lg] at h;split at h
  ·rename_i k k' e hk hc;split at h
   ·rename_i hq;obtain ⟨q1,q23⟩:=aa hq;obtain ⟨q2,q3⟩:=aa q23;have q1:=aH q1;subst q1
    by_cases hij:i=j
    ·subst hij;have:=IE.cf hρ hd q3;rw [wD hρ,IE.bX hρ hd] at this;have hr:=ep (ρ:=ρ) hρ (k:=k) (e:=e) q2;exact ⟨k,e,hk,hc,this.symm,hr.1,hr.2⟩
    ·exact ih h i (by omega) (by omega)
   ·cases h
  ·cases h
def oz(k:IntKind)(c:T ab):Nat->Nat->Nat->Bool
 |0,_,_=>true
 |n+1,j,m=>
  match c.get j with
  |some (.int k' e)=>
   match e with
   | .lit (.ofNat v)=>
     match bf k k'&&(Nat.beq (Nat.mod m 1208925819614629174706176) v&&Nat.ble v (iU k)) with
     |true=>oz k c n (j+1) (Nat.shiftRight m 80)
     |false=>false
   |_=>false
  |_=>false
theorem B0{ρ:Env}{k:IntKind}{c:T ab}{m:Nat}: ∀ {n j:Nat},oz k c n j (Nat.shiftRight m (Nat.mul 80 j))=true-> ∀i,j<=i->i<j+n->
 ∃e,c.get i=some (.int k e)/\e.ev ρ=ag (m:Int) i/\kLo k<=e.ev ρ/\e.ev ρ<=kHi k:=by
 intro n
 induction n with
 |zero=>intro j _ i h1 h2; omega
 |succ n ih=>
  intro j h i h1 h2;unfold oz at h;split at h
  ·rename_i k' e hc;split at h
   ·rename_i v;split at h
    ·rename_i hq;obtain ⟨q1,q23⟩:=aa hq;obtain ⟨q2,q3⟩:=aa q23;have q1:=aH q1;subst q1;have q2:=Nat.eq_of_beq_eq_true q2;have q3:v<=iU k:=Nat.le_of_ble_eq_true q3
     by_cases hij:i=j
     ·subst hij;have ev:(IE.lit (.ofNat v)).ev ρ=(v:Int):=rfl;have hv:(v:Int)<=kHi k:=by rw [<- lR k]; exact_mod_cast q3
      have hl:kLo k<=(v:Int):=by
       have:kLo k<=0:=by cases k<;>decide
       omega
      refine ⟨_,hc,?_,by rw [ev]; exact hl,by rw [ev]; exact hv⟩
      rw [ev];show (v:Int)=ff (Nat.mod (Nat.shiftRight ((m:Int).toNat) (Nat.mul 80 ((i:Nat):Int).toNat)) 1208925819614629174706176);rw [Int.toNat_natCast,Int.toNat_natCast,q2];unfold ff
      have hb:Nat.blt v 604462909807314587353088=true:=by
       rw [Nat.blt_eq];have:iU k<604462909807314587353088:=by cases k<;>decide
       omega
      rw [hb];rfl
     ·have e1:Nat.shiftRight (Nat.shiftRight m (Nat.mul 80 j)) 80=Nat.shiftRight m (Nat.mul 80 (j+1)):=by
       show (m >>> (80*j)) >>> 80=m >>> (80*(j+1));rw [<- Nat.shiftRight_add];rfl
      rw [e1] at h;exact ih h i (by omega) (by omega)
    ·cases h
   ·cases h
  ·cases h
def s8(bd:Bd)(dec:Dec)(ks:List IntKind)(code:IE)(c:T ab)(n:Nat):Bool:=
 match ks with
 | [k]=>
   match code with
   | .lit (.ofNat m)=>
     match oz k c n 0 m with
     |true=>true
     |false=>lg bd dec [k] (.lit (.ofNat m)) c n 0
   |code=>lg bd dec [k] code c n 0
 |ks=>lg bd dec ks code c n 0
theorem Dl(hρ:ρ.ok bd)(hd:dec.holds ρ){ks:List IntKind}{code:IE}{c:T ab}{n:Nat}(h:s8 bd dec ks code c n=true)(i:Nat)(hi:i<n):
 ∃k e,ks[i % ks.length]? =some k/\c.get i=some (.int k e)/\e.ev ρ=ag (code.ev ρ) i/\kLo k<=e.ev ρ/\e.ev ρ<=kHi k:=by
 unfold s8 at h;split at h
 ·rename_i k;split at h
  ·rename_i m;split at h
   ·rename_i h1;obtain ⟨e,q1,q2,q3,q4⟩:=B0 (ρ:=ρ) (k:=k) (c:=c) (m:=m) (n:=n) (j:=0) h1 i (Nat.zero_le _) (by omega)
    refine ⟨k,e,?_,q1,q2,q3,q4⟩;simp [Nat.mod_one]
   ·exact nG hρ hd h i (Nat.zero_le _) (by omega)
  ·exact nG hρ hd h i (Nat.zero_le _) (by omega)
 ·exact nG hρ hd h i (Nat.zero_le _) (by omega)
def IE.leN(bd:Bd)(dec:Dec)(a b:IE):Bool:=
 match a.eqN bd dec b with
 |true=>true
 |false=>
  match wz bd 6 dec (.lt b a) with
  |some false=>true
  |_=>false
theorem IE.Ch(hρ:ρ.ok bd)(hd:dec.holds ρ){a b:IE}(h:a.leN bd dec b=true):a.ev ρ<=b.ev ρ:=by
 unfold IE.leN at h;split at h
 ·rename_i e;rw [IE.cf hρ hd e];exact Int.le_refl _
 ·split at h
  ·rename_i e;have:=tf hρ 6 dec _ _ hd e;have:=of_decide_eq_false this;omega
  ·cases h
def ah.cov(bd:Bd)(dec:Dec):ah->ah->Bool
 | .cells c e o t,.cells c' e' o' t'=>Nat.beq e e'&&(bEq o o'&&(Nat.beq t t'&&T.pW (sK bd dec c') c 1 0))
 | .arr ks c n o,.arr ks' c' n' o'=>eH ks ks'&&(c.eqN bd dec c'&&(n.leN bd dec n'&&bEq o o'))
 | .arr ks c (.lit (.ofNat n)) o,.cells c' _ o' _=>bEq o o'&&s8 bd dec ks c c' (Nat.mul n ks.length)
 | .ghost k vs c,.ghost k' vs' c'=>Nat.beq k k'&&(sO bd dec vs vs'&&T.pW (sK bd dec c') c 1 0)
 | .col s c k code m d n,.col s' c' k' code' m' d' n'=>Nat.beq s s'&&(Nat.beq c c'&&(bf k k'&&(code.eqN bd dec code'&&(Nat.beq m m'&&(Nat.beq d d'&&n.eqN bd dec n')))))
 | .win i s c e o,.win i' s' c' e' o'=>i.eqN bd dec i'&&(Nat.beq s s'&&(Nat.beq e e'&&(bEq o o'&&T.pW (sK bd dec c') c 1 0)))
 | .map [],.map []=>true
 |_,_=>false
theorem qc(hρ:ρ.ok bd)(hd:dec.holds ρ){c c':T ab}(h:T.pW (sK bd dec c') c 1 0=true){k:Nat}{v:ab}(hv:c.get k=some v): ∃u,c'.get k=some u/\ ∀x,ai ρ f u x->ai ρ f v x:=by
 have:=T.vM h hv;unfold sK at this;split at this
 ·rename_i u hu;exact ⟨u,hu,fun x hx=>ab.xX hρ hd hx this⟩
 ·cases this
theorem ah.xX(hρ:ρ.ok bd)(hd:dec.holds ρ){o o':ah}(h:o.cov bd dec o'=true){B:Nat->Prop}{w:World}{L:Loc}(ho:c9 ρ f B w L o'):c9 ρ f B w L o/\o.own=o'.own/\ ∀b,o.aZ ρ w L b ↔ o'.aZ ρ w L b:=by
 unfold ah.cov at h;split at h
 ·rename_i c e ow t c' e' ow' t';obtain ⟨h1,h2⟩:=aa h;obtain ⟨h2,h3⟩:=aa h2;obtain ⟨h3,h4⟩:=aa h3;have h1:=Nat.eq_of_beq_eq_true h1;have h2:=dt h2;have h3:=Nat.eq_of_beq_eq_true h3;subst h1 h2 h3;obtain ⟨cs,fr,q1,q2,q3,q4⟩:=ho;refine ⟨⟨cs,fr,q1,q2,q3,fun j v hj=> ?_⟩,rfl,fun _=>Iff.rfl⟩
  obtain ⟨u,hu,hk⟩:=qc (f:=f) hρ hd h4 hj;obtain ⟨p1,v',p2,p3⟩:=q4 _ _ hu;exact ⟨p1,v',p2,hk _ p3⟩
 ·rename_i ks c n ow ks' c' n' ow';obtain ⟨g1,g2⟩:=aa h;obtain ⟨g3,g4⟩:=aa g2;obtain ⟨g5,g6⟩:=aa g4;have h1:=fm g1;have h2:=IE.cf hρ hd g3;have h3:=IE.Ch hρ hd g5;have h4:=dt g6;clear g1 g2 g3 g4 g5 g6 h;subst h1 h4;obtain ⟨cs,el,fr,q1,q2,q3,q4⟩:=ho;refine ⟨⟨cs,el,fr,q1,q2,q3,fun j c k hj hk=> ?_⟩,rfl,fun _=>Iff.rfl⟩
  have hj:=Int.lt_of_lt_of_le hj h3;rw [h2];exact q4 j c k hj hk
 ·rename_i ks c n ow c' e' ow' t';obtain ⟨h1,h2⟩:=aa h;have h1:=dt h1;subst h1;obtain ⟨cs,fr,q1,q2,q3,q4⟩:=ho;refine ⟨⟨cs,e',fr,q1,q2,q3,fun j c2 k hj hk=> ?_⟩,rfl,fun _=>Iff.rfl⟩
  have hc2:c2<ks.length:=(List.getElem?_eq_some_iff.1 hk).1
  have hj:j<n:=by
   have:(j:Int)<(n:Int):=hj;omega
  have hlt:j*ks.length+c2<n*ks.length:=by
   have:(j+1)*ks.length<=n*ks.length:=Nat.mul_le_mul_right _ hj;rw [Nat.add_mul] at this;omega
  obtain ⟨k',e,r1,r2,r3,r4,r5⟩:=Dl hρ hd h2 (j*ks.length+c2) hlt
  have hmod:(j*ks.length+c2) % ks.length=c2:=by
   rw [Nat.add_comm,Nat.add_mul_mod_self_right,Nat.mod_eq_of_lt hc2]
  rw [hmod,hk] at r1;cases r1;obtain ⟨p1,v',p2,p3⟩:=q4 _ _ r2;cases p3;rw [<- r3];exact ⟨p2,r4,r5⟩
 ·rename_i k vs c k' vs' c';obtain ⟨h1,h2⟩:=aa h;obtain ⟨h2,h3⟩:=aa h2;have h1:=Nat.eq_of_beq_eq_true h1;have h2:=xD hρ hd h2;subst h1;obtain ⟨⟨q0,q1⟩,qb,cs,el,fr,q2,q3,q4,q5⟩:=ho;refine ⟨⟨⟨by rw [h2]; exact q0,q1⟩,qb,cs,el,fr,q2,q3,q4,fun j v hj=> ?_⟩,rfl,fun _=>Iff.rfl⟩
  obtain ⟨u,hu,hk⟩:=qc (f:=f) hρ hd h3 hj;obtain ⟨p1,v',p2,p3⟩:=q5 _ _ hu;exact ⟨p1,v',p2,hk _ p3⟩
 ·rename_i s c k code m d n s' c' k' code' m' d' n';obtain ⟨k1,h⟩:=aa h;obtain ⟨k2,h⟩:=aa h;obtain ⟨k3,h⟩:=aa h;obtain ⟨k4,h⟩:=aa h;obtain ⟨k5,h⟩:=aa h;obtain ⟨k6,k7⟩:=aa h;have k1:=Nat.eq_of_beq_eq_true k1;have k2:=Nat.eq_of_beq_eq_true k2;have k3:=aH k3;have k4:=IE.cf hρ hd k4;have k5:=Nat.eq_of_beq_eq_true k5;have k6:=Nat.eq_of_beq_eq_true k6;have k7:=IE.cf hρ hd k7;subst k1 k2 k3 k5 k6;obtain ⟨cs,el,fr,q1,q2⟩:=ho;refine ⟨⟨cs,el,fr,q1,fun j hj=> ?_⟩,rfl,fun _=>Iff.rfl⟩
  rw [k7] at hj;rw [k4];exact q2 j hj
 ·rename_i i s c e o i' s' c' e' o';obtain ⟨g1,g2⟩:=aa h;obtain ⟨g3,g4⟩:=aa g2;obtain ⟨g5,g6⟩:=aa g4;obtain ⟨g7,g8⟩:=aa g6;have h1:=IE.cf hρ hd g1;have h2:=Nat.eq_of_beq_eq_true g3;have h3:=Nat.eq_of_beq_eq_true g5;have h4:=dt g7;clear h g1 g2 g3 g4 g5 g6 g7;subst h2 h3 h4;obtain ⟨cs,fr,q1,q2,q3,q0,q4⟩:=ho;refine ⟨⟨cs,fr,q1,q2,q3,by rw [h1]; exact q0,fun j v hj=> ?_⟩,rfl,fun _=>Iff.rfl⟩
  obtain ⟨u,hu,hk⟩:=qc (f:=f) hρ hd g8 hj;obtain ⟨v',p2,p3⟩:=q4 _ _ hu;rw [h1];exact ⟨v',p2,hk _ p3⟩
 ·exact ⟨ho,rfl,fun _=>Iff.rfl⟩
 ·cases h
end
def T.qf{α β:Type}(g:α->β):T α->T β
 | .nil=> .nil
 | .node v l r=> .node (match v with
   |none=>none
   |some x=>some (g x)) (T.qf g l) (T.qf g r)
theorem T.Mf{α β:Type}(g:α->β): ∀(t:T α) (k:Nat),(t.qf g).cw k=(t.cw k).map g:=by
 intro t
 induction t with
 |nil=>intro k; rfl
 |node v l r ihl ihr=>
  intro k;simp only [T.qf,T.cw];cases Nat.beq k 0
  ·cases Nat.beq (k % 2) 1
   ·exact ihr _
   ·exact ihl _
  ·cases v<;>rfl
theorem T.iI{α β:Type}(g:α->β)(t:T α)(k:Nat):(t.qf g).get k=(t.get k).map g:=by
 rw [T.get_eq,T.get_eq,T.Mf]
mutual
def ab.nrmA(bd:Bd)(dec:Dec):ab->ab
 | .bool b=> .bool (b.nrm bd dec)
 | .int k e=> .int k (e.nrm bd dec)
 | .str l=> .str (l.map (IE.nrm bd dec))
 | .iface t v=> .iface t (v.nrmA bd dec)
 | .agg l=> .agg (nrmList bd dec l)
 | .tuple l=> .tuple (nrmList bd dec l)
 | .ptrE i e s c=> .ptrE i (e.nrm bd dec) s c
 | .sliceS i a l s nn=> .sliceS i (a.nrm bd dec) (l.nrm bd dec) s nn
 | .sliceA i l s=> .sliceA i (l.nrm bd dec) s
 | .strS c l=> .strS (c.nrm bd dec) (l.nrm bd dec)
 |v=>v
def nrmList(bd:Bd)(dec:Dec):List ab->List ab
 | []=>[]
 |v::l=>v.nrmA bd dec::nrmList bd dec l
end
theorem vZ(bd:Bd)(dec:Dec)(l:List ab):nrmList bd dec l=l.map (ab.nrmA bd dec):=by
 induction l with
 |nil=>rfl
 |cons v l ih=>simp [nrmList,ih]
theorem ab.Ko{ρ:Env}{bd:Bd}{dec:Dec}{f:Ren}(hρ:ρ.ok bd)(hd:dec.holds ρ){a:ab}{v:Value}(h:ai ρ f a v):ai ρ f (a.nrmA bd dec) v:=by
 induction h with
 |bool b=>simp only [ab.nrmA]; rw [<- BE.bX hρ hd b]; exact .bool _
 |int k e=>simp only [ab.nrmA]; rw [<- IE.bX hρ hd e]; exact .int _ _
 |str hs=>
  simp only [ab.nrmA];refine .str ?_;unfold eu at hs ⊢;rw [hs,List.map_map]
  congr 1
  funext e
  exact (IE.bX hρ hd e).symm
 |nilPtr=>exact .nilPtr
 |ptr hh=>exact .ptr hh
 |nilSlice=>exact .nilSlice
 |slice hh=>exact .slice hh
 |sliceG hh hn hc hs=>exact .sliceG hh hn hc hs
 |sliceE hh hg hs=>exact .sliceE hh hg hs
 |nilMap=>exact .nilMap
 |map hh=>exact .map hh
 |func ha hb ha' hb' iha ihb=>exact .func ha hb ha' hb'
 |nilFunc=>exact .nilFunc
 |iface h ih=>exact .iface ih
 |nilIface=>exact .nilIface
 |agg ha ha' ih=>
  simp only [ab.nrmA];rw [vZ];refine .agg (by simp [ha]) fun i v v' h1 h2=> ?_
  simp only [List.getElem?_map,Option.map_eq_some_iff] at h1;obtain ⟨y,hy,rfl⟩:=h1;exact ih i y v' hy h2
 |tuple ha ha' ih=>
  simp only [ab.nrmA];rw [vZ];refine .tuple (by simp [ha]) fun i v v' h1 h2=> ?_
  simp only [List.getElem?_map,Option.map_eq_some_iff] at h1;obtain ⟨y,hy,rfl⟩:=h1;exact ih i y v' hy h2
 |ptrE hh h0=>
  simp only [ab.nrmA];rw [<- IE.bX hρ hd] at h0 ⊢;exact .ptrE hh h0
 | @sliceS i s st len nn L c hh h0 hl hc=>
   simp only [ab.nrmA];have e1:=IE.bX hρ hd st;have e2:=IE.bX hρ hd len;rw [<- e1] at h0 ⊢;rw [<- e2] at hl hc ⊢;have e3:=IE.bX hρ hd (st.nrm bd dec);exact .sliceS hh h0 hl hc
 |sliceZ hl ha=>
  simp only [ab.nrmA];rw [<- IE.bX hρ hd] at hl;exact .sliceZ hl ha
 |sliceA hh hl hc hs=>
  simp only [ab.nrmA];rw [<- IE.bX hρ hd] at hl hc ⊢;exact .sliceA hh hl hc hs
 |sliceN hl=>
  simp only [ab.nrmA];rw [<- IE.bX hρ hd] at hl;exact .sliceN hl
 |strS hl hs=>
  simp only [ab.nrmA];exact .strS (by rw [IE.bX hρ hd]; exact hl) fun j b hb=>by rw [IE.bX hρ hd]; exact hs j b hb
def HW(bd:Bd)(dec:Dec)(σ:Nat->IE)(π:Nat->Nat)(v:ab):ab:=(v.rep σ π).nrmA bd dec
def zk(bd:Bd)(dec:Dec)(σ:Nat->IE)(π:Nat->Nat):ah->ah
 | .cells c e o t=> .cells (c.qf (HW bd dec σ π)) e o t
 | .map es=> .map (es.map fun p=>(HW bd dec σ π p.1,HW bd dec σ π p.2))
 | .arr ks c n o=> .arr ks ((c.rep σ).nrm bd dec) ((n.rep σ).nrm bd dec) o
 | .ghost k vs c=> .ghost k (vs.map fun e=>(e.rep σ).nrm bd dec) (c.qf (HW bd dec σ π))
 | .col s c k code m d n=> .col s c k ((code.rep σ).nrm bd dec) m d ((n.rep σ).nrm bd dec)
 | .it0=> .it0
 | .win i s c e o=> .win ((i.rep σ).nrm bd dec) s (c.qf (HW bd dec σ π)) e o
section
variable{ρ:Env}{bd:Bd}{dec:Dec}{f f1:Ren}{σ:Nat->IE}{π:Nat->Nat}{d:Nat->Bool}
theorem n8(hρ:ρ.ok bd)(hd:dec.holds ρ){v:ab}{u:Value}(hf:f1.le (f.via d π))(h:ai (ρ.rep σ) f1 v u):ai ρ f (HW bd dec σ π v) u:=
 ab.Ko hρ hd (ai.sub_to (d:=d) v u (h.mono hf))
theorem R6(o:ah):(zk bd dec σ π o).own=o.own:=by cases o<;>rfl
theorem KJ(hρ:ρ.ok bd)(hd:dec.holds ρ)(hf:f1.le (f.via d π)){o:ah}{B B':Nat->Prop}{w:World}{L:Loc}(hB:o.own=true-> ∀b,o.aZ (ρ.rep σ) w L b-> ¬B' b)(h:c9 (ρ.rep σ) f1 B w L o):c9 ρ f B' w L (zk bd dec σ π o)/\ ∀b,(zk bd dec σ π o).aZ ρ w L b ↔ o.aZ (ρ.rep σ) w L b:=by
 cases o with
 |cells c e ow t=>
  obtain ⟨cs,fr,q1,q2,q3,q4⟩:=h;refine ⟨⟨cs,fr,q1,q2,fun ho=>⟨hB ho _ rfl,(q3 ho).2⟩,fun j v hj=> ?_⟩,fun _=>Iff.rfl⟩
  rw [T.iI] at hj;simp only [Option.map_eq_some_iff] at hj;obtain ⟨u,hu,rfl⟩:=hj;obtain ⟨p1,v',p2,p3⟩:=q4 _ _ hu;exact ⟨p1,v',p2,n8 hρ hd hf p3⟩
 |map es=>
  obtain ⟨q0,es',cl,q1,q2,q3⟩:=h;refine ⟨⟨hB rfl _ rfl,es',cl,q1,by simp [q2],fun i e e' h1 h2=> ?_⟩,fun _=>Iff.rfl⟩
  simp only [List.getElem?_map,Option.map_eq_some_iff] at h1;obtain ⟨y,hy,rfl⟩:=h1;exact ⟨n8 hρ hd hf (q3 i y e' hy h2).1,n8 hρ hd hf (q3 i y e' hy h2).2⟩
 |arr ks c n ow=>
  obtain ⟨cs,el,fr,q1,q2,q3,q4⟩:=h;refine ⟨⟨cs,el,fr,q1,q2,fun ho=>⟨hB ho _ rfl,(q3 ho).2⟩,fun j c2 k hj hk=> ?_⟩,fun _=>Iff.rfl⟩
  rw [IE.bX hρ hd,IE.a9] at hj ⊢;exact q4 j c2 k hj hk
 |ghost k vs c=>
  obtain ⟨⟨q0,q1⟩,qb,cs,el,fr,q2,q3,q4,q5⟩:=h
  have e1:(vs.map fun e=>(e.rep σ).nrm bd dec).map (·.ev ρ)=vs.map (·.ev (ρ.rep σ)):=by
   rw [List.map_map]
   congr 1
   funext e
   show ((e.rep σ).nrm bd dec).ev ρ=_;rw [IE.bX hρ hd,IE.a9]
  refine ⟨⟨⟨by rw [e1]; exact q0,hB rfl⟩,qb,cs,el,fr,q2,q3,q4,fun j v hj=> ?_⟩,fun _=>Iff.rfl⟩
  rw [T.iI] at hj;simp only [Option.map_eq_some_iff] at hj;obtain ⟨u,hu,rfl⟩:=hj;obtain ⟨p1,v',p2,p3⟩:=q5 _ _ hu;exact ⟨p1,v',p2,n8 hρ hd hf p3⟩
 |col s c k code m d n=>
  obtain ⟨cs,el,fr,q1,q2⟩:=h;refine ⟨⟨cs,el,fr,q1,fun j hj=> ?_⟩,fun _=>Iff.rfl⟩
  rw [IE.bX hρ hd,IE.a9] at hj ⊢;exact q2 j hj
 |it0=>exact ⟨h,fun _=>Iff.rfl⟩
 |win i s c e ow=>
  obtain ⟨cs,fr,q1,q2,q3,q0,q4⟩:=h;refine ⟨⟨cs,fr,q1,q2,fun ho=>⟨hB ho _ rfl,(q3 ho).2⟩,by rw [IE.bX hρ hd,IE.a9]; exact q0,fun j v hj=> ?_⟩,fun _=>Iff.rfl⟩
  rw [T.iI] at hj;simp only [Option.map_eq_some_iff] at hj;obtain ⟨u,hu,rfl⟩:=hj;obtain ⟨v',p2,p3⟩:=q4 _ _ hu;rw [IE.bX hρ hd,IE.a9];exact ⟨v',p2,n8 hρ hd hf p3⟩
end
end
end Go.Sx
namespace Go.Sx
open Go.RowKit (Below)
noncomputable section
structure Con where
 g:FuncId
 args:List ab
 os:List ah:=[]
 bds:List (Nat×Int×Int):=[]
 pre:Dec:=[]
 res:ab
 os':List ah:=[]
def bdL:List (Nat×Int×Int)->Bd
 | [],_=>none
 | (i,lo,hi)::l,j=>
   match Nat.beq i j with
   |true=>some (lo,hi)
   |false=>bdL l j
def ah.dead:ah->Bool
 | .arr [] _ _ _=>true
 |_=>false
def je:List ah->Nat->T ah->T ah
 | [],_,t=>t
 |o::l,k,t=>je l (k+1) (match o.dead with
  |true=>t
  |false=>t.set k o)
abbrev Bf:=Array Value->World->(Value->World->Prop)->Prop
def Eg(R:Bf):Prop:= ∀args w (Q Q':Value->World->Prop),R args w Q->(∀ v w,Q v w->Q' v w)->R args w Q'
def Env.std(G:Nat->Int->Int->Int->Int)(GH:Nat->bz)(ρ:Env):Prop:=ρ.g=G/\ρ.gh=GH
def Con.vb(c:Con)(R:Bf)(ρ:Env):Prop:=
 ∀B W f w args',au ρ B W f (aF c.os 0 .nil) w->az ρ f c.args args'->(∀ j,c.os.length<=j->f j=none)->
  R args' w fun v' w'=> ∃f',f.le f'/\Outside f f' c.os.length c.os'.length/\au ρ B W f' (je c.os' 0 .nil) w'/\ai ρ f' c.res v'
def Con.OkR(c:Con)(R:Bf)(G:Nat->Int->Int->Int->Int)(GH:Nat->bz):Prop:=
 ∀ρ:Env,ρ.std G GH->ρ.ok (bdL c.bds)->c.pre.holds ρ->c.vb R ρ
def mw(P:Program)(g:FuncId):Bf:=fun args w Q=>Calls P g args w fun e w'=> ∃v,e= .returned v/\Q v w'
theorem dh(P:Program)(g:FuncId):Eg (mw P g):=fun _ _ _ _ h hq=>Calls.mono h fun _ w' ⟨v,e,q⟩=>⟨v,e,hq v w' q⟩
def Con.Ok(P:Program)(G:Nat->Int->Int->Int->Int)(GH:Nat->bz)(c:Con):Prop:=c.OkR (mw P c.g) G GH
structure Mt where
 sg:T IE
 bl:T Nat
def GR:IE->Option (IE×Nat)
 | .wrap _ (.fn c x (.lit (.ofNat j)) _)=>match Nat.beq c 0 with
   |true=>some (x,j)
   |false=>none
 | .fn c x (.lit (.ofNat j)) _=>match Nat.beq c 0 with
   |true=>some (x,j)
   |false=>none
 |_=>none
def J5(x:IE):Nat->List IE->Bool
 |_,[]=>true
 |j,e::l=>
  match GR e with
  |some (y,i)=>
   match Nat.beq i j,x.eqF y with
   |true,true=>J5 x (j+1) l
   |_,_=>false
  |none=>false
def fJ:Nat->IE->List IE->IE
 |_,acc,[]=>acc
 |j,acc,e::l=>fJ (j+1) (dG 1 acc (.lit (.ofNat j)) e) l
def ot(l:List IE):IE:=
 match l with
 | []=> .lit 0
 |e::_=>
  match GR e with
  |some (x,0)=>
   match J5 x 0 l with
   |true=>x
   |false=>fJ 0 (.lit 0) l
  |_=>fJ 0 (.lit 0) l
def Pv(m:Mt)(i:Nat)(e:IE):Mt:=
 match m.sg.get i with
 |some _=>m
 |none=>⟨m.sg.set i e,m.bl⟩
def uz(m:Mt)(i j:Nat):Mt:=
 match m.bl.get i with
 |some _=>m
 |none=>⟨m.sg,m.bl.set i j⟩
def mIE:IE->IE->Mt->Mt
 | .var i,a,m=>Pv m i a
 | .wrap k p,a,m=>
   match a with
   | .wrap j b=>
     match bf k j with
     |true=>mIE p b m
     |false=>mIE p (.wrap j b) m
   |a=>mIE p a m
 | .fn _ x y z,a,m=>
   match a with
   | .fn _ x' y' z'=>mIE z z' (mIE y y' (mIE x x' m))
   |_=>m
 |_,_,m=>m
def mBE:BE->BE->Mt->Mt
 | .eq (.var i) (.lit 1),b,m=>
   match b.num with
   |some e=>Pv m i e
   |none=>m
 |_,_,m=>m
def QC:ab->Option (Nat×Nat)
 | .int _ e=>
   match GR e with
   |some (.var v,j)=>some (v,j)
   |_=>none
 |_=>none
def Lf(v:Nat):List ab->List ab->List IE
 |p::ps,a=>
  match QC p,a with
  |some (u,_),.int _ e::as=>
   match Nat.beq u v with
   |true=>e::Lf v ps as
   |false=>[]
  |_,_=>[]
 |_,_=>[]
mutual
def mAV:ab->ab->Mt->Mt
 | .int _ p,.int _ a,m=>mIE p a m
 | .bool p,.bool a,m=>mBE p a m
 | .ptr (some (i,_)),.ptr (some (j,_)),m=>uz m i j
 | .slice (some (i,_)) _ _ _,.slice (some (j,_)) _ _ _,m=>uz m i j
 | .map (some i),.map (some j),m=>uz m i j
 | .iface _ p,.iface _ a,m=>mAV p a m
 | .agg l,.agg l',m=>mAL l l' m
 | .tuple l,.tuple l',m=>mAL l l' m
 | .func _ l k,.func _ l' k',m=>mAL k k' (mAL l l' m)
 | .ptrE i e _ _,.ptrE j e' _ _,m=>mIE e e' (uz m i j)
 | .sliceS i a l _ _,.sliceS j a' l' _ _,m=>mIE l l' (mIE a a' (uz m i j))
 | .sliceS i a l s _,.slice (some (j,o)) n _ _,m=>mIE l (.lit (.ofNat n)) (mIE a (.lit (.ofNat (o / s))) (uz m i j))
 | .sliceS _ a l _ _,.slice none _ _ _,m=>mIE l (.lit 0) (mIE a (.lit 0) m)
 | .sliceS i a l _ _,.sliceA j l' _,m=>mIE l l' (mIE a (.lit 0) (uz m i j))
 | .sliceA i l _,.sliceA j l' _,m=>mIE l l' (uz m i j)
 | .sliceA _ l _,.slice none _ _ _,m=>mIE l (.lit 0) m
 | .strS c l,.strS c' l',m=>mIE l l' (mIE c c' m)
 | .strS c l,.str bs,m=>mIE l (.lit (.ofNat bs.length)) (mIE c (ot bs) m)
 |_,_,m=>m
def mAL:List ab->List ab->Mt->Mt
 | [],_,m=>m
 |p::ps,l,m=>
  match l with
  | []=>m
  |a::as=>
   match QC p with
   |some (v,0)=>mAL ps as (mAV p a (Pv m v (ot (Lf v (p::ps) (a::as)))))
   |_=>mAL ps as (mAV p a m)
end
def lh(p a:T ab):Nat->Nat->List ab×List ab
 |_,0=>([],[])
 |j,n+1=>
  match p.get j,a.get j with
  |some x,some y=>match lh p a (j+1) n with
   | (l,k)=>(x::l,y::k)
  |_,_=>lh p a (j+1) n
def sd(c:T ab):Nat->Nat->List IE
 |_,0=>[]
 |j,n+1=>
  match c.get j with
  |some (.int _ e)=>e::sd c (j+1) n
  |_=>[]
def aak:List IE->List IE->Mt->Mt
 |p::ps,a::as,m=>aak ps as (mIE p a m)
 |_,_,m=>m
def T.LB:T ab->Nat->Nat->Nat
 | .nil,_,_=>0
 | .node v l r,a,b=>Nat.add (match v with
   |none=>0
   |some _=>b+1) (max (T.LB l (2*a) (a+b)) (T.LB r (2*a) (2*a+b)))
def T.count{α:Type}:T α->Nat
 | .nil=>0
 | .node v l r=>Nat.add (match v with
   |none=>0
   |some _=>1) (Nat.add (T.count l) (T.count r))
def T.pG{α:Type}:T α->Nat->Nat->List (Nat×α)->List (Nat×α)
 | .nil,_,_,acc=>acc
 | .node v l r,a,b,acc=>
   match v with
   |none=>T.pG l (Nat.mul 2 a) (Nat.add a b) (T.pG r (Nat.mul 2 a) (Nat.add (Nat.mul 2 a) b) acc)
   |some x=>(b,x)::T.pG l (Nat.mul 2 a) (Nat.add a b) (T.pG r (Nat.mul 2 a) (Nat.add (Nat.mul 2 a) b) acc)
def Dr(a:T ab):List (Nat×ab)->List ab×List ab
 | []=>([],[])
 | (j,x)::l=>
   match a.get j with
   |some y=>match Dr a l with
    | (m,k)=>(x::m,y::k)
   |none=>Dr a l
def Jh(p a:T ab)(t:Nat):List ab×List ab:=
 match Nat.blt (Nat.mul 4 (T.count p)) t with
 |true=>Dr a (T.pG p 1 0 [])
 |false=>lh p a 0 t
def mAO:ah->ah->Mt->Mt
 | .cells p _ _ t,.cells a _ _ _,m=>match Jh p a t with
   | (l,k)=>mAL l k m
 | .arr _ c n _,.arr _ c' n' _,m=>mIE n n' (mIE c c' m)
 | .arr _ c n _,.cells a _ _ t,m=>mIE c (ot (sd a 0 t)) m
 | .ghost _ vs p,.ghost _ vs' a,m=>match lh p a 0 (T.LB p 1 0) with
   | (l,k)=>mAL l k (aak vs vs' m)
 | .win _ _ p _ _,.win _ _ a _ _,m=>match lh p a 0 (T.LB p 1 0) with
   | (l,k)=>mAL l k m
 |_,_,m=>m
def mOs(h:T ah):Nat->List ah->Mt->Mt
 |_,[],m=>m
 |i,o::os,m=>
  match m.bl.get i with
  |none=>mOs h (i+1) os m
  |some j=>
   match h.get j with
   |some a=>mOs h (i+1) os (mAO o a m)
   |none=>mOs h (i+1) os m
def blocks(m:Mt):Nat->Nat->Option (List Nat)
 |_,0=>some []
 |i,n+1=>
  match m.bl.get i,blocks m (i+1) n with
  |some j,some l=>some (j::l)
  |_,_=>none
def Con.match? (c:Con)(args:List ab)(h:T ah):Option (T IE×List Nat):=
 match mOs h 0 c.os (mAL c.args args ⟨.nil,.nil⟩) with
 |m=>
  match blocks m 0 c.os.length with
  |some l=>some (m.sg,l)
  |none=>none
def fY(sg:T IE):Nat->IE:=fun i=>
 match sg.get i with
 |some e=>e
 |none=> .lit 0
def A6(pb:List Nat)(n nx:Nat):Nat->Nat:=fun i=>
 match pb[i]? with
 |some j=>j
 |none=>nx+(i-n)
def Aj(C:Ctx)(σ:Nat->IE):List (Nat×Int×Int)->Bool
 | []=>true
 | (i,lo,hi)::l=>
   match (match rng C.bd (σ i) with
    |some (a,b)=>aL lo a&&aL b hi
    |none=>false) with
   |true=>Aj C σ l
   |false=>
    match settle C.dec (mkLt C.bd (σ i) (.lit lo)),settle C.dec (mkLt C.bd (.lit hi) (σ i)) with
    |some false,some false=>Aj C σ l
    |_,_=>false
def JQ(C:Ctx)(σ:Nat->IE):Dec->Bool
 | []=>true
 | (b,v)::l=>
   match prove C.bd 6 C.dec (b.rep σ) with
   |some u=>
    match bEq u v with
    |true=>JQ C σ l
    |false=>false
   |none=>false
def vU(σ:Nat->IE)(π:Nat->Nat):ah->ah
 | .cells c e o t=> .cells (c.qf (ab.rep σ π)) e o t
 | .map es=> .map es
 | .arr ks c n o=> .arr ks (c.rep σ) (n.rep σ) o
 | .ghost k vs c=> .ghost k (vs.map (IE.rep σ)) (c.qf (ab.rep σ π))
 | .win i s c e o=> .win (i.rep σ) s (c.qf (ab.rep σ π)) e o
 | .col s c k code m d n=> .col s c k (code.rep σ) m d (n.rep σ)
 | .it0=> .it0
def ah.Wv:ah->ah
 | .cells c e _ t=> .cells c e false t
 | .arr ks c n _=> .arr ks c n false
 | .win i s c e _=> .win i s c e false
 |o=>o
def zM(own:Bool)(a:ah):ah:=
 match own with
 |true=>a
 |false=>a.Wv
def HJ(bd:Bd)(dec:Dec)(σ:Nat->IE)(π:Nat->Nat)(h:T ah):List ah->List Nat->Bool
 | [],l=>
   match l with
   | []=>true
   |_=>false
 |o::os,l=>
  match l with
  | []=>false
  |j::pb=>
   match h.get j with
   |some a=>
    match (vU σ π o).cov bd dec (zM o.own a) with
    |true=>HJ bd dec σ π h os pb
    |false=>false
   |none=>false
def Fg(j:Nat):List Nat->Bool
 | []=>false
 |k::l=>
  match Nat.beq j k with
  |true=>true
  |false=>Fg j l
def Th(nx:Nat):List Nat->Bool
 | []=>true
 |j::l=>
  match Nat.blt j nx,Fg j l with
  |true,false=>Th nx l
  |_,_=>false
def EE(d:Nat->Bool):ah->Bool
 | .cells c _ _ _=>T.pW (fun _ v=>v.within d) c 1 0
 | .map []=>true
 | .map (_::_)=>false
 | .arr _ _ _ _=>true
 | .ghost _ _ c=>T.pW (fun _ v=>v.within d) c 1 0
 | .win _ _ c _ _=>T.pW (fun _ v=>v.within d) c 1 0
 | .col _ _ _ _ _ _ _=>true
 | .it0=>true
def BP(d:Nat->Bool):List ah->Bool
 | []=>true
 |o::l=>EE d o&&BP d l
def uD:List ah->List ah->Bool
 | [],l=>allOwn l
 |o::os,l=>
  match l with
  | []=>false
  |o'::os'=>
   match o.own,o'.own with
   |true,false=>false
   |_,_=>uD os os'
where allOwn:List ah->Bool
 | []=>true
 |o::l=>o.own&&(!o.dead&&allOwn l)
def Con.wf(c:Con):Bool:=withinList (Nat.blt · c.os.length) c.args&&(BP (Nat.blt · c.os.length) c.os&&(uD c.os c.os'&&Nat.ble c.os'.length 1000000))
def dQ(put:ah->ah)(nx:Nat):List ah->List ah->List Nat->T ah->T ah
 | [],os',_,h=>newOnes put nx os' h
 |o::os,os',pb,h=>
  match os',pb with
  |o'::os',j::pb=>
   match o.own with
   |true=>dQ put nx os os' pb (match o'.dead with
    |true=>h.del j
    |false=>h.set j (put o'))
   |false=>dQ put nx os os' pb h
  |_,_=>h
where newOnes (put:ah->ah):Nat->List ah->T ah->T ah
 |_,[],h=>h
 |nx,o::os,h=>newOnes put (nx+1) os (h.set nx (put o))
def V2(c:T ab):Bool:=(T.pG c 1 0 []).any fun p=>match p.2 with
 | .sliceA _ _ _=>true
 |_=>false
def ua:List ah->Bool
 | []=>false
 | .cells c _ _ _::l=>V2 c||ua l
 |_::l=>ua l
def xC(os:List ah)(j:Nat)(k:Nat)(p:ab)(h:T ah×Nat):T ah×Nat:=
 match p with
 | .sliceA i _ sz=>
   match h.1.get j with
   |some (.cells c e o t)=>
    match c.get k,os[i]? with
    |some (.slice none 0 0 0),some (.arr ks _ _ _)=>((h.1.set j (.cells (c.set k (.sliceA h.2 (.lit 0) sz)) e o t)).set h.2 (.arr ks (.lit 0) (.lit 0) true),h.2+1)
    |_,_=>h
   |_=>h
 |_=>h
def sZ(os:List ah)(j:Nat):List (Nat×ab)->T ah×Nat->T ah×Nat
 | [],h=>h
 | (k,p)::l,h=>sZ os j l (xC os j k p h)
def AO(os:List ah)(bl:T Nat):Nat->List ah->T ah×Nat->T ah×Nat
 |_,[],h=>h
 |i,o::l,h=>AO os bl (i+1) l (match o with
  | .cells c _ _ _=>
    match V2 c,bl.get i with
    |true,some j=>sZ os j (T.pG c 1 0 []) h
    |_,_=>h
  |_=>h)
def Con.H9(c:Con)(args:List ab)(h:T ah)(nx:Nat):T ah×Nat:=
 match ua c.os with
 |true=>AO c.os (mOs h 0 c.os (mAL c.args args ⟨.nil,.nil⟩)).bl 0 c.os (h,nx)
 |false=>(h,nx)
def gq(ρ:Env)(a b:T ah×Nat):Prop:=a.2<=b.2/\ ∀B W f w,au ρ B W f a.1 w->(∀ j,a.2<=j->j<b.2->f j=none)->au ρ B W f b.1 w
theorem gq.refl(ρ:Env)(a:T ah×Nat):gq ρ a a:=⟨Nat.le_refl _,fun _ _ _ _ h _=>h⟩
theorem gq.trans{ρ:Env}{a b c:T ah×Nat}(h:gq ρ a b)(k:gq ρ b c):gq ρ a c:=
 ⟨Nat.le_trans h.1 k.1,fun B W f w hr hn=>k.2 B W f w (h.2 B W f w hr fun j h1 h2=>hn j h1 (Nat.lt_of_lt_of_le h2 k.1)) fun j h1 h2=>hn j (Nat.le_trans h.1 h1) h2⟩
theorem EK(ρ:Env)(os:List ah)(j k:Nat)(p:ab)(h:T ah×Nat):gq ρ h (xC os j k p h):=by
 unfold xC;split
 ·rename_i i l sz;split
  ·rename_i c e o t hj;split
   ·rename_i ks cd nn ow hk ho;refine ⟨Nat.le_succ _,fun B W f w hr hn=> ?_⟩
    have hnone:f h.2=none:=hn h.2 (Nat.le_refl _) (Nat.lt_succ_self _);refine au.extra (i:=h.2) ?_ hnone _
    have cov:dP ρ ⟨.nil,h.1,0⟩ ⟨.nil,h.1.set j (.cells (c.set k (.sliceA h.2 (.lit 0) sz)) e o t),0⟩:=by
     refine ⟨fun k v h=>⟨v,h,fun _ _ h=>h⟩,fun i x hx=> ?_,Nat.le_refl _⟩
     rcases T.aB hx with ⟨rfl,rfl⟩ | ⟨_,hx⟩
     ·refine ⟨_,hj,rfl,fun _ _ _=>Iff.rfl,fun f' B' w' L hO=> ?_⟩
      obtain ⟨cs,fr,g1,g2,g3,g4⟩:=hO;refine ⟨cs,fr,g1,g2,g3,fun m v hv=> ?_⟩
      rcases T.aB hv with ⟨rfl,rfl⟩ | ⟨_,hv⟩
      ·obtain ⟨a,v',b,d⟩:=g4 _ _ hk;refine ⟨a,v',b,?_⟩;cases d;exact .sliceN rfl
      ·exact g4 m v hv
     ·exact ⟨x,hx,rfl,fun _ _ _=>Iff.rfl,fun _ _ _ _ h=>h⟩
    exact cov.heap hr
   ·exact gq.refl ρ h
  ·exact gq.refl ρ h
 ·exact gq.refl ρ h
theorem rA(ρ:Env)(os:List ah)(j:Nat): ∀(l:List (Nat×ab)) (h:T ah×Nat),gq ρ h (sZ os j l h)
 | [],h=>gq.refl ρ h
 | (k,p)::l,h=>(EK ρ os j k p h).trans (rA ρ os j l _)
theorem Ah(ρ:Env)(os:List ah)(bl:T Nat): ∀(l:List ah) (i:Nat) (h:T ah×Nat),gq ρ h (AO os bl i l h)
 | [],_,h=>gq.refl ρ h
 |o::l,i,h=>by
  unfold AO;refine gq.trans ?_ (Ah ρ os bl l (i+1) _);split
  ·split
   ·exact rA ρ os _ _ h
   ·exact gq.refl ρ h
  ·exact gq.refl ρ h
theorem Con.K2(ρ:Env)(c:Con)(args:List ab)(h:T ah)(nx:Nat):gq ρ (h,nx) (c.H9 args h nx):=by
 unfold Con.H9;split
 ·exact Ah ρ _ _ _ _ _
 ·exact gq.refl ρ _
def Con.fit(C:Ctx)(c:Con)(args:List ab)(h:T ah)(nx:Nat):Option (T IE×List Nat):=
 match c.match? args h with
 |none=>none
 |some (sg,pb)=>
  match covList C.bd C.dec (subList (fY sg) (A6 pb c.os.length nx) c.args) args&&(HJ C.bd C.dec (fY sg) (A6 pb c.os.length nx) h c.os pb&&(Th nx pb&&(Aj C (fY sg) c.bds&&JQ C (fY sg) c.pre))) with
  |false=>none
  |true=>some (sg,pb)
def Con.then(C:Ctx)(c:Con)(h:T ah)(nx:Nat)(sg:T IE)(pb:List Nat):ab×T ah×Nat:=
 (HW C.bd C.dec (fY sg) (A6 pb c.os.length nx) c.res,dQ (zk C.bd C.dec (fY sg) (A6 pb c.os.length nx)) nx c.os c.os' pb h,nx+(c.os'.length-c.os.length))
def Con.call(C:Ctx)(c:Con):bV:=fun g args h nx=>
 match Nat.beq g c.g with
 |false=>none
 |true=>
  match c.H9 args h nx with
  | (h,nx)=>
    match c.fit C args h nx with
    |none=>none
    |some (sg,pb)=>some (c.then C h nx sg pb)
def nV(C:Ctx):List Con->bV
 | [],_,_,_,_=>none
 |c::l,g,args,h,nx=>
  match c.call C g args h nx with
  |some r=>some r
  |none=>nV C l g args h nx
theorem Dg{ρ:Env}: ∀ {l:List (Nat×Int×Int)},(∀ i lo hi,(i,lo,hi)∈l->lo<=ρ.i i/\ρ.i i<=hi)->ρ.ok (bdL l):=by
 intro l
 induction l with
 |nil=>intro _ i lo hi h; cases h
 |cons p l ih=>
  intro hl i lo hi h;obtain ⟨j,a,b⟩:=p;simp only [bdL] at h;split at h
  ·rename_i hj;have hj:=Nat.eq_of_beq_eq_true hj;subst hj;cases h;exact hl _ _ _ (by simp)
  ·exact ih (fun i lo hi hm=>hl i lo hi (by simp [hm])) i lo hi h
theorem Qt{C:Ctx}{P:Program}{ρ:Env}(hC:C.Ok P ρ){σ:Nat->IE}: ∀ {l:List (Nat×Int×Int)},Aj C σ l=true-> ∀i lo hi,(i,lo,hi)∈l->lo<=(ρ.rep σ).i i/\(ρ.rep σ).i i<=hi:=by
 intro l
 induction l with
 |nil=>intro _ i lo hi h; cases h
 |cons p l ih=>
  intro h i lo hi hm;obtain ⟨j,a,b⟩:=p
  have key:Aj C σ l=true->(a<=(σ j).ev ρ/\(σ j).ev ρ<=b)->lo<=(ρ.rep σ).i i/\(ρ.rep σ).i i<=hi:=by
   intro h1 h2
   rcases List.mem_cons.1 hm with e |hm
   ·cases e; exact h2
   ·exact ih h1 i lo hi hm
  simp only [Aj] at h;split at h
  ·rename_i hr;refine key h ?_;split at hr
   ·rename_i x y hxy;obtain ⟨h1,h2⟩:=aa hr;have:=bD hC.bd _ _ _ hxy;have h1:a<=x:=by simpa [ay] using h1
    have h2:y<=b:=by simpa [ay] using h2
    omega
   ·cases hr
  ·split at h
   ·rename_i h1 h2;refine key h ?_;have h1:=aq hC.dec _ _ h1;have h2:=aq hC.dec _ _ h2;rw [cK hC.bd] at h1 h2;have h1:=of_decide_eq_false h1;have h2:=of_decide_eq_false h2;have e1:(IE.lit a).ev ρ=a:=rfl;have e2:(IE.lit b).ev ρ=b:=rfl;rw [e1] at h1;rw [e2] at h2;omega
   ·cases h
theorem QI{C:Ctx}{P:Program}{ρ:Env}(hC:C.Ok P ρ){σ:Nat->IE}: ∀ {l:Dec},JQ C σ l=true->l.holds (ρ.rep σ):=by
 intro l
 induction l with
 |nil=>intro _ p hp; cases hp
 |cons p l ih=>
  intro h q hq;obtain ⟨b,v⟩:=p;simp only [JQ] at h;split at h
  ·rename_i u hu;split at h
   ·rename_i huv;have huv:=dt huv;subst huv
    rcases List.mem_cons.1 hq with rfl |hq
    ·have:=cU hC.bd _ _ _ _ hC.dec hu;rw [BE.a9] at this;exact this
    ·exact ih h q hq
   ·cases h
  ·cases h
theorem S7{bd:Bd}{dec:Dec}{σ:Nat->IE}{π:Nat->Nat}{h:T ah}: ∀ {os:List ah} {pb:List Nat},HJ bd dec σ π h os pb=true->os.length=pb.length/\ ∀(i:Nat) (o:ah),os[i]? =some o-> ∃j a,pb[i]? =some j/\h.get j=some a/\(vU σ π o).cov bd dec (zM o.own a)=true:=by
 intro os
 induction os with
 |nil=>
  intro pb h;cases pb with
  |nil=>exact ⟨rfl,fun i o ho=>by simp at ho⟩
  |cons j pb=>simp [HJ] at h
 |cons o os ih=>
  intro pb h;cases pb with
  |nil=>simp [HJ] at h
  |cons j pb=>
   simp only [HJ] at h;split at h
   ·rename_i a ha;split at h
    ·rename_i hc;obtain ⟨h1,h2⟩:=ih h;refine ⟨by simp [h1],fun i x hx=> ?_⟩
     cases i with
     |zero=>simp at hx; subst hx; exact ⟨j,a,rfl,ha,hc⟩
     |succ i=>exact h2 i x (by simpa using hx)
    ·cases h
   ·cases h
theorem Dw{j:Nat}: ∀ {l:List Nat},Fg j l=false-> ∀i:Nat,l[i]? ≠some j:=by
 intro l
 induction l with
 |nil=>intro _ i h; simp at h
 |cons k l ih=>
  intro h i hi;unfold Fg at h;split at h
  ·cases h
  ·rename_i hk;cases i with
   |zero=>simp at hi; simp [hi] at hk
   |succ i=>exact ih h i (by simpa using hi)
theorem TI{nx:Nat}: ∀ {l:List Nat},Th nx l=true->(∀ (i j:Nat),l[i]? =some j->j<nx)/\ ∀(i i' j:Nat),l[i]? =some j->l[i']? =some j->i=i':=by
 intro l
 induction l with
 |nil=>intro _; exact ⟨fun i j h=>by simp at h,fun i i' j h=>by simp at h⟩
 |cons k l ih=>
  intro h;unfold Th at h;split at h
  ·rename_i h1 h2;obtain ⟨q1,q2⟩:=ih h;have h1:k<nx:=by simpa [Nat.blt_eq] using h1
   refine ⟨fun i j hj=> ?_,fun i i' j hi hi'=> ?_⟩
   ·cases i with
    |zero=>simp at hj; omega
    |succ i=>exact q1 i j (by simpa using hj)
   ·cases i with
    |zero=>
     cases i' with
     |zero=>rfl
     |succ i'=>
      simp at hi;subst hi;exact absurd (by simpa using hi') (Dw h2 i')
    |succ i=>
     cases i' with
     |zero=>
      simp at hi';subst hi';exact absurd (by simpa using hi) (Dw h2 i)
     |succ i'=>rw [q2 i i' j (by simpa using hi) (by simpa using hi')]
  ·cases h
theorem FL(σ:Nat->IE)(π:Nat->Nat)(o:ah):(vU σ π o).own=o.own:=by cases o<;>rfl
section
variable{ρ:Env}{f:Ren}{σ:Nat->IE}{π:Nat->Nat}{d:Nat->Bool}{B B':Nat->Prop}{w:World}{L:Loc}
theorem Kl{o:ah}(ho:EE d o=true)(h:c9 ρ f B w L (vU σ π o))(hB:o.own=true-> ∀b,o.aZ (ρ.rep σ) w L b-> ¬B' b):c9 (ρ.rep σ) (f.via d π) B' w L o/\ ∀b,(vU σ π o).aZ ρ w L b ↔ o.aZ (ρ.rep σ) w L b:=by
 cases o with
 |cells c e ow t=>
  obtain ⟨cs,fr,q1,q2,q3,q4⟩:=h;refine ⟨⟨cs,fr,q1,q2,fun ho=>⟨hB ho _ rfl,(q3 ho).2⟩,fun j v hj=> ?_⟩,fun _=>Iff.rfl⟩
  obtain ⟨p1,v',p2,p3⟩:=q4 j (v.rep σ π) (by rw [T.iI,hj]; rfl)
  exact ⟨p1,v',p2,ai.sub_of v v' (T.vM (p:=fun _ v=>v.within d) (show T.pW (fun _ v=>v.within d) c 1 0=true from ho) hj) p3⟩
 |map es=>
  cases es with
  |cons x l=>simp [EE] at ho
  |nil=>
   obtain ⟨q0,es',cl,q1,q2,q3⟩:=h;exact ⟨⟨hB rfl _ rfl,es',cl,q1,q2,fun i e e' he=>by simp at he⟩,fun _=>Iff.rfl⟩
 |arr ks c n ow=>
  obtain ⟨cs,el,fr,q1,q2,q3,q4⟩:=h;refine ⟨⟨cs,el,fr,q1,q2,fun ho=>⟨hB ho _ rfl,(q3 ho).2⟩,fun j c2 k hj hk=> ?_⟩,fun _=>Iff.rfl⟩
  rw [<- IE.a9] at hj ⊢;exact q4 j c2 k hj hk
 |ghost k vs c=>
  obtain ⟨⟨q0,q1⟩,qb,cs,el,fr,q2,q3,q4,q5⟩:=h
  have e1:(vs.map (IE.rep σ)).map (·.ev ρ)=vs.map (·.ev (ρ.rep σ)):=by
   rw [List.map_map]
   congr 1
   funext e
   exact IE.a9 ρ σ e
  refine ⟨⟨⟨by rw [<- e1]; exact q0,hB rfl⟩,qb,cs,el,fr,q2,q3,q4,fun j v hj=> ?_⟩,fun _=>Iff.rfl⟩
  obtain ⟨p1,v',p2,p3⟩:=q5 j (v.rep σ π) (by rw [T.iI,hj]; rfl)
  exact ⟨p1,v',p2,ai.sub_of v v' (T.vM (p:=fun _ v=>v.within d) (show T.pW (fun _ v=>v.within d) c 1 0=true from ho) hj) p3⟩
 |win i s c e ow=>
  obtain ⟨cs,fr,q1,q2,q3,q0,q4⟩:=h;rw [IE.a9] at q0;refine ⟨⟨cs,fr,q1,q2,fun ho=>⟨hB ho _ rfl,(q3 ho).2⟩,q0,fun j v hj=> ?_⟩,fun _=>Iff.rfl⟩
  obtain ⟨v',p2,p3⟩:=q4 j (v.rep σ π) (by rw [T.iI,hj]; rfl)
  rw [IE.a9] at p2;exact ⟨v',p2,ai.sub_of v v' (T.vM (p:=fun _ v=>v.within d) (show T.pW (fun _ v=>v.within d) c 1 0=true from ho) hj) p3⟩
 |col s c k code m d n=>
  obtain ⟨cs,el,fr,q1,q2⟩:=h;refine ⟨⟨cs,el,fr,q1,fun j hj=> ?_⟩,fun _=>Iff.rfl⟩
  rw [<- IE.a9] at hj ⊢;exact q2 j hj
 |it0=>exact ⟨h,fun _=>Iff.rfl⟩
theorem TB{a:ah}(h:c9 ρ f B w L a):c9 ρ f B w L a.Wv/\ ∀b,a.Wv.aZ ρ w L b ↔ a.aZ ρ w L b:=by
 cases a with
 |cells c e ow t=>
  obtain ⟨cs,fr,q1,q2,q3,q4⟩:=h;exact ⟨⟨cs,fr,q1,q2,(fun ho=>(by cases ho)),q4⟩,fun _=>Iff.rfl⟩
 |arr ks c n ow=>
  obtain ⟨cs,el,fr,q1,q2,q3,q4⟩:=h;exact ⟨⟨cs,el,fr,q1,q2,(fun ho=>(by cases ho)),q4⟩,fun _=>Iff.rfl⟩
 |map es=>exact ⟨h,fun _=>Iff.rfl⟩
 |ghost k vs c=>exact ⟨h,fun _=>Iff.rfl⟩
 |win i s c e ow=>
  obtain ⟨cs,fr,q1,q2,q3,q4⟩:=h;exact ⟨⟨cs,fr,q1,q2,(fun ho=>(by cases ho)),q4⟩,fun _=>Iff.rfl⟩
 |col s c k code m d n=>exact ⟨h,fun _=>Iff.rfl⟩
 |it0=>exact ⟨h,fun _=>Iff.rfl⟩
theorem Fc{own:Bool}{a:ah}(h:c9 ρ f B w L a):c9 ρ f B w L (zM own a)/\ ∀b,(zM own a).aZ ρ w L b ↔ a.aZ ρ w L b:=by
 cases own
 ·exact TB h
 ·exact ⟨h,fun _=>Iff.rfl⟩
theorem iD{o:ah}(h:c9 ρ f B w L o)(ho:o.own=true): ∀b,o.aZ ρ w L b-> ¬B b:=by
 cases o with
 |cells c e ow t=>obtain ⟨cs,fr,q1,q2,q3,q4⟩:=h; intro b hb; cases hb; exact (q3 ho).1
 |arr ks c n ow=>obtain ⟨cs,el,fr,q1,q2,q3,q4⟩:=h; intro b hb; cases hb; exact (q3 ho).1
 |map es=>obtain ⟨q0,_⟩:=h; intro b hb; cases hb; exact q0
 |ghost k vs c=>exact h.1.2
 |win i s c e ow=>obtain ⟨cs,fr,q1,q2,q3,q4⟩:=h; intro b hb; cases hb; exact (q3 ho).1
 |col s c k code m d n=>cases ho
 |it0=>cases ho
end
theorem wW: ∀ {l:List ah},uD.allOwn l=true-> ∀(i:Nat) (o:ah),l[i]? =some o->o.own=true/\o.dead=false:=by
 intro l
 induction l with
 |nil=>intro _ i o h; simp at h
 |cons x l ih=>
  intro h i o ho;obtain ⟨h1,h2⟩:=aa h;obtain ⟨h2,h3⟩:=aa h2;cases i with
  |zero=>simp at ho; subst ho; exact ⟨h1,by simpa using h2⟩
  |succ i=>exact ih h3 i o (by simpa using ho)
theorem Ou: ∀ {os os':List ah},uD os os'=true->os.length<=os'.length/\ ∀(i:Nat) (o:ah),os'[i]? =some o->(∀ o0:ah,os[i]? =some o0->o0.own=true)->o.own=true/\(os.length<=i->o.dead=false):=by
 intro os
 induction os with
 |nil=>intro os' h; exact ⟨Nat.zero_le _,fun i o ho _=>⟨(wW (by simpa [uD] using h) i o ho).1,fun _=>(wW (by simpa [uD] using h) i o ho).2⟩⟩
 |cons x os ih=>
  intro os' h;cases os' with
  |nil=>simp [uD] at h
  |cons y os'=>
   simp only [uD] at h;split at h
   ·cases h
   ·rename_i hxy;obtain ⟨h1,h2⟩:=ih h;refine ⟨by simp; omega,fun i o ho h0=> ?_⟩
    cases i with
    |zero=>
     simp at ho;subst ho;have hx:x.own=true:=h0 x (by simp)
     cases hy:y.own
     ·exact absurd hy (by intro hy; exact hxy hx hy)
     ·exact ⟨rfl,fun h=>by simp at h⟩
    |succ i=>
     obtain ⟨k1,k2⟩:=h2 i o (by simpa using ho) (fun o0 h=>h0 o0 (by simpa using h))
     exact ⟨k1,fun h=>k2 (by simp at h; omega)⟩
theorem E4{put:ah->ah}: ∀ {l:List ah} {nx:Nat} {h:T ah} {j:Nat} {o:ah},(dQ.newOnes put nx l h).get j=some o->
 (∃ k o',l[k]? =some o'/\j=nx+k/\o=put o')\/((∀ k,k<l.length->j≠nx+k)/\h.get j=some o):=by
 intro l
 induction l with
 |nil=>intro nx h j o hg; exact .inr ⟨fun k hk=>by simp at hk,hg⟩
 |cons x l ih=>
  intro nx h j o hg
  rcases ih (by simpa [dQ.newOnes] using hg) with ⟨k,o',h1,h2,h3⟩ | ⟨h1,h2⟩
  ·exact .inl ⟨k+1,o',by simpa using h1,by omega,h3⟩
  ·rcases T.aB h2 with ⟨rfl,rfl⟩ | ⟨h3,h4⟩
   ·exact .inl ⟨0,x,rfl,by omega,rfl⟩
   ·refine .inr ⟨fun k hk=> ?_,h4⟩
    cases k with
    |zero=>omega
    |succ k=>have:=h1 k (by simpa using hk); omega
theorem yK{put:ah->ah}{nx:Nat}: ∀ {os os':List ah} {pb:List Nat} {h:T ah} {j:Nat} {o:ah},os.length=pb.length->os.length<=os'.length->(dQ put nx os os' pb h).get j=some o->
 (∃ (i:Nat) (o0 o':ah),os[i]? =some o0/\o0.own=true/\os'[i]? =some o'/\o'.dead=false/\pb[i]? =some j/\o=put o')\/(∃ k o',os'[os.length+k]? =some o'/\j=nx+k/\o=put o')\/
  ((∀ (i:Nat) (o0:ah),os[i]? =some o0->o0.own=true->pb[i]? ≠some j)/\(∀ k,k<os'.length-os.length->j≠nx+k)/\h.get j=some o):=by
 intro os
 induction os with
 |nil=>
  intro os' pb h j o h1 h2 hg
  rcases E4 (by simpa [dQ] using hg) with ⟨k,o',q1,q2,q3⟩ | ⟨q1,q2⟩
  ·exact .inr (.inl ⟨k,o',by simpa using q1,q2,q3⟩)
  ·exact .inr (.inr ⟨fun i o0 h=>by simp at h,fun k hk=>q1 k (by simpa using hk),q2⟩)
 |cons x os ih=>
  intro os' pb h j o h1 h2 hg;cases pb with
  |nil=>simp at h1
  |cons y pb=>
   cases os' with
   |nil=>simp at h2
   |cons z os'=>
    simp only [List.length_cons,Nat.add_right_cancel_iff,Nat.add_le_add_iff_right] at h1 h2
    have fin: ∀h0:T ah,(dQ put nx os os' pb h0).get j=some o->(h0.get j=some o->(x.own=true->y=j->o=put z/\z.dead=false)/\(x.own=true->y=j\/h.get j=some o)/\(x.own=false->h.get j=some o))->
     (∃ (i:Nat) (o0 o':ah),(x::os)[i]? =some o0/\o0.own=true/\(z::os')[i]? =some o'/\o'.dead=false/\(y::pb)[i]? =some j/\o=put o')\/(∃ k o',(z::os')[(x::os).length+k]? =some o'/\j=nx+k/\o=put o')\/
     ((∀ (i:Nat) (o0:ah),(x::os)[i]? =some o0->o0.own=true->(y::pb)[i]? ≠some j)/\(∀ k,k<(z::os').length-(x::os).length->j≠nx+k)/\h.get j=some o):=by
     intro h0 hg h0g
     rcases ih h1 h2 hg with ⟨i,o0,o',q1,q2,q3,qd,q4,q5⟩ | ⟨k,o',q1,q2,q3⟩ | ⟨q1,q2,q3⟩
     ·exact .inl ⟨i+1,o0,o',by simpa using q1,q2,by simpa using q3,qd,by simpa using q4,q5⟩
     ·refine .inr (.inl ⟨k,o',?_,q2,q3⟩);rw [show (x::os).length+k=os.length+k+1 by simp; omega]
      simpa using q1
     ·obtain ⟨r1,r2,r3⟩:=h0g q3;have rest:(∀ k,k<(z::os').length-(x::os).length->j≠nx+k):=fun k hk=>q2 k (by simpa using hk)
      cases hx:x.own
      ·refine .inr (.inr ⟨fun i o0 hi ho=> ?_,rest,r3 hx⟩)
       cases i with
       |zero=>simp at hi; subst hi; rw [hx] at ho; cases ho
       |succ i=>exact q1 i o0 (by simpa using hi) ho
      ·by_cases hy:y=j
       ·exact .inl ⟨0,x,z,rfl,hx,rfl,(r1 hx hy).2,by simp [hy],(r1 hx hy).1⟩
       ·refine .inr (.inr ⟨fun i o0 hi ho=> ?_,rest,(r2 hx).resolve_left hy⟩)
        cases i with
        |zero=>simp; exact hy
        |succ i=>exact q1 i o0 (by simpa using hi) ho
    simp only [dQ] at hg;split at hg
    ·rename_i hx;refine fin _ hg fun h0=> ?_
     cases hz:z.dead
     ·rw [hz] at h0
      rcases T.aB h0 with ⟨e1,e2⟩ | ⟨e1,e2⟩
      ·exact ⟨fun _ _=>⟨e2.symm,rfl⟩,fun _=> .inl e1.symm,(fun h=>(by rw [hx] at h; cases h))⟩
      ·exact ⟨fun _ e=>absurd e.symm e1,fun _=> .inr e2,fun _=>e2⟩
     ·rw [hz] at h0;obtain ⟨e1,e2⟩:=T.eU h0;exact ⟨fun _ e=>absurd e.symm e1,fun _=> .inr e2,fun _=>e2⟩
    ·rename_i hx;refine fin _ hg fun h0=>⟨(fun h=>(by rw [hx] at h; cases h)),(fun h=>(by rw [hx] at h; cases h)),fun _=>h0⟩
theorem vS{d:Nat->Bool}: ∀ {l:List ah},BP d l=true-> ∀(i:Nat) (o:ah),l[i]? =some o->EE d o=true:=by
 intro l
 induction l with
 |nil=>intro _ i o h; simp at h
 |cons x l ih=>
  intro h i o ho;obtain ⟨h1,h2⟩:=aa h;cases i with
  |zero=>simp at ho; subst ho; exact h1
  |succ i=>exact ih h2 i o (by simpa using ho)
theorem iG{α:Type}{l:List α}{k:Nat}{x:α}(h:(aF l 0 T.nil).get k=some x):l[k]? =some x:=by
 rcases eK _ _ _ _ _ h with ⟨_,h⟩ |h
 ·simpa using h
 ·rw [T.get_nil] at h; cases h
theorem Fz{α:Type}: ∀(l:List α) (k j:Nat) (t:T α),j<k->k+l.length<4611686018427387904->(aF l k t).get j=t.get j:=by
 intro l
 induction l with
 |nil=>intro k j t _ _; rfl
 |cons x l ih=>
  intro k j t hj hk;simp only [List.length_cons] at hk;show (aF l (k+1) (t.set k x)).get j=_;rw [ih (k+1) j _ (by omega) (by omega),T.bp (by omega) (by omega)]
theorem aU{α:Type}: ∀(l:List α) (k i:Nat) (t:T α) (x:α),l[i]? =some x->k+l.length<4611686018427387904->(aF l k t).get (k+i)=some x:=by
 intro l
 induction l with
 |nil=>intro k i t x h; simp at h
 |cons y l ih=>
  intro k i t x h hk;simp only [List.length_cons] at hk;show (aF l (k+1) (t.set k y)).get (k+i)=_;cases i with
  |zero=>
   simp at h;subst h;rw [Fz _ _ _ _ (by omega) (by omega)]
   exact T.cu (k:=k) (by omega)
  |succ i=>
   have:=ih (k+1) i (t.set k y) x (by simpa using h) (by omega)
   rw [show k+(i+1)=k+1+i by omega]
   exact this
theorem NN: ∀(l:List ah) (k j:Nat) (t:T ah),j<k->k+l.length<4611686018427387904->(je l k t).get j=t.get j:=by
 intro l
 induction l with
 |nil=>intro k j t _ _; rfl
 |cons x l ih=>
  intro k j t hj hk;simp only [List.length_cons] at hk;show (je l (k+1) _).get j=_;rw [ih (k+1) j _ (by omega) (by omega)]
  cases x.dead
  ·exact T.bp (by omega) (by omega)
  ·rfl
theorem f9: ∀(l:List ah) (k i:Nat) (t:T ah) (x:ah),l[i]? =some x->x.dead=false->k+l.length<4611686018427387904->(je l k t).get (k+i)=some x:=by
 intro l
 induction l with
 |nil=>intro k i t x h; simp at h
 |cons y l ih=>
  intro k i t x h hd hk;simp only [List.length_cons] at hk;show (je l (k+1) _).get (k+i)=_;cases i with
  |zero=>
   simp at h;subst h;rw [NN _ _ _ _ (by omega) (by omega),hd]
   exact T.cu (k:=k) (by omega)
  |succ i=>
   have:=ih (k+1) i (match y.dead with |true=>t |false=>t.set k y) x (by simpa using h) hd (by omega)
   rw [show k+(i+1)=k+1+i by omega]
   exact this
theorem R4: ∀(l:List ah) (k:Nat) (t:T ah) (j:Nat) (x:ah),(je l k t).get j=some x->(k<=j/\l[j-k]? =some x/\x.dead=false)\/t.get j=some x:=by
 intro l
 induction l with
 |nil=>intro k t j x h; exact .inr h
 |cons y l ih=>
  intro k t j x h
  rcases ih (k+1) _ j x h with ⟨h1,h2,h3⟩ |h1
  ·refine .inl ⟨by omega,?_,h3⟩
   rw [show j-k=j-(k+1)+1 by omega]
   simpa using h2
  ·cases hd:y.dead
   ·rw [hd] at h1
    rcases T.aB h1 with ⟨e1,e2⟩ | ⟨_,e2⟩
    ·subst e1; subst e2;exact .inl ⟨Nat.le_refl _,by simp,hd⟩
    ·exact .inr e2
   ·rw [hd] at h1;exact .inr h1
theorem ik{l:List ah}{k:Nat}{x:ah}(h:(je l 0 T.nil).get k=some x):l[k]? =some x/\x.dead=false:=by
 rcases R4 _ _ _ _ _ h with ⟨_,h,h'⟩ |h
 ·exact ⟨by simpa using h,h'⟩
 ·rw [T.get_nil] at h; cases h
theorem Con.tw{C:Ctx}{P:Program}{ρ:Env}(hC:C.Ok P ρ){c:Con}(hwf:c.wf=true){args:List ab}{h:T ah}{nx:Nat}{sg:T IE}{pb:List Nat}(he:c.fit C args h nx=some (sg,pb)):
 (ρ.rep (fY sg)).ok (bdL c.bds)/\c.pre.holds (ρ.rep (fY sg))/\ ∀(R:Bf),Eg R->c.vb R (ρ.rep (fY sg))-> ∀B W f w args',au ρ B W f h w->az ρ f args args'->iF f nx (nx+(c.os'.length-c.os.length))->
  R args' w fun v' w'=> ∃f',f.le f'/\Outside f f' nx (nx+(c.os'.length-c.os.length))/\au ρ B W f' (c.then C h nx sg pb).2.1 w'/\ai ρ f' (c.then C h nx sg pb).1 v':=by
 unfold Con.fit at he;split at he
 ·cases he
 ·rename_i sg0 pb0 hm;split at he
  ·cases he
  ·rename_i hck;cases he
   ·
    clear hm;obtain ⟨k1,hck⟩:=aa hck;obtain ⟨k2,hck⟩:=aa hck;obtain ⟨k3,hck⟩:=aa hck;obtain ⟨k4,k5⟩:=aa hck;clear hck;obtain ⟨w1,hwf⟩:=aa hwf;obtain ⟨w2,hwf⟩:=aa hwf;obtain ⟨w3,w4⟩:=aa hwf;have w4:=Nat.le_of_ble_eq_true w4;clear hwf;unfold Con.then
    generalize hσ:fY sg=σ at*;generalize hπ:A6 pb c.os.length nx=π at*;obtain ⟨o1,o2⟩:=S7 k2;obtain ⟨s1,s2⟩:=TI k3;obtain ⟨x1,x2⟩:=Ou w3;have hpi: ∀i j,pb[i]? =some j->π i=j:=fun i j hj=>by rw [<- hπ]; unfold A6; rw [hj]
    have hpi': ∀i,pb.length<=i->π i=nx+(i-c.os.length):=fun i hi=>by rw [<- hπ]; unfold A6; rw [List.getElem?_eq_none hi]
    refine ⟨Dg (Qt hC k4),QI hC k5,fun R hR hc B W f w args' hr ha hfr=> ?_⟩
    let d:Nat->Bool:=(Nat.blt · c.os.length)
    have hd: ∀i,d i=true ↔ i<c.os.length:=fun i=>by simp [d,Nat.blt_eq]
    let Pat:Nat->Prop:=fun j=> ∃(i:Nat) (o':ah),c.os[i]? =some o'/\o'.own=true/\pb[i]? =some j
    let B1:Nat->Prop:=fun b=>b<w.heap.size/\(B b\/ ∃j L o,f j=some L/\h.get j=some o/\ ¬Pat j/\o.aZ ρ w L b)
    have ha1:az (ρ.rep σ) (f.via d π) c.args args':=subList_of c.args args' w1 (Hd hC.bd hC.dec ha k1)
    have via: ∀i L,f.via d π i=some L-> ∃j,pb[i]? =some j/\f j=some L:=by
     intro i L hi;unfold Ren.via at hi;split at hi
     ·rename_i hdi;have hlt:=(hd i).1 hdi;have:pb[i]? =some (pb[i]'(by omega)):=List.getElem?_eq_getElem (by omega)
      rw [hpi i _ this] at hi;exact ⟨_,this,hi⟩
     ·cases hi
    have pat: ∀(i:Nat) (o:ah),c.os[i]? =some o-> ∀L,f.via d π i=some L-> ∃j a,pb[i]? =some j/\f j=some L/\h.get j=some a/\c9 ρ f B w L a/\c9 ρ f B w L (vU σ π o)/\(∀ b,o.aZ (ρ.rep σ) w L b->a.aZ ρ w L b)/\(o.own=true->a.own=true)/\EE d o=true/\(∀ b,(vU σ π o).aZ ρ w L b ↔ o.aZ (ρ.rep σ) w L b):=by
     intro i o ho L hL;obtain ⟨j,a,p1,p2,p3⟩:=o2 i o ho;obtain ⟨j',q1,q2⟩:=via i L hL;rw [p1] at q1;cases q1;have ho1:=hr.obj j L a q2 p2;obtain ⟨ho2,hf2⟩:=Fc (own:=o.own) ho1;obtain ⟨ho3,hown,hf3⟩:=ah.xX hC.bd hC.dec p3 ho2;have hin:=vS w2 i o ho
     have hf4: ∀b,(vU σ π o).aZ ρ w L b ↔ o.aZ (ρ.rep σ) w L b:=by
      intro b;cases o with
      |cells c e ow t=>exact Iff.rfl
      |map es=>exact Iff.rfl
      |arr ks c n ow=>exact Iff.rfl
      |ghost k vs c=>exact Iff.rfl
      |win i s c e ow=>exact Iff.rfl
      |col s c k code m d n=>exact Iff.rfl
      |it0=>exact Iff.rfl
     refine ⟨j,a,p1,q2,p2,ho1,ho3,fun b hb=>(hf2 b).1 ((hf3 b).1 ((hf4 b).2 hb)),fun hob=> ?_,hin,hf4⟩
     rw [hob] at hown;rw [FL,hob] at hown;exact hown.symm
    have hB1: ∀(i:Nat) (o:ah),c.os[i]? =some o-> ∀L,f.via d π i=some L->o.own=true-> ∀b,o.aZ (ρ.rep σ) w L b-> ¬B1 b:=by
     intro i o ho L hL hown b hb ⟨_,hbb⟩;obtain ⟨j,a,p1,p2,p3,p4,p5,p6,p7,p8,p9⟩:=pat i o ho L hL
     rcases hbb with hbb | ⟨j',L',o',q1,q2,q3,q4⟩
     ·exact iD p4 (p7 hown) b (p6 b hb) hbb
     ·exact hr.apart j j' L L' a o' p2 q1 p3 q2 (fun e=>q3 ⟨i,o,ho,hown,by rw [<- e]; exact p1⟩) (p7 hown) b (p6 b hb) q4
    have H:au (ρ.rep σ) B1 w (f.via d π) (aF c.os 0 .nil) w:=by
     refine ⟨Kept.refl _ _,fun b hb=>hb.1,fun i L hi=> ?_,fun i i' Li Li' oi oi' hi hi' gi gi' hii hown b hb hb'=> ?_,fun i L o hi hg=> ?_⟩
     ·obtain ⟨j,_,hj⟩:=via i L hi;exact hr.lt j L hj
     ·obtain ⟨j,a,p1,p2,p3,p4,p5,p6,p7,p8,p9⟩:=pat i oi (iG gi) Li hi;obtain ⟨j',a',r1,r2,r3,r4,r5,r6,r7,r8,r9⟩:=pat i' oi' (iG gi') Li' hi';exact hr.apart j j' Li Li' a a' p2 r2 p3 r3 (fun e=>hii (s2 i i' j p1 (by rw [e]; exact r1))) (p7 hown) b (p6 b hb) (r6 b hb')
     ·obtain ⟨j,a,p1,p2,p3,p4,p5,p6,p7,p8,p9⟩:=pat i o (iG hg) L hi;exact (Kl p8 p5 (fun hown=>hB1 i o (iG hg) L hi hown)).1
    have hf1: ∀j,c.os.length<=j->f.via d π j=none:=by
     intro j hj;unfold Ren.via;split
     ·rename_i hdj;have:=(hd j).1 hdj;omega
     ·rfl
    refine hR _ _ _ _ (hc B1 w _ w args' H ha1 hf1) fun v' w' ⟨f1',e2,e3,e4,e5⟩=> ?_
    let f':Ren:=fun j=>if nx<=j/\j<nx+(c.os'.length-c.os.length) then f1' (c.os.length+(j-nx)) else f j
    have win: ∀j,nx<=j/\j<nx+(c.os'.length-c.os.length)->f' j=f1' (c.os.length+(j-nx)):=fun j hj=>if_pos hj
    have out: ∀j,¬(nx<=j/\j<nx+(c.os'.length-c.os.length))->f' j=f j:=fun j hj=>if_neg hj
    have le:f.le f':=by
     intro j L hj
     by_cases hw:nx<=j/\j<nx+(c.os'.length-c.os.length)
     ·have:=hfr j hw.1 hw.2;rw [this] at hj;cases hj
     ·rw [out j hw]; exact hj
    have old: ∀i j,pb[i]? =some j->f1' i=f' j:=by
     intro i j hj;have hi:i<c.os.length:=by rw [o1]; exact (List.getElem?_eq_some_iff.1 hj).1
     rw [e3 i (.inl hi),out j (by have:=s1 i j hj; omega),Ren.nc ((hd i).2 hi),hpi i j hj]
    have lev:f1'.le (f'.via (fun _=>true) π):=by
     intro i L hi;rw [Ren.nc rfl]
     rcases Nat.lt_or_ge i c.os.length with hlt |hge
     ·have:pb[i]? =some (pb[i]'(by omega)):=List.getElem?_eq_getElem (by omega)
      rw [hpi i _ this,<-old i _ this];exact hi
     ·rcases Nat.lt_or_ge i c.os'.length with hlt |hge'
      ·rw [hpi' i (by omega),win _ (by omega)]
       rw [show c.os.length+(nx+(i-c.os.length)-nx)=i by omega]
       exact hi
      ·rw [e3 i (.inr hge'),hf1 i hge] at hi;cases hi
    have hBB: ∀b,B b->B1 b:=fun b hb=>⟨Nat.lt_of_lt_of_le (hr.bsize b hb) hr.below.size,.inl hb⟩
    -- what stands behind: an object of the contract's, or one that was there
    have cases3: ∀j L o,f' j=some L->(dQ (zk C.bd C.dec σ π) nx c.os c.os' pb h).get j=some o->
     (∃ (i:Nat) (o':ah),c.os'[i]? =some o'/\f1' i=some L/\o=zk C.bd C.dec σ π o'/\(o'.own=true/\o'.dead=false)/\((∃ q,pb[i]? =some q/\q=j)\/(pb.length<=i/\j=nx+(i-c.os.length))))\/
     (f j=some L/\h.get j=some o/\ ¬Pat j):=by
     intro j L o hj hg
     rcases yK o1 x1 hg with ⟨i,o0,o',q1,q2,q3,qd,q4,q5⟩ | ⟨k,o',q1,q2,q3⟩ | ⟨q1,q2,q3⟩
     ·exact .inl ⟨i,o',q3,by rw [old i j q4]; exact hj,q5,⟨(x2 i o' q3 (fun o1 h1=>by rw [q1] at h1; cases h1; exact q2)).1,qd⟩,.inl ⟨j,q4,rfl⟩⟩
     ·have hk:c.os.length+k<c.os'.length:=(List.getElem?_eq_some_iff.1 q1).1
      have hx2:=x2 _ o' q1 (fun o1 h1=>by
       rw [List.getElem?_eq_none (by omega)] at h1
       cases h1)
      refine .inl ⟨c.os.length+k,o',q1,?_,q3,⟨hx2.1,hx2.2 (by omega)⟩,.inr ⟨by omega,by omega⟩⟩
      rw [win j (by omega)] at hj
      rw [show c.os.length+(j-nx)=c.os.length+k by omega] at hj
      exact hj
     ·refine .inr ⟨?_,q3,fun ⟨i,o',p1,p2,p3⟩=>q1 i o' p1 p2 p3⟩
      rw [out j (fun hw=>q2 (j-nx) (by omega) (by omega))] at hj
      exact hj
    have mine: ∀(i:Nat) (o':ah) (L:Loc),c.os'[i]? =some o'->f1' i=some L->o'.own=true/\o'.dead=false->c9 ρ f' B w' L (zk C.bd C.dec σ π o')/\(∀ b,(zk C.bd C.dec σ π o').aZ ρ w' L b ↔ o'.aZ (ρ.rep σ) w' L b)/\ ∀b,o'.aZ (ρ.rep σ) w' L b-> ¬B1 b:=by
     intro i o' L hi hL hown
     have hT:(je c.os' 0 T.nil).get i=some o':=by
      have:=f9 c.os' 0 i .nil o' hi hown.2 (by omega)
      rwa [Nat.zero_add] at this
     have ho:=e4.obj i L o' hL hT;have hnb:=iD ho hown.1;obtain ⟨r1,r2⟩:=KJ (B':=B) hC.bd hC.dec lev (fun _ b hb hbB=>hnb b hb (hBB b hbB)) ho
     exact ⟨r1,r2,hnb⟩
    have tree: ∀(i:Nat) (o':ah),c.os'[i]? =some o'->o'.dead=false->(je c.os' 0 T.nil).get i=some o':=by
     intro i o' hi hd;have:=f9 c.os' 0 i .nil o' hi hd (by omega)
     rwa [Nat.zero_add] at this
    have theirs: ∀(j:Nat) (L:Loc) (o:ah),f j=some L->h.get j=some o-> ¬Pat j->c9 ρ f' B w' L o/\(∀ b,o.aZ ρ w' L b->o.aZ ρ w L b)/\ ∀b,o.aZ ρ w L b->B1 b:=by
     intro j L o hj hg hp;have ho:=hr.obj j L o hj hg;have hb1: ∀b,o.aZ ρ w L b->B1 b:=fun b hb=>⟨ho.lz hb,.inr ⟨j,L,o,hj,hg,hp,hb⟩⟩
     obtain ⟨r1,r2⟩:=ho.rP e4.below.size fun b hb=>e4.below.block b (hb1 b hb)
     exact ⟨r1.mono le,r2,hb1⟩
    refine ⟨f',le,fun j hj=>out j (by omega),⟨hr.below.trans (e4.below.mono hBB),hr.bsize,fun j L hj=> ?_,fun j1 j2 L1 L2 oa ob h1 h2 g1 g2 h12 hown b hb hb'=> ?_,fun j L o hj hg=> ?_⟩,n8 hC.bd hC.dec lev e5⟩
    ·by_cases hw:nx<=j/\j<nx+(c.os'.length-c.os.length)
     ·rw [win j hw] at hj;exact e4.lt _ L hj
     ·rw [out j hw] at hj;exact Nat.lt_of_lt_of_le (hr.lt j L hj) e4.below.size
    ·rcases cases3 j1 L1 oa h1 g1 with ⟨i1,o1',p1,p2,p3,p4,p5⟩ | ⟨p1,p2,p3⟩
     ·obtain ⟨m1,m2,m3⟩:=mine i1 o1' L1 p1 p2 p4;rw [p3] at hb
      rcases cases3 j2 L2 ob h2 g2 with ⟨i2,o2',q1,q2,q3,q4,q5⟩ | ⟨q1,q2,q3⟩
      ·obtain ⟨n1,n2,n3⟩:=mine i2 o2' L2 q1 q2 q4;rw [q3] at hb';refine e4.apart i1 i2 L1 L2 o1' o2' p2 q2 (tree i1 o1' p1 p4.2) (tree i2 o2' q1 q4.2) (fun e=>h12 ?_) p4.1 b ((m2 b).1 hb) ((n2 b).1 hb')
       subst e
       rcases p5 with ⟨a,a1,a2⟩ | ⟨a1,a2⟩
       ·rcases q5 with ⟨c1,c2,c3⟩ | ⟨c1,c2⟩
        ·rw [a1] at c2;cases c2;omega
        ·rw [List.getElem?_eq_none c1] at a1;cases a1
       ·rcases q5 with ⟨c1,c2,c3⟩ | ⟨c1,c2⟩
        ·rw [List.getElem?_eq_none a1] at c2;cases c2
        ·omega
      ·obtain ⟨n1,n2,n3⟩:=theirs j2 L2 ob q1 q2 q3;exact m3 b ((m2 b).1 hb) (n3 b (n2 b hb'))
     ·obtain ⟨m1,m2,m3⟩:=theirs j1 L1 oa p1 p2 p3
      rcases cases3 j2 L2 ob h2 g2 with ⟨i2,o2',q1,q2,q3,q4,q5⟩ | ⟨q1,q2,q3⟩
      ·obtain ⟨n1,n2,n3⟩:=mine i2 o2' L2 q1 q2 q4;rw [q3] at hb';exact n3 b ((n2 b).1 hb') (m3 b (m2 b hb))
      ·obtain ⟨n1,n2,n3⟩:=theirs j2 L2 ob q1 q2 q3;exact hr.apart j1 j2 L1 L2 oa ob p1 q1 p2 q2 h12 hown b (m2 b hb) (n2 b hb')
    ·rcases cases3 j L o hj hg with ⟨i,o',p1,p2,p3,p4,p5⟩ | ⟨p1,p2,p3⟩
     ·rw [p3];exact (mine i o' L p1 p2 p4).1
     ·exact (theirs j L o p1 p2 p3).1
theorem Con.Vu{C:Ctx}{P:Program}{ρ:Env}(hC:C.Ok P ρ){G:Nat->Int->Int->Int->Int}{GH:Nat->bz}(hρ:ρ.std G GH){c:Con}(hwf:c.wf=true)(hc:c.Ok P G GH){B:Nat->Prop}{W:World}:cI P ρ B W (c.call C):=by
 intro g args h nx v h' nx' he;unfold Con.call at he;split at he
 ·cases he
 ·rename_i hg;have hg:=Nat.eq_of_beq_eq_true hg;subst hg;have hp:=Con.K2 ρ c args h nx;generalize c.H9 args h nx=hn at he hp;obtain ⟨h1,nx1⟩:=hn;simp only at he;split at he
  ·cases he
  ·rename_i sg pb hm;cases he;obtain ⟨g1,g2,g3⟩:=Con.tw hC hwf hm;refine ⟨Nat.le_trans hp.1 (Nat.le_add_right _ _),fun f w args' hr ha hfr=> ?_⟩
   have hle:nx<=nx1:=hp.1;have hr':=hp.2 B W f w hr fun j a b=>hfr j a (Nat.lt_of_lt_of_le b (Nat.le_add_right _ _))
   exact (g3 _ (dh P c.g) (hc _ ⟨hρ.1,hρ.2⟩ g1 g2) B W f w args' hr' ha fun j a b=>hfr j (Nat.le_trans hle a) b).mono fun e w' ⟨v',e1,f',e2,e3,e4,e5⟩=>⟨v',f',e1,e2,fun j hj=>e3 j (by omega),e4,e5⟩
def bO(P:Program)(G:Nat->Int->Int->Int->Int)(GH:Nat->bz)(l:List Con):Prop:= ∀c∈l,c.wf=true/\c.Ok P G GH
theorem wg{C:Ctx}{P:Program}{ρ:Env}(hC:C.Ok P ρ){G:Nat->Int->Int->Int->Int}{GH:Nat->bz}(hρ:ρ.std G GH){B:Nat->Prop}{W:World}: ∀ {l:List Con},bO P G GH l->cI P ρ B W (nV C l):=by
 intro l
 induction l with
 |nil=>intro _ g args h nx v h' nx' he; cases he
 |cons c l ih=>
  intro hl g args h nx v h' nx' he;simp only [nV] at he;split at he
  ·rename_i r hr;cases he;exact Con.Vu hC hρ (hl c (by simp)).1 (hl c (by simp)).2 _ _ _ _ _ _ _ hr
  ·exact ih (fun c hc=>hl c (by simp [hc])) _ _ _ _ _ _ _ he
theorem bO.cons{P:Program}{G:Nat->Int->Int->Int->Int}{GH:Nat->bz}{c:Con}{l:List Con}(hw:c.wf=true)(h:c.Ok P G GH)(hl:bO P G GH l):bO P G GH (c::l):=by
 intro x hx
 rcases List.mem_cons.1 hx with rfl |hx
 ·exact ⟨hw,h⟩
 ·exact hl x hx
theorem bO.nil{P:Program}{G:Nat->Int->Int->Int->Int}{GH:Nat->bz}:bO P G GH []:=fun c h=>by cases h
def It(C:Ctx)(σ:Nat->IE):List (Nat×Int×Int)->Option (List BE)
 | []=>some []
 | (i,lo,hi)::l=>
   match (match rng C.bd (σ i) with
    |some (a,b)=>aL lo a&&aL b hi
    |none=>false) with
   |true=>It C σ l
   |false=>
    match mkLt C.bd (σ i) (.lit lo),mkLt C.bd (.lit hi) (σ i) with
    |x,y=>
     match settle C.dec x with
     |some true=>none
     |none=>some [x]
     |some false=>
      match settle C.dec y with
      |some true=>none
      |none=>some [y]
      |some false=>It C σ l
def OT(C:Ctx)(σ:Nat->IE):Dec->List BE
 | []=>[]
 | (b,v)::l=>
   match prove C.bd 6 C.dec (b.rep σ) with
   |some u=>
    match bEq u v with
    |true=>OT C σ l
    |false=>[]
   |none=>[(b.rep σ).nrm C.bd C.dec]
def Con.ask(C:Ctx)(c:Con)(args:List ab)(h0:T ah):List BE:=
 match c.H9 args h0 1000000000 with
 | (h,_)=>
 match c.match? args h with
 |none=>[]
 |some (sg,pb)=>
  match covList C.bd C.dec (subList (fY sg) (A6 pb c.os.length 0) c.args) args&&HJ C.bd C.dec (fY sg) (A6 pb c.os.length 0) h c.os pb with
  |false=>[]
  |true=>
   match It C (fY sg) c.bds with
   |none=>[]
   |some (b::l)=>b::l
   |some []=>OT C (fY sg) c.pre
def HB(C:Ctx):List Con->FuncId->List ab->T ah->List BE
 | [],_,_,_=>[]
 |c::l,g,args,h=>
  match Nat.beq g c.g with
  |false=>HB C l g args h
  |true=>
   match c.ask C args h with
   | []=>HB C l g args h
   |bs=>bs
end
end Go.Sx
