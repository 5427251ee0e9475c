/- Part Tw5. No condition. -/
import Derived.Test.YtpdhneemedlgaaaGreatTw4
import Derived.Test.YtpdhneemedlgaaaGreatUe6
set_option linter.all false
namespace Go.Proofs.YtpdhneemedlgaaaGreat
open Go Go.Sx
set_option maxRecDepth 1000000
noncomputable section
theorem ba.xU{P:Program}(mixed:P.follows .mixedOrders=true){G:Nat->Int->Int->Int->Int}{GH:Nat->bz}{c:ba}(hsl:c.sl.length=c.con.args.length){L:Nat}{pol:FuncId->Nat->Bool}{pure:FuncId->Bool}{d:Nat}
 (h: ∀ρ:Env,ρ.std G GH->ρ.ok (bdL c.con.bds)->c.con.pre.holds ρ-> ∃(c2:ba) (K:Know) (facts:Dec),c2.con.wf=true/\(∀ ρ':Env,ρ'.std G GH->ρ'.ok (bdL c2.con.bds)->c2.con.pre.holds ρ'-> ∀(fn:Func) (cd b:Code),P.funcs[c.con.g]? =some fn->fn.body=some cd->b∈cS cd->Code.key b=c.key-> ∃m,c2.con.vb (l0 P b c2 m) ρ')/\c.Next c2/\K.Ok P G GH/\facts.holds ρ/\ ∃e s at' q,(c.ru c2 P K L pol pure d facts).pick ρ=some (e,s)/\c.con.ends at' s=some q/\q.hold ρ):c.Ok P G GH:=by
 intro fn cd b hfn hb hm hk ρ h1 hb2 h3;obtain ⟨c2,K,facts,hw2,h2,hx,hK,hf,e,s,at',q,p1,p2,p3⟩:=h ρ h1 hb2 h3;obtain ⟨m,hm'⟩:=ba.nk mixed hK hw2 hx hsl h1 hb2 h3 hf hfn hb hm hk (fun ρ' k1 k2 k3=>h2 ρ' k1 k2 k3 fn cd b hfn hb hm hk) p1
 exact ⟨m+1,Con.ig (jj P b c (m+1)) hm' p2 p3⟩
theorem yc{a k h k' h':Nat}:(lTk a k h).Next (lTk a k' h'):=⟨rfl,rfl,rfl⟩
theorem zj:te.cJ (twN 1 1) 1 (fun j=>j+2) (kdA 1) (plT (dI 1 1)) 3:=by
 refine ⟨by decide,⟨_,_,_,_,rfl,⟨1,2,by kernel_rfl⟩,by kernel_rfl⟩,⟨_,_,_,_,rfl,fun j hj=> ?_⟩,fun j hj=> ?_⟩
 ·match j,hj with
  |0,_=>exact ⟨by kernel_rfl,.var 40,by kernel_rfl⟩
 ·match j,hj with
  |0,_=>exact ⟨_,_,_,_,rfl,by kernel_rfl,plT 2,.ptr (some (3,0)),by kernel_rfl⟩
theorem zD:te.cJ (twN 1 2) 2 (fun j=>j+2) (kdA 1) (plT (dI 1 2)) 4:=by
 refine ⟨by decide,⟨_,_,_,_,rfl,⟨2,2,by kernel_rfl⟩,by kernel_rfl⟩,⟨_,_,_,_,rfl,fun j hj=> ?_⟩,fun j hj=> ?_⟩
 ·match j,hj with
  |0,_=>exact ⟨by kernel_rfl,.var 40,by kernel_rfl⟩
  |1,_=>exact ⟨by kernel_rfl,.var 41,by kernel_rfl⟩
 ·match j,hj with
  |0,_=>exact ⟨_,_,_,_,rfl,by kernel_rfl,44,.ptr (some (3,0)),by kernel_rfl⟩
  |1,_=>exact ⟨_,_,_,_,rfl,by kernel_rfl,plT 1,.ptr (some (4,0)),by kernel_rfl⟩
theorem zl:te.cJ (twN 1 3) 3 (fun j=>j+2) (kdA 1) (plT (dI 1 3)) 5:=by
 refine ⟨by decide,⟨_,_,_,_,rfl,⟨3,2,by kernel_rfl⟩,by kernel_rfl⟩,⟨_,_,_,_,rfl,fun j hj=> ?_⟩,fun j hj=> ?_⟩
 ·match j,hj with
  |0,_=>exact ⟨by kernel_rfl,.var 40,by kernel_rfl⟩
  |1,_=>exact ⟨by kernel_rfl,.var 41,by kernel_rfl⟩
  |2,_=>exact ⟨by kernel_rfl,.var 42,by kernel_rfl⟩
 ·match j,hj with
  |0,_=>exact ⟨_,_,_,_,rfl,by kernel_rfl,44,.ptr (some (3,0)),by kernel_rfl⟩
  |1,_=>exact ⟨_,_,_,_,rfl,by kernel_rfl,44,.ptr (some (4,0)),by kernel_rfl⟩
  |2,_=>exact ⟨_,_,_,_,rfl,by kernel_rfl,plT 2,.ptr (some (5,0)),by kernel_rfl⟩
theorem zL:te.cJ (twN 1 4) 4 (fun j=>j+2) (kdA 1) (plT (dI 1 4)) 6:=by
 refine ⟨by decide,⟨_,_,_,_,rfl,⟨4,2,by kernel_rfl⟩,by kernel_rfl⟩,⟨_,_,_,_,rfl,fun j hj=> ?_⟩,fun j hj=> ?_⟩
 ·match j,hj with
  |0,_=>exact ⟨by kernel_rfl,.var 40,by kernel_rfl⟩
  |1,_=>exact ⟨by kernel_rfl,.var 41,by kernel_rfl⟩
  |2,_=>exact ⟨by kernel_rfl,.var 42,by kernel_rfl⟩
  |3,_=>exact ⟨by kernel_rfl,.var 43,by kernel_rfl⟩
 ·match j,hj with
  |0,_=>exact ⟨_,_,_,_,rfl,by kernel_rfl,44,.ptr (some (3,0)),by kernel_rfl⟩
  |1,_=>exact ⟨_,_,_,_,rfl,by kernel_rfl,44,.ptr (some (4,0)),by kernel_rfl⟩
  |2,_=>exact ⟨_,_,_,_,rfl,by kernel_rfl,44,.ptr (some (5,0)),by kernel_rfl⟩
  |3,_=>exact ⟨_,_,_,_,rfl,by kernel_rfl,plT 1,.ptr (some (6,0)),by kernel_rfl⟩
theorem zo:te.cJ (twN 2 1) 1 (fun j=>j+2) (kdA 2) (plT (dI 2 1)) 3:=by
 refine ⟨by decide,⟨_,_,_,_,rfl,⟨1,2,by kernel_rfl⟩,by kernel_rfl⟩,⟨_,_,_,_,rfl,fun j hj=> ?_⟩,fun j hj=> ?_⟩
 ·match j,hj with
  |0,_=>exact ⟨by kernel_rfl,.var 40,by kernel_rfl⟩
 ·match j,hj with
  |0,_=>exact ⟨_,_,_,_,rfl,by kernel_rfl,plT 1,.ptr (some (3,0)),by kernel_rfl⟩
theorem zd:te.cJ (twN 2 2) 2 (fun j=>j+2) (kdA 2) (plT (dI 2 2)) 4:=by
 refine ⟨by decide,⟨_,_,_,_,rfl,⟨2,2,by kernel_rfl⟩,by kernel_rfl⟩,⟨_,_,_,_,rfl,fun j hj=> ?_⟩,fun j hj=> ?_⟩
 ·match j,hj with
  |0,_=>exact ⟨by kernel_rfl,.var 40,by kernel_rfl⟩
  |1,_=>exact ⟨by kernel_rfl,.var 41,by kernel_rfl⟩
 ·match j,hj with
  |0,_=>exact ⟨_,_,_,_,rfl,by kernel_rfl,44,.ptr (some (3,0)),by kernel_rfl⟩
  |1,_=>exact ⟨_,_,_,_,rfl,by kernel_rfl,plT 2,.ptr (some (4,0)),by kernel_rfl⟩
theorem zJ:te.cJ (twN 2 3) 3 (fun j=>j+2) (kdA 2) (plT (dI 2 3)) 5:=by
 refine ⟨by decide,⟨_,_,_,_,rfl,⟨3,2,by kernel_rfl⟩,by kernel_rfl⟩,⟨_,_,_,_,rfl,fun j hj=> ?_⟩,fun j hj=> ?_⟩
 ·match j,hj with
  |0,_=>exact ⟨by kernel_rfl,.var 40,by kernel_rfl⟩
  |1,_=>exact ⟨by kernel_rfl,.var 41,by kernel_rfl⟩
  |2,_=>exact ⟨by kernel_rfl,.var 42,by kernel_rfl⟩
 ·match j,hj with
  |0,_=>exact ⟨_,_,_,_,rfl,by kernel_rfl,44,.ptr (some (3,0)),by kernel_rfl⟩
  |1,_=>exact ⟨_,_,_,_,rfl,by kernel_rfl,44,.ptr (some (4,0)),by kernel_rfl⟩
  |2,_=>exact ⟨_,_,_,_,rfl,by kernel_rfl,plT 1,.ptr (some (5,0)),by kernel_rfl⟩
theorem zC:te.cJ (twN 2 4) 4 (fun j=>j+2) (kdA 2) (plT (dI 2 4)) 6:=by
 refine ⟨by decide,⟨_,_,_,_,rfl,⟨4,2,by kernel_rfl⟩,by kernel_rfl⟩,⟨_,_,_,_,rfl,fun j hj=> ?_⟩,fun j hj=> ?_⟩
 ·match j,hj with
  |0,_=>exact ⟨by kernel_rfl,.var 40,by kernel_rfl⟩
  |1,_=>exact ⟨by kernel_rfl,.var 41,by kernel_rfl⟩
  |2,_=>exact ⟨by kernel_rfl,.var 42,by kernel_rfl⟩
  |3,_=>exact ⟨by kernel_rfl,.var 43,by kernel_rfl⟩
 ·match j,hj with
  |0,_=>exact ⟨_,_,_,_,rfl,by kernel_rfl,44,.ptr (some (3,0)),by kernel_rfl⟩
  |1,_=>exact ⟨_,_,_,_,rfl,by kernel_rfl,44,.ptr (some (4,0)),by kernel_rfl⟩
  |2,_=>exact ⟨_,_,_,_,rfl,by kernel_rfl,44,.ptr (some (5,0)),by kernel_rfl⟩
  |3,_=>exact ⟨_,_,_,_,rfl,by kernel_rfl,plT 2,.ptr (some (6,0)),by kernel_rfl⟩
theorem xP{G:Nat->Int->Int->Int->Int}{GH:Nat->bz}(a h:Nat)(ha:a=1\/a=2)(hh:h<5):(cMa a h).Ok PR G GH/\(cKi a h).Ok PR G GH:=by
 match a,h,ha,hh with
 |1,0,_,_=>exact ⟨lF _ _,jc (.inl ⟨rfl,rfl⟩)⟩
 |2,0,_,_=>exact ⟨lF _ _,jc (.inr ⟨rfl,rfl⟩)⟩
 |1,1,_,_=>exact ⟨da zj (by decide) (by decide),te.bS zj (by decide) (by decide) (.inr ⟨rfl,rfl⟩)⟩
 |1,2,_,_=>exact ⟨da zD (by decide) (by decide),te.bS zD (by decide) (by decide) (.inl ⟨rfl,rfl⟩)⟩
 |1,3,_,_=>exact ⟨da zl (by decide) (by decide),te.bS zl (by decide) (by decide) (.inr ⟨rfl,rfl⟩)⟩
 |1,4,_,_=>exact ⟨da zL (by decide) (by decide),te.bS zL (by decide) (by decide) (.inl ⟨rfl,rfl⟩)⟩
 |2,1,_,_=>exact ⟨da zo (by decide) (by decide),te.bS zo (by decide) (by decide) (.inl ⟨rfl,rfl⟩)⟩
 |2,2,_,_=>exact ⟨da zd (by decide) (by decide),te.bS zd (by decide) (by decide) (.inr ⟨rfl,rfl⟩)⟩
 |2,3,_,_=>exact ⟨da zJ (by decide) (by decide),te.bS zJ (by decide) (by decide) (.inl ⟨rfl,rfl⟩)⟩
 |2,4,_,_=>exact ⟨da zC (by decide) (by decide),te.bS zC (by decide) (by decide) (.inr ⟨rfl,rfl⟩)⟩
 |0,_,h,_=>exact absurd h (by decide)
 |a+3,_,h,_=>exact absurd h (by omega)
 |_,h+5,_,hh=>exact absurd hh (by omega)
theorem A2:(KT 1).cons.all Con.wf=true:=by kernel_rfl
theorem Bj:(KT 2).cons.all Con.wf=true:=by kernel_rfl
def wfs(a:Nat):Bool:=(List.range 6).all fun k=>(List.range 5).all fun h=>(cTk a k h).wf
theorem Ec:wfs 1=true:=by kernel_rfl
theorem EL:wfs 2=true:=by kernel_rfl
section
variable{G:Nat->Int->Int->Int->Int}(hG:CopG G)
include hG
theorem zH{a:Nat}(ha:a=1\/a=2):(KT a).Ok PR G gh:=by
 have hw:(KT a).cons.all Con.wf=true:=by
  rcases ha with rfl |rfl
  ·exact A2
  ·exact Bj
 refine ⟨ku hw fun c hc=> ?_,fun _ h=>by cases h⟩
 rcases List.mem_append.1 hc with hc |hc
 ·simp only [List.mem_cons,List.not_mem_nil,or_false] at hc
  rcases hc with rfl |rfl |rfl |rfl |rfl |rfl |rfl |rfl
  ·exact qI
  ·exact pP
  ·exact qn hG.c.l (by decide)
  ·exact qn hG.c.l (by decide)
  ·exact pV hG (by decide)
  ·exact pV hG (by decide)
  ·exact MB (by decide)
  ·exact MB (by decide)
 ·rcases List.mem_append.1 hc with hc |hc
  ·obtain ⟨h,hh,rfl⟩:=List.mem_map.1 hc;exact (xP a h ha (List.mem_range.1 hh)).1
  ·obtain ⟨h,hh,rfl⟩:=List.mem_map.1 hc;exact (xP a h ha (List.mem_range.1 hh)).2
omit hG in
theorem yN{a:Nat}(ha:a=1\/a=2): ∀k,k<5->okK a k=true:=fun k hk=>by
 rcases ha with rfl |rfl
 ·match k,hk with
  |0,_=>exact Cd
  |1,_=>exact Cg
  |2,_=>exact AR
  |3,_=>exact BQ
  |4,_=>exact z9
 ·match k,hk with
  |0,_=>exact AF
  |1,_=>exact zW
  |2,_=>exact Cq
  |3,_=>exact Au
  |4,_=>exact BT
omit hG in
theorem ng{a:Nat}(ha:a=1\/a=2){k h:Nat}(hk:k<6)(hh:h<5):(cTk a k h).wf=true:=by
 have:wfs a=true:=by
  rcases ha with rfl |rfl
  ·exact Ec
  ·exact EL
 exact List.all_eq_true.1 (List.all_eq_true.1 this k (List.mem_range.2 hk)) h (List.mem_range.2 hh)
omit hG in
theorem uX(ρ:Env)(k h:Nat): ∃i,i<3/\(pY k h i).holds ρ:=by
 have one: ∀ {b:BE} {v:Bool},b.ev ρ=v->Dec.holds ρ [(b,v)]:=fun {b v} e p hp=>by
  rcases List.mem_cons.1 hp with rfl |hp
  ·exact e
  ·cases hp
 have two': ∀ {b c:BE} {v u:Bool},b.ev ρ=v->c.ev ρ=u->Dec.holds ρ [(b,v),(c,u)]:=fun {b c v u} e e' p hp=>by
  rcases List.mem_cons.1 hp with rfl |hp
  ·exact e
  ·exact one e' p hp
 cases h1:(BE.lt (.var (Nat.add 2 k)) (.lit 2)).ev ρ with
 |true=>exact ⟨0,by decide,one h1⟩
 |false=>
  cases h2:(BE.lt (.lit 4096) (.add (.add (sz h) (.lit 1)) (.sub (.var (Nat.add 2 k)) (.lit 2)))).ev ρ with
  |true=>exact ⟨1,by decide,two' h1 h2⟩
  |false=>exact ⟨2,by decide,two' h1 h2⟩
theorem Cv{a:Nat}(ha:a=1\/a=2): ∀j,j<=5-> ∀h,h<=4->h<=5-j->(lTk a (5-j) h).Ok PR G gh:=by
 intro j
 induction j with
 |zero=>
  intro _ h h4 _
  have h5:ok5 a=true:=by
   rcases ha with rfl |rfl
   ·exact C6
   ·exact CO
  have run:=List.all_eq_true.1 h5 h (List.mem_range.2 (by omega))
  exact ba.kj (c:=lTk a 5 h) mixed (zH hG ha) (ng ha (by decide) (by omega)) rfl (fun _:Unit=>[]) 20 aG no' 14 12 (.lit 0) fun ρ _ _ _=>⟨(),aw,run⟩
 |succ j ih=>
  intro hj h h4 hh;have hk:5-(j+1)<5:=by omega
  refine ba.xU (c:=lTk a (5-(j+1)) h) (L:=20) (pol:=aG) (pure:=no') (d:=14) mixed rfl fun ρ h1 h2 h3=> ?_
  obtain ⟨i,hi,hf⟩:=uX ρ (5-(j+1)) h;have e5:Nat.add (5-(j+1)) 1=5-j:=by show 5-(j+1)+1=_; omega
  have hn:nxH h i<=4/\nxH h i<=5-j:=by
   match i,hi with
   |0,_=>exact ⟨h4,by show h<=_; omega⟩
   |1,_=>exact ⟨h4,by show h<=_; omega⟩
   |2,_=>
    show min (Nat.add h 1) 4<=4/\min (Nat.add h 1) 4<=5-j;have:Nat.add h 1=h+1:=rfl;rw [this];omega
  have nx:=ih (by omega) (nxH h i) hn.1 hn.2
  have run:=List.all_eq_true.1 (yN ha _ hk) h (List.mem_range.2 (by show h<min (5-(j+1)) 4+1; omega))
  rw [Bool.and_eq_true,Bool.and_eq_true] at run
  have run:x9 a (5-(j+1)) h i=true:=by
   match i,hi with
   |0,_=>exact run.1
   |1,_=>exact run.2.1
   |2,_=>exact run.2.2
  obtain ⟨e,s,dec',hd',p1,p2⟩:=Out.bP (bJ hf h3) run;unfold Con.leaf at p2;split at p2
  ·rename_i l hl;refine ⟨lTk a (Nat.add (5-(j+1)) 1) (nxH h i),KT a,pY (5-(j+1)) h i,ng ha (by rw [e5]; omega) (by omega),fun ρ' k1 k2 k3 fn cd b q1 q2 q3 q4=> ?_,yc,zH hG ha,hf,e,s,_,l,p1,hl,f7 (fun x y hab=>uR h2 hd' hab) p2⟩
   rw [e5] at k2 k3 ⊢;exact nx fn cd b q1 q2 q3 q4 ρ' k1 k2 k3
  ·cases p2
end
def cLw(kE:IE)(bds:List (Nat×Int×Int))(pre:Dec):Con:={g:=3,args:=[.int .i64 kE,uV .i64 1,.agg [uV .u8 2,uV .u8 3,uV .u8 4,uV .u8 5,uV .u8 6]],bds:=bds,pre:=pre,res:= .bool (.lit true)}
def b8:List (Nat×Int×Int):=[u8B 2,u8B 3,u8B 4,u8B 5,u8B 6]
def s9(i:Nat):Nat×Int×Int:=(i,-9223372036854775808,9223372036854775807)
def KL(a:Nat):Know:=⟨[JN,wm,xG,cMa a 0,tM 0,tM 1],[lTk a 0 0]⟩
def K0:Know:=⟨[JN],[]⟩
def tL(K:Know)(c:Con):Bool:=fq c K 20 14 12
theorem lw1:tL (KL 1) (cLw (.lit 1) ((1,1,4096)::b8) [])=true:=by kernel_rfl
theorem lw2:tL (KL 2) (cLw (.lit 2) ((1,1,4096)::b8) [])=true:=by kernel_rfl
theorem lwF:tL K0 (cLw (.var 0) (s9 0::(1,-9223372036854775808,0)::b8) [])=true:=by kernel_rfl
theorem lwM:tL K0 (cLw (.var 0) (s9 0::(1,4097,9223372036854775807)::b8) [])=true:=by kernel_rfl
theorem lwN:tL K0 (cLw (.var 0) (s9 0::(1,1,4096)::b8) [(.eq (.var 0) (.lit 1),false),(.eq (.var 0) (.lit 2),false)])=true:=by kernel_rfl
end
end Go.Proofs.YtpdhneemedlgaaaGreat
