/- Part Qr4. No condition. -/
import Derived.Test.YtbhlmedfhilkbaaGreatQr1
set_option linter.all false
namespace Go.Proofs.YtbhlmedfhilkbaaGreat
open Go Go.Sx
set_option maxRecDepth 1000000
noncomputable section
def FR:Fns:=⟨106,107,[0,90,2,3]⟩
def VW:TypeId:=43
def JD:ah:= .cells (aF [.int .i64 (.lit 0),.int .u32 (.lit 0)] 0 .nil) VW true 2
def K6(F:Fns)(j:Nat):ah:= .cells (aF [.int .i64 (dg F .u8 j),.int .u32 (dg F .u32 (j+1))] 0 .nil) VW true 2
def zn:List (Nat×Int×Int):=[(2,0,1000000),(3,-1000000,1000000)]
def WY(x:IE):List IntKind->Nat->List IE
 | [],_=>[]
 |k::l,j=> .wrap k (.fn 0 x (.lit (.ofNat j)) (.lit 0))::WY x l (j+1)
def stE(x:IE):List IE:=WY x aW 0
def pH(x:IE):IE:= .wrap .i64 (.fn 0 x (.lit 22) (.lit 0))
def abf(x:IE):IE:= .wrap .i64 (.fn 0 x (.lit 23) (.lit 0))
def jQ(F:Fns):HT:=
 .split (.lt (.lit 0) (abf (.var 90))) (.split (.lt (pH (.var 90)) (abf (.var 90))) body (.done (stE (.var 90)++[.var 0,.lit 8,.lit 0]))) body
where body:HT:= .split (.lt (.var 2) (.var 3)) (.split (.eq (dg F .u8 24) (.lit 0)) (.again [kvE F 26,.fn F.KR F.x (.lit 0) (.lit 0),.add (.var 2) (.lit 1),.var 3]) (.done (stE (.var 90)++[kvE F 26,dg F .u8 24,dg F .u32 25]))) (.done (stE (.var 90)++[.var 0,.lit 1,.lit 0]))
def Fe:Con:={g:=172,args:=[pm,.int .i64 (.var 3),.ptr (some (1,0)),.int .i64 (.var 2)],os:=[dZ 1 (.var 0),JD],bds:=zn,res:= .tuple [.ptr (some (1,0))],os':=[.ghost 1 [kvE FR 24] (aX (dgL FR aW 0) 2),K6 FR 25]}
def Ni:ba:={con:=Fe,key:=4,n:=54,sl:=[0,1,4,5],e:= .ret,sl':=[4]}
def μR:IE:= .sub (.var 3) (.var 2)
def SE:Know:=⟨[gO],[]⟩
def WU:Out:=Ni.tree PR SE 20 aG no' 12 [] μR
def UL(l:List ab):ah:= .cells (aF (l++[.ptr (some (1,0))]) 0 .nil) 68 true 25
def Fl:Con:={g:=34,args:=[pm,.int .i64 (.var 3),.ptr (some (2,0)),.int .i64 (.var 2)],os:=[UL (b9 (.var 90)),dZ 2 (.var 0),JD],bds:=zn,res:= .tuple [.ptr (some (2,0))],os':=[UL (dgL FR aW 0),.ghost 2 [kvE FR 24] (mu 2),K6 FR 25]}
def zL:ba:={con:=Fl,key:=3,n:=53,sl:=[0,1,4,5],e:= .ret,sl':=[4]}
def Lq:Know:=⟨[th],[]⟩
def Rw:Out:=zL.tree PR Lq 20 aG no' 12 [] μR
theorem mX:(WU.all (Fe.gG FR (jQ FS)) []&&(Rw.all (Fl.gG FR (jQ FS)) []&&((jQ FS).rt.only (bR FR.vars) 106&&(Fe.wf&&Fl.wf))))=true:=by kernel_rfl
def JJ:RT:=(jQ FS).rt
theorem Vt:SE.cons.all Con.wf=true:=by kernel_rfl
theorem QN:Lq.cons.all Con.wf=true:=by kernel_rfl
def x0:IE:=uS [.var 0,.var 90,.lit 0,.var 3]
def dX(KR:Nat)(X:IE)(k:IntKind)(i:Nat):IE:= .wrap k (.fn 0 (.fn KR X (.lit 0) (.lit 0)) (.lit (.ofNat i)) (.lit 0))
def dXL(KR:Nat)(X:IE):List IntKind->Nat->List ab
 | [],_=>[]
 |k::l,j=> .int k (dX KR X k j)::dXL KR X l (j+1)
def vX(KV:Nat)(X:IE)(j:Nat):IE:= .fn KV X (.lit 0) (.lit (.ofNat j))
def Kz(F:Fns):ab:= .agg [.int .i64 (dX F.KR x0 .u8 25),.int .u32 (dX F.KR x0 .u32 26)]
def Ll:List (Nat×Int×Int):=[(3,-1000000,1000000)]
def oP:Con:={g:=172,args:=[pm,.int .i64 (.var 3)],os:=[dZ 1 (.var 0)],bds:=Ll,res:=Kz FR,os':=[.ghost 1 [vX 107 x0 24] (aX (dXL 106 x0 aW 0) 2)]}
def i9:Con:={g:=34,args:=[pm,.int .i64 (.var 3)],os:=[UL (b9 (.var 90)),dZ 2 (.var 0)],bds:=Ll,res:=Kz FR,os':=[UL (dXL 106 x0 aW 0),.ghost 2 [vX 107 x0 24] (mu 2)]}
def T6(c:Con)(l:ba):Bool:=fq c ⟨[],[l]⟩ 20 12 12
theorem DB:(T6 oP Ni&&(T6 i9 zL&&(oP.wf&&i9.wf)))=true:=by kernel_rfl
section
variable{G:Nat->Int->Int->Int->Int}(hB:cX G)(hD:FD.Def G kT)(hF:FF.Def G pa)(hS:FS.Def G BQ)(hR:FR.Def G JJ)
include hB hD hF hS hR
omit hB hD hF hS in
theorem IL:Fe.Leaves G gh WU:=Con.lj (c:=Fe) [] (fun _ _ _ _=>aw) (F:=FR) (by decide) (t:=jQ FS) (aa mX).1 hR
omit hB hD hF hS in
theorem EV:Fl.Leaves G gh Rw:=Con.lj (c:=Fl) [] (fun _ _ _ _=>aw) (F:=FR) (by decide) (t:=jQ FS) (aa (aa mX).2).1 hR
omit hR in
theorem Vv:SE.Ok PR G gh:=bB Vt (aJ (Qd hB hD hF hS) dj)
omit hR in
theorem O6:Lq.Ok PR G gh:=bB QN (aJ (Nu hB hD hF hS) dj)
theorem JX:Ni.con.wf=true/\Ni.Ok PR G gh:=by
 have h:=IL hR;unfold WU at h;have w:Ni.con.wf=true:=(aa (aa (aa (aa mX).2).2).2).1;exact ⟨w,ba.f6 (c:=Ni) mixed (K:=SE) (Vv hB hD hF hS) w rfl (L:=20) (pol:=aG) (pure:=no') (d:=12) (μ:=μR) (facts:=[]) (fun _ _ _ _=>aw) h⟩
theorem Ev:zL.con.wf=true/\zL.Ok PR G gh:=by
 have h:=EV hR;unfold Rw at h;have w:zL.con.wf=true:=(aa (aa (aa (aa mX).2).2).2).2;exact ⟨w,ba.f6 (c:=zL) mixed (K:=Lq) (O6 hB hD hF hS) w rfl (L:=20) (pol:=aG) (pure:=no') (d:=12) (μ:=μR) (facts:=[]) (fun _ _ _ _=>aw) h⟩
theorem SZ:oP.wf=true/\oP.Ok PR G gh:=by
 have h:=DB;simp only [Bool.and_eq_true] at h;exact ⟨h.2.2.1,bA (ia rfl dj (lpC (JX hB hD hF hS hR).1 (JX hB hD hF hS hR).2 lpN)) h.1⟩
theorem QX:i9.wf=true/\i9.Ok PR G gh:=by
 have h:=DB;simp only [Bool.and_eq_true] at h;exact ⟨h.2.2.2,bA (ia rfl dj (lpC (Ev hB hD hF hS hR).1 (Ev hB hD hF hS hR).2 lpN)) h.2.1⟩
end
def dgN(k:IntKind)(R:Int)(j:Nat):Int:=k.wrap (ag R (j:Nat))
def fN(S:Int):Int:=dgN .i64 S 22
def N3(S:Int):Int:=dgN .i64 S 23
def oN(G:Nat->Int->Int->Int->Int)(M S d w:Int):Env:={i:=fun v=>match v with |0=>M |90=>S |2=>d |3=>w |_=>0,b:=fun _=>false,g:=G}
def pk2(M S:Int):Int:=mI [M,S]
def pk4(M S d w:Int):Int:=mI [M,S,d,w]
def qm(S:Int):List IntKind->Nat->List Int
 | [],_=>[]
 |k::l,j=>dgN k S j::qm S l (j+1)
theorem Jv{ρ:Env}{x:IE}: ∀(l:List IntKind) (j:Nat),(WY x l j).map (·.ev ρ)=qm (x.ev ρ) l j
 | [],_=>rfl
 |k::l,j=>by
  show _::_=_::_;rw [Jv l (j+1)];rfl
theorem ER{S:Int}: ∀ {l:List IntKind} {j i:Nat} {k:IntKind},l[i]? =some k->(qm S l j)[i]? =some (dgN k S (j+i))
 | [],_,_,_,h=>by simp at h
 |k::l,j,0,_,h=>by cases h; rfl
 |k::l,j,i+1,k',h=>by
  have:=ER (S:=S) (l:=l) (j:=j+1) (i:=i) (by simpa using h)
  rw [show j+(i+1)=j+1+i by omega]
  exact this
theorem uH{S:Int}: ∀(l:List IntKind) (j:Nat),(qm S l j).length=l.length
 | [],_=>rfl
 |_::l,j=>by simp [qm,uH l (j+1)]
theorem NF{a b m q:Int}(h0:0<=m)(h1:m<=1000000)(h:0<=IntKind.i64.wrap (a-IntKind.i64.wrap (b+1))/\IntKind.i64.wrap (a-IntKind.i64.wrap (b+1))<=max 0 m)(hq:q=m+1):0<=IntKind.i64.wrap (a-b)/\IntKind.i64.wrap (a-b)<=max 0 q:=by
 have w: ∀n:Int,∃c:Int,IntKind.i64.wrap n=n+c*18446744073709551616/\ -9223372036854775808<=IntKind.i64.wrap n/\IntKind.i64.wrap n<=9223372036854775807:=fun n=>by
  have hm:=wrap_mem .i64 n;have h1:(-9223372036854775808:Int)<=IntKind.i64.wrap n:=hm.1;have h2:IntKind.i64.wrap n<=9223372036854775807:=hm.2;rw [dM] at h1 h2 ⊢;simp only [rq] at h1 h2 ⊢;split
  ·exact ⟨-(n / 18446744073709551616)-1,by omega,by omega,by omega⟩
  ·exact ⟨-(n / 18446744073709551616),by omega,by omega,by omega⟩
 obtain ⟨c1,a1,a2,a3⟩:=w (b+1);obtain ⟨c2,b1,b2,b3⟩:=w (a-IntKind.i64.wrap (b+1));obtain ⟨c3,d1,d2,d3⟩:=w (a-b);generalize IntKind.i64.wrap (a-IntKind.i64.wrap (b+1))=x at*;generalize IntKind.i64.wrap (b+1)=y at*;generalize IntKind.i64.wrap (a-b)=z at*;omega
section
variable{G:Nat->Int->Int->Int->Int}(hP:gg G){F R:Fns}(hFx:F.vars=[0,90])(hRx:R.vars=[0,90,2,3])(hk:7<F.KR/\7<F.KV)(hR:R.Def G (jQ F).rt)
include hP hFx hRx hk hR
theorem run_eq(M S d w:Int):match decide (0<N3 S)&& !decide (fN S<N3 S),decide (d<w),decide (dgN .u8 (G F.KR (pk2 M S) 0 0) 24=0) with
 |true,_,_=>R.is G (pk4 M S d w) (qm S aW 0++[M,8,0])
 |false,false,_=>R.is G (pk4 M S d w) (qm S aW 0++[M,1,0])
 |false,true,true=>R.alike G (pk4 M S d w) (pk4 (G F.KV (pk2 M S) 0 26) (G F.KR (pk2 M S) 0 0) (d+1) w)
 |false,true,false=>R.is G (pk4 M S d w) (qm S aW 0++[G F.KV (pk2 M S) 0 26,dgN .u8 (G F.KR (pk2 M S) 0 0) 24,dgN .u32 (G F.KR (pk2 M S) 0 0) 25]):=by
 have h:=hR (oN G M S d w) rfl
 have hx:R.x.ev (oN G M S d w)=pk4 M S d w:=by
  unfold Fns.x;rw [hRx,jl hP];rfl
 have hfx:F.x.ev (oN G M S d w)=pk2 M S:=by
  unfold Fns.x;rw [hFx,jl hP];rfl
 have e24:(dg F .u8 24).ev (oN G M S d w)=dgN .u8 (G F.KR (pk2 M S) 0 0) 24:=by
  show IntKind.u8.wrap (ag (fnI _ F.KR (F.x.ev _) 0 0) _)=_;rw [hfx,bY hk.1];rfl
 have e25:(dg F .u32 25).ev (oN G M S d w)=dgN .u32 (G F.KR (pk2 M S) 0 0) 25:=by
  show IntKind.u32.wrap (ag (fnI _ F.KR (F.x.ev _) 0 0) _)=_;rw [hfx,bY hk.1];rfl
 have e26:(kvE F 26).ev (oN G M S d w)=G F.KV (pk2 M S) 0 26:=by
  show fnI _ F.KV (F.x.ev _) 0 _=_;rw [hfx,bY hk.2];rfl
 have eR:(IE.fn F.KR F.x (.lit 0) (.lit 0)).ev (oN G M S d w)=G F.KR (pk2 M S) 0 0:=by
  show fnI _ F.KR (F.x.ev _) 0 0=_;rw [hfx,bY hk.1];rfl
 rw [hx] at h
 have done: ∀(a b c:IE),((HT.done (stE (.var 90)++[a,b,c])).rt.pick (oN G M S d w))= .done (qm S aW 0++[a.ev (oN G M S d w),b.ev (oN G M S d w),c.ev (oN G M S d w)]):=fun a b c=>by
  show RV.done _=_;rw [List.map_append];unfold stE;rw [Jv];rfl
 have body:(jQ.body F).rt.pick (oN G M S d w)=(match decide (d<w),decide (dgN .u8 (G F.KR (pk2 M S) 0 0) 24=0) with
  |false,_=> .done (qm S aW 0++[M,1,0])
  |true,true=> .again (pk4 (G F.KV (pk2 M S) 0 26) (G F.KR (pk2 M S) 0 0) (d+1) w)
  |true,false=> .done (qm S aW 0++[G F.KV (pk2 M S) 0 26,dgN .u8 (G F.KR (pk2 M S) 0 0) 24,dgN .u32 (G F.KR (pk2 M S) 0 0) 25])):=by
  show aS (decide (d<w)) (aS (decide ((dg F .u8 24).ev _=0)) _ ((HT.done _).rt.pick _)) ((HT.done _).rt.pick _)=_;rw [e24,done,done,e24,e25,e26];cases decide (d<w)
  ·rfl
  ·cases decide (dgN .u8 (G F.KR (pk2 M S) 0 0) 24=0)
   ·rfl
   ·show RV.again (fnI _ KP ((kvE F 26).ev _) (fnI _ KP ((IE.fn F.KR F.x (.lit 0) (.lit 0)).ev _) (fnI _ KP (d+1) (fnI _ KP w 0 0) 0) 0) 0)=_;rw [e26,eR]
    have kp: ∀x y:Int,fnI (oN G M S d w) KP x y 0=cG x y:=fun x y=>by
     rw [bY (by decide)]
     exact hP x y 0
    rw [kp,kp,kp,kp];rfl
 have all:(jQ F).rt.pick (oN G M S d w)=aS (decide (0<N3 S)) (aS (decide (fN S<N3 S)) ((jQ.body F).rt.pick (oN G M S d w)) (.done (qm S aW 0++[M,8,0]))) ((jQ.body F).rt.pick (oN G M S d w)):=by
  show aS _ (aS _ _ ((HT.done _).rt.pick _)) _=_;rw [done];rfl
 rw [all,body] at h;generalize decide (0<N3 S)=c1 at h ⊢;generalize decide (fN S<N3 S)=c2 at h ⊢;generalize decide (d<w)=c3 at h ⊢;generalize decide (dgN .u8 (G F.KR (pk2 M S) 0 0) 24=0)=c4 at h ⊢;cases c1<;>cases c2<;>cases c3<;>cases c4<;>exact h
theorem WA{X:Int}{l:List Int}(h:R.is G X l){k:IntKind}{j:Nat}{v:Int}(hv:l[j]? =some (k.wrap v)):dgN k (G R.KR X 0 0) j=k.wrap v:=by
 unfold dgN;have hm:=wrap_mem k v;rw [h.1,cP l j _ hv (ez hm.1 hm.2)];exact bI k _ hm.1 hm.2
theorem lW{M S d w:Int}{l:List Int}(h:R.is G (pk4 M S d w) (qm S aW 0++l)):fN (G R.KR (pk4 M S d w) 0 0)=fN S:=by
 refine WA hP hFx hRx hk hR h (k:= .i64) (j:=22) (v:=ag S 22) ?_;have hk:aW[22]? =some .i64:=rfl;have:=ER (S:=S) (j:=0) hk;rw [List.getElem?_append_left (by rw [uH]; decide),this]
 rfl
theorem NB(hs: ∀M S,dgN .u8 (G F.KR (pk2 M S) 0 0) 24=0->fN (G F.KR (pk2 M S) 0 0)=IntKind.i64.wrap (fN S+1)): ∀(n:Nat) (M S d w:Int),0<=d->w<=1000000->w-d<=n->
 0<=IntKind.i64.wrap (fN (G R.KR (pk4 M S d w) 0 0)-fN S)/\IntKind.i64.wrap (fN (G R.KR (pk4 M S d w) 0 0)-fN S)<=max 0 (w-d):=by
 have z: ∀x:Int,IntKind.i64.wrap (x-x)=0:=fun x=>by rw [Int.sub_self]; rfl
 intro n
 induction n with
 |zero=>
  intro M S d w h0 hw hn;have h:=run_eq hP hFx hRx hk hR M S d w;rw [decide_eq_false (show ¬d<w by omega)] at h
  have e:fN (G R.KR (pk4 M S d w) 0 0)=fN S:=by
   split at h
   ·exact lW hP hFx hRx hk hR h
   ·exact lW hP hFx hRx hk hR h
   ·rename_i hc _; cases hc
   ·rename_i hc _; cases hc
  rw [e,z];omega
 |succ n ih=>
  intro M S d w h0 hw hn;have h:=run_eq hP hFx hRx hk hR M S d w
  have fin: ∀ {l:List Int},R.is G (pk4 M S d w) (qm S aW 0++l)->0<=IntKind.i64.wrap (fN (G R.KR (pk4 M S d w) 0 0)-fN S)/\IntKind.i64.wrap (fN (G R.KR (pk4 M S d w) 0 0)-fN S)<=max 0 (w-d):=fun h=>by
   rw [lW hP hFx hRx hk hR h,z];omega
  split at h
  ·exact fin h
  ·exact fin h
  ·rename_i _ hc h24;have hc:=of_decide_eq_true hc;have h24:=of_decide_eq_true h24;have hi:=ih (G F.KV (pk2 M S) 0 26) (G F.KR (pk2 M S) 0 0) (d+1) w (by omega) hw (by omega)
   rw [hs M S h24] at hi;have e:fN (G R.KR (pk4 M S d w) 0 0)=fN (G R.KR (pk4 (G F.KV (pk2 M S) 0 26) (G F.KR (pk2 M S) 0 0) (d+1) w) 0 0):=by rw [h.1]
   rw [e];generalize fN (G R.KR (pk4 (G F.KV (pk2 M S) 0 26) (G F.KR (pk2 M S) 0 0) (d+1) w) 0 0)=a at hi ⊢;generalize fN S=b at hi ⊢;exact NF (m:=w-(d+1)) (by omega) (by omega) hi (by omega)
  ·exact fin h
end
def Mg(L:List IE)(j:Nat):IE:=match Nat.blt j 1000 with
 |true=>atL L j
 |false=> .var (j-1000)
def Zv:IE:= .wrap .i64 (.add (pH (.var 1090)) (.lit 1))
def stepT:BE:= .eq (.sel false (.var 24) (.lit 0) (.var 22) Zv) Zv
def wk:IE->Bool
 | .var i=>Nat.beq i 0
 | .fn c x _ _=>(Nat.beq c 30||Nat.beq c 33)&&wk x
 | .sel _ _ _ x y=>wk x&&wk y
 |_=>false
def dy(c:Con)(F:Fns)(dec:Dec)(_:aM)(s:ASt):Bool:=
 match c.ef s with
 |some q=>E6 q (stepL F)&&(wk (Mg (q.map (·.2)) 26)&&(match Dh (bdL c.bds) 30 dec (stepT.rep (Mg (q.map (·.2)))) with
  |some v=>v
  |none=>false))
 |none=>false
where stepL (F:Fns):List IE:=go F aW 0++[dg F .u8 24,dg F .u32 25,kvE F 26]
      go (F:Fns):List IntKind->Nat->List IE
 | [],_=>[]
 |k::l,j=>dg F k j::go F l (j+1)
theorem Dq{q:Prs}{L:List IE}(h:E6 q L=true){ρ:Env}(hq:q.hold ρ){j:Nat}(hj:j<L.length)(h1:j<1000):(Mg (q.map (·.2)) j).ev ρ=(Mg L j).ev ρ:=by
 have hb:Nat.blt j 1000=true:=by rw [Nat.blt_eq]; exact h1
 unfold Mg;rw [hb];show (atL (q.map (·.2)) j).ev ρ=(atL L j).ev ρ;rw [<- yp h hq j hj];unfold atL prR;rw [List.getElem?_map];cases q[j]? <;>rfl
theorem P3{ρ:Env}(σ:Nat->IE):(stepT.rep σ).ev ρ=decide (aA false ((σ 24).ev ρ) 0 ((σ 22).ev ρ) (IntKind.i64.wrap (IntKind.i64.wrap (fnI ρ 0 ((σ 1090).ev ρ) 22 0)+1))=IntKind.i64.wrap (IntKind.i64.wrap (fnI ρ 0 ((σ 1090).ev ρ) 22 0)+1)):=rfl
theorem Ab{c:Con}{F:Fns}{e:IE}{f:Int->Out}{l:List Int}(hk:7<F.KR/\7<F.KV)(hd:aj e f (fun _=>c.ao F) [] l=true)(hs:aj e f (fun _=>dy c F) [] l=true){ρ:Env}(h2:ρ.ok (bdL c.bds))(hm:e.ev ρ∈l)(hF:F.Def ρ.g (c.rows F (cg e f l)))
 (h24:(dg F .u8 24).ev ρ=0):(dg F .i64 22).ev ρ=IntKind.i64.wrap (IntKind.i64.wrap (ag (ρ.i 90) 22)+1):=by
 obtain ⟨e1,s1,dec1,hd1,a1,a2⟩:=bW hd hm (ρ:=ρ) aw;obtain ⟨e2,s2,dec2,hd2,b1,b2⟩:=bW hs hm (ρ:=ρ) aw;rw [a1] at b1;cases b1;obtain ⟨q,c1,c2⟩:=Con.kr (c:=c) (F:=F) (ρ:=ρ) (o:=cg e f l) (dec':=dec1) hk h2 hF a1 a2;unfold dy at b2;rw [c1] at b2;obtain ⟨d1,d2⟩:=Bool.and_eq_true_iff.1 b2;obtain ⟨_,d2⟩:=Bool.and_eq_true_iff.1 d2;have e24:=Dq (j:=24) d1 c2 (show 24<27 by decide) (by decide)
 have e22:=Dq (j:=22) d1 c2 (show 22<27 by decide) (by decide)
 split at d2
 ·rename_i v hv;subst d2;have:=AI h2 30 dec2 _ _ hd2 hv;rw [P3,e24,e22] at this;have this:=of_decide_eq_true this;have f24:(Mg (dy.stepL F) 24).ev ρ=0:=h24;rw [f24] at this;exact this
 ·cases d2
theorem G6(d j v:Int):aD d j v=aD d (j.toNat:Nat) v:=by
 unfold aD;rw [Int.toNat_natCast]
structure bS (a b X:Int):Prop where
 pos:0<=X
 n:ag X (3:Nat)=a
 c:ag X (7:Nat)=b
theorem bS.set{a b X v:Int}{i:Nat}(h:bS a b X)(h3:i≠3)(h7:i≠7):bS a b (aD X (i:Nat) v):=
 ⟨lH _ _ _,by rw [aI _ _ (Ne.symm h3)]; exact h.n,by rw [aI _ _ (Ne.symm h7)]; exact h.c⟩
theorem bS.fP{a b X:Int}{p:Nat}{g:Nat->Int}(h:bS a b X): ∀n,bS a b (fP X (ixC p) g n)
 |0=>h
 |n+1=>bS.set (bS.fP h n) (by unfold ixC; omega) (by unfold ixC; omega)
theorem M5{G:Nat->Int->Int->Int->Int}(hB:cX G){ρ:Env}(h1:ρ.std G gh){p q:Int}(h0:bS p q (ρ.i 0)): ∀e:IE,wk e=true->bS p q (e.ev ρ):=by
 intro e
 induction e with
 |var i=>intro h; rw [Nat.eq_of_beq_eq_true h]; exact h0
 |fn c x y z ihx _ _=>
  intro h;obtain ⟨hc,hx⟩:=aa h;have ih:=ihx hx
  rcases Bool.or_eq_true_iff.1 hc with hc |hc
  ·have hc:=Nat.eq_of_beq_eq_true hc;subst hc;show bS p q (fnI ρ 30 (x.ev ρ) (y.ev ρ) (z.ev ρ));rw [cj hB h1 (by decide) (by decide)]
   show bS p q (stS (x.ev ρ) (y.ev ρ) (z.ev ρ));unfold stS;split
   ·rw [G6]; exact ih.set (by omega) (by omega)
   ·exact ih
  ·have hc:=Nat.eq_of_beq_eq_true hc;subst hc;show bS p q (fnI ρ 33 (x.ev ρ) (y.ev ρ) (z.ev ρ));rw [cj hB h1 (by decide) (by decide)]
   show bS p q (syS (x.ev ρ) (y.ev ρ));unfold syS;split
   ·exact ih.fP _
   ·exact ih
 |sel s a b x y _ _ ihx ihy=>
  intro h;obtain ⟨h1,h2⟩:=aa h;show bS p q (aA s _ _ (x.ev ρ) (y.ev ρ));unfold aA;split<;>split<;>first |exact ihx h1 |exact ihy h2
 |_=>intro h; cases h
theorem AB{c:Con}{F:Fns}{e:IE}{f:Int->Out}{l:List Int}(hk:7<F.KR/\7<F.KV)(hd:aj e f (fun _=>c.ao F) [] l=true)(hs:aj e f (fun _=>dy c F) [] l=true){G:Nat->Int->Int->Int->Int}(hB:cX G){ρ:Env}(h1:ρ.std G gh)(h2:ρ.ok (bdL c.bds))(hm:e.ev ρ∈l)(hF:F.Def ρ.g (c.rows F (cg e f l)))
 {p q:Int} (h0:bS p q (ρ.i 0)):bS p q ((kvE F 26).ev ρ):=by
 obtain ⟨e1,s1,dec1,hd1,a1,a2⟩:=bW hd hm (ρ:=ρ) aw;obtain ⟨e2,s2,dec2,hd2,b1,b2⟩:=bW hs hm (ρ:=ρ) aw;rw [a1] at b1;cases b1;obtain ⟨q,c1,c2⟩:=Con.kr (c:=c) (F:=F) (ρ:=ρ) (o:=cg e f l) (dec':=dec1) hk h2 hF a1 a2;unfold dy at b2;rw [c1] at b2;obtain ⟨d1,d2⟩:=Bool.and_eq_true_iff.1 b2;obtain ⟨d3,_⟩:=Bool.and_eq_true_iff.1 d2;have e26:=Dq (j:=26) d1 c2 (show 26<27 by decide) (by decide)
 have:=M5 hB h1 h0 _ d3;rw [e26] at this;exact this
def qq(G:Nat->Int->Int->Int->Int)(M S:Int):Env:={i:=fun v=>match v with |0=>M |90=>S |_=>0,b:=fun _=>false,g:=G,gh:=gh}
theorem Ei{G:Nat->Int->Int->Int->Int}(hP:gg G){F:Fns}(hk:7<F.KR/\7<F.KV)(hF:F.vars=[0,90])(h: ∀ρ:Env,ρ.std G gh->(dg F .u8 24).ev ρ=0->(dg F .i64 22).ev ρ=IntKind.i64.wrap (IntKind.i64.wrap (ag (ρ.i 90) 22)+1))(M S:Int)(h24:dgN .u8 (G F.KR (pk2 M S) 0 0) 24=0):fN (G F.KR (pk2 M S) 0 0)=IntKind.i64.wrap (fN S+1):=by
 have hx:F.x.ev (qq G M S)=pk2 M S:=by
  unfold Fns.x;rw [hF,jl hP];rfl
 have e: ∀(k:IntKind) (j:Nat),(dg F k j).ev (qq G M S)=dgN k (G F.KR (pk2 M S) 0 0) j:=fun k j=>by
  show k.wrap (ag (fnI _ F.KR (F.x.ev _) 0 0) _)=_;rw [hx,bY hk.1];rfl
 have:=h (qq G M S) ⟨rfl,rfl⟩ (by rw [e]; exact h24)
 rw [e] at this;exact this
theorem Eu{G:Nat->Int->Int->Int->Int}(hP:gg G){F:Fns}(hk:7<F.KR/\7<F.KV)(hF:F.vars=[0,90]){p q:Int}(h: ∀ρ:Env,ρ.std G gh->bS p q (ρ.i 0)->bS p q ((kvE F 26).ev ρ))(M S:Int)(h0:bS p q M):bS p q (G F.KV (pk2 M S) 0 26):=by
 have hx:F.x.ev (qq G M S)=pk2 M S:=by
  unfold Fns.x;rw [hF,jl hP];rfl
 have:=h (qq G M S) ⟨rfl,rfl⟩ h0
 have e:(kvE F 26).ev (qq G M S)=G F.KV (pk2 M S) 0 26:=by
  show fnI _ F.KV (F.x.ev _) 0 _=_;rw [hx,bY hk.2];rfl
 rw [e] at this;exact this
theorem Rn{G:Nat->Int->Int->Int->Int}(hP:gg G){F R:Fns}(hFx:F.vars=[0,90])(hRx:R.vars=[0,90,2,3])(hk:7<F.KR/\7<F.KV)(hR:R.Def G (jQ F).rt){Q:Int->Prop}(hs: ∀M S,Q M->Q (G F.KV (pk2 M S) 0 26)): ∀(n:Nat) (M S d w:Int),w-d<=n->Q M->Q (G R.KV (pk4 M S d w) 0 24):=by
 have fin: ∀ {M S d w m a b:Int},R.is G (pk4 M S d w) (qm S aW 0++[m,a,b])->G R.KV (pk4 M S d w) 0 24=m:=fun h=>by
  rw [h.2];rfl
 intro n
 induction n with
 |zero=>
  intro M S d w hn hQ;have h:=run_eq hP hFx hRx hk hR M S d w;rw [decide_eq_false (show ¬d<w by omega)] at h
  split at h
  ·rw [fin h]; exact hQ
  ·rw [fin h]; exact hQ
  ·rename_i hc _; cases hc
  ·rename_i hc _; cases hc
 |succ n ih=>
  intro M S d w hn hQ;have h:=run_eq hP hFx hRx hk hR M S d w;split at h
  ·rw [fin h]; exact hQ
  ·rw [fin h]; exact hQ
  ·rename_i _ hc _;have hc:=of_decide_eq_true hc;rw [h.2];exact ih _ _ _ _ (by omega) (hs _ _ hQ)
  ·rw [fin h]; exact hs _ _ hQ
end
end Go.Proofs.YtbhlmedfhilkbaaGreat
