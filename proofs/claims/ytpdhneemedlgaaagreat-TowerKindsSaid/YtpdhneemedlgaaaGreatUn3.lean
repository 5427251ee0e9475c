/- Part Un3. No condition. -/
import Derived.Test.YtpdhneemedlgaaaGreatUn1
import Derived.Maps.AppendAt
set_option linter.all false
namespace Go.Proofs.YtpdhneemedlgaaaGreat.te
open Go Go.RowKit Go.Shelf
attribute [local go_sem] Oper.semAt_some
set_option maxRecDepth 100000
set_option maxHeartbeats 4000000
structure fO (W:World) (n₀ T o:Nat) (lv:Nat->Addr) (len:Nat) (pl:Value):Prop where
 lt:T<n₀
 top: ∃a cap,W.cell? ⟨T,o,none⟩=some (.slice a len cap)/\(0<len-> ∃b off,a=some ⟨b,off,none⟩/\b<n₀/\ ∀j,j<len->W.cell? ⟨b,off+j*2,none⟩=some (.pointer (some (lv j)))/\ ∃c,W.cell? ⟨b,off+j*2+1,none⟩=some (.int .i64 c))
 pl:W.cell? ⟨T,o+1,none⟩=some pl
theorem fO.below{A B:World}{n₀ T o:Nat}{lv:Nat->Addr}{len:Nat}{pl:Value}(h:fO A n₀ T o lv len pl)(k:Below n₀ A B):fO B n₀ T o lv len pl:=by
 obtain ⟨h1,⟨a,cap,h2,h3⟩,h4⟩:=h;refine ⟨h1,⟨a,cap,(k.cell (p:=⟨T,o,none⟩) h1).trans h2,fun hl=> ?_⟩,(k.cell (p:=⟨T,o+1,none⟩) h1).trans h4⟩
 obtain ⟨b,off,rfl,hb,hc⟩:=h3 hl;exact ⟨b,off,rfl,hb,fun j hj=>⟨(k.cell (p:=⟨b,off+j*2,none⟩) hb).trans (hc j hj).1,by obtain ⟨c,hx⟩:=(hc j hj).2; exact ⟨c,(k.cell (p:=⟨b,off+j*2+1,none⟩) hb).trans hx⟩⟩⟩
abbrev Mac:=TypeId×Option Addr
def mV(x:Mac):Value:= .iface x.1 (.pointer x.2)
def bK(lv:Nat->Addr)(len:Nat)(pl:Mac):List Mac:=(List.range len).map (fun j=>(44,some (lv j)))++[pl]
theorem dm(lv:Nat->Addr)(len:Nat)(pl:Mac):(bK lv len pl).length=len+1:=by simp [bK]
theorem vN{lv:Nat->Addr}{len:Nat}{pl:Mac}{k:Nat}(h:k<len):(bK lv len pl)[k]? =some (44,some (lv k)):=by
 unfold bK;rw [List.getElem?_append_left (by simp; omega)]
 simp [h]
theorem pj(lv:Nat->Addr)(len:Nat)(pl:Mac):(bK lv len pl)[len]? =some pl:=by
 unfold bK;rw [List.getElem?_append_right (by simp)]
 simp
theorem yo{α:Type}{l:List α}{k:Nat}{x:α}(h:l[k]? =some x):l.take (k+1)=l.take k++[x]:=by
 obtain ⟨hk,hx⟩:=List.getElem?_eq_some_iff.1 h;rw [List.take_succ_eq_append_getElem hk,hx]
theorem iP{α:Type}(v:α->Mac)(xs:List α)(F:Fence)(n:Nat)(h6:F.fn 36)(hro:F.round=none)(hn:1<=n)(Bx n₀ T o:Nat)(lv:Nat->Addr)(len:Nat)(pl:Mac)(hxs:xs.map v=bK lv len pl)(hreach:len*16<=140737488351232)(w:World)(hBx:Bx<w.heap.size)(hn₀:n₀<=w.heap.size)(hc:w.cell? ⟨Bx,0,none⟩=some (.pointer (some ⟨T,o,none⟩)))(hT:fO w n₀ T o lv len (mV pl)):
 SeqStopsK F n Tryz.prog 36 #[.pointer (some ⟨Bx,0,none⟩)] (fun x:α=> #[mV (v x)]) (KpB n₀ Bx) (fun ys=>ys=xs) (fun pre=> ∃k,0<k/\k<=len+1/\pre=xs.take k) (len+1) w:=fun l J Jx W hW hJ _ hY h0=>by
 have hc':=(hW.cell (p:=⟨Bx,0,none⟩) hBx).trans hc;obtain ⟨t1,⟨a,cap,t2,t3⟩,t4⟩:=hT.below (hW.mono hn₀)
 have hl:xs.length=len+1:=by
  have:=congrArg List.length hxs;rw [List.length_map,dm] at this;exact this
 have hall:xs.take (len+1)=xs:=List.take_of_length_le (by omega)
 have hlen: ∀k,k<=len+1->(xs.take k).length=k:=fun k hk=>by rw [List.length_take]; omega
 have hat: ∀(k:Nat) (m:Mac),(bK lv len pl)[k]? =some m-> ∃x,xs[k]? =some x/\v x=m:=fun k m hm=>by
  rw [<- hxs,List.getElem?_map] at hm;cases hx:xs[k]? with
  |none=>rw [hx] at hm; cases hm
  |some x=>rw [hx] at hm; exact ⟨x,rfl,by simpa using hm⟩
 have step: ∀(k:Nat) (m:Mac) (W1:World),k<=len->(bK lv len pl)[k]? =some m->J (xs.take k) W1->YieldAt F (n-1) Tryz.prog l #[mV m] W1 fun e W'=>(e= .returned (.bool true)/\J (xs.take (k+1)) W'/\KpB n₀ Bx W1 W')\/(e= .returned (.bool false)/\Jx (xs.take (k+1)) W'):=fun k m W1 hk hm hj=>by
  obtain ⟨x,hx,rfl⟩:=hat k m hm;have:=hY _ x W1 hj (by rw [hlen k (by omega)]; omega)
  rw [yo hx];exact this
 have hZ:=fun W1 (hj:J (xs.take len) W1)=>step len pl W1 (Nat.le_refl _) (pj lv len pl) hj
 rcases Nat.eq_zero_or_pos len with h |hpos
 ·subst h;refine (xz F n h6 hro hn l Bx n₀ T o cap a (mV pl) (fun k=>J (xs.take k)) (fun k=>Jx (xs.take k)) (fun W1 hj=>hZ W1 hj) W hc' t2 t4 h0).mono ?_
  rintro e W' ⟨he,hj |hj⟩
  ·exact ⟨he,.inl ⟨_,hall,hj⟩⟩
  ·exact ⟨he,.inr ⟨_,⟨1,by omega,by omega,rfl⟩,hj⟩⟩
 ·obtain ⟨b,off,rfl,hb,hcs⟩:=t3 hpos
  refine (yp F n h6 hro hn l Bx n₀ T o b off len cap lv (fun j=>if h:j<len then Classical.choose (hcs j h).2 else 0) (mV pl) t1 hpos hb hreach (fun k=>J (xs.take k)) (fun k=>Jx (xs.take k))
   (fun k A B hj hg=>hJ _ A B none hj hg (fun r e=>by cases e)) (fun k W1 hj hk=>step k _ W1 (by omega) (vN hk) hj) hZ W (Nat.le_trans hn₀ hW.size) hc' t2 t4 (fun j hj=>(hcs j hj).1) (fun j hj=>by rw [dif_pos hj]; exact Classical.choose_spec (hcs j hj).2) h0).mono ?_
  ·rintro e W' ⟨he,hj | ⟨k,h1,h2,hj⟩⟩
   ·exact ⟨he,.inl ⟨_,hall,hj⟩⟩
   ·exact ⟨he,.inr ⟨_,⟨k,h1,h2,rfl⟩,hj⟩⟩
theorem si(F:Fence)(n:Nat)(h6:F.fn 36)(hro:F.round=none)(hn:1<=n)(Bx n₀ T o:Nat)(lv:Nat->Addr)(len:Nat)(pl:Mac)(hreach:len*16<=140737488351232)(w:World)(hBx:Bx<w.heap.size)(hn₀:n₀<=w.heap.size)(hc:w.cell? ⟨Bx,0,none⟩=some (.pointer (some ⟨T,o,none⟩)))(hT:fO w n₀ T o lv len (mV pl)):
 SeqStopsK F n Tryz.prog 36 #[.pointer (some ⟨Bx,0,none⟩)] (fun x:Mac=> #[mV x]) (KpB n₀ Bx) (fun ys=>ys=bK lv len pl) (fun pre=> ∃k,0<k/\k<=len+1/\pre=(bK lv len pl).take k) (len+1) w:=
 iP (fun x=>x) (bK lv len pl) F n h6 hro hn Bx n₀ T o lv len pl (List.map_id' _) hreach w hBx hn₀ hc hT
theorem gO(F:Fence)(n:Nat)(h3:F.fn 7)(h5:F.fn 19)(h6:F.fn 36)(hro:F.round=none)(hn:3<=n)(T o:Nat)(lv:Nat->Addr)(len:Nat)(pl:Mac)(hreach:len*16<=140737488351232)(w:World)(hT:fO w w.heap.size T o lv len (mV pl)):
 CallsIn F n Tryz.prog 7 #[.pointer (some ⟨T,o,none⟩)] w fun e W'=>e= .returned (mV ((bK lv len pl).headD (0,none)))/\Below w.heap.size w W':=by
 have h1:1<=n:=by omega
 refine callsIn_of_wp_marks Tryz.func7 rfl h3 ?_ hro;simp only [Tryz.ntmps7,List.size_toArray,List.length_cons,List.length_nil,Nat.reduceAdd,Nat.reduceSub,Array.replicate_succ,Array.replicate_zero,List.push_toArray,List.append_toArray,List.nil_append,List.cons_append]
 gi_wp2_with (gi_at_call 19; refine (Po F (n-1) h5 hro _ _).mono ?_; rintro e w' ⟨rfl,rfl⟩)
 have hs:=im w .nilIface 29;have hb:=im (w.alloc (.cells #[.nilIface] 29)) (.pointer (some ⟨T,o,none⟩)) 24;rw [World.size_alloc] at hb;have hB0:Below w.heap.size w ((w.alloc (.cells #[.nilIface] 29)).alloc (.cells #[.pointer (some ⟨T,o,none⟩)] 24)):=((Below.refl _ w).alloc (Nat.le_refl _) _).alloc (by simp) _
 refine wpIn_rangeFunc_ownF hro h1 (gf:=36) (lb:= #[.pointer (some ⟨w.heap.size+1,0,none⟩)]) rfl h6 (enters_of Tryz.func36 (by kernel_rfl) rfl)
  (si F (n-1) h6 hro (by omega) (w.heap.size+1) w.heap.size T o lv len pl hreach _ (by simp) (by simp; omega) hb.1 (hT.below hB0)) KpB.t (KpB.b (by simp; omega)) (Below.refl _ _) (fun _=>rfl)
  (fun pre W=>(pre=[]/\W.cell? ⟨w.heap.size,0,none⟩=some .nilIface/\W.frozen? ⟨w.heap.size,0,none⟩=false)/\Below w.heap.size w W)
  (fun c pre W=>(∃ x,c= .ret/\pre=[x]/\W.cell? ⟨w.heap.size,0,none⟩=some (mV x))/\Below w.heap.size w W)
  (OwnFrom.and (Own.from (fun s A B row hs hg hr=>⟨hs.1,cell_kept hs.2.1 hg hr,(frozen_kept hs.2.1 hg hr).trans hs.2.2⟩) _) (ownFrom_below (Nat.le_refl _) (by simp; omega)))
  (fun c=>OwnFrom.and (Own.from (fun s A B row hs hg hr=>by obtain ⟨x,e1,e2,e3⟩:=hs; exact ⟨x,e1,e2,cell_kept e3 hg hr⟩) _) (ownFrom_below (Nat.le_refl _) (by simp; omega)))
  ⟨⟨rfl,gk _ hs.1,gP _ hs.1 hs.2⟩,hB0⟩
  (fun x=>{tmps:= #[.pointer (some ⟨T,o,none⟩),undef,.pointer (some ⟨w.heap.size,0,none⟩),mV x,.pointer (some ⟨T,o,none⟩),.func (.func 36) #[] #[.pointer (some ⟨w.heap.size+1,0,none⟩)],mV x,undef],defers:=[]}) ?assign ?body ?done ?stop
 case assign=>
  intro l x W K hK
  gi_wp2
  exact hK
 case body=>
  rintro l pre ⟨xt,xa⟩ W ⟨⟨rfl,hc,hf⟩,hB⟩ _
  simp only [mV]
  gi_wp2
  exact ⟨KeepsOthers.setCell _ _ _,⟨(xt,xa),rfl,rfl,World.cell?_setCell_same' _ _ _ (by rw [hc]; rfl)⟩,hB.setCell (p:=⟨w.heap.size,0,none⟩) (Nat.le_refl _) _⟩
 case done=>
  rintro D ys W hD rfl ⟨⟨he,_⟩,_⟩ _
  exact absurd (congrArg List.length he) (by rw [dm]; simp)
 case stop=>
  rintro D c pre W hD hpre ⟨⟨x,rfl,rfl,hcr⟩,hB⟩ hK
  gi_wp2
  refine ⟨by simp,.inl ⟨_,_,rfl,run_takeDeferred hK,?_⟩⟩
  have hc5:=cell_kept hcr (grownBy_putObj' _ D (.deferred none)) (fun r e=>by cases e; exact ⟨_,hK,rfl⟩)
  obtain ⟨k,k1,k2,hk⟩:=hpre
  have hx:(bK lv len pl).headD (0,none)=x:=by
   have:=congrArg (fun l=>l.headD (0,none)) hk
   simp only [List.headD_cons] at this;rw [this];cases he:bK lv len pl with
   |nil=>have:=dm lv len pl; rw [he] at this; cases this
   |cons y l=>
    cases k with
    |zero=>omega
    |succ k=>rfl
  rw [hx];refine ⟨mV x,?_,rfl,hB.trans (belowK_b (w:=w) (Nat.le_refl _) W D _ _ (by simp at hD; omega) hK rfl rfl)⟩
  simp [results,Tryz.f7,go_sem,hc5]
end Go.Proofs.YtpdhneemedlgaaaGreat.te
namespace Go.Proofs.YtpdhneemedlgaaaGreat.te
open Go Go.RowKit Go.Shelf
attribute [local go_sem] Oper.semAt_some
set_option maxRecDepth 100000
set_option maxHeartbeats 4000000
theorem yh(F:Fence)(n:Nat)(h5:F.fn 37)(hro:F.round=none)(L p:Nat)(t:TypeId)(v:Value)(w:World)(h2:w.cell? ⟨L,p+2,none⟩=some (.iface t v)):
 CallsIn F n Tryz.prog 37 #[.pointer (some ⟨L,p,none⟩)] w fun e w'=>e= .returned (.bool false)/\w'=w:=by
 refine callsIn_of_wp Tryz.func37 rfl h5 ?_ hro;simp only [Tryz.ntmps37,List.size_toArray,List.length_cons,List.length_nil,Nat.reduceAdd,Nat.reduceSub,Array.replicate_succ,Array.replicate_zero,List.push_toArray,List.append_toArray,List.nil_append,List.cons_append]
 gi_wp2
 go_ret
 exact ⟨rfl,rfl⟩
theorem wU(F:Fence)(n:Nat)(h4:F.fn 20)(h5:F.fn 37)(hro:F.round=none)(hn:1<=n)(L p:Nat)(k:Int)(t:TypeId)(v:Value)(w:World)(h0:w.cell? ⟨L,p,none⟩=some (.int .i64 k))(h2:w.cell? ⟨L,p+2,none⟩=some (.iface t v)):
 CallsIn F n Tryz.prog 20 #[.pointer (some ⟨L,p,none⟩)] w fun e w'=>e= .returned (.int .i64 k)/\w'=w:=by
 refine callsIn_of_wp Tryz.func20 rfl h4 ?_ hro;simp only [Tryz.ntmps20,List.size_toArray,List.length_cons,List.length_nil,Nat.reduceAdd,Nat.reduceSub,Array.replicate_succ,Array.replicate_zero,List.push_toArray,List.append_toArray,List.nil_append,List.cons_append]
 gi_wp2_with (gi_at_call 37; refine (yh F (n-1) h5 hro L p t v _ h2).mono ?_; rintro e w' ⟨rfl,rfl⟩)
 go_ret
 exact ⟨rfl,rfl⟩
theorem xh(F:Fence)(n:Nat)(h4:F.fn 466)(hro:F.round=none)(p:Value)(w:World):
 CallsIn F n Tryz.prog 466 #[p] w fun e w'=>e= .returned (.int .i64 1)/\w'=w:=by
 refine callsIn_of_wp Tryz.func466 rfl h4 ?_ hro;simp only [Tryz.ntmps466,List.size_toArray,List.length_cons,List.length_nil,Nat.reduceAdd,Nat.reduceSub,Array.replicate_succ,Array.replicate_zero,List.push_toArray,List.append_toArray,List.nil_append,List.cons_append]
 gi_wp2
 go_ret
 exact ⟨rfl,rfl⟩
theorem xn(F:Fence)(n:Nat)(h4:F.fn 489)(hro:F.round=none)(p:Value)(w:World):
 CallsIn F n Tryz.prog 489 #[p] w fun e w'=>e= .returned (.int .i64 2)/\w'=w:=by
 refine callsIn_of_wp Tryz.func489 rfl h4 ?_ hro;simp only [Tryz.ntmps489,List.size_toArray,List.length_cons,List.length_nil,Nat.reduceAdd,Nat.reduceSub,Array.replicate_succ,Array.replicate_zero,List.push_toArray,List.append_toArray,List.nil_append,List.cons_append]
 gi_wp2
 go_ret
 exact ⟨rfl,rfl⟩
def mi(P:Program)(t:TypeId)(name:String):Option FuncId:=
 match P.info? t with
 |some i=>
  match i.methods.find? (·.name==name),P.underlying t with
  |some m,some (.pointer _)=>
   match m.path.toList,m.func with
   | [],some (f,true)=>some f
   |_,_=>none
  |_,_=>none
 |none=>none
theorem jM{P:Program}{t:TypeId}{name:String}{f:FuncId}(h:mi P t name=some f)(v:Value)(W:World)(n:Nat):(method (n+1) t v name).run P W= .ok (f,v) W:=by
 unfold mi at h;split at h
 ·rename_i i hi;split at h
  ·rename_i m u hm hu;split at h
   ·rename_i hp hf;cases h;simp only [method,typeInfo,Sem.run_bind,run_program,Result.andThen_ok,hi,Sem.run_pure,hm,hp,follow,hf,receiverAt,run_underlying hu,Place.get]
   ·cases h
  ·cases h
 ·cases h
theorem Dn:mi Tryz.prog 60 "Kind" =some 466:=by kernel_rfl
theorem Dk:mi Tryz.prog 72 "Kind" =some 489:=by kernel_rfl
theorem CK:mi Tryz.prog 44 "Kind" =some 20:=by kernel_rfl
def gL(w:World)(n₀:Nat)(m:Mac)(k:Int):Prop:=
 (m.1=60/\k=1)\/(m.1=72/\k=2)\/(m.1=44/\ ∃L p,m.2=some ⟨L,p,none⟩/\L<n₀/\w.cell? ⟨L,p,none⟩=some (.int .i64 k)/\ ∃t v,w.cell? ⟨L,p+2,none⟩=some (.iface t v))
abbrev yD(w:World)(n₀:Nat):={x:Mac×Int // gL w n₀ x.1 x.2}
def bg{w:World}{n₀:Nat}(l:List (yD w n₀)):List Value:=l.map fun x=> .int .i64 x.1.2
theorem CE:(Tryz.prog.info? 3).map (fun i=>(i.zero,i.size,i.bytes))=some (some (.int .i64 0),1,8):=by kernel_rfl
theorem BS:Tryz.prog.underlying 34=some (.slice 3):=by kernel_rfl
theorem dw{F:Fence}{n:Nat}{P:Program}{o:Oper}{a:Act}{K:Act->World->Prop}{Q:Exit->Act->World->Prop}{w:World}{y:Nat->Option Bool}{Z:Prop}(hg:o.guard=none)(s x:Operand)(t:TypeId)(hop:o.op=Op.call {callee:=Callee.builtin Builtin.append,args:= #[s,x],argTypes:= #[t,t]}){v u v':Value}{w':World}(hs:a.eval s=v)(hx:a.eval x=u)
 (hrun:(Builtin.append_ #[t,t] o.type #[v,u]).run P w= .ok v' w') (hK:K (a.put o.dst v') w'):if Region.wanted o y=true then Oper.wpIn F n P o a w K Q else Z:=by
 rw [if_pos (by simp [Region.wanted,hg])]
 unfold Oper.wpIn;refine ⟨?_,?_⟩
 ·simp [Oper.about,hop,resolve,Target.leads,Sem.run_pure]
 ·rw [Oper.semAt_plain F _ _ (by rw [hop]; intro c hc'; cases hc')]
  simp [execOp,hop,resolve,invoke,builtin,hs,hx,hrun,Result.andThen];exact hK
theorem mg(F:Fence)(n:Nat)(h3:F.fn 10)(h5:F.fn 19)(h6:F.fn 36)(hk1:F.fn 466)(hk2:F.fn 489)(hk3:F.fn 20)(hk4:F.fn 37)(hro:F.round=none)(hn:5<=n)(T o:Nat)(lv:Nat->Addr)(len:Nat)(pl:Mac)(hreach:len<=1000)(w:World)(hT:fO w w.heap.size T o lv len (mV pl))
 (xs:List (yD w w.heap.size)) (hxs:xs.map (fun x=>x.1.1)=bK lv len pl):
 CallsIn F n Tryz.prog 10 #[.pointer (some ⟨T,o,none⟩)] w fun e W'=> ∃v,e= .returned v/\W'.ownsRow w.heap.size 3 1 v (len+1) (bg xs)/\Below w.heap.size w W':=by
 have h1:1<=n:=by omega
 have h2:1<=n-1-1:=by omega
 obtain ⟨i0,hi,hz0,hz1,hz2⟩:=info_parts CE;have hmix:Tryz.prog.follows .mixedOrders=true:=by kernel_rfl
 refine callsIn_of_wp_marks Tryz.func10 rfl h3 ?_ hro;simp only [Tryz.ntmps10,List.size_toArray,List.length_cons,List.length_nil,Nat.reduceAdd,Nat.reduceSub,Array.replicate_succ,Array.replicate_zero,List.push_toArray,List.append_toArray,List.nil_append,List.cons_append]
 gi_wp2_with (gi_at_call 19; refine (Po F (n-1) h5 hro _ _).mono ?_; rintro e w' ⟨rfl,rfl⟩)
 have bO:=Boxed.new w 34 (.slice none 0 0);have bN:=Boxed.new (w.alloc (.cells #[.slice none 0 0] 34)) 24 (.pointer (some ⟨T,o,none⟩));rw [World.size_alloc] at bN;have hB0:Below w.heap.size w ((w.alloc (.cells #[.slice none 0 0] 34)).alloc (.cells #[.pointer (some ⟨T,o,none⟩)] 24)):=((Below.refl _ w).alloc (Nat.le_refl _) _).alloc (by simp) _
 refine wpIn_rangeFunc_ownG hro h1 (gf:=36) (lb:= #[.pointer (some ⟨w.heap.size+1,0,none⟩)]) rfl h6 (enters_of Tryz.func36 (by kernel_rfl) rfl)
  (iP (fun x:yD w w.heap.size=>x.1.1) xs F (n-1) h6 hro (by omega) (w.heap.size+1) w.heap.size T o lv len pl hxs (by omega) _ (by simp) (by simp; omega) bN.cell (hT.below hB0)) KpB.t (KpB.b (by simp; omega)) (Below.refl _ _) (fun _=>rfl)
  (fun pre W=>((∃ v,Boxed W w.heap.size 34 v/\W.ownsRow w.heap.size 3 1 v pre.length (bg pre)/\True)/\Boxed W (w.heap.size+1) 24 (.pointer (some ⟨T,o,none⟩)))/\Below w.heap.size w W)
  (fun _ _ _=>False)
  (OwnFrom.and (OwnFrom.and (Own.from (holdsRow_own w.heap.size w.heap.size 34 3 1 (fun pre=>pre.length) (fun pre=>bg pre) (fun _ _=>True)) _) (Own.from (boxed_own _ _ _) _)) (ownFrom_below (Nat.le_refl _) (by simp; omega)))
  (fun _ _ _ _ _ hs _ _=>hs)
  ⟨⟨⟨_,bO.alloc _,World.ownsRow_nil _ _ _ _,trivial⟩,bN⟩,hB0⟩
  (fun x=>{tmps:= #[.pointer (some ⟨T,o,none⟩),undef,.slice none 0 0,.pointer (some ⟨w.heap.size,0,none⟩),mV x.1.1,.pointer (some ⟨T,o,none⟩),.func (.func 36) #[] #[.pointer (some ⟨w.heap.size+1,0,none⟩)],mV x.1.1,undef,undef,undef,undef,undef,undef],defers:=[]}) ?assign ?body ?done ?stop
 case assign=>
  intro l x W K hK
  gi_wp2
  exact hK
 case body=>
  rintro l pre ⟨⟨⟨xt,xa⟩,k⟩,hx⟩ W ⟨⟨⟨v,hv,hrow,_⟩,hbx⟩,hB⟩ hlt
  have hc:=hv.cell;simp only [mV]
  obtain ⟨f,hf,hen,hm,hcall⟩: ∃f,F.fn f/\(∀ args w,(callFunc f args).run Tryz.prog w= .ok (.enter f args) w)/\(method 621 xt (.pointer xa) "Kind" ).run Tryz.prog W.drew= .ok (f,.pointer xa) W.drew/\CallsIn F (n-1-1-1) Tryz.prog f #[.pointer xa] W.drew (fun e w'=>e= .returned (.int .i64 k)/\w'=W.drew):=by
   rcases hx with ⟨e1,e2⟩ | ⟨e1,e2⟩ | ⟨e1,L,p,e2,hL,c0,tt,vv,c2⟩
   ·simp only at e1 e2;subst e1 e2;exact ⟨_,hk1,enters_of Tryz.func466 (by kernel_rfl) rfl,jM Dn _ _ _,xh F _ hk1 hro _ _⟩
   ·simp only at e1 e2;subst e1 e2;exact ⟨_,hk2,enters_of Tryz.func489 (by kernel_rfl) rfl,jM Dk _ _ _,xn F _ hk2 hro _ _⟩
   ·simp only at e1 e2 c0;subst e1 e2;exact ⟨_,hk3,enters_of Tryz.func20 (by kernel_rfl) rfl,jM CK _ _ _,wU F _ hk3 hk4 hro (by omega) L p k tt vv W.drew ((hB.cell (p:=⟨L,p,none⟩) hL).trans c0) ((hB.cell (p:=⟨L,p+2,none⟩) hL).trans c2)⟩
  have hvd:Boxed W.drew w.heap.size 34 v:=hv;have hrd:W.drew.ownsRow w.heap.size 3 1 v pre.length (bg pre):=hrow;obtain ⟨v',w1,hrun,hown',hgrow,_⟩:=run_append_own_at (P:=Tryz.prog) (W.drew.alloc (.cells #[.int .i64 k] 3)) w.heap.size 34 34 3 i0 (.int .i64 0) 1 8 BS hi hz0 hz1 hz2 rfl (by decide) v pre.length (bg pre) (hrd.alloc _) ⟨W.heap.size,0,none⟩ 1 1 [.int .i64 k] rfl (cell_one_new W.drew _ _) (by simp [Value.oneCell']) (by unfold maxLen; omega) (by omega) (by have:=hB.size; simp; omega)
  obtain ⟨g',cap',rfl⟩:=ownsRow_succ hown';obtain ⟨hv1,hv2,hr2,hk2,hb2⟩:=hvd.appended (by decide) hrd hB.size (Nat.le_refl _) hown' hgrow
  have hc1:=hv1.cell;have hf1:=hv1.frozen;have hcd:=hvd.cell;have hca:=(hv.alloc (.cells #[.int .i64 k] 3)).cell;have hbd:Boxed W.drew (w.heap.size+1) 24 (.pointer (some ⟨T,o,none⟩)):=hbx;have hbw:Boxed w1 (w.heap.size+1) 24 (.pointer (some ⟨T,o,none⟩)):=(hbd.alloc (.cells #[.int .i64 k] 3)).kept hgrow (hbd.not_row (by decide) hrd)
  have hx0:=hbw.other (B':=w.heap.size) (by omega) (.slice (some ⟨g',0,none⟩) (pre.length+1) cap')
  have hx1:=hx0.cell;have hkk: ∀v',KeepsOthers W.drew (w1.setCell ⟨w.heap.size,0,none⟩ v')->KeepsOthers W (w1.setCell ⟨w.heap.size,0,none⟩ v'):=fun _ h=>(KeepsOthers.drew W).trans h
  have hbb: ∀v',Below w.heap.size W.drew (w1.setCell ⟨w.heap.size,0,none⟩ v')->Below w.heap.size W (w1.setCell ⟨w.heap.size,0,none⟩ v'):=fun _ h=>⟨h.os,h.tape,h.output,h.size,h.block⟩
  gi_wp2
  refine wpIn_region_any hmix ?_
  change wpAnyIn _ _ _ _ _ _ _ _ _ (World.drew _)
  refine wpAnyIn_ready (rs:=[0,1]) (by kernel_rfl) (by simp) ?_
  refine AllReadyIn.cons rfl (fun K hK=> ?_) (AllReadyIn.cons rfl (fun K hK=> ?_) AllReadyIn.nil)
  ·go_simp; refine hK _ _ ?_; clear hK K
   refine wpAnyIn_ready (rs:=[1]) (by kernel_rfl) (by simp) ?_
   refine AllReadyIn.cons rfl (fun K hK=> ?_) AllReadyIn.nil
   go_simp; refine hK _ _ ?_; clear hK K
   refine wpAnyIn_ready (rs:=[2]) (by kernel_rfl) (by simp) ?_
   refine AllReadyIn.cons rfl (fun K hK=> ?_) AllReadyIn.nil
   go_simp; refine hcall.mono ?_; rintro e w' ⟨rfl,rfl⟩; refine hK _ _ ?_; clear hK K
   refine wpAnyIn_ready (rs:=[3]) (by kernel_rfl) (by simp) ?_
   refine AllReadyIn.cons rfl (fun K hK=> ?_) AllReadyIn.nil
   go_simp; refine hK _ _ ?_; clear hK K
   refine wpAnyIn_ready (rs:=[4]) (by kernel_rfl) (by simp) ?_
   refine AllReadyIn.cons rfl (fun K hK=> ?_) AllReadyIn.nil
   refine dw rfl (.tmp 8) (.tmp 11) 34 rfl rfl rfl hrun (hK _ _ ?_); clear hK K;refine wpAnyIn_ready (rs:=[5]) (by kernel_rfl) (by simp) ?_
   refine AllReadyIn.cons rfl (fun K hK=> ?_) AllReadyIn.nil
   go_simp; refine hK _ _ ?_; clear hK K
   refine wpAnyIn_done (by kernel_rfl) ?_ _
   exact ⟨(hkk _ hk2).from _,⟨hbb _ hb2,fun u hu=>by rw [hbx.cell] at hu; cases hu; exact hx1⟩,⟨⟨_,hv2,by simpa [bg] using hr2,trivial⟩,hx0⟩,hB.trans (hbb _ hb2)⟩
  ·go_simp; refine hK _ _ ?_; clear hK K
   refine wpAnyIn_ready (rs:=[0,2]) (by kernel_rfl) (by simp) ?_
   refine AllReadyIn.cons rfl (fun K hK=> ?_) (AllReadyIn.cons rfl (fun K hK=> ?_) AllReadyIn.nil)
   ·go_simp; refine hK _ _ ?_; clear hK K
    refine wpAnyIn_ready (rs:=[2]) (by kernel_rfl) (by simp) ?_
    refine AllReadyIn.cons rfl (fun K hK=> ?_) AllReadyIn.nil
    go_simp; refine hcall.mono ?_; rintro e w' ⟨rfl,rfl⟩; refine hK _ _ ?_; clear hK K
    refine wpAnyIn_ready (rs:=[3]) (by kernel_rfl) (by simp) ?_
    refine AllReadyIn.cons rfl (fun K hK=> ?_) AllReadyIn.nil
    go_simp; refine hK _ _ ?_; clear hK K
    refine wpAnyIn_ready (rs:=[4]) (by kernel_rfl) (by simp) ?_
    refine AllReadyIn.cons rfl (fun K hK=> ?_) AllReadyIn.nil
    refine dw rfl (.tmp 8) (.tmp 11) 34 rfl rfl rfl hrun (hK _ _ ?_); clear hK K;refine wpAnyIn_ready (rs:=[5]) (by kernel_rfl) (by simp) ?_
    refine AllReadyIn.cons rfl (fun K hK=> ?_) AllReadyIn.nil
    go_simp; refine hK _ _ ?_; clear hK K
    refine wpAnyIn_done (by kernel_rfl) ?_ _
    exact ⟨(hkk _ hk2).from _,⟨hbb _ hb2,fun u hu=>by rw [hbx.cell] at hu; cases hu; exact hx1⟩,⟨⟨_,hv2,by simpa [bg] using hr2,trivial⟩,hx0⟩,hB.trans (hbb _ hb2)⟩
   ·go_simp; refine hcall.mono ?_; rintro e w' ⟨rfl,rfl⟩; refine hK _ _ ?_; clear hK K
    refine wpAnyIn_ready (rs:=[0,3]) (by kernel_rfl) (by simp) ?_
    refine AllReadyIn.cons rfl (fun K hK=> ?_) (AllReadyIn.cons rfl (fun K hK=> ?_) AllReadyIn.nil)
    ·go_simp; refine hK _ _ ?_; clear hK K
     refine wpAnyIn_ready (rs:=[3]) (by kernel_rfl) (by simp) ?_
     refine AllReadyIn.cons rfl (fun K hK=> ?_) AllReadyIn.nil
     go_simp; refine hK _ _ ?_; clear hK K
     refine wpAnyIn_ready (rs:=[4]) (by kernel_rfl) (by simp) ?_
     refine AllReadyIn.cons rfl (fun K hK=> ?_) AllReadyIn.nil
     refine dw rfl (.tmp 8) (.tmp 11) 34 rfl rfl rfl hrun (hK _ _ ?_); clear hK K;refine wpAnyIn_ready (rs:=[5]) (by kernel_rfl) (by simp) ?_
     refine AllReadyIn.cons rfl (fun K hK=> ?_) AllReadyIn.nil
     go_simp; refine hK _ _ ?_; clear hK K
     refine wpAnyIn_done (by kernel_rfl) ?_ _
     exact ⟨(hkk _ hk2).from _,⟨hbb _ hb2,fun u hu=>by rw [hbx.cell] at hu; cases hu; exact hx1⟩,⟨⟨_,hv2,by simpa [bg] using hr2,trivial⟩,hx0⟩,hB.trans (hbb _ hb2)⟩
    ·go_simp; refine hK _ _ ?_; clear hK K
     refine wpAnyIn_ready (rs:=[0]) (by kernel_rfl) (by simp) ?_
     refine AllReadyIn.cons rfl (fun K hK=> ?_) AllReadyIn.nil
     go_simp; refine hK _ _ ?_; clear hK K
     refine wpAnyIn_ready (rs:=[4]) (by kernel_rfl) (by simp) ?_
     refine AllReadyIn.cons rfl (fun K hK=> ?_) AllReadyIn.nil
     refine dw rfl (.tmp 8) (.tmp 11) 34 rfl rfl rfl hrun (hK _ _ ?_); clear hK K;refine wpAnyIn_ready (rs:=[5]) (by kernel_rfl) (by simp) ?_
     refine AllReadyIn.cons rfl (fun K hK=> ?_) AllReadyIn.nil
     go_simp; refine hK _ _ ?_; clear hK K
     refine wpAnyIn_done (by kernel_rfl) ?_ _
     exact ⟨(hkk _ hk2).from _,⟨hbb _ hb2,fun u hu=>by rw [hbx.cell] at hu; cases hu; exact hx1⟩,⟨⟨_,hv2,by simpa [bg] using hr2,trivial⟩,hx0⟩,hB.trans (hbb _ hb2)⟩
 case done=>
  rintro D ys W hD rfl ⟨⟨⟨v,hv,hrow,_⟩,_⟩,hB⟩ hK
  have hc:=hv.cell
  gi_wp2
  refine ⟨by simp,.inl ⟨_,_,rfl,run_takeDeferred hK,?_⟩⟩
  have hl:ys.length=len+1:=by
   have:=congrArg List.length hxs;rw [List.length_map,dm] at this;exact this
  rw [hl] at hrow;exact ⟨_,results_tmp rfl _ _ _,v,rfl,ownsRow_putObj hrow _ hK rfl,hB.trans (belowK_b (w:=w) (Nat.le_refl _) W D _ _ (by simp at hD; omega) hK rfl rfl)⟩
 case stop=>
  rintro D c pre W _ _ h _
  exact h.elim
end Go.Proofs.YtpdhneemedlgaaaGreat.te
