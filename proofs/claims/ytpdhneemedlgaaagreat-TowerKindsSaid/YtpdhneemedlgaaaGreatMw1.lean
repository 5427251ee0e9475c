/- Part Mw1. No condition. -/
import Derived.WalkKit
import Derived.OwnWalk
import Derived.Lib.Hide
import Derived.BigRegion
import Derived.Test.YtpdhneemedlgaaaGreatProg
import Derived.Test.YtpdhneemedlgaaaGreatSg
set_option linter.all false
namespace Go.Proofs.YtpdhneemedlgaaaGreat
open Go Go.RowKit
set_option maxRecDepth 1000000
set_option maxHeartbeats 4000000
theorem iR{P:Program}(w:World){ops:Array Oper}{rest:List Oper}{o:Oper}{a:Act}{Q:Exit->Act->World->Prop}
 (hg:o.guard=none) (l c:Operand) (t:TypeId) (hop:o.op=Op.makeSlice t l c)
 (e:TypeId) (i:TypeInfo) (z:Value) (size:Nat) (h1:P.underlying t=some (.slice e)) (h2:P.info? e=some i) (h3:i.zero=some z) (h4:i.size=size)
 (kl kc:IntKind) (n:Nat) (hl:a.eval l= .int kl (n:Int)) (hc:a.eval c= .int kc (n:Int)) (b2:i.bytes*n<=281474976710656) (b3:n<=9223372036854775807)
 (hK:wpList P ops Q rest (a.put o.dst (.slice (some ⟨w.heap.size,0,none⟩) n n)) (w.alloc (.cells (madeCells z.cells (n*size)) e))):
 wpList P ops Q (o::rest) a w:=by
 refine wpList_plain hg fun K hK'=> ?_
 have hb:(i.bytes:Int)*(n:Int)<=281474976710656:=by
  have h:((i.bytes*n:Nat):Int)<=281474976710656:=by omega
  rwa [Int.natCast_mul] at h
 have hrun:=run_make (P:=P) w t e i z h1 h2 h3 kl kc n n (by omega) (Int.le_refl _) hb (by omega)
 simp only [Int.toNat_natCast,h4] at hrun;unfold Oper.wp;simp [execOp,hop,hl,hc,hrun,Result.andThen];exact hK' _ _ hK
theorem BI:(Tryz.prog.info? 142).map (fun i=>(i.zero,i.size,i.bytes))=some (some (.agg #[.pointer none,.pointer none,.bool false,.bool false,.pointer none,.pointer none,.int .i64 0]),7,48):=by kernel_rfl
end Go.Proofs.YtpdhneemedlgaaaGreat
namespace Go.Proofs.YtpdhneemedlgaaaGreat
open Go Go.RowKit
set_option maxRecDepth 1000000
set_option maxHeartbeats 4000000
def cdA(coh:Bool)(b:Nat):Option Addr:=match coh with
 |true=>none
 |false=>some ⟨b,0,none⟩
def pgV(b:Nat)(i:Nat):Value:=match i with
 |0=> .pointer (some ⟨b,0,none⟩)
 |1=> .pointer none
 |2=> .bool false
 |3=> .bool false
 |4=> .pointer (some ⟨b,0,none⟩)
 |5=> .pointer none
 |_=> .int .i64 0
structure gu (coh:Bool) (N:Nat) (W:World) (k:Nat) (wr:World):Prop where
 bl:Below W.heap.size W wr
 sz:W.heap.size+3=wr.heap.size
 hd:wr.heap[W.heap.size+1]? =some (.cells #[.slice (some ⟨W.heap.size,0,none⟩) N N,.bool coh] 134 (0,0))
 pg:wr.heap[W.heap.size+1+1]? =some (.cells (Array.replicate 256 (.int .u8 0)) 140 (0,0))
 sl: ∃ss,wr.heap[W.heap.size]? =some (.cells ss 142 (0,0))/\ss.size=N*7/\ ∀p,p<k->ss[p*7]? =some (.pointer (some ⟨W.heap.size+1+1,0,none⟩))/\ss[p*7+1]? =some (.pointer (cdA coh (W.heap.size+1+1)))/\ss[p*7+2]? =some (.bool false)/\ss[p*7+3]? =some (.bool false)/\ss[p*7+6]? =some (.int .i64 0)
structure bm (b:Nat) (t:TypeId) (A B:World) (cs:Array Value):Prop where
 at':B.heap[b]? =some (.cells cs t (0,0))
 other: ∀c,c≠b->B.heap[c]? =A.heap[c]?
 size:B.heap.size=A.heap.size
 os:B.os=A.os
 tape:B.tape=A.tape
 output:B.output=A.output
theorem bm.refl{b:Nat}{t:TypeId}{A:World}{cs:Array Value}(h:A.heap[b]? =some (.cells cs t (0,0))):bm b t A A cs:=⟨h,fun _ _=>rfl,rfl,rfl,rfl,rfl⟩
theorem bm.set{b:Nat}{t:TypeId}{A B:World}{cs:Array Value}(h:bm b t A B cs)(j:Nat)(v:Value):bm b t A (B.setCell ⟨b,j,none⟩ v) (cs.setIfInBounds j v):=
 ⟨Sx.bQ B b j cs t (0,0) v h.at',fun c hc=>(Below.heap_setCell B ⟨b,j,none⟩ v c hc).trans (h.other c hc),by simp [World.setCell]; exact h.size,h.os,h.tape,h.output⟩
theorem bm.drew{b:Nat}{t:TypeId}{A B:World}{cs:Array Value}(h:bm b t A B cs):bm b t A B.drew cs:=⟨h.at',h.other,h.size,h.os,h.tape,h.output⟩
theorem bm.cell{b:Nat}{t:TypeId}{A B:World}{cs:Array Value}(h:bm b t A B cs){j:Nat}{v:Value}(hv:cs[j]? =some v):B.cell? ⟨b,j,none⟩=some v:=by simp [World.cell?,h.at',hv]
theorem bm.frozen{b:Nat}{t:TypeId}{A B:World}{cs:Array Value}(h:bm b t A B cs)(j:Nat):B.frozen? ⟨b,j,none⟩=false:=by simp [World.frozen?,h.at']
theorem bm.trans{b:Nat}{t:TypeId}{A B C:World}{cs ds:Array Value}(h:bm b t A B cs)(k:bm b t B C ds):bm b t A C ds:=
 ⟨k.at',fun c hc=>(k.other c hc).trans (h.other c hc),k.size.trans h.size,k.os.trans h.os,k.tape.trans h.tape,k.output.trans h.output⟩
theorem gu.next{coh:Bool}{N k:Nat}{W wr wq:World}(h:gu coh N W k wr)(hk:k<N){ss cs:Array Value}(hs:wr.heap[W.heap.size]? =some (.cells ss 142 (0,0)))(ht:bm W.heap.size 142 wr wq cs)(hsz:cs.size=ss.size)(hc: ∀j,j<k*7->cs[j]? =ss[j]?)
 (x0:cs[k*7]? =some (.pointer (some ⟨W.heap.size+1+1,0,none⟩))) (x1:cs[k*7+1]? =some (.pointer (cdA coh (W.heap.size+1+1)))) (x2:cs[k*7+2]? =some (.bool false)) (x3:cs[k*7+3]? =some (.bool false)) (x6:cs[k*7+6]? =some (.int .i64 0)):gu coh N W (k+1) wq:=by
 obtain ⟨ss',hs',hz,hold⟩:=h.sl;rw [hs] at hs';cases hs';refine ⟨⟨ht.os.trans h.bl.os,ht.tape.trans h.bl.tape,ht.output.trans h.bl.output,by rw [ht.size]; exact h.bl.size,fun j hj=>(ht.other j (by omega)).trans (h.bl.block j hj)⟩,by rw [ht.size]; exact h.sz,(ht.other _ (by omega)).trans h.hd,(ht.other _ (by omega)).trans h.pg,cs,ht.at',hsz.trans hz,fun p hp=> ?_⟩
 by_cases hpk:p=k
 ·subst hpk; exact ⟨x0,x1,x2,x3,x6⟩
 ·have hlt:p<k:=by omega
  rw [hc _ (by omega),hc _ (by omega),hc _ (by omega),hc _ (by omega),hc _ (by omega)]
  exact hold p hlt
theorem dC(A:World)(o:Obj){c:Nat}(h:c<A.heap.size):(A.alloc o).heap[c]? =A.heap[c]? :=((Below.refl A.heap.size A).alloc (Nat.le_refl _) o).block c h
theorem fN(A:World)(o:Obj):(A.alloc o).heap[A.heap.size]? =some o:=by show (A.heap.push o)[A.heap.size]? =some o; exact Array.getElem?_push_size
theorem sQ:Tryz.zeroCells140=Array.replicate 256 (.int .u8 0):=by kernel_rfl
theorem mA(coh:Bool)(N:Nat)(h0:N<=4096)(W:World):Calls Tryz.prog 39 #[.int .i64 N,.bool coh] W fun e wr=>e= .returned (.pointer (some ⟨W.heap.size+1,0,none⟩))/\gu coh N W N wr:=by
 obtain ⟨i0,hi,hz0,hz1,hz2⟩:=info_parts BI
 go_enter Tryz.func39,Tryz.ntmps39
 go_wp2_with (first
  | (refine iR _ rfl _ _ 132 rfl 142 i0 _ 7 (by kernel_rfl) hi hz0 hz1 _ _ N rfl rfl (by rw [hz2]; omega) (by omega) ?_))
 go_loopw [22] (fun i wr=> ∃k:Nat,k<=N/\i= .int .i64 k/\gu coh N W k wr) (fun i _=>N-(intOf i).toNat)
 case atStart=>
  refine ⟨0,Nat.zero_le _,rfl,?_⟩;have e0: ∀(A:World) (o:Obj),(A.alloc o).heap.size=A.heap.size+1:=fun A o=>by simp
  refine ⟨(((Below.refl _ W).alloc (Nat.le_refl _) _).alloc (by simp) _).alloc (by simp; omega) _,by simp,?_,?_,madeCells #[.pointer none,.pointer none,.bool false,.bool false,.pointer none,.pointer none,.int .i64 0] (N*7),?_,size_madeCells _ _,?_⟩
  ·rw [dC _ _ (by rw [e0,e0]; omega)]
   have:=fN (W.alloc (.cells (madeCells #[.pointer none,.pointer none,.bool false,.bool false,.pointer none,.pointer none,.int .i64 0] (N*7)) 142)) (.cells #[.slice (some ⟨W.heap.size,0,none⟩) N N,.bool coh] 134);rw [e0] at this;exact this
  ·have:=fN ((W.alloc (.cells (madeCells #[.pointer none,.pointer none,.bool false,.bool false,.pointer none,.pointer none,.int .i64 0] (N*7)) 142)).alloc (.cells #[.slice (some ⟨W.heap.size,0,none⟩) N N,.bool coh] 134)) (.cells Tryz.zeroCells140 140);rw [e0,e0] at this;rw [this,sQ]
  ·rw [dC _ _ (by rw [e0,e0]; omega),dC _ _ (by rw [e0]; omega)]
   exact fN W _
  ·intro p hp;exact absurd hp (Nat.not_lt_zero _)
 case round=>
  obtain ⟨k,hk,rfl,hA⟩:=hrel
  by_cases hlt:k<N
  ·obtain ⟨ss,hs,hsz,hold⟩:=hA.sl;have c0:wr.cell? ⟨W.heap.size+1,0,none⟩=some (.slice (some ⟨W.heap.size,0,none⟩) N N):=by simp [World.cell?,hA.hd]
   have fz: ∀j,wr.frozen? ⟨W.heap.size,j,none⟩=false:=fun j=>by simp [World.frozen?,hs]
   have cx: ∀j,j<7-> ∃v,wr.cell? ⟨W.heap.size,k*7+j,none⟩=some v:=fun j hj=>by
    have:k*7+j<ss.size:=by omega
    exact ⟨ss[k*7+j],by simp [World.cell?,hs,this]⟩
   obtain ⟨v0,x0⟩:=cx 0 (by omega)
   obtain ⟨v1,x1⟩:=cx 1 (by omega)
   obtain ⟨v2,x2⟩:=cx 2 (by omega)
   obtain ⟨v3,x3⟩:=cx 3 (by omega)
   obtain ⟨v4,x4⟩:=cx 4 (by omega)
   obtain ⟨v5,x5⟩:=cx 5 (by omega)
   obtain ⟨v6,x6⟩:=cx 6 (by omega)
   rw [Nat.add_zero] at x0;have f0:=fz (k*7);have f1:=fz (k*7+1);have f2:=fz (k*7+2);have f3:=fz (k*7+3);have f4:=fz (k*7+4);have f5:=fz (k*7+5);have f6:=fz (k*7+6);have T7:=((((((((bm.refl hs).set (k*7) (.pointer (some ⟨W.heap.size+1+1,0,none⟩))).set (k*7+1) (.pointer none)).set (k*7+2) (.bool false)).set (k*7+3) (.bool false)).set (k*7+4) (.pointer (some ⟨W.heap.size+1+1,0,none⟩))).set (k*7+5) (.pointer none)).set (k*7+6) (.int .i64 0));generalize hcs:(((((((ss.setIfInBounds (k*7) (.pointer (some ⟨W.heap.size+1+1,0,none⟩))).setIfInBounds (k*7+1) (.pointer none)).setIfInBounds (k*7+2) (.bool false)).setIfInBounds (k*7+3) (.bool false)).setIfInBounds (k*7+4) (.pointer (some ⟨W.heap.size+1+1,0,none⟩))).setIfInBounds (k*7+5) (.pointer none)).setIfInBounds (k*7+6) (.int .i64 0))=cs at T7;have hcz:cs.size=ss.size:=by rw [<- hcs]; simp
   have hlo: ∀j,j<k*7->cs[j]? =ss[j]? :=fun j hj=>by
    rw [<- hcs];simp only [Array.getElem?_setIfInBounds];rw [if_neg (by omega),if_neg (by omega),if_neg (by omega),if_neg (by omega),if_neg (by omega),if_neg (by omega),if_neg (by omega)]
   have hat: ∀i,i<7->cs[k*7+i]? =some (pgV (W.heap.size+1+1) i):=fun i hi=>by
    rw [<- hcs];simp only [Array.getElem?_setIfInBounds,Array.size_setIfInBounds]
    match i,hi with
    |0,_=>rw [if_neg (by omega),if_neg (by omega),if_neg (by omega),if_neg (by omega),if_neg (by omega),if_neg (by omega),if_pos (by omega),if_pos (by omega)]; rfl
    |1,_=>rw [if_neg (by omega),if_neg (by omega),if_neg (by omega),if_neg (by omega),if_neg (by omega),if_pos (by omega),if_pos (by omega)]; rfl
    |2,_=>rw [if_neg (by omega),if_neg (by omega),if_neg (by omega),if_neg (by omega),if_pos (by omega),if_pos (by omega)]; rfl
    |3,_=>rw [if_neg (by omega),if_neg (by omega),if_neg (by omega),if_pos (by omega),if_pos (by omega)]; rfl
    |4,_=>rw [if_neg (by omega),if_neg (by omega),if_pos (by omega),if_pos (by omega)]; rfl
    |5,_=>rw [if_neg (by omega),if_pos (by omega),if_pos (by omega)]; rfl
    |6,_=>rw [if_pos (by omega),if_pos (by omega)]; rfl
   have HA:=Lib.hid hA;have hsz:=Lib.hid hsz;have HT:=Lib.hid T7;have HL:=Lib.hid hlo;have HH:=Lib.hid hat;have HS:=Lib.hid hs;have HZ:=Lib.hid hcz;clear cx hold hcs T7 hlo hat hA fz hs hcz;cases coh with
   |true=>
    go_wp2
    go_roundw
    case rel=>exact ⟨k+1,by omega,by simp,HA.out.next hlt HS.out HT.out HZ.out HL.out (HH.out 0 (by decide)) (HH.out 1 (by decide)) (HH.out 2 (by decide)) (HH.out 3 (by decide)) (HH.out 6 (by decide))⟩
    case measure=>simp [intOf]; omega
   |false=>
    go_wp2
    have d0:=(HT.out.other (W.heap.size+1) (by omega)).trans HA.out.hd
    generalize ((((((wr.setCell ⟨W.heap.size,k*7,none⟩ (.pointer (some ⟨W.heap.size+1+1,0,none⟩))).setCell ⟨W.heap.size,k*7+1,none⟩ (.pointer none)).setCell ⟨W.heap.size,k*7+2,none⟩ (.bool false)).setCell ⟨W.heap.size,k*7+3,none⟩ (.bool false)).setCell ⟨W.heap.size,k*7+4,none⟩ (.pointer (some ⟨W.heap.size+1+1,0,none⟩))).setCell ⟨W.heap.size,k*7+5,none⟩ (.pointer none)).setCell ⟨W.heap.size,k*7+6,none⟩ (.int .i64 0)=wq at*;have d0:wq.cell? ⟨W.heap.size+1,0,none⟩=some (.slice (some ⟨W.heap.size,0,none⟩) N N):=by simp [World.cell?,d0]
    have d1:wq.cell? ⟨W.heap.size,k*7+1,none⟩=some (.pointer none):=HT.out.cell (HH.out 1 (by decide))
    have d5:wq.cell? ⟨W.heap.size,k*7+5,none⟩=some (.pointer none):=HT.out.cell (HH.out 5 (by decide))
    have g1:wq.frozen? ⟨W.heap.size,k*7+1,none⟩=false:=HT.out.frozen _;have g5:wq.frozen? ⟨W.heap.size,k*7+5,none⟩=false:=HT.out.frozen _;clear x0 x1 x2 x3 x4 x5 x6 f0 f1 f2 f3 f4 f5 f6 c0
    go_region
    go_wp2
    have T9:=((HT.out.set (k*7+1) (.pointer (some ⟨W.heap.size+1+1,0,none⟩))).set (k*7+5) (.pointer (some ⟨W.heap.size+1+1,0,none⟩))).drew;have hz:cs.size=N*7:=HZ.out.trans hsz.out;refine ⟨⟨k+1,by omega,by simp,HA.out.next hlt HS.out T9 (by simp; exact HZ.out) (fun j hj=> ?_) ?_ ?_ ?_ ?_ ?_⟩,by show N-((k:Int)+1).toNat<N-(k:Int).toNat; omega⟩
    ·simp only [Array.getElem?_setIfInBounds];rw [if_neg (by omega),if_neg (by omega)]
     exact HL.out j hj
    all_goals simp only [Array.getElem?_setIfInBounds,Array.size_setIfInBounds]
    ·rw [if_neg (by omega),if_neg (by omega)]; exact HH.out 0 (by decide)
    ·rw [if_neg (by omega),if_pos trivial,if_pos (by omega)]; rfl
    ·rw [if_neg (by omega),if_neg (by omega)]; exact HH.out 2 (by decide)
    ·rw [if_neg (by omega),if_neg (by omega)]; exact HH.out 3 (by decide)
    ·rw [if_neg (by omega),if_neg (by omega)]; exact HH.out 6 (by decide)
  ·obtain rfl:k=N:=by omega
   go_wp2
   go_ret
   exact ⟨rfl,hA⟩
def jv(N b:Nat):List Value:= .slice (some ⟨b,0,none⟩) N N:: .bool false::(List.replicate 22 (.int .u32 0)++[.int .i64 0,.int .i64 0])
theorem ur(N:Nat)(h0:N<=4096)(W:World):Calls Tryz.prog 30 #[.int .i64 N] W fun e w'=> ∃wr cs,gu false N W N wr/\e= .returned (.pointer (some ⟨wr.heap.size,0,none⟩))/\w'=wr.alloc (.cells cs 136)/\cs=(jv N W.heap.size).toArray:=by
 go_enter Tryz.func30,Tryz.ntmps30
 go_wp2_with fail
 go_at_call 39
 refine (mA false N h0 _).mono ?_
 rintro e wr ⟨rfl,hA⟩
 have c0:wr.cell? ⟨W.heap.size+1,0,none⟩=some (.slice (some ⟨W.heap.size,0,none⟩) N N):=by simp [World.cell?,hA.hd]
 have c1:wr.cell? ⟨W.heap.size+1,1,none⟩=some (.bool false):=by simp [World.cell?,hA.hd]
 have HA:=Lib.hid hA;clear hA
 go_wp2
 go_ret
 exact ⟨wr,_,HA.out,rfl,rfl,rfl⟩
end Go.Proofs.YtpdhneemedlgaaaGreat
