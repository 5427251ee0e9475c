/- Part Un1. No condition. -/
import Derived.RangeFuncFrom
import Derived.RangeFuncLeaves
import Derived.RangeFuncNested
import Derived.RangeFuncBound
import Derived.RangeFuncCalls
import Derived.RangeFuncBox
import Derived.Shelf.Abstract
import Derived.Shelf.RegionOpen
import Derived.WalkKit
import Derived.OwnWalkIn
import Derived.TacticsInMore
import Derived.LoopNIn
import Derived.LoopIn
import Derived.Test.YtpdhneemedlgaaaGreatProg
set_option linter.all false
namespace Go.Proofs.YtpdhneemedlgaaaGreat.te
open Go Go.RowKit Go.Shelf
attribute [local go_sem] Oper.semAt_some
set_option maxRecDepth 100000
set_option maxHeartbeats 2000000
theorem i7{W:World}{B:Nat}{v:Value}{t:TypeId}(h:W.heap[B]? =some (.cells #[v] t (0,0))):W.cell? ⟨B,0,none⟩=some v/\W.frozen? ⟨B,0,none⟩=false:=by
 constructor<;>simp [World.cell?,World.frozen?,h]
theorem im(W:World)(v:Value)(t:TypeId):(W.alloc (.cells #[v] t)).cell? ⟨W.heap.size,0,none⟩=some v/\(W.alloc (.cells #[v] t)).frozen? ⟨W.heap.size,0,none⟩=false:=
 i7 (World.alloc_heap_new W _)
theorem gk{W:World}{a:Addr}{v:Value}(o:Obj)(h:W.cell? a=some v):(W.alloc o).cell? a=some v:=cell_kept h (World.grownBy_alloc W o none) (fun r e=>by cases e)
theorem gP{W:World}{a:Addr}{v:Value}(o:Obj)(h:W.cell? a=some v)(hf:W.frozen? a=false):(W.alloc o).frozen? a=false:=(frozen_kept h (World.grownBy_alloc W o none) (fun r e=>by cases e)).trans hf
theorem Po(F:Fence)(n:Nat)(h5:F.fn 19)(hro:F.round=none)(p0:Option Addr)(w:World):
 CallsIn F n Tryz.prog 19 #[.pointer p0] w fun e w'=>e= .returned (.func (.func 36) #[] #[.pointer (some ⟨w.heap.size,0,none⟩)])/\w'=w.alloc (.cells #[.pointer p0] 24):=by
 refine callsIn_of_wp Tryz.func19 rfl h5 ?_ hro;simp only [Tryz.ntmps19,List.size_toArray,List.length_cons,List.length_nil,Nat.reduceAdd,Nat.reduceSub,Array.replicate_succ,Array.replicate_zero,List.push_toArray,List.append_toArray,List.nil_append,List.cons_append]
 gi_wp2
 go_ret
 exact ⟨rfl,rfl⟩
end Go.Proofs.YtpdhneemedlgaaaGreat.te
namespace Go.Proofs.YtpdhneemedlgaaaGreat.te
open Go Go.RowKit Go.Shelf
attribute [local go_sem] Oper.semAt_some
set_option maxRecDepth 100000
set_option maxHeartbeats 4000000
def lvV(a:Addr):Value:= .iface 44 (.pointer (some a))
def KpB(n₀ Bx:Nat)(A B:World):Prop:=Below n₀ A B/\ ∀v,A.cell? ⟨Bx,0,none⟩=some v->B.cell? ⟨Bx,0,none⟩=some v
theorem KpB.t{n₀ Bx:Nat}{A B C:World}(h:KpB n₀ Bx A B)(k:KpB n₀ Bx B C):KpB n₀ Bx A C:=⟨h.1.trans k.1,fun v hv=>k.2 v (h.2 v hv)⟩
theorem KpB.refl(n₀ Bx:Nat)(A:World):KpB n₀ Bx A A:=⟨Below.refl _ _,fun _ h=>h⟩
theorem KpB.alloc{n₀ Bx:Nat}(W:World)(o:Obj)(h:n₀<=W.heap.size):KpB n₀ Bx W (W.alloc o):=⟨(Below.refl _ W).alloc h o,fun _ hv=>gk o hv⟩
theorem KpB.b{n₀ Bx:Nat}{w:World}(hn:n₀<=w.heap.size)(W:World)(l:Nat)(o o':Obj)(hl:w.heap.size<=l)(h:W.heap[l]? =some o)(hc:o.isCells=false)(hw:o.isWalk=false):KpB n₀ Bx W (W.putObj l o'):=
 ⟨belowK_b hn W l o o' hl h hc hw,fun v hv=>cell_kept hv (grownBy_putObj' W l o') (fun r e=>by cases e; exact ⟨o,h,hc⟩)⟩
theorem yp(F:Fence)(n:Nat)(h6:F.fn 36)(hro:F.round=none)(hn:1<=n)(l Bx n₀ T o b off len cap:Nat)(lv:Nat->Addr)(cs:Nat->Int)(pl:Value)(hT:T<n₀)(hlen:0<len)(hb:b<n₀)(hreach:len*16<=140737488351232)(J Jx:Nat->World->Prop)
 (hJa: ∀k W W',J k W->W.grownBy W' none->J k W')
 (hY: ∀k W,J k W->k<len->YieldAt F (n-1) Tryz.prog l #[lvV (lv k)] W fun e W'=>(e= .returned (.bool true)/\J (k+1) W'/\KpB n₀ Bx W W')\/(e= .returned (.bool false)/\Jx (k+1) W'))
 (hZ: ∀W,J len W->YieldAt F (n-1) Tryz.prog l #[pl] W fun e W'=>(e= .returned (.bool true)/\J (len+1) W'/\KpB n₀ Bx W W')\/(e= .returned (.bool false)/\Jx (len+1) W'))
 (W:World) (hn₀:n₀<=W.heap.size) (hBx:W.cell? ⟨Bx,0,none⟩=some (.pointer (some ⟨T,o,none⟩))) (hT0:W.cell? ⟨T,o,none⟩=some (.slice (some ⟨b,off,none⟩) len cap)) (hT1:W.cell? ⟨T,o+1,none⟩=some pl)
 (hl0: ∀j,j<len->W.cell? ⟨b,off+j*2,none⟩=some (.pointer (some (lv j)))) (hl1: ∀j,j<len->W.cell? ⟨b,off+j*2+1,none⟩=some (.int .i64 (cs j))) (h0:J 0 W):
 CallsIn F n Tryz.prog 36 #[.func (.yield l) #[] #[],.pointer (some ⟨Bx,0,none⟩)] W fun e W'=>(∃ v,e= .returned v)/\(J (len+1) W'\/ ∃k,0<k/\k<=len+1/\Jx k W'):=by
 refine callsIn_of_wp Tryz.func36 rfl h6 ?_ hro;simp only [Tryz.ntmps36,List.size_toArray,List.length_cons,List.length_nil,Nat.reduceAdd,Nat.reduceSub,Array.replicate_succ,Array.replicate_zero,List.push_toArray,List.append_toArray,List.nil_append,List.cons_append]
 gi_wp2
 gi_loopw [12] (fun i wr=> ∃k:Nat,k<=len/\i= .int .i64 k/\J k wr/\KpB n₀ Bx W wr/\n₀<=wr.heap.size)
  (fun i _=>len-(intOf i).toNat)
 case atStart=>exact ⟨0,Nat.zero_le _,rfl,h0,KpB.refl _ _ _,hn₀⟩
 case round=>
  obtain ⟨k,hk,rfl,hJs,hnx,hsz⟩:=hrel;have hbx:=hnx.2 _ hBx
  by_cases hlt:k<len
  ·have hc0:wr.cell? ⟨b,off+k*2,none⟩=some (.pointer (some (lv k))):=(hnx.1.cell (p:=⟨b,off+k*2,none⟩) hb).trans (hl0 k hlt);have hc1:wr.cell? ⟨b,off+k*2+1,none⟩=some (.int .i64 (cs k)):=(hnx.1.cell (p:=⟨b,off+k*2+1,none⟩) hb).trans (hl1 k hlt);obtain ⟨fn,tmps,assign,body,hy,hR⟩:=hY k (wr.alloc (.cells #[.pointer (some (lv k)),.int .i64 (cs k)] 57)) (hJa k wr _ hJs (World.grownBy_alloc wr _ none)) hlt;simp only [lvV] at hy
   gi_wp2
   refine hR.mono ?_
   rintro e W3 (⟨rfl,hJ3,hk3⟩ | ⟨rfl,hJx3⟩)
   ·gi_wp2
    go_roundw
    case rel=>exact ⟨k+1,by omega,by simp,hJ3,(hnx.t (KpB.alloc wr _ hsz)).t hk3,by have:=hk3.1.size; simp at this; omega⟩
    case measure=>simp [intOf]; omega
   ·gi_wp2
    refine bodyPost_ret (results_none rfl _ _ _) rfl ?_;exact ⟨⟨_,rfl⟩,.inr ⟨k+1,by omega,by omega,hJx3⟩⟩
  ·obtain rfl:k=len:=by omega
   have ht1:wr.cell? ⟨T,o+1,none⟩=some pl:=(hnx.1.cell (p:=⟨T,o+1,none⟩) hT).trans hT1;obtain ⟨fn,tmps,assign,body,hy,hR⟩:=hZ wr hJs
   gi_wp2
   refine hR.mono ?_
   rintro e W3 (⟨rfl,hJ3,hk3⟩ | ⟨rfl,hJx3⟩)
   ·gi_wp2
    go_end0
    exact ⟨⟨_,rfl⟩,.inl hJ3⟩
   ·gi_wp2
    go_end0
    exact ⟨⟨_,rfl⟩,.inr ⟨_,by omega,Nat.le_refl _,hJx3⟩⟩
theorem xz(F:Fence)(n:Nat)(h6:F.fn 36)(hro:F.round=none)(hn:1<=n)(l Bx n₀ T o cap:Nat)(a:Option Addr)(pl:Value)(J Jx:Nat->World->Prop)
 (hZ: ∀W,J 0 W->YieldAt F (n-1) Tryz.prog l #[pl] W fun e W'=>(e= .returned (.bool true)/\J 1 W'/\KpB n₀ Bx W W')\/(e= .returned (.bool false)/\Jx 1 W'))
 (W:World) (hBx:W.cell? ⟨Bx,0,none⟩=some (.pointer (some ⟨T,o,none⟩))) (hT0:W.cell? ⟨T,o,none⟩=some (.slice a 0 cap)) (hT1:W.cell? ⟨T,o+1,none⟩=some pl) (h0:J 0 W):
 CallsIn F n Tryz.prog 36 #[.func (.yield l) #[] #[],.pointer (some ⟨Bx,0,none⟩)] W fun e W'=>(∃ v,e= .returned v)/\(J 1 W'\/Jx 1 W'):=by
 refine callsIn_of_wp Tryz.func36 rfl h6 ?_ hro;simp only [Tryz.ntmps36,List.size_toArray,List.length_cons,List.length_nil,Nat.reduceAdd,Nat.reduceSub,Array.replicate_succ,Array.replicate_zero,List.push_toArray,List.append_toArray,List.nil_append,List.cons_append]
 gi_wp2
 gi_loopw [12] (fun i wr=>i= .int .i64 0/\wr=W) (fun _ _=>0)
 case atStart=>exact ⟨rfl,rfl⟩
 case round=>
  obtain ⟨rfl,rfl⟩:=hrel;obtain ⟨fn,tmps,assign,body,hy,hR⟩:=hZ wr h0
  gi_wp2
  refine hR.mono ?_
  rintro e W3 (⟨rfl,hJ3,hk3⟩ | ⟨rfl,hJx3⟩)
  ·gi_wp2
   go_end0
   exact ⟨⟨_,rfl⟩,.inl hJ3⟩
  ·gi_wp2
   go_end0
   exact ⟨⟨_,rfl⟩,.inr hJx3⟩
end Go.Proofs.YtpdhneemedlgaaaGreat.te
