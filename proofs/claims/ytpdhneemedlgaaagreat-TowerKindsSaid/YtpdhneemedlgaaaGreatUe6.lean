/- Part Ue6. No condition. -/
import Derived.Test.YtpdhneemedlgaaaGreatUe3
import Derived.Test.YtpdhneemedlgaaaGreatUe4
import Derived.Test.YtpdhneemedlgaaaGreatUe5
set_option linter.all false
namespace Go.Proofs.YtpdhneemedlgaaaGreat.te
open Go Go.Sx
set_option maxRecDepth 1000000
noncomputable section
section
variable{G:Nat->Int->Int->Int->Int}{GH:Nat->bz}
def LOk(G:Nat->Int->Int->Int->Int)(GH:Nat->bz)(l:List ba):Prop:= ∀c∈l,c.con.wf=true/\c.Ok PR G GH
theorem LOk.app{a b:List ba}(h:LOk G GH a)(k:LOk G GH b):LOk G GH (a++b):=fun c hc=>(List.mem_append.1 hc).elim (h c) (k c)
theorem LOk.upT{n:Nat}{f:Nat->ba}(h: ∀p,p<n->(f p).con.wf=true/\(f p).Ok PR G GH):LOk G GH (i9 n f):=fun c hc=>by
 obtain ⟨p,hp,rfl⟩:=List.mem_map.1 hc;exact h p (List.mem_range.1 hp)
theorem LOk.po{coh:Bool}{N:Nat}(h:(List.range N).all (xH coh N)=true):LOk G GH (i9 N (lPo coh N)):=LOk.upT fun p hp=>Ys (List.all_eq_true.1 h p (List.mem_range.2 hp))
theorem LOk.cp{s:Nat->Src}{ft:TypeId}{to:Nat->ab}{n:Nat}(h:(List.range n).all (fun p=>su (s p) ft to n p)=true):LOk G GH (i9 n fun p=>lCp (s p) ft to n p):=LOk.upT fun p hp=>BU (List.all_eq_true.1 h p (List.mem_range.2 hp))
theorem twP:cJ twO 2 (fun j=>j+2) kdE 60 4:=by
 refine ⟨by decide,⟨_,_,_,_,rfl,⟨_,_,rfl⟩,rfl⟩,⟨_,_,_,_,rfl,fun j hj=> ?_⟩,fun j hj=> ?_⟩
 ·match j,hj with
  |0,_=>exact ⟨rfl,_,rfl⟩
  |1,_=>exact ⟨rfl,_,rfl⟩
 ·match j,hj with
  |0,_=>exact ⟨_,_,_,_,rfl,rfl,_,_,rfl⟩
  |1,_=>exact ⟨_,_,_,_,rfl,rfl,_,_,rfl⟩
theorem ph:ju.Ok PR G GH:=bS twP (by decide) (by decide) (.inl ⟨rfl,rfl⟩)
theorem wc:ju.wf=true:=by kernel_rfl
theorem DH:KS.Ok PR G GH:=by
 refine ⟨bO.cons wc ph bO.nil,?_⟩;exact (LOk.po CJ).app ((LOk.po CB).app ((LOk.po EV).app ((LOk.cp D8).app ((LOk.cp DZ).app ((LOk.cp E6).app (LOk.cp Ez))))))
theorem vL:JN.Ok PR G GH:=Con.yU mixed DH 600 40 YN
end
end
end Go.Proofs.YtpdhneemedlgaaaGreat.te
