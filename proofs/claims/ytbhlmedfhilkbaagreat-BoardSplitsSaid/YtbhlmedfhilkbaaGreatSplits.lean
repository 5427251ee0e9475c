/- BoardSplits: whatever the input, the law returns true, and the input reads as it did. No condition. -/
import Derived.Test.YtbhlmedfhilkbaaGreatSp9
import Derived.Test.YtbhlmedfhilkbaaGreatFt1
import Derived.Test.YtbhlmedfhilkbaaGreatSplitsfa
set_option linter.unusedSimpArgs false
set_option linter.unusedVariables false
set_option linter.unusedSectionVars false
namespace Go.Proofs.YtbhlmedfhilkbaaGreat.splits
open Go Go.Sx Go.ChangeShapes Go.WideShapes Go.ChangeAt Go.RowKit
set_option maxRecDepth 1000000
noncomputable section
theorem own:ownKnob Tryz.prog.godebug=none:=by kernel_rfl
theorem laidOut:laidOutB Tryz.prog=true:=by kernel_rfl
theorem shapes:DF PR Tryz.f9.params.toList adq=true:=by kernel_rfl
theorem walk{H:Type}{enc:TypeId×Value->H}{W:World}{base:Nat}{args:Array Value}{ds:List (DataW H)}{mp:List MemPlace}(hl:args.size=3)(hv: ∀(j:Nat) t v,Tryz.f9.params[j]? =some t->args[j]? =some v->Value.okWide Tryz.prog W .any base t v)
 (ht:DataW.TrodAll enc Tryz.prog W 0 (fun _=>true) true Tryz.f9.params.toList args.toList ds mp) (hlen: ∀(j:Nat) a (n c:Nat),j≠1->args[j]? =some (.slice a n c)->(n:Int)<=70368744177664):
 Calls Tryz.prog 9 args W fun e w'=>e= .returned (.bool true)/\Below W.heap.size W w':=by
 obtain ⟨G,hM⟩:=ajd
 exact Xl (G:=G) (ait hM) (ts:=Tryz.f9.params.toList) shapes hl (fun j t v h1 h2=>hv j t v (by simpa using h1) h2) ht hlen
theorem fits: ∀t∈Tryz.f9.params.toList,Tryz.prog.readableRec t=true/\t<Tryz.prog.types.size:=by
 have h:(Tryz.f9.params.toList.all fun t=>Tryz.prog.readableRec t&&decide (t<Tryz.prog.types.size))=true:=by kernel_rfl
 intro t ht
 have:=List.all_eq_true.1 h t ht
 simpa using this
theorem third:Tryz.f9.params.toList=[22,23,24]:=by kernel_rfl
theorem under0:Tryz.prog.underlying 22=some (.slice 57)/\Tryz.prog.bytesOf 57=40:=by
 exact ⟨by kernel_rfl,by kernel_rfl⟩
theorem under2:Tryz.prog.underlying 24=some (.slice 31)/\Tryz.prog.bytesOf 31=4:=by
 exact ⟨by kernel_rfl,by kernel_rfl⟩
theorem lifted(os:Os)(started:os.Started)(H:Type)(enc:TypeId×Value->H):
 ReturnsInHanded {} Tryz.checked os 9 .any (Rows.boardSplitsSpec.pre6 enc Tryz.prog Tryz.f9 Rows.boardSplitsRow.domain false) (Rows.boardSplitsSpec.post enc Tryz.prog Tryz.f9 false true false false):=by
 refine returnsInHanded_of_change_sized (C:=Tryz.checked) own started (by kernel_rfl) Tryz.func9
  (ChangeSpec.witness6 (enc:=enc) (C:=Tryz.checked) false ⟨#[],#[.slice none 0 0,.agg #[.int .i64 0,.int .i64 0,.int .i64 0,.int .i64 0],.slice none 0 0],[]⟩ 8 (by kernel_rfl) (by kernel_rfl) (by kernel_rfl) (by kernel_rfl)) ?_
 intro W base args ds gs before hval0 hW hcnd hsz _
 have hval: ∀(j:Nat) t v,Tryz.f9.params[j]? =some t->args[j]? =some v->Value.okWide Tryz.prog W .any base t v:=hval0
 have hW':DataW.Whole enc Tryz.prog Tryz.f9.params.toList Rows.boardSplitsSpec.vars false W args.toList ds gs before:=hW
 have hlen:args.size=Tryz.f9.params.toList.length/\ds.length=Tryz.f9.params.toList.length:=by
  obtain ⟨p,q,hA,_⟩:=hW'
  have:=Ov _ _ _ _ hA
  simpa using this
 have hgs:gs=[]:=by
  obtain ⟨p,q,_,hV,_⟩:=hW'
  exact (trodVars_none hV).1
 subst hgs
 obtain ⟨p,q,hA,hrest⟩:=hW'
 have hl3:ds.length=3:=hlen.2
 have ha3:args.size=3:=hlen.1
 have hb: ∀(j:Nat) a (n c:Nat),j≠1->args[j]? =some (.slice a n c)->(n:Int)<=70368744177664:=by
  have hA':=hA
  rw [third] at hA'
  have hsz':=hsz
  rw [third] at hsz'
  exact X9 (P:=Tryz.prog) hA' under0.1 under0.2 under2.1 under2.2 hsz'
 refine (walk ha3 hval hA hb).mono fun e W' ⟨he,hb⟩=> ?_
 refine ⟨_,he,YC (tb:=4) laidOut fits (by kernel_rfl) (by kernel_rfl) rfl ⟨p,q,hA,hrest⟩ ?_ hb⟩
 match ds,hl3 with
 | [d0,d1,d2],_=>rfl
theorem an{a b:Bool}(ha:a=true)(hb:b=true):(a&&b)=true:=by rw [ha,hb]; rfl
theorem joined:joinedFacts Tryz.prog 9 Tryz.f9 Rows.boardSplitsSpec Rows.boardSplitsRow=true:=by
 unfold joinedFacts
 exact (an (an (an (an (an (an (an (an (an (an (an (an (an (an (an (an (an (an (an (an (an (an (an (an (an (an (an (an (an (an (an (by kernel_rfl) laidOut) f_mapsRowed) (by kernel_rfl)) (by kernel_rfl)) (by kernel_rfl)) (by kernel_rfl)) (by kernel_rfl)) (by kernel_rfl)) f_inPlace) f_unfollowed) f_recurses) f_named) (by kernel_rfl)) (by kernel_rfl)) (by kernel_rfl)) (by kernel_rfl)) (by kernel_rfl)) (by kernel_rfl)) (by kernel_rfl)) (by kernel_rfl)) (by kernel_rfl)) (by kernel_rfl)) (by kernel_rfl)) f_stopsHeard) f_mayEnter) (by kernel_rfl)) (by kernel_rfl)) (by kernel_rfl)) (by kernel_rfl)) (by kernel_rfl)) (by kernel_rfl))
theorem over:Rows.boardSplitsRow.holds Tryz.pinned (OpenSpec.ofChange Rows.boardSplitsSpec):=
 OpenClaim.holds_of_wide 9 Tryz.f9 rfl rfl rfl rfl rfl rfl rfl ⟨rfl,rfl,rfl,rfl,rfl⟩ rfl rfl rfl rfl rfl (by kernel_rfl) Tryz.func9 joined
  (of_decide_eq_true (by kernel_rfl)) (by unfold Func.isWrapper; first | (rw [if_pos (by decide +kernel)]; kernel_rfl) | (rw [if_neg (by decide +kernel)]; exact ⟨rfl,rfl⟩))
  (fun os started H enc _=>lifted os started H enc)
theorem proved:Rows.BoardSplitsSaid:=over
end
end Go.Proofs.YtbhlmedfhilkbaaGreat.splits
