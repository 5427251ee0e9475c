/- Part Restoresfa. No condition. -/
import Derived.Test.YtbhlmedfhilkbaaGreatRows
import Derived.Test.YtbhlmedfhilkbaaGreatRs11
import Derived.Test.YtbhlmedfhilkbaaGreatFt1
set_option linter.all false
namespace Go.Proofs.YtbhlmedfhilkbaaGreat.restores
open Go
set_option maxRecDepth 1000000
theorem f_inPlace:(Rows.boardRestoresRow.inPlace==Tryz.prog.inPlace 11)=true:=by kernel_rfl
theorem f_unfollowed:(Rows.boardRestoresRow.unfollowed==Tryz.prog.unfollowed 11)=true:=by kernel_rfl
end Go.Proofs.YtbhlmedfhilkbaaGreat.restores
namespace Go.Proofs.YtbhlmedfhilkbaaGreat.restores
open Go
set_option maxRecDepth 1000000
theorem f_recurses:(Rows.boardRestoresRow.recurses==Tryz.prog.recurses 11)=true:=by kernel_rfl
theorem f_named:(Rows.boardRestoresRow.named==Tryz.prog.varsNamed 11)=true:=by kernel_rfl
end Go.Proofs.YtbhlmedfhilkbaaGreat.restores
namespace Go.Proofs.YtbhlmedfhilkbaaGreat.restores
open Go
set_option maxRecDepth 1000000
theorem f_mapsRowed:mapsRowed Tryz.prog=true:=by kernel_rfl
theorem f_stopsHeard:Tryz.prog.stopsHeard=true:=by kernel_rfl
theorem f_mayEnter:Tryz.prog.mayEnter=true:=by kernel_rfl
end Go.Proofs.YtbhlmedfhilkbaaGreat.restores
namespace Go.Proofs.YtbhlmedfhilkbaaGreat.restores
open Go Go.Sx Go.ChangeShapes Go.WideShapes Go.ChangeAt Go.RowKit
set_option maxRecDepth 1000000
noncomputable section
theorem own:ownKnob Tryz.prog.godebug=none:=by kernel_rfl
theorem laidOut:laidOutB Tryz.prog=true:=by kernel_rfl
theorem shapes:DF PR Tryz.f11.params.toList adq=true:=by kernel_rfl
theorem walk{H:Type}{enc:TypeId×Value->H}{W:World}{base:Nat}{args:Array Value}{ds:List (DataW H)}{mp:List MemPlace}(hl:args.size=3)(hv: ∀(j:Nat) t v,Tryz.f11.params[j]? =some t->args[j]? =some v->Value.okWide Tryz.prog W .any base t v)
 (ht:DataW.TrodAll enc Tryz.prog W 0 (fun _=>true) true Tryz.f11.params.toList args.toList ds mp) (hlen: ∀(j:Nat) a (n c:Nat),j≠1->args[j]? =some (.slice a n c)->(n:Int)<=70368744177664):
 Calls Tryz.prog 11 args W fun e w'=>e= .returned (.bool true)/\Below W.heap.size W w':=by
 obtain ⟨G,hM⟩:=an1;exact Xl (G:=G) (amn hM) (ts:=Tryz.f11.params.toList) shapes hl (fun j t v h1 h2=>hv j t v (by simpa using h1) h2) ht hlen
theorem fits: ∀t∈Tryz.f11.params.toList,Tryz.prog.readableRec t=true/\t<Tryz.prog.types.size:=by
 have h:(Tryz.f11.params.toList.all fun t=>Tryz.prog.readableRec t&&decide (t<Tryz.prog.types.size))=true:=by kernel_rfl
 intro t ht;have:=List.all_eq_true.1 h t ht
 simpa using this
theorem third:Tryz.f11.params.toList=[22,23,24]:=by kernel_rfl
theorem under0:Tryz.prog.underlying 22=some (.slice 57)/\Tryz.prog.bytesOf 57=40:=by
 exact ⟨by kernel_rfl,by kernel_rfl⟩
theorem under2:Tryz.prog.underlying 24=some (.slice 31)/\Tryz.prog.bytesOf 31=4:=by
 exact ⟨by kernel_rfl,by kernel_rfl⟩
theorem lifted(os:Os)(started:os.Started)(H:Type)(enc:TypeId×Value->H):
 ReturnsInHanded {} Tryz.checked os 11 .any (Rows.boardRestoresSpec.pre6 enc Tryz.prog Tryz.f11 Rows.boardRestoresRow.domain false) (Rows.boardRestoresSpec.post enc Tryz.prog Tryz.f11 false true false false):=by
 refine returnsInHanded_of_change_sized (C:=Tryz.checked) own started (by kernel_rfl) Tryz.func11
  (ChangeSpec.witness6 (enc:=enc) (C:=Tryz.checked) false ⟨#[],#[.slice none 0 0,.agg #[.int .i64 0,.int .i64 0,.int .i64 0,.int .i64 0],.slice none 0 0],[]⟩ 8 (by kernel_rfl) (by kernel_rfl) (by kernel_rfl) (by kernel_rfl)) ?_
 intro W base args ds gs before hval0 hW hcnd hsz _;have hval: ∀(j:Nat) t v,Tryz.f11.params[j]? =some t->args[j]? =some v->Value.okWide Tryz.prog W .any base t v:=hval0;have hW':DataW.Whole enc Tryz.prog Tryz.f11.params.toList Rows.boardRestoresSpec.vars false W args.toList ds gs before:=hW
 have hlen:args.size=Tryz.f11.params.toList.length/\ds.length=Tryz.f11.params.toList.length:=by
  obtain ⟨p,q,hA,_⟩:=hW';have:=Ov _ _ _ _ hA
  simpa using this
 have hgs:gs=[]:=by
  obtain ⟨p,q,_,hV,_⟩:=hW';exact (trodVars_none hV).1
 subst hgs;obtain ⟨p,q,hA,hrest⟩:=hW';have hl3:ds.length=3:=hlen.2;have ha3:args.size=3:=hlen.1
 have hb: ∀(j:Nat) a (n c:Nat),j≠1->args[j]? =some (.slice a n c)->(n:Int)<=70368744177664:=by
  have hA':=hA;rw [third] at hA';have hsz':=hsz;rw [third] at hsz';exact X9 (P:=Tryz.prog) hA' under0.1 under0.2 under2.1 under2.2 hsz'
 refine (walk ha3 hval hA hb).mono fun e W' ⟨he,hb⟩=> ?_
 refine ⟨_,he,YC (tb:=4) laidOut fits (by kernel_rfl) (by kernel_rfl) rfl ⟨p,q,hA,hrest⟩ ?_ hb⟩
 match ds,hl3 with
 | [d0,d1,d2],_=>rfl
theorem an{a b:Bool}(ha:a=true)(hb:b=true):(a&&b)=true:=by rw [ha,hb]; rfl
theorem joined:joinedFacts Tryz.prog 11 Tryz.f11 Rows.boardRestoresSpec Rows.boardRestoresRow=true:=by
 unfold joinedFacts;exact (an (an (an (an (an (an (an (an (an (an (an (an (an (an (an (an (an (an (an (an (an (an (an (an (an (an (an (an (an (an (an (by kernel_rfl) laidOut) f_mapsRowed) (by kernel_rfl)) (by kernel_rfl)) (by kernel_rfl)) (by kernel_rfl)) (by kernel_rfl)) (by kernel_rfl)) f_inPlace) f_unfollowed) f_recurses) f_named) (by kernel_rfl)) (by kernel_rfl)) (by kernel_rfl)) (by kernel_rfl)) (by kernel_rfl)) (by kernel_rfl)) (by kernel_rfl)) (by kernel_rfl)) (by kernel_rfl)) (by kernel_rfl)) (by kernel_rfl)) f_stopsHeard) f_mayEnter) (by kernel_rfl)) (by kernel_rfl)) (by kernel_rfl)) (by kernel_rfl)) (by kernel_rfl)) (by kernel_rfl))
theorem over:Rows.boardRestoresRow.holds Tryz.pinned (OpenSpec.ofChange Rows.boardRestoresSpec):=
 OpenClaim.holds_of_wide 11 Tryz.f11 rfl rfl rfl rfl rfl rfl rfl ⟨rfl,rfl,rfl,rfl,rfl⟩ rfl rfl rfl rfl rfl (by kernel_rfl) Tryz.func11 joined
  (of_decide_eq_true (by kernel_rfl)) (by unfold Func.isWrapper; first | (rw [if_pos (by decide +kernel)]; kernel_rfl) | (rw [if_neg (by decide +kernel)]; exact ⟨rfl,rfl⟩))
  (fun os started H enc _=>lifted os started H enc)
theorem proved:Rows.BoardRestoresSaid:=over
end
end Go.Proofs.YtbhlmedfhilkbaaGreat.restores
