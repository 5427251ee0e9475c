/- Part Tkinds. No condition. -/
import Derived.Test.YtpdhneemedlgaaaGreatTw7
import Derived.Test.YtpdhneemedlgaaaGreatTkindsfa
set_option linter.all false
namespace Go.Proofs.YtpdhneemedlgaaaGreat.tkinds
open Go Go.Sx Go.ChangeShapes Go.WideShapes Go.ChangeAt Go.RowKit
set_option maxRecDepth 1000000
noncomputable section
theorem own:ownKnob Tryz.prog.godebug=none:=by kernel_rfl
theorem laidOut:laidOutB Tryz.prog=true:=by kernel_rfl
theorem shapes:mG PR Tryz.f3.params.toList Eu=true:=by kernel_rfl
theorem walk{W:World}{base:Nat}{args:Array Value}(hl:args.size=Tryz.f3.params.toList.length)(hv: ∀(j:Nat) t v,Tryz.f3.params[j]? =some t->args[j]? =some v->Value.okWide Tryz.prog W .any base t v):
 Calls Tryz.prog 3 args W fun e w'=>e= .returned (.bool true)/\Below W.heap.size W w':=by
 exact D3 shapes hl (fun j t v h1 h2=>hv j t v (by simpa using h1) h2)
theorem fits: ∀t∈Tryz.f3.params.toList,Tryz.prog.readableRec t=true/\t<Tryz.prog.types.size:=by
 have h:(Tryz.f3.params.toList.all fun t=>Tryz.prog.readableRec t&&decide (t<Tryz.prog.types.size))=true:=by kernel_rfl
 intro t ht;have:=List.all_eq_true.1 h t ht
 simpa using this
theorem lifted(os:Os)(started:os.Started)(H:Type)(enc:TypeId×Value->H):
 ReturnsInHanded {} Tryz.checked os 3 .any (Rows.towerKindsSpec.pre6 enc Tryz.prog Tryz.f3 Rows.towerKindsRow.domain false) (Rows.towerKindsSpec.post enc Tryz.prog Tryz.f3 false true false false):=by
 refine returnsInHanded_of_change (C:=Tryz.checked) own started (by kernel_rfl) Tryz.func3
  (ChangeSpec.witness6 (enc:=enc) (C:=Tryz.checked) false ⟨#[],#[.int .i64 0,.int .i64 0,.agg #[.int .u8 0,.int .u8 0,.int .u8 0,.int .u8 0,.int .u8 0]],[]⟩ 8 (by kernel_rfl) (by kernel_rfl) (by kernel_rfl) (by kernel_rfl)) ?_
 intro W base args ds gs before hval0 hW hcnd _;have hval: ∀(j:Nat) t v,Tryz.f3.params[j]? =some t->args[j]? =some v->Value.okWide Tryz.prog W .any base t v:=hval0;have hW':DataW.Whole enc Tryz.prog Tryz.f3.params.toList Rows.towerKindsSpec.vars false W args.toList ds gs before:=hW
 have hlen:args.size=Tryz.f3.params.toList.length/\ds.length=Tryz.f3.params.toList.length:=by
  obtain ⟨p,q,hA,_⟩:=hW';have:=Ov _ _ _ _ hA
  simpa using this
 have hgs:gs=[]:=by
  obtain ⟨p,q,_,hV,_⟩:=hW';exact (trodVars_none hV).1
 subst hgs;refine (walk hlen.1 hval).mono fun e W' ⟨he,hb⟩=> ?_
 refine ⟨_,he,YC (tb:=4) laidOut fits (by kernel_rfl) (by kernel_rfl) rfl hW' ?_ hb⟩
 have hl2:ds.length=3:=hlen.2
 match ds,hl2 with
 | [d1,d2,d3],_=>rfl
theorem an{a b:Bool}(ha:a=true)(hb:b=true):(a&&b)=true:=by rw [ha,hb]; rfl
theorem joined:joinedFacts Tryz.prog 3 Tryz.f3 Rows.towerKindsSpec Rows.towerKindsRow=true:=by
 unfold joinedFacts;exact (an (an (an (an (an (an (an (an (an (an (an (an (an (an (an (an (an (an (an (an (an (an (an (an (an (an (an (an (an (an (an (by kernel_rfl) laidOut) f_mapsRowed) (by kernel_rfl)) (by kernel_rfl)) (by kernel_rfl)) (by kernel_rfl)) (by kernel_rfl)) (by kernel_rfl)) f_inPlace) f_unfollowed) f_recurses) f_named) (by kernel_rfl)) (by kernel_rfl)) (by kernel_rfl)) (by kernel_rfl)) (by kernel_rfl)) (by kernel_rfl)) (by kernel_rfl)) (by kernel_rfl)) (by kernel_rfl)) (by kernel_rfl)) (by kernel_rfl)) f_stopsHeard) f_mayEnter) (by kernel_rfl)) (by kernel_rfl)) (by kernel_rfl)) (by kernel_rfl)) (by kernel_rfl)) (by kernel_rfl))
theorem over:Rows.towerKindsRow.holds Tryz.pinned (OpenSpec.ofChange Rows.towerKindsSpec):=
 OpenClaim.holds_of_wide 3 Tryz.f3 rfl rfl rfl rfl rfl rfl rfl ⟨rfl,rfl,rfl,rfl,rfl⟩ rfl rfl rfl rfl rfl (by kernel_rfl) Tryz.func3 joined
  (of_decide_eq_true (by kernel_rfl)) (by unfold Func.isWrapper; first | (rw [if_pos (by decide +kernel)]; kernel_rfl) | (rw [if_neg (by decide +kernel)]; exact ⟨rfl,rfl⟩))
  (fun os started H enc _=>lifted os started H enc)
theorem proved:Rows.TowerKindsSaid:=over
end
end Go.Proofs.YtpdhneemedlgaaaGreat.tkinds
