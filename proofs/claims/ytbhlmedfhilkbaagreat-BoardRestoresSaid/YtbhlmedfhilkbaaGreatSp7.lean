/- Part Sp7. No condition. -/
import Derived.Test.YtbhlmedfhilkbaaGreatSp2
set_option linter.all false
namespace Go.Proofs.YtbhlmedfhilkbaaGreat
open Go Go.Sx
set_option maxRecDepth 1000000
noncomputable section
def xSQ(w:IE):IE:=uS [.var 0,.var 90,w,.lit 0,.var 24,.lit 0,.var 25,.lit 0,.lit 0,.lit 0,.lit 0,.lit 0]
def aey(coh:Bool)(w:IE)(k:IntKind)(j:Nat):IE:=dX (FB coh).KR (xSQ w) k j
def aeu(coh:Bool)(w:IE)(j:Nat):IE:=vX (FB coh).KV (xSQ w) j
def r9S(coh:Bool)(w:IE):IE:= .rem (aey coh w .u8 25) (.lit 9)
def afg(coh:Bool)(w:IE):IE:= .sel true (.var 25) (r9S coh w) (.var 25) (r9S coh w)
def aex(coh:Bool)(w:IE):IE:= .rem (aey coh w .u32 27) (.lit 1002001)
def afs(coh:Bool)(w:IE):IE:= .fn 1 (.fn 1 (aeu coh w 24) (.lit 3) (hE 3)) (.lit 7) (hE 7)
def w3:IE:= .var 3
def spB:List (Nat×Int×Int):=[(3,0,100),(4,0,100),(25,0,8)]
section
variable{G:Nat->Int->Int->Int->Int}
theorem aei{ρ:Env}(h1:ρ.std G gh)(coh:Bool)(X:IE)(k:IntKind)(j:Nat):(dX (FB coh).KR X k j).ev ρ=DX G (FB coh) (X.ev ρ) k j:=by
 show k.wrap (ag (fnI ρ (FB coh).KR (X.ev ρ) 0 0) _)=_;rw [bY (by cases coh<;>decide),h1.1]
 rfl
theorem aew{ρ:Env}(h1:ρ.std G gh)(coh:Bool)(X:IE)(j:Nat):(vX (FB coh).KV X j).ev ρ=G (FB coh).KV (X.ev ρ) 0 (j:Nat):=by
 show fnI ρ (FB coh).KV (X.ev ρ) 0 _=_;rw [bY (by cases coh<;>decide),h1.1]
 rfl
variable(hG:RunG G)
include hG
end
def ahn:IE:= .rem (.add (.rem (.var 20) (.lit 40)) (.lit 40)) (.lit 40)
def ag6:IE:= .rem (.add (.rem (.var 21) (.lit 60)) (.lit 60)) (.lit 60)
def σSp(coh l:Bool):Nat->IE:=fun i=>match i with
 |0=>mL coh
 |90=>afm coh
 |3=>ahn
 |4=>ag6
 |24=> .var 24
 |25=>PG l
 |i=> .var i
end
end Go.Proofs.YtbhlmedfhilkbaaGreat
