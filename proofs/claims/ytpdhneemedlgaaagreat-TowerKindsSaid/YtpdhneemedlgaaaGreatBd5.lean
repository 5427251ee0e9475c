/- Part Bd5. No condition. -/
import Derived.Test.YtpdhneemedlgaaaGreatBd4
set_option linter.all false
namespace Go.Proofs.YtpdhneemedlgaaaGreat
open Go Go.Sx
set_option maxRecDepth 1000000
noncomputable section
def okI(i:Nat)(r:Int)(x y:IE):IE:= .sel false (.fn 22 (.var 0) (adE i) (.lit r)) (.lit 1) x y
def eO(r:Int):Nat->Nat->IE
 |_,0=> .lit 1
 |i,n+1=>okI i r (eO r (i+1) n) (.lit 0)
section
variable{G:Nat->Int->Int->Int->Int}(hG:cX G)
omit hG in
theorem tO{ρ:Env}(h2:ρ.ok (bdL [bC 1])): ∀i:Nat,(adE i).ev ρ=ad (ρ.i 1) i/\0<=ad (ρ.i 1) i/\ad (ρ.i 1) i<=4294967295:=by
 intro i;have hm:=wrap_mem .u32 (ρ.i 1+i);refine ⟨?_,hm.1,hm.2⟩;obtain ⟨q1,q2,_⟩:=c8 h2 rfl
 match i with
 |0=>
  show ρ.i 1=IntKind.u32.wrap (ρ.i 1+((0:Nat):Int));rw [show ρ.i 1+((0:Nat):Int)=ρ.i 1 by omega]
  exact (bI .u32 _ q1 q2).symm
 |i+1=>rfl
include hG
theorem ta{ρ:Env}(h1:ρ.std G gh)(h2:ρ.ok (bdL [bC 1]))(i:Nat)(r:Int)(x y:IE):(okI i r x y).ev ρ=if okS (ρ.i 0) (ad (ρ.i 1) i) r=true then x.ev ρ else y.ev ρ:=by
 show aA false ((IE.fn 22 (.var 0) (adE i) (.lit r)).ev ρ) 1 (x.ev ρ) (y.ev ρ)=_;rw [FX hG h1,(tO h2 i).1];simp only [aA,Iz];rfl
end
section
variable{G:Nat->Int->Int->Int->Int}(hG:cX G)
include hG
end
end
end Go.Proofs.YtpdhneemedlgaaaGreat
