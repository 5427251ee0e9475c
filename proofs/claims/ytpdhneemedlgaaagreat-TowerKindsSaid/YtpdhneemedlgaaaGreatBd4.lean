/- Part Bd4. No condition. -/
import Derived.Test.YtpdhneemedlgaaaGreatBd1
set_option linter.all false
namespace Go.Proofs.YtpdhneemedlgaaaGreat
open Go Go.Sx
set_option maxRecDepth 1000000
noncomputable section
def stM:IE:= .fn 30 (.var 0) (.var 1) (.var 2)
def Sp:BE:= .eq dE (.var 2)
def pR(k:Nat):Con:=rp k 484 [uV .u32 1,uV .u8 2] [bC 1,u8B 2] (.tuple []) stM
def sD(k:Nat)(v:Bool):Con:={pR k with pre:=[(Sp,v)]}
def pD(pe:IE):IE:= .fn 10 (.var 0) pe (.lit 0)
def pC(pe:IE):IE:= .fn 11 (.var 0) pe (.lit 0)
def cp(e:IE):IE:= .fn 4 e (.lit 256) (.lit 4)
def Wr.data(k:Nat)(pe:IE)(dd:IE->IE):Wr:=⟨fun coh od oc=>match coh,od with
 |true,true=>[.cells (jy true) (gK k) false 2,.win pe 7 (bu 2 3 true true oc (rE pe)) slT true,.arr [.u8] (dd (pD pe)) (.lit 256) true]
 |true,false=>[.cells (jy true) (gK k) false 2,.win pe 7 (bu 3 3 true true oc (rE pe)) slT true,.arr [.u8] (pD pe) (.lit 256) false,.arr [.u8] (dd (cp (pD pe))) (.lit 256) true]
 |false,true=>[.cells (jy false) (gK k) false 2,.win pe 7 (bu 2 3 false true oc (rE pe)) slT true,.arr [.u8] (dd (pD pe)) (.lit 256) true,.arr [.u8] (pC pe) (.lit 256) oc]
 |false,false=>[.cells (jy false) (gK k) false 2,.win pe 7 (bu 4 3 false true oc (rE pe)) slT true,.arr [.u8] (pD pe) (.lit 256) false,.arr [.u8] (pC pe) (.lit 256) oc,.arr [.u8] (dd (cp (pD pe))) (.lit 256) true],
 fun coh od oc=>{i:=match od,coh with |true,_=>2 |false,true=>3 |false,false=>4,od:=true,oc:=oc,d:=match od with |true=>dd (pD pe) |false=>dd (cp (pD pe)),c:=pC pe,r:=rE pe}⟩
theorem FJ(k:Nat)(pe:IE)(d:IE->IE):te k pe (Wr.data k pe d):=by
 intro coh od oc;cases coh<;>cases od<;>cases oc<;>exact ⟨rfl,rfl,fun h=>by first | (cases h; done) |rfl,by first |exact (show 3<=1000 by decide) |exact (show 4<=1000 by decide) |exact (show 5<=1000 by decide),.inl rfl,fun _=>by first |exact .inl rfl |exact .inr ⟨rfl,rfl⟩,fun h=>by first | (cases h; done) |exact (show (2:Nat)≠3 by decide) |exact (show (4:Nat)≠3 by decide)⟩
def stD(e:IE):IE:= .fn 1 e MQ (.var 2)
theorem ab3:dz (sD 0 true) 0 pgE [] [] [] (Wr.read 0 pgE)=true:=by kernel_rfl
theorem ab7:dz (sD 1 true) 1 pgE [] [] [] (Wr.read 1 pgE)=true:=by kernel_rfl
theorem Zz:dz (sD 0 false) 0 pgE [] [] [] (Wr.data 0 pgE stD)=true:=by kernel_rfl
theorem YS:dz (sD 1 false) 1 pgE [] [] [] (Wr.data 1 pgE stD)=true:=by kernel_rfl
section
variable{G:Nat->Int->Int->Int->Int}(hG:cX G)
include hG
theorem uO{ρ:Env}(h1:ρ.std G gh){pe:IE}{p:Nat}(hp:pe.ev ρ=p):(pD pe).ev ρ=pgD (ρ.i 0) p:=by
 show fnI ρ 10 (ρ.i 0) (pe.ev ρ) 0=_;rw [cj hG h1 (by decide) (by decide),hp]
 rfl
theorem DE{ρ:Env}(h1:ρ.std G gh){pe:IE}{p:Nat}(hp:pe.ev ρ=p):(pC pe).ev ρ=pgC (ρ.i 0) p:=by
 show fnI ρ 11 (ρ.i 0) (pe.ev ρ) 0=_;rw [cj hG h1 (by decide) (by decide),hp]
 rfl
omit hG in
theorem _root_.Go.Sx.b8.alike{M M' D D' C R:Int}{p:Nat}(h:b8 M M' p D C R)(hd: ∀j:Nat,j<256->ag D' j=ag D j):b8 M M' p D' C R:=
 ⟨h.n,h.coh,h.other,h.rights,fun j hj=>(h.d j hj).trans (hd j hj).symm,h.c,h.r,h.k⟩
theorem OM{ρ:Env}(h1:ρ.std G gh){pe:IE}{p:Nat}(hm:bn (ρ.i 0))(hp:pe.ev ρ=p)(hlt:p<(mN (ρ.i 0)).toNat)(j:Nat)(hj:j<256):ag ((cp (pD pe)).ev ρ) j=ag (pgD (ρ.i 0) p) j:=by
 show ag (qS ((pD pe).ev ρ) 256 4) j=_;rw [uB _ _ _ _ (by simpa using hj),uO hG h1 hp,fe _ _ _ hj]
 exact cZ (hm.d p j hlt hj)
theorem PT{ρ:Env}(h1:ρ.std G gh):stM.ev ρ=stS (ρ.i 0) (ρ.i 1) (ρ.i 2):=by
 show fnI ρ 30 (ρ.i 0) (ρ.i 1) (ρ.i 2)=_;rw [cj hG h1 (by decide) (by decide)]
 rfl
theorem JT{ρ:Env}(h1:ρ.std G gh)(h2:ρ.ok (bdL [bC 1]))(hb:isByte (ρ.i 2))(hm:bn (ρ.i 0)){p:Nat}(hp:pgE.ev ρ=p)(hlt:p<(mN (ρ.i 0)).toNat):
 b8 (ρ.i 0) (stM.ev ρ) p (aD (pgD (ρ.i 0) p) (ρ.i 1 % 256) (ρ.i 2)) (pgC (ρ.i 0) p) (mR (ρ.i 0) p):=by
 obtain ⟨q1,_,q3⟩:=c8 h2 rfl;obtain ⟨n,hn⟩:=Int.eq_ofNat_of_zero_le q1;have hpn:p=n / 256:=by rw [q3,hn] at hp; omega
 rw [PT hG h1];unfold stS;rw [AD h2 (by rw [hp]; omega),hn]
 subst hpn;have:=Ji (b:=ρ.i 2) (n:=n) hm hlt hb;rw [show ((n:Int)*4)=((4*n:Nat):Int) by omega,show ((n:Int) % 256)=((n % 256:Nat):Int) by omega]
 exact this
theorem Bs{k:Nat}(hk:k<2):(pR k).Ok PR G gh:=by
 have pos: ∀ {ρ:Env},ρ.ok (bdL [bC 1,u8B 2])->ρ.ok (bdL [bC 1])/\isByte (ρ.i 2):=fun {ρ} h=>by
  refine ⟨fun i lo hi hb=> ?_,h 2 0 255 rfl⟩
  by_cases hi1:i=1
  ·subst hi1; exact h 1 lo hi hb
  ·have:bdL [bC 1] i=none:=by
    unfold bdL bC
    have:Nat.beq 1 i=false:=by
     cases h:Nat.beq 1 i
     ·rfl
     ·exact absurd (Nat.eq_of_beq_eq_true h).symm hi1
    simp [this,bdL]
   rw [this] at hb;cases hb
 have pp: ∀ {ρ:Env},ρ.ok (bdL [bC 1,u8B 2])->0<=pgE.ev ρ:=fun {ρ} h=>by
  obtain ⟨q1,_,q3⟩:=c8 (pos h).1 rfl;rw [q3];omega
 have same: ∀ {ρ:Env},ρ.std G gh->ρ.ok (bdL [bC 1,u8B 2])->mN (ρ.i 0)<=pgE.ev ρ->stM.ev ρ=ρ.i 0:=fun {ρ} h1 h2 hin=>by
  rw [PT hG h1];unfold stS;rw [CI (pos h2).1 hin];rfl
 refine Con.split (b:=Sp) ?_ ?_
 ·refine nQ (c:=sD k true) hG hk rfl rfl rfl rfl pgE [] bO.nil [] [] (Wr.read k pgE) (ui k pgE) (fun ρ h2 h3=>pp h2) (fun ρ h1 h2 h3 hin=>ct) (fun ρ h1 h2 h3 hin=>ct) (fun ρ h1 h2 h3 hm hin=>same h1 h2 hin) (fun coh od oc ρ h1 h2 h3 hm hc p hp hlt=> ?_) (two (p:=fun k=>dz (sD k true) k pgE [] [] [] (Wr.read k pgE)=true) ab3 ab7 hk)
  have hs:=JT hG h1 (pos h2).1 (pos h2).2 hm hp hlt;show b8 (ρ.i 0) (stM.ev ρ) p ((pD pgE).ev ρ) ((pC pgE).ev ρ) ((rE pgE).ev ρ);rw [uO hG h1 hp,DE hG h1 hp,oY hp (hm.r p hlt)];have ht:dE.ev ρ=ρ.i 2:=of_decide_eq_true (h3 (Sp,true) (by simp [sD]))
  rw [Qy hG h1 (pos h2).1] at ht;obtain ⟨q1,_,q3⟩:=c8 (pos h2).1 rfl
  have hd:ag (pgD (ρ.i 0) p) (ρ.i 1 % 256)=ρ.i 2:=by
   have:=(AQ (M:=ρ.i 0) q1).1;rw [q3] at hp;rw [show (ρ.i 1 / 256).toNat=p by omega] at this
   rw [this]
   have hb:isByte (ag (ρ.i 0) (ρ.i 1*4)):=by
    obtain ⟨n,hn⟩:=Int.eq_ofNat_of_zero_le q1;have:=hm.d p (n % 256) hlt (Nat.mod_lt _ (by decide))
    unfold mD at this;rw [hn,show ((n:Int)*4)=((4*(256*p+n % 256):Nat):Int) by omega]
    exact this
   rw [cZ hb] at ht;exact ht
  obtain ⟨n,hn⟩:=Int.eq_ofNat_of_zero_le (Int.emod_nonneg (ρ.i 1) (show (256:Int)≠0 by decide))
  rw [hn] at hs hd;have hz:=iq (d:=pgD (ρ.i 0) p) (by unfold pgD; omega) n
  rw [hd] at hz;rw [hz] at hs;exact hs
 ·refine nQ (c:=sD k false) hG hk rfl rfl rfl rfl pgE [] bO.nil [] [] (Wr.data k pgE stD) (FJ k pgE stD) (fun ρ h2 h3=>pp h2) (fun ρ h1 h2 h3 hin=>ct) (fun ρ h1 h2 h3 hin=>ct) (fun ρ h1 h2 h3 hm hin=>same h1 h2 hin) (fun coh od oc ρ h1 h2 h3 hm hc p hp hlt=> ?_) (two (p:=fun k=>dz (sD k false) k pgE [] [] [] (Wr.data k pgE stD)=true) Zz YS hk)
  have hs:=JT hG h1 (pos h2).1 (pos h2).2 hm hp hlt;obtain ⟨q1,_,q3⟩:=c8 (pos h2).1 rfl;have ho:MQ.ev ρ=ρ.i 1 % 256:=CR q1;cases od
  ·show b8 (ρ.i 0) (stM.ev ρ) p (aD ((cp (pD pgE)).ev ρ) (MQ.ev ρ) (ρ.i 2)) ((pC pgE).ev ρ) ((rE pgE).ev ρ);rw [DE hG h1 hp,oY hp (hm.r p hlt),ho];refine hs.alike fun j hj=> ?_
   obtain ⟨m,hm'⟩:=Int.eq_ofNat_of_zero_le (Int.emod_nonneg (ρ.i 1) (show (256:Int)≠0 by decide))
   rw [hm',cF (pos h2).2,cF (pos h2).2,OM hG h1 hm hp hlt j hj]
  ·show b8 (ρ.i 0) (stM.ev ρ) p (aD ((pD pgE).ev ρ) (MQ.ev ρ) (ρ.i 2)) ((pC pgE).ev ρ) ((rE pgE).ev ρ);rw [uO hG h1 hp,DE hG h1 hp,oY hp (hm.r p hlt),ho];exact hs
end
section
variable{G:Nat->Int->Int->Int->Int}(hG:cX G)
include hG
end
end
end Go.Proofs.YtpdhneemedlgaaaGreat
