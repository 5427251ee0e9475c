/- Part Kr8. No condition. -/
import Derived.Test.YtbhlmedfhilkbaaGreatKs6
import Derived.Test.YtbhlmedfhilkbaaGreatMr4
set_option linter.all false
namespace Go.Proofs.YtbhlmedfhilkbaaGreat
open Go Go.Sx
set_option maxRecDepth 1000000
noncomputable section
theorem cJ{k i n m:Nat}(hm:m=i+n)(h:jc k i n=true)(t:((bm k).drop m).all tB=true):((bm k).drop i).all tB=true:=by
 subst hm;have e:=List.take_append_drop n ((bm k).drop i);rw [<- e,List.all_append,List.drop_drop,t];unfold jc at h;rw [h];rfl
theorem lD{k m:Nat}(h:Nat.ble (bm k).length m=true):((bm k).drop m).all tB=true:=by
 rw [List.drop_eq_nil_of_le (Nat.le_of_ble_eq_true h)];rfl
theorem lX{k:Nat}(h:((bm k).drop 0).all tB=true):(bm k).all tB=true:=by
 rw [List.drop_zero] at h;exact h
theorem YO:Nat.ble (bm 0).length 15=true:=by kernel_rfl
theorem aao:Nat.ble (bm 1).length 15=true:=by kernel_rfl
theorem Y0:Nat.ble (bm 2).length 15=true:=by kernel_rfl
theorem aci:Nat.ble (bm 3).length 7=true:=by kernel_rfl
theorem ab4:Nat.ble (bm 4).length 4=true:=by kernel_rfl
theorem Zi:Nat.ble (bm 5).length 3=true:=by kernel_rfl
theorem Zy:Nat.ble (bm 6).length 30=true:=by kernel_rfl
theorem YK:(bm 0).all tB=true:=lX (cJ (m:=15) rfl WZ (lD YO))
theorem aac:(bm 1).all tB=true:=lX (cJ (m:=15) rfl WT (lD aao))
theorem ZK:(bm 2).all tB=true:=lX (cJ (m:=15) rfl W6 (lD Y0))
theorem YP:(bm 3).all tB=true:=lX (cJ (m:=1) rfl XR (cJ (m:=2) rfl WX (cJ (m:=3) rfl YA (cJ (m:=4) rfl Yq (cJ (m:=5) rfl XP (cJ (m:=6) rfl W8 (cJ (m:=7) rfl Wx (lD aci))))))))
theorem Ze:(bm 4).all tB=true:=lX (cJ (m:=1) rfl Ww (cJ (m:=2) rfl Yr (cJ (m:=3) rfl Wt (cJ (m:=4) rfl Yv (lD ab4)))))
theorem aat:(bm 5).all tB=true:=lX (cJ (m:=1) rfl Yp (cJ (m:=2) rfl Yg (cJ (m:=3) rfl Xm (lD Zi))))
theorem aa9:(bm 6).all tB=true:=lX (cJ (m:=6) rfl Xn (cJ (m:=12) rfl Xp (cJ (m:=18) rfl SG (cJ (m:=24) rfl Sy (cJ (m:=30) rfl UP (lD Zy))))))
theorem XW: ∀n∈jv,((kKr n).cons.all Con.wf&&(tKr n).all (j0.cQ (EO da 27) (tKs n)) (Vf n++j0.pre))=true:=by
 intro n hn;simp only [jv,List.mem_append] at hn
 rcases hn with hn |hn |hn |hn |hn |hn |hn
 ·exact List.all_eq_true.1 YK n hn
 ·exact List.all_eq_true.1 aac n hn
 ·exact List.all_eq_true.1 ZK n hn
 ·exact List.all_eq_true.1 YP n hn
 ·exact List.all_eq_true.1 Ze n hn
 ·exact List.all_eq_true.1 aat n hn
 ·exact List.all_eq_true.1 aa9 n hn
section
variable{G:Nat->Int->Int->Int->Int}(hB:cX G)(hF:FK.Def G gP)(hS:FKS.Def G sM)
include hB hF
theorem Xf(n:Int)(hw:(kKr n).cons.all Con.wf=true):(kKr n).Ok PR G gh:=bB hw (aJ (Pu hB hF n) (aJ (qG hB (.inl rfl)) (aJ (qG hB (.inr rfl)) (aJ (nI hB (.inl rfl)) (aJ (nI hB (.inr rfl)) (aJ (IY (fun k a b=>hB 40 (by decide) k a b)) (aJ Uw dj)))))))
include hS
theorem IJ:j0.Ok PR G gh:=by
 intro ρ h1 h2 h3;have hin:=rT hF h1;obtain ⟨hw,h⟩:=Bool.and_eq_true_iff.1 (XW _ hin);have hf:(Vf (kj.ev ρ)).holds ρ:=aR aw (decide_eq_true rfl);obtain ⟨e,s,dec',hd',p1,p2⟩:=Out.bP (bJ hf h3) h;unfold Con.cQ at p2;split at p2
 ·rename_i q hq;refine Con.ig (dh PR j0.g) (fun B W=>(Con.dJ mixed (Xf hB hF _ hw) h1 h2 h3 hf p1 B W).toR) hq (nq h2 hd' p2 fun x' s' m hp hm=> ?_)
  obtain ⟨x2,s2,q2,a1,a2,a3⟩:=Wh hF hS h1 (ρ:=ρ) h2;rw [iA hin,hp] at a1;cases a1;exact yk a2 a3 hm
 ·cases p2
end
def FRK:Fns:=⟨134,135,[0,90,2,3]⟩
def nH(l:List ab)(j:Nat):ah:= .cells (aX (.ptr (some (j,0))::l) 0) 172 true 25
def nd(l:List ab)(j:Nat):ah:= .cells (aX (l++[.ptr (some (j,0))]) 0) 138 true 25
def stO:ah:= .cells (aX (b9 (.var 90)) 0) 35 true 24
def ld:ah:= .arr [] (.lit 0) (.lit 0) true
def xP:Con:={g:=225,args:=[pm,.int .i64 (.var 3),.ptr (some (2,0)),.ptr (some (3,0)),.int .i64 (.var 2)],os:=[nH (b9 (.var 90)) 1,dZ 0 (.var 0),JD,stO],bds:=zn,res:= .tuple [.ptr (some (2,0))],os':=[nH (dgL FRK aW 0) 1,.ghost 0 [kvE FRK 24] .nil,K6 FRK 25,ld]}
def z9:ba:={con:=xP,key:=5,n:=47,sl:=[0,1,4,5,6],e:= .ret,sl':=[4]}
def OJ:Know:=⟨[da],[]⟩
def R5:Out:=z9.tree PR OJ 20 aG no' 12 [] μR
def xv:Con:={g:=99,args:=[pm,.int .i64 (.var 3),.ptr (some (2,0)),.int .i64 (.var 2)],os:=[nd (b9 (.var 90)) 1,dZ 2 (.var 0),JD],bds:=zn,res:= .tuple [.ptr (some (2,0))],os':=[nd (dgL FRK aW 0) 1,.ghost 2 [kvE FRK 24] .nil,K6 FRK 25]}
def tL:ba:={con:=xv,key:=4,n:=53,sl:=[0,1,4,5],e:= .ret,sl':=[4]}
def GN:Know:=⟨[j0],[]⟩
def Ia:Out:=tL.tree PR GN 20 aG no' 12 [] μR
theorem yI:(R5.all (xP.gG FRK (jQ FKS)) []&&(Ia.all (xv.gG FRK (jQ FKS)) []&&((jQ FKS).rt.only (bR FRK.vars) 134&&(xP.wf&&(xv.wf&&(OJ.cons.all Con.wf&&GN.cons.all Con.wf))))))=true:=by kernel_rfl
def i7:Con:={g:=225,args:=[pm,.int .i64 (.var 3)],os:=[nH (b9 (.var 90)) 1,dZ 0 (.var 0)],bds:=Ll,res:=Kz FRK,os':=[nH (dXL 134 x0 aW 0) 1,.ghost 0 [vX 135 x0 24] .nil]}
def fy:Con:={g:=99,args:=[pm,.int .i64 (.var 3)],os:=[nd (b9 (.var 90)) 1,dZ 2 (.var 0)],bds:=Ll,res:=Kz FRK,os':=[nd (dXL 134 x0 aW 0) 1,.ghost 2 [vX 135 x0 24] .nil]}
theorem zS:(T6 i7 z9&&(T6 fy tL&&(i7.wf&&fy.wf)))=true:=by kernel_rfl
section
variable{G:Nat->Int->Int->Int->Int}(hB:cX G)(hF:FK.Def G gP)(hS:FKS.Def G sM)(hR:FRK.Def G (jQ FKS).rt)
include hB hF hS hR
theorem Ek:z9.con.wf=true/\z9.Ok PR G gh:=by
 have f:=aa yI;have f3:=aa (aa (aa f.2).2).2;have h:xP.Leaves G gh R5:=Con.lj (c:=xP) [] (fun _ _ _ _=>aw) (F:=FRK) (by decide) (t:=jQ FKS) f.1 hR
 unfold R5 at h;have w:z9.con.wf=true:=f3.1;exact ⟨w,ba.f6 (c:=z9) mixed (K:=OJ) (bB (aa (aa f3.2).2).1 (aJ (LN hB hF hS) dj)) w rfl (L:=20) (pol:=aG) (pure:=no') (d:=12) (μ:=μR) (facts:=[]) (fun _ _ _ _=>aw) h⟩
theorem zJ:tL.con.wf=true/\tL.Ok PR G gh:=by
 have f:=aa yI;have f3:=aa (aa (aa f.2).2).2;have h:xv.Leaves G gh Ia:=Con.lj (c:=xv) [] (fun _ _ _ _=>aw) (F:=FRK) (by decide) (t:=jQ FKS) (aa f.2).1 hR
 unfold Ia at h;have w:tL.con.wf=true:=(aa f3.2).1;exact ⟨w,ba.f6 (c:=tL) mixed (K:=GN) (bB (aa (aa f3.2).2).2 (aJ (IJ hB hF hS) dj)) w rfl (L:=20) (pol:=aG) (pure:=no') (d:=12) (μ:=μR) (facts:=[]) (fun _ _ _ _=>aw) h⟩
theorem OC:i7.wf=true/\i7.Ok PR G gh:=by
 have h:=zS;simp only [Bool.and_eq_true] at h;exact ⟨h.2.2.1,bA (ia rfl dj (lpC (Ek hB hF hS hR).1 (Ek hB hF hS hR).2 lpN)) h.1⟩
theorem Lt:fy.wf=true/\fy.Ok PR G gh:=by
 have h:=zS;simp only [Bool.and_eq_true] at h;exact ⟨h.2.2.2,bA (ia rfl dj (lpC (zJ hB hF hS hR).1 (zJ hB hF hS hR).2 lpN)) h.2.1⟩
end
theorem Ak:aj kj tKs (fun _=>dy da FKS) [] jv=true:=aQ Ul (aQ Ty (aQ TU (aQ TC (aQ TO (aQ S3 T0)))))
theorem aa2{G:Nat->Int->Int->Int->Int}(hP:gg G)(hF:FK.Def G gP)(hS:FKS.Def G sM): ∀M S,dgN .u8 (G FKS.KR (pk2 M S) 0 0) 24=0->fN (G FKS.KR (pk2 M S) 0 0)=IntKind.i64.wrap (fN S+1):=
 Ei hP (by decide) rfl fun ρ h1 h24=>Ab (c:=da) (l:=jv) (by decide) Ib Ak (fun i lo hi h=>by cases h) (rT hF h1) (by rw [h1.1]; exact hS) h24
theorem Zd{G:Nat->Int->Int->Int->Int}(hB:cX G)(hP:gg G)(hF:FK.Def G gP)(hS:FKS.Def G sM){p q:Int}: ∀M S,bS p q M->bS p q (G FKS.KV (pk2 M S) 0 26):=
 Eu hP (by decide) rfl fun ρ h1 h0=>AB (c:=da) (l:=jv) (by decide) Ib Ak hB h1 (fun i lo hi h=>by cases h) (rT hF h1) (by rw [h1.1]; exact hS) h0
end
end Go.Proofs.YtbhlmedfhilkbaaGreat
