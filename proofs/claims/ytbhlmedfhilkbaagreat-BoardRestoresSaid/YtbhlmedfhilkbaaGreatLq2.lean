/- Part Lq2. No condition. -/
import Derived.Test.YtbhlmedfhilkbaaGreatLk1
import Derived.Test.YtbhlmedfhilkbaaGreatLk3
import Derived.Test.YtbhlmedfhilkbaaGreatLq1
set_option linter.all false
namespace Go.Proofs.YtbhlmedfhilkbaaGreat
open Go Go.Sx
set_option maxRecDepth 1000000
noncomputable section
def Dv:List Int:=[0,1,2,3,4,5,6,7]
theorem UR:(aj (.var 0) fZ (fun _=>dw.ao FE3) dw.pre Dv&&aT fZ dw FE3 124 Dv)=true:=by kernel_rfl
def Ck:List Int:=[8,9,10,11,12,13,14,15]
theorem TE:(aj (.var 0) fZ (fun _=>dw.ao FE3) dw.pre Ck&&aT fZ dw FE3 124 Ck)=true:=by kernel_rfl
def BZ:List Int:=[16,17,18,19,20,21,22,23]
theorem SY:(aj (.var 0) fZ (fun _=>dw.ao FE3) dw.pre BZ&&aT fZ dw FE3 124 BZ)=true:=by kernel_rfl
def BM:List Int:=[24,25,26,27,28,29,30,31]
theorem Tq:(aj (.var 0) fZ (fun _=>dw.ao FE3) dw.pre BM&&aT fZ dw FE3 124 BM)=true:=by kernel_rfl
def Bw:List Int:=[32,33,34,35,36,37,38,39]
theorem T3:(aj (.var 0) fZ (fun _=>dw.ao FE3) dw.pre Bw&&aT fZ dw FE3 124 Bw)=true:=by kernel_rfl
def CG:List Int:=[40,41,42,43,44,45,46,47]
theorem S8:(aj (.var 0) fZ (fun _=>dw.ao FE3) dw.pre CG&&aT fZ dw FE3 124 CG)=true:=by kernel_rfl
def Cf:List Int:=[48,49,50,51,52,53,54,55]
theorem UX:(aj (.var 0) fZ (fun _=>dw.ao FE3) dw.pre Cf&&aT fZ dw FE3 124 Cf)=true:=by kernel_rfl
def BV:List Int:=[56,57,58,59,60,61,62,63]
theorem UA:(aj (.var 0) fZ (fun _=>dw.ao FE3) dw.pre BV&&aT fZ dw FE3 124 BV)=true:=by kernel_rfl
def JL:List Int:=Dv++(Ck++(BZ++(BM++(Bw++(CG++(Cf++(BV)))))))
theorem AF:(aj (.var 0) fZ (fun _=>dw.ao FE3) dw.pre JL&&aT fZ dw FE3 124 JL)=true:=aV UR (aV TE (aV SY (aV Tq (aV T3 (aV S8 (aV UX (UA)))))))
theorem JU:(fq IX ⟨[],[]⟩ 40 12 12&&fq H6 ⟨[],[]⟩ 40 12 12)=true:=by kernel_rfl
theorem wP:(BS.all (mQ.ao FT3) mQ.pre&&(mQ.rows FT3 BS).only (bR FT3.vars) 122)=true:=by kernel_rfl
def yw(i:Nat):Nat×Int×Int:=(i,0,9223372036854775807)
def n60(i:Nat):Nat×Int×Int:=(i,0,60)
def fu:ah:= .arr [.i64,.i64,.i64,.i64,.i64] (.var 10) (.var 11) false
def ph:ab:= .sliceS 0 (.lit 0) (.var 11) 5 false
def FCK:Fns:=⟨118,119,[10,11,12,13,14]⟩
def DD:Con:={g:=51,args:=[ph,.strS (.var 12) (.var 13),.int .i64 (.var 14)],os:=[fu],bds:=[yw 11,(13,0,500),yw 14],pre:=[(.lt (.var 11) (.var 14),false)],res:= .tuple [.strS (kvE FCK 0) (dg FCK .u16 1)],os':=[fu]}
def lCk:ba:={con:=DD,key:=4,n:=33,sl:=[0,3,4],e:= .exit 0,sl':=[3]}
def μCk:IE:= .sub (.var 11) (.var 14)
def kCk:Know:=⟨[bK,bg],[]⟩
def tCk:Out:=lCk.tree PR kCk 40 aG no' 12 [] μCk
theorem Hi:(tCk.all (DD.ao FCK) DD.pre&&((DD.rows FCK tCk).only (bR FCK.vars) 118&&DD.wf))=true:=by kernel_rfl
def atX(F:Fns)(σ:Nat->IE):IE:=F.x.rep σ
def dgX(F:Fns)(σ:Nat->IE)(k:IntKind)(i:Nat):IE:= .wrap k (.fn 0 (.fn F.KR (atX F σ) (.lit 0) (.lit 0)) (.lit (.ofNat i)) (.lit 0))
def kvX(F:Fns)(σ:Nat->IE)(i:Nat):IE:= .fn F.KV (atX F σ) (.lit 0) (.lit (.ofNat i))
def σCk(i:Nat):IE:=match i with
 |12=> .lit 0
 |13=> .lit 0
 |14=> .lit 0
 |i=> .var i
def Yb:IE:=kvX FCK σCk 0
def XI:IE:=dgX FCK σCk .u16 1
def Cm:Con:={g:=51,args:=[ph],os:=[fu],bds:=[yw 11],res:= .strS Yb XI,os':=[fu]}
theorem Mb:(fq Cm ⟨[],[lCk]⟩ 40 12 12&&Cm.wf)=true:=by kernel_rfl
def FCQ:Fns:=⟨126,127,[10,11,12,14]⟩
def Zj:IE:= .rem (dg FCQ .u16 0) (.lit 61)
def Fq:Con:={g:=53,args:=[ph,.sliceA 1 (.var 14) 5,.int .i64 (.var 14)],os:=[fu,.arr Pa (.var 12) (.var 14) true],bds:=[yw 11,n60 14],pre:=[(.lt (.var 11) (.var 14),false)],res:= .tuple [.sliceA 2 Zj 5],os':=[fu,.arr [] (.lit 0) (.lit 0) true,.arr Pa (kvE FCQ 3) Zj true]}
def lCq:ba:={con:=Fq,key:=4,n:=49,sl:=[0,3,4],e:= .exit 0,sl':=[3]}
def μCq:IE:= .sub (.lit 60) (.var 14)
def kCq:Know:=⟨[dI,mQ],[]⟩
def tCq:Out:=lCq.tree PR kCq 40 aG no' 12 [] μCq
theorem I9:(tCq.all (Fq.ao FCQ) Fq.pre&&((Fq.rows FCQ tCq).only (bR FCQ.vars) 126&&Fq.wf))=true:=by kernel_rfl
def FEQ:Fns:=⟨128,129,[12,13,14,15]⟩
def aae:IE:= .rem (dg FEQ .u16 1) (.lit 241)
def Z1:ah:= .arr Pa (.var 12) (.var 13) true
def Eo:Con:={g:=54,args:=[.sliceA 0 (.var 13) 5,.strS (.var 15) (.mul (.var 14) (.lit 4)),.int .i64 (.var 14)],os:=[Z1],bds:=[n60 13,n60 14],pre:=[(.lt (.var 13) (.var 14),false)],res:= .tuple [.strS (kvE FEQ 0) aae],os':=[Z1]}
def lEq:ba:={con:=Eo,key:=4,n:=37,sl:=[0,3,4],e:= .exit 0,sl':=[3]}
def μEq:IE:= .sub (.lit 60) (.var 14)
def kEq:Know:=⟨[dw,IX,H6],[]⟩
def tEq:Out:=lEq.tree PR kEq 40 aG no' 12 [] μEq
theorem HL:(tEq.all (Eo.ao FEQ) Eo.pre&&((Eo.rows FEQ tEq).only (bR FEQ.vars) 128&&Eo.wf))=true:=by kernel_rfl
def σCq(i:Nat):IE:=match i with
 |12=> .lit 0
 |14=> .lit 0
 |i=> .var i
def σEq(i:Nat):IE:=match i with
 |12=>kvX FCQ σCq 3
 |13=> .rem (dgX FCQ σCq .u16 0) (.lit 61)
 |14=> .lit 0
 |15=> .lit 0
 |i=> .var i
def Xd:IE:=kvX FEQ σEq 0
def XS:IE:= .rem (dgX FEQ σEq .u16 1) (.lit 241)
def BR:Con:={g:=53,args:=[ph],os:=[fu],bds:=[yw 11],res:= .strS Xd XS,os':=[fu]}
theorem NA:(fq BR ⟨[],[lCq,lEq]⟩ 40 12 12&&BR.wf)=true:=by kernel_rfl
end
end Go.Proofs.YtbhlmedfhilkbaaGreat
