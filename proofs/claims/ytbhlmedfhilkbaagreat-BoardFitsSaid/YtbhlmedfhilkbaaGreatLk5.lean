/- The codes that reference 23 makes out of numbers: codeK, codeQ, encodeQ; runs. No condition. -/
import Derived.Test.YtbhlmedfhilkbaaGreatLk1
import Derived.Test.YtbhlmedfhilkbaaGreatLk4
import Derived.Test.YtbhlmedfhilkbaaGreatLq1
import Derived.Test.YtbhlmedfhilkbaaGreatLq2
set_option linter.unusedSimpArgs false
set_option linter.unusedVariables false
set_option linter.unusedSectionVars false
namespace Go.Proofs.YtbhlmedfhilkbaaGreat
open Go Go.Sx
set_option maxRecDepth 1000000
noncomputable section
def lenB (i : Nat) : Nat × Int × Int := (i, 0, 9223372036854775807)
def n60 (i : Nat) : Nat × Int × Int := (i, 0, 60)
def progO : AObj := .arr [.i64, .i64, .i64, .i64, .i64] (.var 10) (.var 11) false
def progV : AVal := .sliceS 0 (.lit 0) (.var 11) 5 false
/-! codeK: 12 13 what is made so far, 14 which number is next -/
def FCK : Fns := ⟨118, 119, [10, 11, 12, 13, 14]⟩
def cCkL : Con := { g := 51, args := [progV, .strS (.var 12) (.var 13), .int .i64 (.var 14)], os := [progO], bds := [lenB 11, (13, 0, 500), lenB 14], pre := [(.lt (.var 11) (.var 14), false)], res := .tuple [.strS (kvE FCK 0) (dg FCK .u16 1)], os' := [progO] }
def lCk : LCon := { con := cCkL, key := 4, n := 33, sl := [0, 3, 4], e := .exit 0, sl' := [3] }
def μCk : IE := .sub (.var 11) (.var 14)
def kCk : Know := ⟨[cMade2, cEnc2], []⟩
def tCk : Out := lCk.tree PR kCk 40 none' no' 12 [] μCk
theorem ck_run : (tCk.all (cCkL.defLeaf FCK) cCkL.pre && ((cCkL.rows FCK tCk).only (memV FCK.vars) 118 && cCkL.wf)) = true := by kernel_rfl
/-- A function at other numbers. -/
def atX (F : Fns) (σ : Nat → IE) : IE := F.x.rep σ
def dgX (F : Fns) (σ : Nat → IE) (k : IntKind) (i : Nat) : IE := .wrap k (.fn 0 (.fn F.KR (atX F σ) (.lit 0) (.lit 0)) (.lit (.ofNat i)) (.lit 0))
def kvX (F : Fns) (σ : Nat → IE) (i : Nat) : IE := .fn F.KV (atX F σ) (.lit 0) (.lit (.ofNat i))
def σCk (i : Nat) : IE := match i with
 | 12 => .lit 0
 | 13 => .lit 0
 | 14 => .lit 0
 | i => .var i
def codeKr : IE := kvX FCK σCk 0
def codeKn : IE := dgX FCK σCk .u16 1
def cCodeK : Con := { g := 51, args := [progV], os := [progO], bds := [lenB 11], res := .strS codeKr codeKn, os' := [progO] }
theorem codeK_run : (runP cCodeK ⟨[], [lCk]⟩ 40 12 12 && cCodeK.wf) = true := by kernel_rfl
/-! codeQ: 12 the instructions so far, 14 how many -/
def FCQ : Fns := ⟨126, 127, [10, 11, 12, 14]⟩
def lenQ : IE := .rem (dg FCQ .u16 0) (.lit 61)
def cCqL : Con := { g := 53, args := [progV, .sliceA 1 (.var 14) 5, .int .i64 (.var 14)], os := [progO, .arr kinQ (.var 12) (.var 14) true], bds := [lenB 11, n60 14], pre := [(.lt (.var 11) (.var 14), false)], res := .tuple [.sliceA 2 lenQ 5], os' := [progO, .arr [] (.lit 0) (.lit 0) true, .arr kinQ (kvE FCQ 3) lenQ true] }
def lCq : LCon := { con := cCqL, key := 4, n := 49, sl := [0, 3, 4], e := .exit 0, sl' := [3] }
def μCq : IE := .sub (.lit 60) (.var 14)
def kCq : Know := ⟨[cMade3, cTame3], []⟩
def tCq : Out := lCq.tree PR kCq 40 none' no' 12 [] μCq
theorem cq_run : (tCq.all (cCqL.defLeaf FCQ) cCqL.pre && ((cCqL.rows FCQ tCq).only (memV FCQ.vars) 126 && cCqL.wf)) = true := by kernel_rfl
/-! encodeQ: 12 13 the instructions, 15 what is made so far, 14 which is next -/
def FEQ : Fns := ⟨128, 129, [12, 13, 14, 15]⟩
def lenE4 : IE := .rem (dg FEQ .u16 1) (.lit 241)
def insO : AObj := .arr kinQ (.var 12) (.var 13) true
def cEqL : Con := { g := 54, args := [.sliceA 0 (.var 13) 5, .strS (.var 15) (.mul (.var 14) (.lit 4)), .int .i64 (.var 14)], os := [insO], bds := [n60 13, n60 14], pre := [(.lt (.var 13) (.var 14), false)], res := .tuple [.strS (kvE FEQ 0) lenE4], os' := [insO] }
def lEq : LCon := { con := cEqL, key := 4, n := 37, sl := [0, 3, 4], e := .exit 0, sl' := [3] }
def μEq : IE := .sub (.lit 60) (.var 14)
def kEq : Know := ⟨[cEnc3, cEnc3L, cEnc3H], []⟩
def tEq : Out := lEq.tree PR kEq 40 none' no' 12 [] μEq
theorem eq_run : (tEq.all (cEqL.defLeaf FEQ) cEqL.pre && ((cEqL.rows FEQ tEq).only (memV FEQ.vars) 128 && cEqL.wf)) = true := by kernel_rfl
def σCq (i : Nat) : IE := match i with
 | 12 => .lit 0
 | 14 => .lit 0
 | i => .var i
def σEq (i : Nat) : IE := match i with
 | 12 => kvX FCQ σCq 3
 | 13 => .rem (dgX FCQ σCq .u16 0) (.lit 61)
 | 14 => .lit 0
 | 15 => .lit 0
 | i => .var i
def codeQr : IE := kvX FEQ σEq 0
def codeQn : IE := .rem (dgX FEQ σEq .u16 1) (.lit 241)
def cCodeQ : Con := { g := 53, args := [progV], os := [progO], bds := [lenB 11], res := .strS codeQr codeQn, os' := [progO] }
theorem codeQ_run : (runP cCodeQ ⟨[], [lCq, lEq]⟩ 40 12 12 && cCodeQ.wf) = true := by kernel_rfl
end
end Go.Proofs.YtbhlmedfhilkbaaGreat
