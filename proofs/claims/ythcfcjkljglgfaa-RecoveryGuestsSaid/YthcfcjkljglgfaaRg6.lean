/- RecoveryGuests: a block is changed. No condition. -/
import Derived.Test.YthcfcjkljglgfaaRg5
set_option linter.unusedVariables false
set_option linter.unusedSimpArgs false
namespace Go.Proofs.Ythcfcjkljglgfaa
open Go Go.Sx
set_option maxRecDepth 1000000
noncomputable section
/-! 1 the addresses, 2 how many, 3 the operations, 4 how many, 12 the page, 30 31 32 the three numbers -/
def tuA : List AVal := [.agg [.sliceA 0 (.var 2) 1, pgV 1, .sliceA 2 (.var 4) 5], .agg [uV .i64 30, uV .i64 31, uV .i64 32]]
def tuO : List AObj := [atO (.var 1) (.var 2), pgO (uV .i64 12) true, opO (.var 3) (.var 4)]
def tuB : List (Nat × Int × Int) := [(2, 0, 31), (4, 0, 199), i64B 12, i64B 30, i64B 31, i64B 32]
def modE : IE := .rem (.add (.rem (.var 30) (.lit 11)) (.lit 11)) (.lit 11)
def tuP (k : Int) : Dec := [(.eq modE (.lit k), true)]
def n16 : IE := .bits .and .i64 (.var 32) (.lit 65535)
def z4 : BE := .eq (.var 4) (.lit 0)
def iE : IE := .rem (.bits .and .i64 (.var 31) (.lit 65535)) (.var 4)
def kE : IE := .rem n16 (.var 4)
def hE : IE := .rem n16 (.add (.var 2) (.lit 1))
def i1E : IE := .add iE (.lit 1)
def facT : Dec := [(.lt (.var 4) (.add i1E (.sub (.var 4) i1E)), false), (.lt (.sub (.var 4) i1E) (.lit 0), false), (.lt (.var 4) (.add iE (.sub (.var 4) iE)), false), (.lt (.sub (.var 4) iE) (.lit 0), false), (.lt iE (.var 4), true), (.lt iE (.lit 0), false), (.lt kE (.var 4), true), (.lt kE (.lit 0), false), (.lt (.var 2) hE, false), (.lt hE (.lit 0), false)]
/-- Field j of operation e. -/
def ixE (e : IE) (j : Nat) : IE := match j with
  | 0 => .mul e (.lit 5)
  | j => .add (.mul e (.lit 5)) (.lit (.ofNat j))
def dg5 (e : IE) (j : Nat) : IE := .wrap (match j with | 4 => .u32 | _ => .i64) (.fn 0 (.var 3) (ixE e j) (.lit 0))
/-- Operation e of the row 3 put at place d of a row. -/
def st5 (c d e : IE) : IE := .fn 1 (.fn 1 (.fn 1 (.fn 1 (.fn 1 c (ixE d 0) (dg5 e 0)) (ixE d 1) (dg5 e 1)) (ixE d 2) (dg5 e 2)) (ixE d 3) (dg5 e 3)) (ixE d 4) (dg5 e 4)
/-- The addresses' length, count, row; the operations' length, row; the pages. -/
def tuW (k : Nat) : IE × IE × IE × IE × IE × List AVal := match k with
  | 0 => (.var 2, .var 2, .var 1, .var 4, .fn 1 (.var 3) (ixE iE 0) (.rem n16 (.lit 28)), [uV .i64 12])
  | 1 => (.var 2, .var 2, .var 1, .var 4, .fn 1 (.var 3) (ixE iE 1) (.sub (.rem n16 (.lit 30)) (.lit 1)), [uV .i64 12])
  | 2 => (.var 2, .var 2, .var 1, .var 4, .fn 1 (.var 3) (ixE iE 2) (.sub (.rem n16 (.lit 30)) (.lit 1)), [uV .i64 12])
  | 3 => (.var 2, .var 2, .var 1, .var 4, .fn 1 (.var 3) (ixE iE 3) (.sub (.rem n16 (.lit 30)) (.lit 1)), [uV .i64 12])
  | 4 => (.var 2, .var 2, .var 1, .var 4, .fn 1 (.var 3) (ixE iE 4) (.wrap .u32 (.sub (.wrap .u32 (.add (dg5 iE 4) (.rem n16 (.lit 3)))) (.lit 1))), [uV .i64 12])
  | 5 => (.var 2, .var 2, .var 1, .sub (.var 4) (.lit 1), .fn 3 (.fn 2 (.var 3) (.lit 0) (.mul iE (.lit 5))) (.mul iE (.lit 5)) (.fn 2 (.var 3) (.mul i1E (.lit 5)) (.mul (.sub (.var 4) i1E) (.lit 5))), [uV .i64 12])
  | 6 => (.var 2, .var 2, .var 1, .add (.var 4) (.lit 1), .fn 3 (.fn 2 (st5 (.var 3) iE iE) (.lit 0) (.mul i1E (.lit 5))) (.mul i1E (.lit 5)) (.fn 2 (.var 3) (.mul iE (.lit 5)) (.mul (.sub (.var 4) iE) (.lit 5))), [uV .i64 12])
  | 7 => (.var 2, .var 2, .var 1, .var 4, st5 (st5 (.var 3) iE kE) kE iE, [uV .i64 12])
  | 8 => (.add (.var 2) (.lit 1), .add (.var 2) (.lit 1), .fn 1 (.var 1) (.var 2) n16, .var 4, .var 3, [uV .i64 12])
  | 9 => (.var 2, .var 2, .var 1, .var 4, .var 3, [uV .i64 12, .int .i64 (.sub (.rem n16 (.lit 5000)) (.lit 400))])
  | 10 => (hE, .var 2, .var 1, .var 4, .var 3, [uV .i64 12])
  | _ => (.var 2, .var 2, .var 1, .var 4, .var 3, [uV .i64 12])
def tuPre (k : Nat) : Dec := match Nat.ble k 10 with
  | true => tuP (.ofNat k) ++ [(z4, false)]
  | false => [(z4, true)]
def pgN (l : List AVal) : AObj := .cells (treeAt l 0) intT true l.length
/-- k = 11: a block without operations. -/
def cTu (k : Nat) : Con := match tuW k with
  | (la, na, ca, lo, co, pg) => { g := 11, args := tuA, os := tuO, bds := tuB, pre := tuPre k, res := .agg [.sliceA 3 la 1, .slice (some (4, 0)) pg.length pg.length 1, .sliceA 5 lo 5], os' := tuO ++ [atO ca na, pgN pg, opO co lo] }
def facK (k : Nat) : Dec := match Nat.ble k 10 with
  | true => facT
  | false => []
def tTu (k : Nat) : Out := (cTu k).tree PR ⟨[], []⟩ 20 none' no' 12 (facK k)
def okTu (k : Nat) : Bool := (tTu k).all ((cTu k).leaf (qP (bdL (cTu k).bds) 12)) (facK k ++ tuPre k) && (cTu k).wf
end
end Go.Proofs.Ythcfcjkljglgfaa
