/- LevelNil: a page of the plain machine read byte by byte. No condition. -/
import Derived.Test.YtpoianhfjgjajaaGreatLn1
namespace Go.Proofs.YtpoianhfjgjajaaGreat.nil
open Go Go.Sx
set_option maxRecDepth 1000000
noncomputable section
def wl (w : Int) : List Int := [w % 256, w / 256 % 256, w / 65536 % 256, w / 16777216]
/-- The loop's two instructions. -/
def codeB : List Int := wl 1078460415 ++ wl 2219048959
def rowC (p : Nat) : Nat := match Nat.beq p 1 with | true => rowOf codeB | false => 0
def rowI : Nat := rowOf (List.replicate 256 0 ++ codeB)
/-- How much of the code has been read. -/
def codeE (p : Nat) (e : IE) : IE := match Nat.beq p 1 with | true => .fn 2 (.lit (.ofNat (rowC 1))) (.lit 0) e | false => .lit 0
def dead (own : Bool) : AObj := .arr [] (.lit 0) (.lit 0) own
def refO : List AObj := [.cells (T.nil.set 24 (.ptr (some (1, 0)))) 146 false 25,
  .cells (((T.nil.set 0 (.slice (some (2, 0)) 768 768 0)).set 1 (.slice (some (3, 0)) 768 768 0)).set 5 (.bool (.lit false))) 249 false 6,
  .arr [.u8] (.lit 0) (.lit 768) false, .arr [.u8] (.lit (.ofNat rowI)) (.lit 768) false, dead false]
def fromV : AVal := .iface 113 (.agg [.ptr (some (0, 0))])
def toV : AVal := .iface 28 (.ptr (some (4, 0)))
/-- 1: the bytes that are done. -/
def cCo (p : Nat) : Con :=
  { g := 26, args := [fromV, toV, .int .i64 (.lit (.ofNat p)), .sliceA 5 (.var 1) 1, .sliceA 6 (.var 1) 1, .int .i64 (.add (.lit (.ofNat (Nat.mul 256 p))) (.var 1))],
    os := refO ++ [.arr [.u8] (.lit 0) (.var 1) true, .arr [.u8] (codeE p (.var 1)) (.var 1) true], bds := [(1, 0, 256)],
    res := .tuple [fromV, toV, .int .i64 (.lit (.ofNat p)), .sliceA 7 (.lit 256) 1, .sliceA 8 (.lit 256) 1],
    os' := refO ++ [dead true, dead true, .arr [.u8] (.lit 0) (.lit 256) true, .arr [.u8] (.lit (.ofNat (rowC p))) (.lit 256) true] }
def isPg (p : Nat) (s : ASt) : Bool :=
  match s.tm.get 4 with
  | some (.int _ (.lit (.ofNat n))) => Nat.beq n p
  | _ => false
def lCo (p : Nat) : LCon := { con := cCo p, key := 6, n := 65, sl := [0, 1, 4, 5, 6, 7], e := .exit 2, sl' := [0, 1, 4, 5, 6], pick := isPg p }
/-- The ways: so many bytes are done, or eight at least. -/
def facN (k : Nat) : Dec := match Nat.blt k 8 with | true => [(.eq (.var 1) (.lit (.ofNat k)), true)] | false => [(.lt (.var 1) (.lit 8), false)]
def tCo (p k : Nat) : Out := (lCo p).tree PR ⟨[], []⟩ 20 none' no' 14 (facN k) μP
def okCo1 (p k : Nat) : Bool := (tCo p k).all ((cCo p).leaf (qP (bdL (cCo p).bds) 10)) (facN k ++ (cCo p).pre)
def okCo (p : Nat) : Bool := (List.range 9).all fun k => okCo1 p k
end
end Go.Proofs.YtpoianhfjgjajaaGreat.nil
