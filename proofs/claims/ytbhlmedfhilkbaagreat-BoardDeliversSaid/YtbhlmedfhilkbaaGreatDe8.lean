/- Decoding Q, one contract for each operation, of words whose unused bits are zero. No condition. -/
import Derived.Test.YtbhlmedfhilkbaaGreatQd1
set_option linter.unusedVariables false
set_option linter.unusedSimpArgs false
namespace Go.Proofs.YtbhlmedfhilkbaaGreat
open Go Go.Sx
set_option maxRecDepth 1000000
noncomputable section
def opsL : List Nat := [1, 2, 3, 4, 5, 6, 7, 8, 9, 10, 11, 12, 16, 17, 18, 19, 20, 21, 22, 23, 24, 25, 26, 27, 32, 33, 34, 35, 36, 37, 40, 41, 48, 49, 50, 51, 52, 53, 54]
inductive Shp where
  | abc | i | u | j | l | s | n | y | g | c
def shpOf (n : Nat) : Shp :=
  match Nat.ble n 12 with
  | true => .abc
  | false =>
    match Nat.ble 17 n && Nat.ble n 19 with
    | true => .u
    | false =>
      match Nat.ble n 37 with
      | true => .i
      | false =>
        match n with
        | 40 => .j
        | 41 => .l
        | 48 => .s
        | 52 => .y
        | 53 => .g
        | 54 => .c
        | _ => .n
def wV : IE := .var 1
def fD : IE := .rem (.quo wV (.lit 4194304)) (.lit 16)
def fA : IE := .rem (.quo wV (.lit 262144)) (.lit 16)
def fB : IE := .rem (.quo wV (.lit 16384)) (.lit 16)
def low (b : Nat) : IE := .rem wV (.lit (2 ^ b : Nat))
def z0 : IE := .lit 0
def insD (n : Nat) : List IE :=
  match shpOf n with
  | .abc => [fD, fA, fB, z0]
  | .i => [fD, fA, z0, sgE 18]
  | .u => [fD, fA, z0, low 18]
  | .j => [fD, z0, z0, sgE 22]
  | .l => [fD, z0, z0, low 22]
  | .s => [z0, z0, z0, low 18]
  | .n => [z0, z0, z0, z0]
  | .y => [z0, fA, z0, z0]
  | .g => [fD, z0, z0, low 18]
  | .c => [z0, fA, z0, low 18]
def hi (b : Nat) : IE := .mul (.quo wV (.lit (2 ^ b : Nat))) (.lit (2 ^ b : Nat))
/-- The word is made of the used bits alone. -/
def again (e : IE) : BE × Bool := (.eq e wV, true)
def preD (n : Nat) : Dec :=
  match shpOf n with
  | .abc => [again (hi 14)]
  | .i => []
  | .u => []
  | .j => []
  | .l => []
  | .s => [again (.add (hi 26) (low 18))]
  | .n => [again (hi 26)]
  | .y => [again (.add (hi 26) (.mul fA (.lit 262144)))]
  | .g => [again (.add (hi 22) (low 18)), (.lt (.lit 3) (low 18), false)]
  | .c => [again (.add (.add (hi 26) (.mul fA (.lit 262144))) (low 18)), (.lt (.lit 4) (low 18), false)]
def asIns (n : Nat) (l : List IE) : AVal :=
  match l with
  | [d, a, b, m] => .agg [.int .i64 (.lit (.ofNat n)), .int .i64 d, .int .i64 a, .int .i64 b, .int .u32 m]
  | _ => .nilFunc
def cDc (g : FuncId) (n : Nat) : Con := { g := g, args := [uV .u32 1], bds := [u32B 1], pre := (.eq (.quo wV (.lit 67108864)) (.lit (.ofNat n)), true) :: preD n, res := .tuple [asIns n (insD n), .int .i64 z0] }
def kP (n : Nat) : Know := ⟨[cOf (.ofNat n), cSign 196 18, cSign 196 22], []⟩
def kRf : Know := ⟨[cSign 80 18, cSign 80 22], []⟩
def okP (n : Nat) : Bool := runK (cDc 189 n) (kP n) 12
def okRf (n : Nat) : Bool := runK (cDc 121 n) kRf 12
end
end Go.Proofs.YtbhlmedfhilkbaaGreat
