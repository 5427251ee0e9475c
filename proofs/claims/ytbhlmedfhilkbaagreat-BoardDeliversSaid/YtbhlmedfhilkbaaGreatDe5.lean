/- BoardDelivers: the law's run, by the instruction and by where the vector points. No condition. -/
import Derived.Test.YtbhlmedfhilkbaaGreatDe9
set_option linter.unusedVariables false
set_option linter.unusedSimpArgs false
namespace Go.Proofs.YtbhlmedfhilkbaaGreat
open Go Go.Sx
set_option maxRecDepth 1000000
noncomputable section
def vE : IE := .wrap .u32 (.add (.mul (.quo (.var 5) (.lit 4)) (.lit 4)) (.lit 1024))
/-- The vector is 0, or points into page 0, into page 1, behind the memory. -/
def vF : Nat → Dec
  | 0 => [(.eq vE (.lit 0), true)]
  | 1 => [(.eq vE (.lit 0), false), (.lt vE (.lit 4), false), (.lt (.lit 252) vE, false)]
  | 2 => [(.eq vE (.lit 0), false), (.lt vE (.lit 256), false), (.lt (.lit 511) vE, false)]
  | _ => [(.eq vE (.lit 0), false), (.lt vE (.lit 512), false)]
def toW (i : Nat) : IE := match i with
  | 1 => wC
  | i => .var i
/-- What is known of the word. -/
def wF (n : Nat) : Dec := ((.eq (.quo wV (.lit 67108864)) (.lit (.ofNat n)), true) :: preD n).map fun p => (p.1.rep toW, p.2)
/-- The loop behind the first delivery, by where the vector points. -/
def lDs : Nat → List LCon
  | 0 => []
  | 1 => [lD0]
  | 2 => [lD1]
  | _ => [lD2]
def K9 (c j : Nat) : Know := ⟨[cSane, cMadeP c, cEncP (opAt c), cDc 189 (opAt c), cDc 121 (opAt c), cPk 169 FP, cPk 167 FC], lDs j ++ [lCt "Peek" FQ 7, lCt "Code" FK 7]⟩
def facD (c j : Nat) : Dec := (.eq idxE (.lit (.ofNat c)), true) :: (preN ++ (wF (opAt c) ++ vF j))
def sayD (c j : Nat) : Bool := oSays CD (smKnow CD (K9 c j)) 600 20 none' no' 5 (symArgs pksD 0) .nil 0 (facD c j)
/-- Where the vector does not matter. -/
def facE (c : Nat) : Dec := (.eq idxE (.lit (.ofNat c)), true) :: (preN ++ wF (opAt c))
def sayE (c : Nat) : Bool := oSays CD (smKnow CD (K9 c 0)) 600 20 none' no' 5 (symArgs pksD 0) .nil 0 (facE c)
/-- The address that a load or a store has; where it lies. -/
def aE : IE := IE.rep toW (.wrap .u32 (.add (.sel false fA (.lit 0) (.lit 0) (.sel false fA (.lit 1) (.lit 5) (.lit 0))) (sgE 18)))
def pF : Nat → Dec
  | 0 => [(.eq (.quo aE (.lit 256)) (.lit 0), true), (.lt aE (.lit 512), true), (.lt aE (.lit 256), true)]
  | 1 => [(.eq (.quo aE (.lit 256)) (.lit 1), true), (.lt aE (.lit 512), true), (.lt aE (.lit 256), false)]
  | _ => [(.lt aE (.lit 512), false)]
def sayP (c j p : Nat) : Bool := oSays CD (smKnow CD (K9 c j)) 600 20 none' no' 5 (symArgs pksD 0) .nil 0 (pF p ++ facD c j)
/-- A division: by R1, or by 0. -/
def bF (v : Bool) : Dec := [(.eq (fB.rep toW) (.lit 1), v)]
def sayB (j : Nat) (v : Bool) : Bool := oSays CD (smKnow CD (K9 9 j)) 600 20 none' no' 5 (symArgs pksD 0) .nil 0 (bF v ++ facD 9 j)
end
end Go.Proofs.YtbhlmedfhilkbaaGreat
