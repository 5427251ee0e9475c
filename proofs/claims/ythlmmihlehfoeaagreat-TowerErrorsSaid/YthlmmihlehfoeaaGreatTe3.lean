/- Towers: what is known for the examples of the document. No condition. -/
import Derived.Test.YthlmmihlehfoeaaGreatTk2
set_option linter.unusedVariables false
set_option linter.unusedSimpArgs false
namespace Go.Proofs.YthlmmihlehfoeaaGreat
open Go Go.Sx
set_option maxRecDepth 1000000
noncomputable section
def upTo (n : Nat) (f : Nat → LCon) : List LCon := (List.range n).map f
/-- Two levels on a machine K. -/
def twO : List AObj := [.cells ((T.nil.set 0 (.slice (some (1, 0)) 2 2 2)).set 1 (kV 4)) 71 false 2,
  .cells ((((T.nil.set 0 (.ptr (some (2, 0)))).set 1 (iL 4)).set 2 (.ptr (some (3, 0)))).set 3 (iL 4)) 76 false 4,
  .cells ((T.nil.set 0 (iL 1)).set 2 (lV 3)) 100 false 45,
  .cells ((T.nil.set 0 (iL 2)).set 2 (kV 4)) 100 false 45, dead false]
def kdE (j : Nat) : IE := match j with | 0 => .lit 1 | _ => .lit 2
def cKinds2 : Con := cKinds twO 2 kdE 1
def loopsS : List LCon := upTo 13 (lPo false 13) ++ (upTo 18 (lPo true 18) ++ (upTo 8 (lPo true 8) ++ (upTo 8 (kToL 8) ++ (upTo 13 (qToL 13) ++ (upTo 13 (lToQ 18 13) ++ upTo 8 (lToK 13 8))))))
def KS : Know := ⟨[cKinds2], loopsS⟩
def cSane : Con := { g := 10, args := [], res := .bool (.lit true) }
theorem sane0 : cSane.runsK PR KS 600 40 = true := by kernel_rfl
end
end Go.Proofs.YthlmmihlehfoeaaGreat
