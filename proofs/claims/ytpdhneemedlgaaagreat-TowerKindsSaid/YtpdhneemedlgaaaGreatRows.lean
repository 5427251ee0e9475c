/-
  No cell of these rows narrows 'for every input' (looked for: loops, veiled, ifaces, maps, wideKeys, modest, calm, conditions, laid).
  DERIVED. THE GIVEN ROWS OF THIS SEAT. 2 by the template 'for every input the law returns true; each argument reads behind the call as it read before'; 0 by the template 'total and deterministic' (their statements: YtpdhneemedlgaaaGreatTotals.lean).
  GIVEN WITH THE SEED: the statements are not yours to turn. If you find one false, say at which input.
  Laid BY PROGRAM, IN A SANDBOX (cutbox-rows.mjs): the forced cells as the released guide's own fill.sh prints them over the translation bf3aaf002f73274a… (all of the seat's roots in one cut). By AI agents, Wed Nov 11 2026. No macro, syntax, notation, axiom, sorry.
-/
import Derived.Test.YtpdhneemedlgaaaGreatChecked
import GoSem.Claim
import GoSem.ClaimJoined
import GoSem.ClaimMapViews
import Derived.JoinedTies
import Derived.KernelRfl
namespace Go.Proofs.YtpdhneemedlgaaaGreat
/- THE CELL 'sum', in the pinned program and in every row, IS THE sha256 OF THE DUMP (.gsa) THAT YtpdhneemedlgaaaGreatProg.lean LOADS. Nothing in Lean hashes anything: it is a label: what it is worth is what the hold of that sum in a sandbox is worth. -/
noncomputable def Tryz.pinned : Pinned := { name := "ytpdhneemedlgaaagreat", sum := "bf3aaf002f73274a162ab4df4a1f73e8803ac8b7b58e99a31213f09aeea5dd7e", checked := Tryz.checked }
namespace Rows
def none {H : Type} : Left H := { results := [], args := [] }

/-- 'babellaw22.TowerKinds': WHATEVER THE INPUT: true; the input reads as it did. -/
def towerKindsSpec : ChangeSpec := { name := "towerKinds", fn := fun _ => fun
  | [d1, d2, d3] => { results := [.lit (.bool true)], args := [d1, d2, d3] }
  | _ => none }
def towerKindsRow : OpenClaim := { program := "ytpdhneemedlgaaagreat", sum := "bf3aaf002f73274a162ab4df4a1f73e8803ac8b7b58e99a31213f09aeea5dd7e", func := "babel/babellaw22.TowerKinds", spec := "towerKinds", inPlace := ["internal/abi.NoEscape"], unfollowed := true, recurses := true, plainKeys := false, apart := false }
def TowerKindsSaid : Prop := towerKindsRow.holds Tryz.pinned (OpenSpec.ofChange towerKindsSpec)

/-- ITS FALSE NEIGHBOUR: 'it returns false'. Refute it at one input. -/
def towerKindsWrong : ChangeSpec := { name := "towerKinds", fn := fun _ => fun
  | [d1, d2, d3] => { results := [.lit (.bool false)], args := [d1, d2, d3] }
  | _ => none }
def TowerKindsWrongFalsely : Prop := towerKindsRow.holds Tryz.pinned (OpenSpec.ofChange towerKindsWrong)

/-- 'babellaw21.LevelNews': WHATEVER THE INPUT: true; the input reads as it did. -/
def levelNewsSpec : ChangeSpec := { name := "levelNews", fn := fun _ => fun
  | [d1, d2, d3] => { results := [.lit (.bool true)], args := [d1, d2, d3] }
  | _ => none }
def levelNewsRow : OpenClaim := { program := "ytpdhneemedlgaaagreat", sum := "bf3aaf002f73274a162ab4df4a1f73e8803ac8b7b58e99a31213f09aeea5dd7e", func := "babel/babellaw21.LevelNews", spec := "levelNews", inPlace := ["internal/abi.NoEscape"], unfollowed := true, recurses := true, plainKeys := false, apart := false }
def LevelNewsSaid : Prop := levelNewsRow.holds Tryz.pinned (OpenSpec.ofChange levelNewsSpec)

/-- ITS FALSE NEIGHBOUR: 'it returns false'. Refute it at one input. -/
def levelNewsWrong : ChangeSpec := { name := "levelNews", fn := fun _ => fun
  | [d1, d2, d3] => { results := [.lit (.bool false)], args := [d1, d2, d3] }
  | _ => none }
def LevelNewsWrongFalsely : Prop := levelNewsRow.holds Tryz.pinned (OpenSpec.ofChange levelNewsWrong)

/- THE SECOND FORM. 'bulk': how many values and letters a reading holds, each counted each time it is reached (what is shared counts as often as it is met; a slice's spare places count too). A statement '..UptoSaid' is the law's where the arguments, and the package variables that the reading takes, are together of bulk at most 1048576: NARROWER than '..Said'. Prove '..Said' where nothing that the law and all that it calls make is longer than what came in: it says more and counts as full. Else prove '..UptoSaid'. A law counts once. -/
mutual
def uptoBulk {H : Type} : DataW H → Nat
  | .lit (.string bytes) => bytes.length + 1
  | .lit _ => 1
  | .nil => 1
  | .ptr d => uptoBulk d + 1
  | .slice elems spare => uptoBulkAll elems + uptoBulkAll spare + 1
  | .agg parts => uptoBulkAll parts + 1
  | .iface _ d => uptoBulk d + 1
  | .map entries => uptoBulkEntries entries + 1
  | .held _ => 1
def uptoBulkAll {H : Type} : List (DataW H) → Nat
  | [] => 0
  | d :: r => uptoBulk d + uptoBulkAll r
def uptoBulkEntries {H : Type} : List (Lit × DataW H) → Nat
  | [] => 0
  | x :: r => uptoBulkEntry x + uptoBulkEntries r
def uptoBulkEntry {H : Type} : Lit × DataW H → Nat
  | (.string bytes, d) => bytes.length + uptoBulk d + 1
  | (_, d) => uptoBulk d + 1
 end
def uptoSmall : (H : Type) → List (DataW H) → Bool := fun _ ds => decide (uptoBulkAll ds ≤ 1048576)
def OpenSpec.upto (s : _root_.Go.ChangeSpec) : _root_.Go.OpenSpec := { _root_.Go.OpenSpec.ofChange s with cond := some uptoSmall }

/-- 'babellaw22.TowerKinds', WHERE WHAT IT READS IS OF BULK AT MOST 1048576: true; the input reads as it did. -/
def towerKindsUptoRow : OpenClaim := { program := "ytpdhneemedlgaaagreat", sum := "bf3aaf002f73274a162ab4df4a1f73e8803ac8b7b58e99a31213f09aeea5dd7e", func := "babel/babellaw22.TowerKinds", spec := "towerKinds", inPlace := ["internal/abi.NoEscape"], unfollowed := true, recurses := true, plainKeys := false, apart := false, narrowed := true }
def TowerKindsUptoSaid : Prop := towerKindsUptoRow.holds Tryz.pinned (OpenSpec.upto towerKindsSpec)

/-- 'babellaw21.LevelNews', WHERE WHAT IT READS IS OF BULK AT MOST 1048576: true; the input reads as it did. -/
def levelNewsUptoRow : OpenClaim := { program := "ytpdhneemedlgaaagreat", sum := "bf3aaf002f73274a162ab4df4a1f73e8803ac8b7b58e99a31213f09aeea5dd7e", func := "babel/babellaw21.LevelNews", spec := "levelNews", inPlace := ["internal/abi.NoEscape"], unfollowed := true, recurses := true, plainKeys := false, apart := false, narrowed := true }
def LevelNewsUptoSaid : Prop := levelNewsUptoRow.holds Tryz.pinned (OpenSpec.upto levelNewsSpec)

end Rows
end Go.Proofs.YtpdhneemedlgaaaGreat
