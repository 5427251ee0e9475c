/-
  No cell of these rows narrows 'for every input' (looked for: loops, veiled, ifaces, maps, wideKeys, modest, calm, conditions, laid).
  DERIVED. THE GIVEN ROWS OF THIS SEAT. 7 by the template 'for every input the law returns true; each argument reads behind the call as it read before'; 0 by the template 'total and deterministic' (their statements: YthlmmihlehfoeaaGreatTotals.lean).
  GIVEN WITH THE SEED: the statements are not yours to turn. If you find one false, say at which input.
  Laid BY PROGRAM, IN A SANDBOX (cutbox-rows.mjs): the forced cells as the released guide's own fill.sh prints them over the translation b25dd020e6a177c0… (all of the seat's roots in one cut). By AI agents, Wed Nov 11 2026. No macro, syntax, notation, axiom, sorry.
-/
import Derived.Test.YthlmmihlehfoeaaGreatChecked
import GoSem.Claim
import GoSem.ClaimJoined
import GoSem.ClaimMapViews
import Derived.JoinedTies
import Derived.KernelRfl
namespace Go.Proofs.YthlmmihlehfoeaaGreat
/- THE CELL 'sum', in the pinned program and in every row, IS THE sha256 OF THE DUMP (.gsa) THAT YthlmmihlehfoeaaGreatProg.lean LOADS. Nothing in Lean hashes anything: it is a label: what it is worth is what the hold of that sum in a sandbox is worth. -/
noncomputable def Tryz.pinned : Pinned := { name := "ythlmmihlehfoeaagreat", sum := "b25dd020e6a177c079e8c28cab2e4277e9d819ce6fd6f9ac585443dc54d15837", checked := Tryz.checked }
namespace Rows
def none {H : Type} : Left H := { results := [], args := [] }

/-- 'babellaw22.TowerKinds': WHATEVER THE INPUT: true; the input reads as it did. -/
def towerKindsSpec : ChangeSpec := { name := "towerKinds", fn := fun _ => fun
  | [d1, d2, d3] => { results := [.lit (.bool true)], args := [d1, d2, d3] }
  | _ => none }
def towerKindsRow : OpenClaim := { program := "ythlmmihlehfoeaagreat", sum := "b25dd020e6a177c079e8c28cab2e4277e9d819ce6fd6f9ac585443dc54d15837", func := "babel/babellaw22.TowerKinds", spec := "towerKinds", inPlace := ["internal/abi.NoEscape"], unfollowed := true, recurses := true, plainKeys := false, apart := false }
def TowerKindsSaid : Prop := towerKindsRow.holds Tryz.pinned (OpenSpec.ofChange towerKindsSpec)

/-- ITS FALSE NEIGHBOUR: 'it returns false'. Refute it at one input. -/
def towerKindsWrong : ChangeSpec := { name := "towerKinds", fn := fun _ => fun
  | [d1, d2, d3] => { results := [.lit (.bool false)], args := [d1, d2, d3] }
  | _ => none }
def TowerKindsWrongFalsely : Prop := towerKindsRow.holds Tryz.pinned (OpenSpec.ofChange towerKindsWrong)

/-- 'babellaw22.TowerErrors': WHATEVER THE INPUT: true; the input reads as it did. -/
def towerErrorsSpec : ChangeSpec := { name := "towerErrors", fn := fun _ => fun
  | [d1, d2] => { results := [.lit (.bool true)], args := [d1, d2] }
  | _ => none }
def towerErrorsRow : OpenClaim := { program := "ythlmmihlehfoeaagreat", sum := "b25dd020e6a177c079e8c28cab2e4277e9d819ce6fd6f9ac585443dc54d15837", func := "babel/babellaw22.TowerErrors", spec := "towerErrors", inPlace := ["internal/abi.NoEscape"], unfollowed := true, recurses := true, plainKeys := false, apart := false }
def TowerErrorsSaid : Prop := towerErrorsRow.holds Tryz.pinned (OpenSpec.ofChange towerErrorsSpec)

/-- ITS FALSE NEIGHBOUR: 'it returns false'. Refute it at one input. -/
def towerErrorsWrong : ChangeSpec := { name := "towerErrors", fn := fun _ => fun
  | [d1, d2] => { results := [.lit (.bool false)], args := [d1, d2] }
  | _ => none }
def TowerErrorsWrongFalsely : Prop := towerErrorsRow.holds Tryz.pinned (OpenSpec.ofChange towerErrorsWrong)

/-- 'babellaw21.LevelNews': WHATEVER THE INPUT: true; the input reads as it did. -/
def levelNewsSpec : ChangeSpec := { name := "levelNews", fn := fun _ => fun
  | [d1, d2, d3] => { results := [.lit (.bool true)], args := [d1, d2, d3] }
  | _ => none }
def levelNewsRow : OpenClaim := { program := "ythlmmihlehfoeaagreat", sum := "b25dd020e6a177c079e8c28cab2e4277e9d819ce6fd6f9ac585443dc54d15837", func := "babel/babellaw21.LevelNews", spec := "levelNews", inPlace := ["internal/abi.NoEscape"], unfollowed := true, recurses := true, plainKeys := false, apart := false }
def LevelNewsSaid : Prop := levelNewsRow.holds Tryz.pinned (OpenSpec.ofChange levelNewsSpec)

/-- ITS FALSE NEIGHBOUR: 'it returns false'. Refute it at one input. -/
def levelNewsWrong : ChangeSpec := { name := "levelNews", fn := fun _ => fun
  | [d1, d2, d3] => { results := [.lit (.bool false)], args := [d1, d2, d3] }
  | _ => none }
def LevelNewsWrongFalsely : Prop := levelNewsRow.holds Tryz.pinned (OpenSpec.ofChange levelNewsWrong)

/-- 'babellaw22.TowerSelf': WHATEVER THE INPUT: true; the input reads as it did. -/
def towerSelfSpec : ChangeSpec := { name := "towerSelf", fn := fun _ => fun
  | [d1, d2, d3] => { results := [.lit (.bool true)], args := [d1, d2, d3] }
  | _ => none }
def towerSelfRow : OpenClaim := { program := "ythlmmihlehfoeaagreat", sum := "b25dd020e6a177c079e8c28cab2e4277e9d819ce6fd6f9ac585443dc54d15837", func := "babel/babellaw22.TowerSelf", spec := "towerSelf", inPlace := ["internal/abi.NoEscape"], unfollowed := true, recurses := true, plainKeys := false, apart := false }
def TowerSelfSaid : Prop := towerSelfRow.holds Tryz.pinned (OpenSpec.ofChange towerSelfSpec)

/-- ITS FALSE NEIGHBOUR: 'it returns false'. Refute it at one input. -/
def towerSelfWrong : ChangeSpec := { name := "towerSelf", fn := fun _ => fun
  | [d1, d2, d3] => { results := [.lit (.bool false)], args := [d1, d2, d3] }
  | _ => none }
def TowerSelfWrongFalsely : Prop := towerSelfRow.holds Tryz.pinned (OpenSpec.ofChange towerSelfWrong)

/-- 'babellaw22.TowerSync': WHATEVER THE INPUT: true; the input reads as it did. -/
def towerSyncSpec : ChangeSpec := { name := "towerSync", fn := fun _ => fun
  | [d1, d2, d3] => { results := [.lit (.bool true)], args := [d1, d2, d3] }
  | _ => none }
def towerSyncRow : OpenClaim := { program := "ythlmmihlehfoeaagreat", sum := "b25dd020e6a177c079e8c28cab2e4277e9d819ce6fd6f9ac585443dc54d15837", func := "babel/babellaw22.TowerSync", spec := "towerSync", inPlace := ["internal/abi.NoEscape"], unfollowed := true, recurses := true, plainKeys := false, apart := false }
def TowerSyncSaid : Prop := towerSyncRow.holds Tryz.pinned (OpenSpec.ofChange towerSyncSpec)

/-- ITS FALSE NEIGHBOUR: 'it returns false'. Refute it at one input. -/
def towerSyncWrong : ChangeSpec := { name := "towerSync", fn := fun _ => fun
  | [d1, d2, d3] => { results := [.lit (.bool false)], args := [d1, d2, d3] }
  | _ => none }
def TowerSyncWrongFalsely : Prop := towerSyncRow.holds Tryz.pinned (OpenSpec.ofChange towerSyncWrong)

/-- 'babellaw22.TowerTimer': WHATEVER THE INPUT: true; the input reads as it did. -/
def towerTimerSpec : ChangeSpec := { name := "towerTimer", fn := fun _ => fun
  | [d1, d2, d3] => { results := [.lit (.bool true)], args := [d1, d2, d3] }
  | _ => none }
def towerTimerRow : OpenClaim := { program := "ythlmmihlehfoeaagreat", sum := "b25dd020e6a177c079e8c28cab2e4277e9d819ce6fd6f9ac585443dc54d15837", func := "babel/babellaw22.TowerTimer", spec := "towerTimer", inPlace := ["internal/abi.NoEscape"], unfollowed := true, recurses := true, plainKeys := false, apart := false }
def TowerTimerSaid : Prop := towerTimerRow.holds Tryz.pinned (OpenSpec.ofChange towerTimerSpec)

/-- ITS FALSE NEIGHBOUR: 'it returns false'. Refute it at one input. -/
def towerTimerWrong : ChangeSpec := { name := "towerTimer", fn := fun _ => fun
  | [d1, d2, d3] => { results := [.lit (.bool false)], args := [d1, d2, d3] }
  | _ => none }
def TowerTimerWrongFalsely : Prop := towerTimerRow.holds Tryz.pinned (OpenSpec.ofChange towerTimerWrong)

/-- 'babellaw22.TowerDeep': WHATEVER THE INPUT: true; the input reads as it did. -/
def towerDeepSpec : ChangeSpec := { name := "towerDeep", fn := fun _ => fun
  | [d1, d2] => { results := [.lit (.bool true)], args := [d1, d2] }
  | _ => none }
def towerDeepRow : OpenClaim := { program := "ythlmmihlehfoeaagreat", sum := "b25dd020e6a177c079e8c28cab2e4277e9d819ce6fd6f9ac585443dc54d15837", func := "babel/babellaw22.TowerDeep", spec := "towerDeep", inPlace := ["internal/abi.NoEscape"], unfollowed := true, recurses := true, plainKeys := false, apart := false }
def TowerDeepSaid : Prop := towerDeepRow.holds Tryz.pinned (OpenSpec.ofChange towerDeepSpec)

/-- ITS FALSE NEIGHBOUR: 'it returns false'. Refute it at one input. -/
def towerDeepWrong : ChangeSpec := { name := "towerDeep", fn := fun _ => fun
  | [d1, d2] => { results := [.lit (.bool false)], args := [d1, d2] }
  | _ => none }
def TowerDeepWrongFalsely : Prop := towerDeepRow.holds Tryz.pinned (OpenSpec.ofChange towerDeepWrong)

/- THE SECOND FORM. 'bulk': how many values and letters a reading holds, each counted each time it is reached (what is shared counts as often as it is met; a slice's spare places count too). A statement '..UptoSaid' is the law's where the arguments, and the package variables that the reading takes, are together of bulk at most 1048576: NARROWER than '..Said'. Prove '..Said' where nothing that the law and all that it calls make is longer than what came in: it says more and counts as full. Else prove '..UptoSaid'. A law counts once. -/
mutual
def uptoBulk {H : Type} : DataW H → Nat
  | .lit (.string bytes) => bytes.length + 1
  | .lit _ => 1
  | .nil => 1
  | .ptr d => uptoBulk d + 1
  | .slice elems spare => uptoBulkAll elems + uptoBulkAll spare + 1
  | .agg parts => uptoBulkAll parts + 1
  | .iface _ d => uptoBulk d + 1
  | .map entries => uptoBulkEntries entries + 1
  | .held _ => 1
def uptoBulkAll {H : Type} : List (DataW H) → Nat
  | [] => 0
  | d :: r => uptoBulk d + uptoBulkAll r
def uptoBulkEntries {H : Type} : List (Lit × DataW H) → Nat
  | [] => 0
  | x :: r => uptoBulkEntry x + uptoBulkEntries r
def uptoBulkEntry {H : Type} : Lit × DataW H → Nat
  | (.string bytes, d) => bytes.length + uptoBulk d + 1
  | (_, d) => uptoBulk d + 1
 end
def uptoSmall : (H : Type) → List (DataW H) → Bool := fun _ ds => decide (uptoBulkAll ds ≤ 1048576)
def OpenSpec.upto (s : _root_.Go.ChangeSpec) : _root_.Go.OpenSpec := { _root_.Go.OpenSpec.ofChange s with cond := some uptoSmall }

/-- 'babellaw22.TowerKinds', WHERE WHAT IT READS IS OF BULK AT MOST 1048576: true; the input reads as it did. -/
def towerKindsUptoRow : OpenClaim := { program := "ythlmmihlehfoeaagreat", sum := "b25dd020e6a177c079e8c28cab2e4277e9d819ce6fd6f9ac585443dc54d15837", func := "babel/babellaw22.TowerKinds", spec := "towerKinds", inPlace := ["internal/abi.NoEscape"], unfollowed := true, recurses := true, plainKeys := false, apart := false, narrowed := true }
def TowerKindsUptoSaid : Prop := towerKindsUptoRow.holds Tryz.pinned (OpenSpec.upto towerKindsSpec)

/-- 'babellaw22.TowerErrors', WHERE WHAT IT READS IS OF BULK AT MOST 1048576: true; the input reads as it did. -/
def towerErrorsUptoRow : OpenClaim := { program := "ythlmmihlehfoeaagreat", sum := "b25dd020e6a177c079e8c28cab2e4277e9d819ce6fd6f9ac585443dc54d15837", func := "babel/babellaw22.TowerErrors", spec := "towerErrors", inPlace := ["internal/abi.NoEscape"], unfollowed := true, recurses := true, plainKeys := false, apart := false, narrowed := true }
def TowerErrorsUptoSaid : Prop := towerErrorsUptoRow.holds Tryz.pinned (OpenSpec.upto towerErrorsSpec)

/-- 'babellaw21.LevelNews', WHERE WHAT IT READS IS OF BULK AT MOST 1048576: true; the input reads as it did. -/
def levelNewsUptoRow : OpenClaim := { program := "ythlmmihlehfoeaagreat", sum := "b25dd020e6a177c079e8c28cab2e4277e9d819ce6fd6f9ac585443dc54d15837", func := "babel/babellaw21.LevelNews", spec := "levelNews", inPlace := ["internal/abi.NoEscape"], unfollowed := true, recurses := true, plainKeys := false, apart := false, narrowed := true }
def LevelNewsUptoSaid : Prop := levelNewsUptoRow.holds Tryz.pinned (OpenSpec.upto levelNewsSpec)

/-- 'babellaw22.TowerSelf', WHERE WHAT IT READS IS OF BULK AT MOST 1048576: true; the input reads as it did. -/
def towerSelfUptoRow : OpenClaim := { program := "ythlmmihlehfoeaagreat", sum := "b25dd020e6a177c079e8c28cab2e4277e9d819ce6fd6f9ac585443dc54d15837", func := "babel/babellaw22.TowerSelf", spec := "towerSelf", inPlace := ["internal/abi.NoEscape"], unfollowed := true, recurses := true, plainKeys := false, apart := false, narrowed := true }
def TowerSelfUptoSaid : Prop := towerSelfUptoRow.holds Tryz.pinned (OpenSpec.upto towerSelfSpec)

/-- 'babellaw22.TowerSync', WHERE WHAT IT READS IS OF BULK AT MOST 1048576: true; the input reads as it did. -/
def towerSyncUptoRow : OpenClaim := { program := "ythlmmihlehfoeaagreat", sum := "b25dd020e6a177c079e8c28cab2e4277e9d819ce6fd6f9ac585443dc54d15837", func := "babel/babellaw22.TowerSync", spec := "towerSync", inPlace := ["internal/abi.NoEscape"], unfollowed := true, recurses := true, plainKeys := false, apart := false, narrowed := true }
def TowerSyncUptoSaid : Prop := towerSyncUptoRow.holds Tryz.pinned (OpenSpec.upto towerSyncSpec)

/-- 'babellaw22.TowerTimer', WHERE WHAT IT READS IS OF BULK AT MOST 1048576: true; the input reads as it did. -/
def towerTimerUptoRow : OpenClaim := { program := "ythlmmihlehfoeaagreat", sum := "b25dd020e6a177c079e8c28cab2e4277e9d819ce6fd6f9ac585443dc54d15837", func := "babel/babellaw22.TowerTimer", spec := "towerTimer", inPlace := ["internal/abi.NoEscape"], unfollowed := true, recurses := true, plainKeys := false, apart := false, narrowed := true }
def TowerTimerUptoSaid : Prop := towerTimerUptoRow.holds Tryz.pinned (OpenSpec.upto towerTimerSpec)

/-- 'babellaw22.TowerDeep', WHERE WHAT IT READS IS OF BULK AT MOST 1048576: true; the input reads as it did. -/
def towerDeepUptoRow : OpenClaim := { program := "ythlmmihlehfoeaagreat", sum := "b25dd020e6a177c079e8c28cab2e4277e9d819ce6fd6f9ac585443dc54d15837", func := "babel/babellaw22.TowerDeep", spec := "towerDeep", inPlace := ["internal/abi.NoEscape"], unfollowed := true, recurses := true, plainKeys := false, apart := false, narrowed := true }
def TowerDeepUptoSaid : Prop := towerDeepUptoRow.holds Tryz.pinned (OpenSpec.upto towerDeepSpec)

end Rows
end Go.Proofs.YthlmmihlehfoeaaGreat
