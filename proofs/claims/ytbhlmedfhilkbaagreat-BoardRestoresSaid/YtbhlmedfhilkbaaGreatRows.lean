/-
  No cell of these rows narrows 'for every input' (looked for: loops, veiled, ifaces, maps, wideKeys, modest, calm, conditions, laid).
  DERIVED. THE GIVEN ROWS OF THIS SEAT. 10 by the template 'for every input the law returns true; each argument reads behind the call as it read before'; 0 by the template 'total and deterministic' (their statements: YtbhlmedfhilkbaaGreatTotals.lean).
  GIVEN WITH THE SEED: the statements are not yours to turn. If you find one false, say at which input.
  Laid BY PROGRAM, IN A SANDBOX (cutbox-rows.mjs): the forced cells as the released guide's own fill.sh prints them over the translation 51ff433ebedbdb11… (all of the seat's roots in one cut). By AI agents, Wed Nov 11 2026. No macro, syntax, notation, axiom, sorry.
-/
import Derived.Test.YtbhlmedfhilkbaaGreatChecked
import GoSem.Claim
import GoSem.ClaimJoined
import GoSem.ClaimMapViews
import Derived.JoinedTies
import Derived.KernelRfl
namespace Go.Proofs.YtbhlmedfhilkbaaGreat
/- THE CELL 'sum', in the pinned program and in every row, IS THE sha256 OF THE DUMP (.gsa) THAT YtbhlmedfhilkbaaGreatProg.lean LOADS. Nothing in Lean hashes anything: it is a label: what it is worth is what the hold of that sum in a sandbox is worth. -/
noncomputable def Tryz.pinned : Pinned := { name := "ytbhlmedfhilkbaagreat", sum := "51ff433ebedbdb119317767da3ac2a111bc840b91b972309ae75ff174252738f", checked := Tryz.checked }
namespace Rows
def none {H : Type} : Left H := { results := [], args := [] }

/-- 'babellaw23.BoardSame': WHATEVER THE INPUT: true; the input reads as it did. -/
def boardSameSpec : ChangeSpec := { name := "boardSame", fn := fun _ => fun
  | [d1, d2, d3] => { results := [.lit (.bool true)], args := [d1, d2, d3] }
  | _ => none }
def boardSameRow : OpenClaim := { program := "ytbhlmedfhilkbaagreat", sum := "51ff433ebedbdb119317767da3ac2a111bc840b91b972309ae75ff174252738f", func := "babel/babellaw23.BoardSame", spec := "boardSame", unfollowed := true, recurses := true, apart := false }
def BoardSameSaid : Prop := boardSameRow.holds Tryz.pinned (OpenSpec.ofChange boardSameSpec)

/-- ITS FALSE NEIGHBOUR: 'it returns false'. Refute it at one input. -/
def boardSameWrong : ChangeSpec := { name := "boardSame", fn := fun _ => fun
  | [d1, d2, d3] => { results := [.lit (.bool false)], args := [d1, d2, d3] }
  | _ => none }
def BoardSameWrongFalsely : Prop := boardSameRow.holds Tryz.pinned (OpenSpec.ofChange boardSameWrong)

/-- 'babellaw23.BoardOutputs': WHATEVER THE INPUT: true; the input reads as it did. -/
def boardOutputsSpec : ChangeSpec := { name := "boardOutputs", fn := fun _ => fun
  | [d1, d2, d3] => { results := [.lit (.bool true)], args := [d1, d2, d3] }
  | _ => none }
def boardOutputsRow : OpenClaim := { program := "ytbhlmedfhilkbaagreat", sum := "51ff433ebedbdb119317767da3ac2a111bc840b91b972309ae75ff174252738f", func := "babel/babellaw23.BoardOutputs", spec := "boardOutputs", unfollowed := true, recurses := true, apart := false }
def BoardOutputsSaid : Prop := boardOutputsRow.holds Tryz.pinned (OpenSpec.ofChange boardOutputsSpec)

/-- ITS FALSE NEIGHBOUR: 'it returns false'. Refute it at one input. -/
def boardOutputsWrong : ChangeSpec := { name := "boardOutputs", fn := fun _ => fun
  | [d1, d2, d3] => { results := [.lit (.bool false)], args := [d1, d2, d3] }
  | _ => none }
def BoardOutputsWrongFalsely : Prop := boardOutputsRow.holds Tryz.pinned (OpenSpec.ofChange boardOutputsWrong)

/-- 'babellaw23.BoardDelivers': WHATEVER THE INPUT: true; the input reads as it did. -/
def boardDeliversSpec : ChangeSpec := { name := "boardDelivers", fn := fun _ => fun
  | [d1, d2] => { results := [.lit (.bool true)], args := [d1, d2] }
  | _ => none }
def boardDeliversRow : OpenClaim := { program := "ytbhlmedfhilkbaagreat", sum := "51ff433ebedbdb119317767da3ac2a111bc840b91b972309ae75ff174252738f", func := "babel/babellaw23.BoardDelivers", spec := "boardDelivers", unfollowed := true, recurses := true, apart := false }
def BoardDeliversSaid : Prop := boardDeliversRow.holds Tryz.pinned (OpenSpec.ofChange boardDeliversSpec)

/-- ITS FALSE NEIGHBOUR: 'it returns false'. Refute it at one input. -/
def boardDeliversWrong : ChangeSpec := { name := "boardDelivers", fn := fun _ => fun
  | [d1, d2] => { results := [.lit (.bool false)], args := [d1, d2] }
  | _ => none }
def BoardDeliversWrongFalsely : Prop := boardDeliversRow.holds Tryz.pinned (OpenSpec.ofChange boardDeliversWrong)

/-- 'babellaw23.BoardRuns': WHATEVER THE INPUT: true; the input reads as it did. -/
def boardRunsSpec : ChangeSpec := { name := "boardRuns", fn := fun _ => fun
  | [d1, d2, d3] => { results := [.lit (.bool true)], args := [d1, d2, d3] }
  | _ => none }
def boardRunsRow : OpenClaim := { program := "ytbhlmedfhilkbaagreat", sum := "51ff433ebedbdb119317767da3ac2a111bc840b91b972309ae75ff174252738f", func := "babel/babellaw23.BoardRuns", spec := "boardRuns", unfollowed := true, recurses := true, apart := false }
def BoardRunsSaid : Prop := boardRunsRow.holds Tryz.pinned (OpenSpec.ofChange boardRunsSpec)

/-- ITS FALSE NEIGHBOUR: 'it returns false'. Refute it at one input. -/
def boardRunsWrong : ChangeSpec := { name := "boardRuns", fn := fun _ => fun
  | [d1, d2, d3] => { results := [.lit (.bool false)], args := [d1, d2, d3] }
  | _ => none }
def BoardRunsWrongFalsely : Prop := boardRunsRow.holds Tryz.pinned (OpenSpec.ofChange boardRunsWrong)

/-- 'babellaw23.BoardStops': WHATEVER THE INPUT: true; the input reads as it did. -/
def boardStopsSpec : ChangeSpec := { name := "boardStops", fn := fun _ => fun
  | [d1, d2, d3] => { results := [.lit (.bool true)], args := [d1, d2, d3] }
  | _ => none }
def boardStopsRow : OpenClaim := { program := "ytbhlmedfhilkbaagreat", sum := "51ff433ebedbdb119317767da3ac2a111bc840b91b972309ae75ff174252738f", func := "babel/babellaw23.BoardStops", spec := "boardStops", unfollowed := true, recurses := true, apart := false }
def BoardStopsSaid : Prop := boardStopsRow.holds Tryz.pinned (OpenSpec.ofChange boardStopsSpec)

/-- ITS FALSE NEIGHBOUR: 'it returns false'. Refute it at one input. -/
def boardStopsWrong : ChangeSpec := { name := "boardStops", fn := fun _ => fun
  | [d1, d2, d3] => { results := [.lit (.bool false)], args := [d1, d2, d3] }
  | _ => none }
def BoardStopsWrongFalsely : Prop := boardStopsRow.holds Tryz.pinned (OpenSpec.ofChange boardStopsWrong)

/-- 'babellaw23.BoardCounts': WHATEVER THE INPUT: true; the input reads as it did. -/
def boardCountsSpec : ChangeSpec := { name := "boardCounts", fn := fun _ => fun
  | [d1, d2, d3] => { results := [.lit (.bool true)], args := [d1, d2, d3] }
  | _ => none }
def boardCountsRow : OpenClaim := { program := "ytbhlmedfhilkbaagreat", sum := "51ff433ebedbdb119317767da3ac2a111bc840b91b972309ae75ff174252738f", func := "babel/babellaw23.BoardCounts", spec := "boardCounts", unfollowed := true, recurses := true, apart := false }
def BoardCountsSaid : Prop := boardCountsRow.holds Tryz.pinned (OpenSpec.ofChange boardCountsSpec)

/-- ITS FALSE NEIGHBOUR: 'it returns false'. Refute it at one input. -/
def boardCountsWrong : ChangeSpec := { name := "boardCounts", fn := fun _ => fun
  | [d1, d2, d3] => { results := [.lit (.bool false)], args := [d1, d2, d3] }
  | _ => none }
def BoardCountsWrongFalsely : Prop := boardCountsRow.holds Tryz.pinned (OpenSpec.ofChange boardCountsWrong)

/-- 'babellaw23.BoardSplits': WHATEVER THE INPUT: true; the input reads as it did. -/
def boardSplitsSpec : ChangeSpec := { name := "boardSplits", fn := fun _ => fun
  | [d1, d2, d3] => { results := [.lit (.bool true)], args := [d1, d2, d3] }
  | _ => none }
def boardSplitsRow : OpenClaim := { program := "ytbhlmedfhilkbaagreat", sum := "51ff433ebedbdb119317767da3ac2a111bc840b91b972309ae75ff174252738f", func := "babel/babellaw23.BoardSplits", spec := "boardSplits", unfollowed := true, recurses := true, apart := false }
def BoardSplitsSaid : Prop := boardSplitsRow.holds Tryz.pinned (OpenSpec.ofChange boardSplitsSpec)

/-- ITS FALSE NEIGHBOUR: 'it returns false'. Refute it at one input. -/
def boardSplitsWrong : ChangeSpec := { name := "boardSplits", fn := fun _ => fun
  | [d1, d2, d3] => { results := [.lit (.bool false)], args := [d1, d2, d3] }
  | _ => none }
def BoardSplitsWrongFalsely : Prop := boardSplitsRow.holds Tryz.pinned (OpenSpec.ofChange boardSplitsWrong)

/-- 'babellaw23.BoardReplaces': WHATEVER THE INPUT: true; the input reads as it did. -/
def boardReplacesSpec : ChangeSpec := { name := "boardReplaces", fn := fun _ => fun
  | [d1, d2, d3] => { results := [.lit (.bool true)], args := [d1, d2, d3] }
  | _ => none }
def boardReplacesRow : OpenClaim := { program := "ytbhlmedfhilkbaagreat", sum := "51ff433ebedbdb119317767da3ac2a111bc840b91b972309ae75ff174252738f", func := "babel/babellaw23.BoardReplaces", spec := "boardReplaces", unfollowed := true, recurses := true, apart := false }
def BoardReplacesSaid : Prop := boardReplacesRow.holds Tryz.pinned (OpenSpec.ofChange boardReplacesSpec)

/-- ITS FALSE NEIGHBOUR: 'it returns false'. Refute it at one input. -/
def boardReplacesWrong : ChangeSpec := { name := "boardReplaces", fn := fun _ => fun
  | [d1, d2, d3] => { results := [.lit (.bool false)], args := [d1, d2, d3] }
  | _ => none }
def BoardReplacesWrongFalsely : Prop := boardReplacesRow.holds Tryz.pinned (OpenSpec.ofChange boardReplacesWrong)

/-- 'babellaw23.BoardRestores': WHATEVER THE INPUT: true; the input reads as it did. -/
def boardRestoresSpec : ChangeSpec := { name := "boardRestores", fn := fun _ => fun
  | [d1, d2, d3] => { results := [.lit (.bool true)], args := [d1, d2, d3] }
  | _ => none }
def boardRestoresRow : OpenClaim := { program := "ytbhlmedfhilkbaagreat", sum := "51ff433ebedbdb119317767da3ac2a111bc840b91b972309ae75ff174252738f", func := "babel/babellaw23.BoardRestores", spec := "boardRestores", unfollowed := true, recurses := true, apart := false }
def BoardRestoresSaid : Prop := boardRestoresRow.holds Tryz.pinned (OpenSpec.ofChange boardRestoresSpec)

/-- ITS FALSE NEIGHBOUR: 'it returns false'. Refute it at one input. -/
def boardRestoresWrong : ChangeSpec := { name := "boardRestores", fn := fun _ => fun
  | [d1, d2, d3] => { results := [.lit (.bool false)], args := [d1, d2, d3] }
  | _ => none }
def BoardRestoresWrongFalsely : Prop := boardRestoresRow.holds Tryz.pinned (OpenSpec.ofChange boardRestoresWrong)

/-- 'babellaw23.BoardFits': WHATEVER THE INPUT: true; the input reads as it did. -/
def boardFitsSpec : ChangeSpec := { name := "boardFits", fn := fun _ => fun
  | [d1, d2, d3] => { results := [.lit (.bool true)], args := [d1, d2, d3] }
  | _ => none }
def boardFitsRow : OpenClaim := { program := "ytbhlmedfhilkbaagreat", sum := "51ff433ebedbdb119317767da3ac2a111bc840b91b972309ae75ff174252738f", func := "babel/babellaw23.BoardFits", spec := "boardFits", unfollowed := true, recurses := true, apart := false }
def BoardFitsSaid : Prop := boardFitsRow.holds Tryz.pinned (OpenSpec.ofChange boardFitsSpec)

/-- ITS FALSE NEIGHBOUR: 'it returns false'. Refute it at one input. -/
def boardFitsWrong : ChangeSpec := { name := "boardFits", fn := fun _ => fun
  | [d1, d2, d3] => { results := [.lit (.bool false)], args := [d1, d2, d3] }
  | _ => none }
def BoardFitsWrongFalsely : Prop := boardFitsRow.holds Tryz.pinned (OpenSpec.ofChange boardFitsWrong)

/- THE SECOND FORM. 'bulk': how many values and letters a reading holds, each counted each time it is reached (what is shared counts as often as it is met; a slice's spare places count too). A statement '..UptoSaid' is the law's where the arguments, and the package variables that the reading takes, are together of bulk at most 1048576: NARROWER than '..Said'. Prove '..Said' where nothing that the law and all that it calls make is longer than what came in: it says more and counts as full. Else prove '..UptoSaid'. A law counts once. -/
mutual
def uptoBulk {H : Type} : DataW H → Nat
  | .lit (.string bytes) => bytes.length + 1
  | .lit _ => 1
  | .nil => 1
  | .ptr d => uptoBulk d + 1
  | .slice elems spare => uptoBulkAll elems + uptoBulkAll spare + 1
  | .agg parts => uptoBulkAll parts + 1
  | .iface _ d => uptoBulk d + 1
  | .map entries => uptoBulkEntries entries + 1
  | .held _ => 1
def uptoBulkAll {H : Type} : List (DataW H) → Nat
  | [] => 0
  | d :: r => uptoBulk d + uptoBulkAll r
def uptoBulkEntries {H : Type} : List (Lit × DataW H) → Nat
  | [] => 0
  | x :: r => uptoBulkEntry x + uptoBulkEntries r
def uptoBulkEntry {H : Type} : Lit × DataW H → Nat
  | (.string bytes, d) => bytes.length + uptoBulk d + 1
  | (_, d) => uptoBulk d + 1
 end
def uptoSmall : (H : Type) → List (DataW H) → Bool := fun _ ds => decide (uptoBulkAll ds ≤ 1048576)
def OpenSpec.upto (s : _root_.Go.ChangeSpec) : _root_.Go.OpenSpec := { _root_.Go.OpenSpec.ofChange s with cond := some uptoSmall }

/-- 'babellaw23.BoardSame', WHERE WHAT IT READS IS OF BULK AT MOST 1048576: true; the input reads as it did. -/
def boardSameUptoRow : OpenClaim := { program := "ytbhlmedfhilkbaagreat", sum := "51ff433ebedbdb119317767da3ac2a111bc840b91b972309ae75ff174252738f", func := "babel/babellaw23.BoardSame", spec := "boardSame", unfollowed := true, recurses := true, apart := false, narrowed := true }
def BoardSameUptoSaid : Prop := boardSameUptoRow.holds Tryz.pinned (OpenSpec.upto boardSameSpec)

/-- 'babellaw23.BoardOutputs', WHERE WHAT IT READS IS OF BULK AT MOST 1048576: true; the input reads as it did. -/
def boardOutputsUptoRow : OpenClaim := { program := "ytbhlmedfhilkbaagreat", sum := "51ff433ebedbdb119317767da3ac2a111bc840b91b972309ae75ff174252738f", func := "babel/babellaw23.BoardOutputs", spec := "boardOutputs", unfollowed := true, recurses := true, apart := false, narrowed := true }
def BoardOutputsUptoSaid : Prop := boardOutputsUptoRow.holds Tryz.pinned (OpenSpec.upto boardOutputsSpec)

/-- 'babellaw23.BoardDelivers', WHERE WHAT IT READS IS OF BULK AT MOST 1048576: true; the input reads as it did. -/
def boardDeliversUptoRow : OpenClaim := { program := "ytbhlmedfhilkbaagreat", sum := "51ff433ebedbdb119317767da3ac2a111bc840b91b972309ae75ff174252738f", func := "babel/babellaw23.BoardDelivers", spec := "boardDelivers", unfollowed := true, recurses := true, apart := false, narrowed := true }
def BoardDeliversUptoSaid : Prop := boardDeliversUptoRow.holds Tryz.pinned (OpenSpec.upto boardDeliversSpec)

/-- 'babellaw23.BoardRuns', WHERE WHAT IT READS IS OF BULK AT MOST 1048576: true; the input reads as it did. -/
def boardRunsUptoRow : OpenClaim := { program := "ytbhlmedfhilkbaagreat", sum := "51ff433ebedbdb119317767da3ac2a111bc840b91b972309ae75ff174252738f", func := "babel/babellaw23.BoardRuns", spec := "boardRuns", unfollowed := true, recurses := true, apart := false, narrowed := true }
def BoardRunsUptoSaid : Prop := boardRunsUptoRow.holds Tryz.pinned (OpenSpec.upto boardRunsSpec)

/-- 'babellaw23.BoardStops', WHERE WHAT IT READS IS OF BULK AT MOST 1048576: true; the input reads as it did. -/
def boardStopsUptoRow : OpenClaim := { program := "ytbhlmedfhilkbaagreat", sum := "51ff433ebedbdb119317767da3ac2a111bc840b91b972309ae75ff174252738f", func := "babel/babellaw23.BoardStops", spec := "boardStops", unfollowed := true, recurses := true, apart := false, narrowed := true }
def BoardStopsUptoSaid : Prop := boardStopsUptoRow.holds Tryz.pinned (OpenSpec.upto boardStopsSpec)

/-- 'babellaw23.BoardCounts', WHERE WHAT IT READS IS OF BULK AT MOST 1048576: true; the input reads as it did. -/
def boardCountsUptoRow : OpenClaim := { program := "ytbhlmedfhilkbaagreat", sum := "51ff433ebedbdb119317767da3ac2a111bc840b91b972309ae75ff174252738f", func := "babel/babellaw23.BoardCounts", spec := "boardCounts", unfollowed := true, recurses := true, apart := false, narrowed := true }
def BoardCountsUptoSaid : Prop := boardCountsUptoRow.holds Tryz.pinned (OpenSpec.upto boardCountsSpec)

/-- 'babellaw23.BoardSplits', WHERE WHAT IT READS IS OF BULK AT MOST 1048576: true; the input reads as it did. -/
def boardSplitsUptoRow : OpenClaim := { program := "ytbhlmedfhilkbaagreat", sum := "51ff433ebedbdb119317767da3ac2a111bc840b91b972309ae75ff174252738f", func := "babel/babellaw23.BoardSplits", spec := "boardSplits", unfollowed := true, recurses := true, apart := false, narrowed := true }
def BoardSplitsUptoSaid : Prop := boardSplitsUptoRow.holds Tryz.pinned (OpenSpec.upto boardSplitsSpec)

/-- 'babellaw23.BoardReplaces', WHERE WHAT IT READS IS OF BULK AT MOST 1048576: true; the input reads as it did. -/
def boardReplacesUptoRow : OpenClaim := { program := "ytbhlmedfhilkbaagreat", sum := "51ff433ebedbdb119317767da3ac2a111bc840b91b972309ae75ff174252738f", func := "babel/babellaw23.BoardReplaces", spec := "boardReplaces", unfollowed := true, recurses := true, apart := false, narrowed := true }
def BoardReplacesUptoSaid : Prop := boardReplacesUptoRow.holds Tryz.pinned (OpenSpec.upto boardReplacesSpec)

/-- 'babellaw23.BoardRestores', WHERE WHAT IT READS IS OF BULK AT MOST 1048576: true; the input reads as it did. -/
def boardRestoresUptoRow : OpenClaim := { program := "ytbhlmedfhilkbaagreat", sum := "51ff433ebedbdb119317767da3ac2a111bc840b91b972309ae75ff174252738f", func := "babel/babellaw23.BoardRestores", spec := "boardRestores", unfollowed := true, recurses := true, apart := false, narrowed := true }
def BoardRestoresUptoSaid : Prop := boardRestoresUptoRow.holds Tryz.pinned (OpenSpec.upto boardRestoresSpec)

/-- 'babellaw23.BoardFits', WHERE WHAT IT READS IS OF BULK AT MOST 1048576: true; the input reads as it did. -/
def boardFitsUptoRow : OpenClaim := { program := "ytbhlmedfhilkbaagreat", sum := "51ff433ebedbdb119317767da3ac2a111bc840b91b972309ae75ff174252738f", func := "babel/babellaw23.BoardFits", spec := "boardFits", unfollowed := true, recurses := true, apart := false, narrowed := true }
def BoardFitsUptoSaid : Prop := boardFitsUptoRow.holds Tryz.pinned (OpenSpec.upto boardFitsSpec)

end Rows
end Go.Proofs.YtbhlmedfhilkbaaGreat
