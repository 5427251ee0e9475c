/-
  No cell of these rows narrows 'for every input' (looked for: loops, veiled, ifaces, maps, wideKeys, modest, calm, conditions, laid).
  DERIVED. THE GIVEN ROWS OF THIS SEAT. 3 by the template 'for every input the law returns true; each argument reads behind the call as it read before'; 0 by the template 'total and deterministic' (their statements: YtbhlmedfhilkbaaTotals.lean).
  GIVEN WITH THE SEED: the statements are not yours to turn. If you find one false, say at which input.
  Laid BY PROGRAM, IN A SANDBOX (cutbox-rows.mjs): the forced cells as the released guide's own fill.sh prints them over the translation 28b405e2a4ec696f… (all of the seat's roots in one cut). By AI agents, Wed Nov 11 2026. No macro, syntax, notation, axiom, sorry.
-/
import Derived.Test.YtbhlmedfhilkbaaChecked
import GoSem.Claim
import GoSem.ClaimJoined
import GoSem.ClaimMapViews
import Derived.JoinedTies
import Derived.KernelRfl
namespace Go.Proofs.Ytbhlmedfhilkbaa
/- THE CELL 'sum', in the pinned program and in every row, IS THE sha256 OF THE DUMP (.gsa) THAT YtbhlmedfhilkbaaProg.lean LOADS. Nothing in Lean hashes anything: it is a label: what it is worth is what the hold of that sum in a sandbox is worth. -/
noncomputable def Try.pinned : Pinned := { name := "ytbhlmedfhilkbaa", sum := "28b405e2a4ec696f67abd62bb09c683f96a1a6c424ffc27daea4b92134ba4a42", checked := Try.checked }
namespace Rows
def none {H : Type} : Left H := { results := [], args := [] }

/-- 'babellaw23.BoardStorms': WHATEVER THE INPUT: true; the input reads as it did. -/
def boardStormsSpec : ChangeSpec := { name := "boardStorms", fn := fun _ => fun
  | [d1, d2, d3] => { results := [.lit (.bool true)], args := [d1, d2, d3] }
  | _ => none }
def boardStormsRow : OpenClaim := { program := "ytbhlmedfhilkbaa", sum := "28b405e2a4ec696f67abd62bb09c683f96a1a6c424ffc27daea4b92134ba4a42", func := "babel/babellaw23.BoardStorms", spec := "boardStorms", unfollowed := true, recurses := true, apart := false }
def BoardStormsSaid : Prop := boardStormsRow.holds Try.pinned (OpenSpec.ofChange boardStormsSpec)

/-- ITS FALSE NEIGHBOUR: 'it returns false'. Refute it at one input. -/
def boardStormsWrong : ChangeSpec := { name := "boardStorms", fn := fun _ => fun
  | [d1, d2, d3] => { results := [.lit (.bool false)], args := [d1, d2, d3] }
  | _ => none }
def BoardStormsWrongFalsely : Prop := boardStormsRow.holds Try.pinned (OpenSpec.ofChange boardStormsWrong)

/-- 'babellaw23.BoardTimers': WHATEVER THE INPUT: true; the input reads as it did. -/
def boardTimersSpec : ChangeSpec := { name := "boardTimers", fn := fun _ => fun
  | [d1, d2, d3] => { results := [.lit (.bool true)], args := [d1, d2, d3] }
  | _ => none }
def boardTimersRow : OpenClaim := { program := "ytbhlmedfhilkbaa", sum := "28b405e2a4ec696f67abd62bb09c683f96a1a6c424ffc27daea4b92134ba4a42", func := "babel/babellaw23.BoardTimers", spec := "boardTimers", unfollowed := true, recurses := true, apart := false }
def BoardTimersSaid : Prop := boardTimersRow.holds Try.pinned (OpenSpec.ofChange boardTimersSpec)

/-- ITS FALSE NEIGHBOUR: 'it returns false'. Refute it at one input. -/
def boardTimersWrong : ChangeSpec := { name := "boardTimers", fn := fun _ => fun
  | [d1, d2, d3] => { results := [.lit (.bool false)], args := [d1, d2, d3] }
  | _ => none }
def BoardTimersWrongFalsely : Prop := boardTimersRow.holds Try.pinned (OpenSpec.ofChange boardTimersWrong)

/-- 'babellaw23.BoardNone': WHATEVER THE INPUT: true; the input reads as it did. -/
def boardNoneSpec : ChangeSpec := { name := "boardNone", fn := fun _ => fun
  | [d1, d2] => { results := [.lit (.bool true)], args := [d1, d2] }
  | _ => none }
def boardNoneRow : OpenClaim := { program := "ytbhlmedfhilkbaa", sum := "28b405e2a4ec696f67abd62bb09c683f96a1a6c424ffc27daea4b92134ba4a42", func := "babel/babellaw23.BoardNone", spec := "boardNone", unfollowed := true, recurses := true, apart := false }
def BoardNoneSaid : Prop := boardNoneRow.holds Try.pinned (OpenSpec.ofChange boardNoneSpec)

/-- ITS FALSE NEIGHBOUR: 'it returns false'. Refute it at one input. -/
def boardNoneWrong : ChangeSpec := { name := "boardNone", fn := fun _ => fun
  | [d1, d2] => { results := [.lit (.bool false)], args := [d1, d2] }
  | _ => none }
def BoardNoneWrongFalsely : Prop := boardNoneRow.holds Try.pinned (OpenSpec.ofChange boardNoneWrong)

/- THE SECOND FORM. 'bulk': how many values and letters a reading holds, each counted each time it is reached (what is shared counts as often as it is met; a slice's spare places count too). A statement '..UptoSaid' is the law's where the arguments, and the package variables that the reading takes, are together of bulk at most 1048576: NARROWER than '..Said'. Prove '..Said' where nothing that the law and all that it calls make is longer than what came in: it says more and counts as full. Else prove '..UptoSaid'. A law counts once. -/
mutual
def uptoBulk {H : Type} : DataW H → Nat
  | .lit (.string bytes) => bytes.length + 1
  | .lit _ => 1
  | .nil => 1
  | .ptr d => uptoBulk d + 1
  | .slice elems spare => uptoBulkAll elems + uptoBulkAll spare + 1
  | .agg parts => uptoBulkAll parts + 1
  | .iface _ d => uptoBulk d + 1
  | .map entries => uptoBulkEntries entries + 1
  | .held _ => 1
def uptoBulkAll {H : Type} : List (DataW H) → Nat
  | [] => 0
  | d :: r => uptoBulk d + uptoBulkAll r
def uptoBulkEntries {H : Type} : List (Lit × DataW H) → Nat
  | [] => 0
  | x :: r => uptoBulkEntry x + uptoBulkEntries r
def uptoBulkEntry {H : Type} : Lit × DataW H → Nat
  | (.string bytes, d) => bytes.length + uptoBulk d + 1
  | (_, d) => uptoBulk d + 1
 end
def uptoSmall : (H : Type) → List (DataW H) → Bool := fun _ ds => decide (uptoBulkAll ds ≤ 1048576)
def OpenSpec.upto (s : _root_.Go.ChangeSpec) : _root_.Go.OpenSpec := { _root_.Go.OpenSpec.ofChange s with cond := some uptoSmall }

/-- 'babellaw23.BoardStorms', WHERE WHAT IT READS IS OF BULK AT MOST 1048576: true; the input reads as it did. -/
def boardStormsUptoRow : OpenClaim := { program := "ytbhlmedfhilkbaa", sum := "28b405e2a4ec696f67abd62bb09c683f96a1a6c424ffc27daea4b92134ba4a42", func := "babel/babellaw23.BoardStorms", spec := "boardStorms", unfollowed := true, recurses := true, apart := false, narrowed := true }
def BoardStormsUptoSaid : Prop := boardStormsUptoRow.holds Try.pinned (OpenSpec.upto boardStormsSpec)

/-- 'babellaw23.BoardTimers', WHERE WHAT IT READS IS OF BULK AT MOST 1048576: true; the input reads as it did. -/
def boardTimersUptoRow : OpenClaim := { program := "ytbhlmedfhilkbaa", sum := "28b405e2a4ec696f67abd62bb09c683f96a1a6c424ffc27daea4b92134ba4a42", func := "babel/babellaw23.BoardTimers", spec := "boardTimers", unfollowed := true, recurses := true, apart := false, narrowed := true }
def BoardTimersUptoSaid : Prop := boardTimersUptoRow.holds Try.pinned (OpenSpec.upto boardTimersSpec)

/-- 'babellaw23.BoardNone', WHERE WHAT IT READS IS OF BULK AT MOST 1048576: true; the input reads as it did. -/
def boardNoneUptoRow : OpenClaim := { program := "ytbhlmedfhilkbaa", sum := "28b405e2a4ec696f67abd62bb09c683f96a1a6c424ffc27daea4b92134ba4a42", func := "babel/babellaw23.BoardNone", spec := "boardNone", unfollowed := true, recurses := true, apart := false, narrowed := true }
def BoardNoneUptoSaid : Prop := boardNoneUptoRow.holds Try.pinned (OpenSpec.upto boardNoneSpec)

end Rows
end Go.Proofs.Ytbhlmedfhilkbaa
