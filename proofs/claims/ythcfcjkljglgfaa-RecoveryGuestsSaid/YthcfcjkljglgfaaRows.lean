/-
  No cell of these rows narrows 'for every input' (looked for: loops, veiled, ifaces, maps, wideKeys, modest, calm, conditions, laid).
  DERIVED. THE GIVEN ROWS OF THIS SEAT. 5 by the template 'for every input the law returns true; each argument reads behind the call as it read before'; 0 by the template 'total and deterministic' (their statements: YthcfcjkljglgfaaTotals.lean).
  GIVEN WITH THE SEED: the statements are not yours to turn. If you find one false, say at which input.
  Laid BY PROGRAM, IN A SANDBOX (cutbox-rows.mjs): the forced cells as the released guide's own fill.sh prints them over the translation 78eca310fac00a29… (all of the seat's roots in one cut). By AI agents, Wed Nov 11 2026. No macro, syntax, notation, axiom, sorry.
-/
import Derived.Test.YthcfcjkljglgfaaChecked
import GoSem.Claim
import GoSem.ClaimJoined
import GoSem.ClaimMapViews
import Derived.JoinedTies
import Derived.KernelRfl
namespace Go.Proofs.Ythcfcjkljglgfaa
/- THE CELL 'sum', in the pinned program and in every row, IS THE sha256 OF THE DUMP (.gsa) THAT YthcfcjkljglgfaaProg.lean LOADS. Nothing in Lean hashes anything: it is a label: what it is worth is what the hold of that sum in a sandbox is worth. -/
noncomputable def Try.pinned : Pinned := { name := "ythcfcjkljglgfaa", sum := "78eca310fac00a29336c69ada2ff91c6e50dae0aa7ffb1f59fecc9366c58f7e2", checked := Try.checked }
namespace Rows
def none {H : Type} : Left H := { results := [], args := [] }

/-- 'babellaw19.RecoveryContexts': WHATEVER THE INPUT: true; the input reads as it did. -/
def recoveryContextsSpec : ChangeSpec := { name := "recoveryContexts", fn := fun _ => fun
  | [d1, d2, d3] => { results := [.lit (.bool true)], args := [d1, d2, d3] }
  | _ => none }
def recoveryContextsRow : OpenClaim := { program := "ythcfcjkljglgfaa", sum := "78eca310fac00a29336c69ada2ff91c6e50dae0aa7ffb1f59fecc9366c58f7e2", func := "babel/babellaw19.RecoveryContexts", spec := "recoveryContexts", unfollowed := true, recurses := true, apart := false }
def RecoveryContextsSaid : Prop := recoveryContextsRow.holds Try.pinned (OpenSpec.ofChange recoveryContextsSpec)

/-- ITS FALSE NEIGHBOUR: 'it returns false'. Refute it at one input. -/
def recoveryContextsWrong : ChangeSpec := { name := "recoveryContexts", fn := fun _ => fun
  | [d1, d2, d3] => { results := [.lit (.bool false)], args := [d1, d2, d3] }
  | _ => none }
def RecoveryContextsWrongFalsely : Prop := recoveryContextsRow.holds Try.pinned (OpenSpec.ofChange recoveryContextsWrong)

/-- 'babellaw19.RecoveryGuests': WHATEVER THE INPUT: true; the input reads as it did. -/
def recoveryGuestsSpec : ChangeSpec := { name := "recoveryGuests", fn := fun _ => fun
  | [d1, d2, d3] => { results := [.lit (.bool true)], args := [d1, d2, d3] }
  | _ => none }
def recoveryGuestsRow : OpenClaim := { program := "ythcfcjkljglgfaa", sum := "78eca310fac00a29336c69ada2ff91c6e50dae0aa7ffb1f59fecc9366c58f7e2", func := "babel/babellaw19.RecoveryGuests", spec := "recoveryGuests", unfollowed := true, recurses := true, apart := false }
def RecoveryGuestsSaid : Prop := recoveryGuestsRow.holds Try.pinned (OpenSpec.ofChange recoveryGuestsSpec)

/-- ITS FALSE NEIGHBOUR: 'it returns false'. Refute it at one input. -/
def recoveryGuestsWrong : ChangeSpec := { name := "recoveryGuests", fn := fun _ => fun
  | [d1, d2, d3] => { results := [.lit (.bool false)], args := [d1, d2, d3] }
  | _ => none }
def RecoveryGuestsWrongFalsely : Prop := recoveryGuestsRow.holds Try.pinned (OpenSpec.ofChange recoveryGuestsWrong)

/-- 'babellaw19.RecoveryFinds': WHATEVER THE INPUT: true; the input reads as it did. -/
def recoveryFindsSpec : ChangeSpec := { name := "recoveryFinds", fn := fun _ => fun
  | [d1, d2] => { results := [.lit (.bool true)], args := [d1, d2] }
  | _ => none }
def recoveryFindsRow : OpenClaim := { program := "ythcfcjkljglgfaa", sum := "78eca310fac00a29336c69ada2ff91c6e50dae0aa7ffb1f59fecc9366c58f7e2", func := "babel/babellaw19.RecoveryFinds", spec := "recoveryFinds", unfollowed := true, recurses := true, apart := false }
def RecoveryFindsSaid : Prop := recoveryFindsRow.holds Try.pinned (OpenSpec.ofChange recoveryFindsSpec)

/-- ITS FALSE NEIGHBOUR: 'it returns false'. Refute it at one input. -/
def recoveryFindsWrong : ChangeSpec := { name := "recoveryFinds", fn := fun _ => fun
  | [d1, d2] => { results := [.lit (.bool false)], args := [d1, d2] }
  | _ => none }
def RecoveryFindsWrongFalsely : Prop := recoveryFindsRow.holds Try.pinned (OpenSpec.ofChange recoveryFindsWrong)

/-- 'babellaw19.RecoveryVars': WHATEVER THE INPUT: true; the input reads as it did. -/
def recoveryVarsSpec : ChangeSpec := { name := "recoveryVars", fn := fun _ => fun
  | [d1, d2, d3] => { results := [.lit (.bool true)], args := [d1, d2, d3] }
  | _ => none }
def recoveryVarsRow : OpenClaim := { program := "ythcfcjkljglgfaa", sum := "78eca310fac00a29336c69ada2ff91c6e50dae0aa7ffb1f59fecc9366c58f7e2", func := "babel/babellaw19.RecoveryVars", spec := "recoveryVars", unfollowed := true, recurses := true, apart := false }
def RecoveryVarsSaid : Prop := recoveryVarsRow.holds Try.pinned (OpenSpec.ofChange recoveryVarsSpec)

/-- ITS FALSE NEIGHBOUR: 'it returns false'. Refute it at one input. -/
def recoveryVarsWrong : ChangeSpec := { name := "recoveryVars", fn := fun _ => fun
  | [d1, d2, d3] => { results := [.lit (.bool false)], args := [d1, d2, d3] }
  | _ => none }
def RecoveryVarsWrongFalsely : Prop := recoveryVarsRow.holds Try.pinned (OpenSpec.ofChange recoveryVarsWrong)

/-- 'babellaw19.RecoveryRoundTrip': WHATEVER THE INPUT: true; the input reads as it did. -/
def recoveryRoundTripSpec : ChangeSpec := { name := "recoveryRoundTrip", fn := fun _ => fun
  | [d1, d2, d3] => { results := [.lit (.bool true)], args := [d1, d2, d3] }
  | _ => none }
def recoveryRoundTripRow : OpenClaim := { program := "ythcfcjkljglgfaa", sum := "78eca310fac00a29336c69ada2ff91c6e50dae0aa7ffb1f59fecc9366c58f7e2", func := "babel/babellaw19.RecoveryRoundTrip", spec := "recoveryRoundTrip", unfollowed := true, recurses := true, apart := false }
def RecoveryRoundTripSaid : Prop := recoveryRoundTripRow.holds Try.pinned (OpenSpec.ofChange recoveryRoundTripSpec)

/-- ITS FALSE NEIGHBOUR: 'it returns false'. Refute it at one input. -/
def recoveryRoundTripWrong : ChangeSpec := { name := "recoveryRoundTrip", fn := fun _ => fun
  | [d1, d2, d3] => { results := [.lit (.bool false)], args := [d1, d2, d3] }
  | _ => none }
def RecoveryRoundTripWrongFalsely : Prop := recoveryRoundTripRow.holds Try.pinned (OpenSpec.ofChange recoveryRoundTripWrong)

/- THE SECOND FORM. 'bulk': how many values and letters a reading holds, each counted each time it is reached (what is shared counts as often as it is met; a slice's spare places count too). A statement '..UptoSaid' is the law's where the arguments, and the package variables that the reading takes, are together of bulk at most 1048576: NARROWER than '..Said'. Prove '..Said' where nothing that the law and all that it calls make is longer than what came in: it says more and counts as full. Else prove '..UptoSaid'. A law counts once. -/
mutual
def uptoBulk {H : Type} : DataW H → Nat
  | .lit (.string bytes) => bytes.length + 1
  | .lit _ => 1
  | .nil => 1
  | .ptr d => uptoBulk d + 1
  | .slice elems spare => uptoBulkAll elems + uptoBulkAll spare + 1
  | .agg parts => uptoBulkAll parts + 1
  | .iface _ d => uptoBulk d + 1
  | .map entries => uptoBulkEntries entries + 1
  | .held _ => 1
def uptoBulkAll {H : Type} : List (DataW H) → Nat
  | [] => 0
  | d :: r => uptoBulk d + uptoBulkAll r
def uptoBulkEntries {H : Type} : List (Lit × DataW H) → Nat
  | [] => 0
  | x :: r => uptoBulkEntry x + uptoBulkEntries r
def uptoBulkEntry {H : Type} : Lit × DataW H → Nat
  | (.string bytes, d) => bytes.length + uptoBulk d + 1
  | (_, d) => uptoBulk d + 1
 end
def uptoSmall : (H : Type) → List (DataW H) → Bool := fun _ ds => decide (uptoBulkAll ds ≤ 1048576)
def OpenSpec.upto (s : _root_.Go.ChangeSpec) : _root_.Go.OpenSpec := { _root_.Go.OpenSpec.ofChange s with cond := some uptoSmall }

/-- 'babellaw19.RecoveryContexts', WHERE WHAT IT READS IS OF BULK AT MOST 1048576: true; the input reads as it did. -/
def recoveryContextsUptoRow : OpenClaim := { program := "ythcfcjkljglgfaa", sum := "78eca310fac00a29336c69ada2ff91c6e50dae0aa7ffb1f59fecc9366c58f7e2", func := "babel/babellaw19.RecoveryContexts", spec := "recoveryContexts", unfollowed := true, recurses := true, apart := false, narrowed := true }
def RecoveryContextsUptoSaid : Prop := recoveryContextsUptoRow.holds Try.pinned (OpenSpec.upto recoveryContextsSpec)

/-- 'babellaw19.RecoveryGuests', WHERE WHAT IT READS IS OF BULK AT MOST 1048576: true; the input reads as it did. -/
def recoveryGuestsUptoRow : OpenClaim := { program := "ythcfcjkljglgfaa", sum := "78eca310fac00a29336c69ada2ff91c6e50dae0aa7ffb1f59fecc9366c58f7e2", func := "babel/babellaw19.RecoveryGuests", spec := "recoveryGuests", unfollowed := true, recurses := true, apart := false, narrowed := true }
def RecoveryGuestsUptoSaid : Prop := recoveryGuestsUptoRow.holds Try.pinned (OpenSpec.upto recoveryGuestsSpec)

/-- 'babellaw19.RecoveryFinds', WHERE WHAT IT READS IS OF BULK AT MOST 1048576: true; the input reads as it did. -/
def recoveryFindsUptoRow : OpenClaim := { program := "ythcfcjkljglgfaa", sum := "78eca310fac00a29336c69ada2ff91c6e50dae0aa7ffb1f59fecc9366c58f7e2", func := "babel/babellaw19.RecoveryFinds", spec := "recoveryFinds", unfollowed := true, recurses := true, apart := false, narrowed := true }
def RecoveryFindsUptoSaid : Prop := recoveryFindsUptoRow.holds Try.pinned (OpenSpec.upto recoveryFindsSpec)

/-- 'babellaw19.RecoveryVars', WHERE WHAT IT READS IS OF BULK AT MOST 1048576: true; the input reads as it did. -/
def recoveryVarsUptoRow : OpenClaim := { program := "ythcfcjkljglgfaa", sum := "78eca310fac00a29336c69ada2ff91c6e50dae0aa7ffb1f59fecc9366c58f7e2", func := "babel/babellaw19.RecoveryVars", spec := "recoveryVars", unfollowed := true, recurses := true, apart := false, narrowed := true }
def RecoveryVarsUptoSaid : Prop := recoveryVarsUptoRow.holds Try.pinned (OpenSpec.upto recoveryVarsSpec)

/-- 'babellaw19.RecoveryRoundTrip', WHERE WHAT IT READS IS OF BULK AT MOST 1048576: true; the input reads as it did. -/
def recoveryRoundTripUptoRow : OpenClaim := { program := "ythcfcjkljglgfaa", sum := "78eca310fac00a29336c69ada2ff91c6e50dae0aa7ffb1f59fecc9366c58f7e2", func := "babel/babellaw19.RecoveryRoundTrip", spec := "recoveryRoundTrip", unfollowed := true, recurses := true, apart := false, narrowed := true }
def RecoveryRoundTripUptoSaid : Prop := recoveryRoundTripUptoRow.holds Try.pinned (OpenSpec.upto recoveryRoundTripSpec)

end Rows
end Go.Proofs.Ythcfcjkljglgfaa
