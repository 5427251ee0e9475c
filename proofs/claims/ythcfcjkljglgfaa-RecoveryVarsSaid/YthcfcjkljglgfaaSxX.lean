/- Contracts parted by a test; outcomes shown by cases. No condition. -/
import Derived.Test.YthcfcjkljglgfaaSxQ
namespace Go.Sx
set_option linter.unusedVariables false
noncomputable section
/-- Equal, if need be by cases. -/
def qP (bd : Bd) (k : Nat) (dec : Dec) (a b : IE) : Bool :=
  match a.eqN bd dec b with
  | true => true
  | false =>
    match prove bd k dec (mkEq bd a b) with
    | some v => v
    | none => false
theorem qP_ok {ρ : Env} {bd : Bd} (hρ : ρ.ok bd) {k : Nat} {dec : Dec} (hd : dec.holds ρ) {a b : IE} (h : qP bd k dec a b = true) : a.ev ρ = b.ev ρ := by
  unfold qP at h
  split at h
  · rename_i h1
    exact IE.eqN_ev hρ hd h1
  · split at h
    · rename_i v hv
      subst h
      have := prove_ok hρ k dec _ _ hd hv
      rw [mkEq_ev hρ] at this
      exact of_decide_eq_true this
    · cases h
section
variable {P : Program} {G : Nat → Int → Int → Int → Int} {GH : Nat → Ghost} {c : Con} {K : Know}
theorem Con.leavesQ (facts : Dec) (hf : ∀ ρ : Env, ρ.std G GH → ρ.ok (bdL c.bds) → c.pre.holds ρ → facts.holds ρ) (q : Dec → IE → IE → Bool)
    (hq : ∀ ρ : Env, ρ.std G GH → ρ.ok (bdL c.bds) → c.pre.holds ρ → ∀ (dec : Dec) (a b : IE), dec.holds ρ → q dec a b = true → a.ev ρ = b.ev ρ) {o : Out} (h : o.all (c.leaf q) (facts ++ c.pre) = true) : c.Leaves G GH o := by
  intro ρ h1 h2 h3
  obtain ⟨e, s, dec', hd', p1, p2⟩ := Out.all_pick (holds_app (hf ρ h1 h2 h3) h3) h
  unfold Con.leaf at p2
  split at p2
  · rename_i l hl
    exact ⟨e, s, _, l, p1, hl, prsAll_ok (fun a b hab => hq ρ h1 h2 h3 dec' a b hd' hab) p2⟩
  · cases p2
/-- A run whose outcomes are shown by cases. -/
theorem Con.of_treeP (mixed : P.follows .mixedOrders = true) (hK : K.Ok P G GH) (L : Nat) (pol : FuncId → Nat → Bool) (pure : FuncId → Bool) (d k : Nat) (h : (c.tree P K L pol pure d []).all (c.leaf (qP (bdL c.bds) k)) c.pre = true) : c.Ok P G GH :=
  Con.ok_of mixed hK (facts := []) (fun ρ _ _ _ p hp => by cases hp) (Con.leavesQ [] (fun ρ _ _ _ p hp => by cases hp) _ (fun ρ h1 h2 h3 dec a b hd hab => qP_ok h2 hd hab) h)
theorem Con.split {b : BE} (h1 : Con.Ok P G GH { c with pre := (b, true) :: c.pre }) (h0 : Con.Ok P G GH { c with pre := (b, false) :: c.pre }) : c.Ok P G GH := by
  intro ρ q1 q2 q3
  cases hb : b.ev ρ
  · exact h0 ρ q1 q2 (decCons q3 hb)
  · exact h1 ρ q1 q2 (decCons q3 hb)
end
end
end Go.Sx
