/- Lists of contracts; a contract that asks more. No condition. -/
import Derived.Test.YtbhlmedfhilkbaaGreatBd1
set_option linter.unusedSimpArgs false
set_option linter.unusedVariables false
set_option linter.unusedSectionVars false
namespace Go.Proofs.YtbhlmedfhilkbaaGreat
open Go Go.Sx
set_option maxRecDepth 1000000
noncomputable section
section
variable {G : Nat → Int → Int → Int → Int}
theorem allN : ∀ c ∈ ([] : List Con), c.Ok PR G gh := fun _ h => by cases h
theorem allC {c : Con} {l : List Con} (h : c.Ok PR G gh) (t : ∀ c ∈ l, c.Ok PR G gh) : ∀ x ∈ c :: l, x.Ok PR G gh := fun x hx => by
 rcases List.mem_cons.1 hx with rfl | hx
 · exact h
 · exact t x hx
theorem lpN : ∀ c ∈ ([] : List LCon), c.con.wf = true ∧ c.Ok PR G gh := fun _ h => by cases h
theorem lpC {c : LCon} {l : List LCon} (w : c.con.wf = true) (h : c.Ok PR G gh) (t : ∀ c ∈ l, c.con.wf = true ∧ c.Ok PR G gh) : ∀ x ∈ c :: l, x.con.wf = true ∧ x.Ok PR G gh := fun x hx => by
 rcases List.mem_cons.1 hx with rfl | hx
 · exact ⟨w, h⟩
 · exact t x hx
theorem knowOk {cs : List Con} (hw : cs.all Con.wf = true) (h : ∀ c ∈ cs, c.Ok PR G gh) : Know.Ok PR G gh ⟨cs, []⟩ := ⟨consOk hw h, lpN⟩
theorem knowOkL {cs : List Con} {ls : List LCon} (hw : cs.all Con.wf = true) (h : ∀ c ∈ cs, c.Ok PR G gh) (hl : ∀ c ∈ ls, c.con.wf = true ∧ c.Ok PR G gh) : Know.Ok PR G gh ⟨cs, ls⟩ := ⟨consOk hw h, hl⟩
/-- A contract that asks more, its result in other words. -/
theorem conWeakP {c c' : Con} {q : Prs} (hg : c.g = c'.g) (ho : c.os = c'.os) (ho' : c.os' = c'.os') (ha : c.args = c'.args) (h : c.Ok PR G gh) (hq : c'.res.pairs c.res = some q)
   (hk : ∀ ρ : Env, ρ.std G gh → ρ.ok (bdL c'.bds) → c'.pre.holds ρ → ρ.ok (bdL c.bds) ∧ c.pre.holds ρ ∧ q.hold ρ) : c'.Ok PR G gh :=
 Con.weak hg ho ho' h fun ρ h1 h2 h3 => by
   obtain ⟨a, b, c⟩ := hk ρ h1 h2 h3
   exact ⟨a, b, fun f v hv => by rw [ha]; exact hv, fun f v hv => AVal.pairs_ok hv hq c⟩
end
end
end Go.Proofs.YtbhlmedfhilkbaaGreat
