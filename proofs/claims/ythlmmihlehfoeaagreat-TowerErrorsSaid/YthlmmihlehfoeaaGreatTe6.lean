/- Towers: what is known holds; the examples of the document. No condition. -/
import Derived.Test.YthlmmihlehfoeaaGreatTe3
import Derived.Test.YthlmmihlehfoeaaGreatTe4
import Derived.Test.YthlmmihlehfoeaaGreatTe5
set_option linter.unusedVariables false
set_option linter.unusedSimpArgs false
namespace Go.Proofs.YthlmmihlehfoeaaGreat
open Go Go.Sx
set_option maxRecDepth 1000000
noncomputable section
section
variable {G : Nat → Int → Int → Int → Int} {GH : Nat → Ghost}
def LOk (G : Nat → Int → Int → Int → Int) (GH : Nat → Ghost) (l : List LCon) : Prop := ∀ c ∈ l, c.con.wf = true ∧ c.Ok PR G GH
theorem LOk.app {a b : List LCon} (h : LOk G GH a) (k : LOk G GH b) : LOk G GH (a ++ b) := fun c hc => (List.mem_append.1 hc).elim (h c) (k c)
theorem LOk.upT {n : Nat} {f : Nat → LCon} (h : ∀ p, p < n → (f p).con.wf = true ∧ (f p).Ok PR G GH) : LOk G GH (upTo n f) := fun c hc => by
  obtain ⟨p, hp, rfl⟩ := List.mem_map.1 hc
  exact h p (List.mem_range.1 hp)
theorem LOk.po {coh : Bool} {N : Nat} (h : (List.range N).all (okPo coh N) = true) : LOk G GH (upTo N (lPo coh N)) := LOk.upT fun p hp => lPo_ok (List.all_eq_true.1 h p (List.mem_range.2 hp))
theorem LOk.cp {s : Nat → Src} {ft : TypeId} {to : Nat → AVal} {n : Nat} (h : (List.range n).all (fun p => okCp (s p) ft to n p) = true) : LOk G GH (upTo n fun p => lCp (s p) ft to n p) := LOk.upT fun p hp => lCp_ok (List.all_eq_true.1 h p (List.mem_range.2 hp))
theorem twP : TowPat twO 2 (fun j => j + 2) kdE 79 4 := by
  refine ⟨by decide, ⟨_, _, _, _, rfl, ⟨_, _, rfl⟩, rfl⟩, ⟨_, _, _, _, rfl, fun j hj => ?_⟩, fun j hj => ?_⟩
  · match j, hj with
    | 0, _ => exact ⟨rfl, _, rfl⟩
    | 1, _ => exact ⟨rfl, _, rfl⟩
  · match j, hj with
    | 0, _ => exact ⟨_, _, _, _, rfl, rfl, _, _, rfl⟩
    | 1, _ => exact ⟨_, _, _, _, rfl, rfl, _, _, rfl⟩
theorem cKinds2_ok : cKinds2.Ok PR G GH := cKinds_ok twP (by decide) (by decide) (.inl ⟨rfl, rfl⟩)
theorem wfKinds2 : cKinds2.wf = true := by kernel_rfl
theorem KS_ok : KS.Ok PR G GH := by
  refine ⟨ConsOk.cons wfKinds2 cKinds2_ok ConsOk.nil, ?_⟩
  exact (LOk.po poQ13).app ((LOk.po poK18).app ((LOk.po poK8).app ((LOk.cp cpK8).app ((LOk.cp cpQ13).app ((LOk.cp cpLQ).app (LOk.cp cpLK))))))
theorem cSane_ok : cSane.Ok PR G GH := Con.of_runK mixed KS_ok 600 40 sane0
end
theorem wfSane : cSane.wf = true := by kernel_rfl
end
end Go.Proofs.YthlmmihlehfoeaaGreat
