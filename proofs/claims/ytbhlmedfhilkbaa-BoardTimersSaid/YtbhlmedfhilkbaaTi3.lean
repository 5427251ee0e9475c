/- A timer: the board's run, before the timer, over it, behind it. No condition. -/
import Derived.Test.YtbhlmedfhilkbaaTi2
namespace Go.Proofs.Ytbhlmedfhilkbaa.timers
open Go Go.Sx
set_option maxRecDepth 1000000
noncomputable section
/-! blocks: 0 the board, 1 the machine, 2 the slots, 3 the code -/
def cpu3 (pc cause : Int) (steps due : IE) : AObj := .cells (treeOf (.slice (some (2, 0)) 2 2 0 :: .bool (.lit false) :: stCells pc cause steps due) 0 .nil) 72 true 26
def slots3 : AObj := .cells (((T.nil.set 1 (.ptr (some (3, 0)))).set 6 (.int .i64 (.lit 4)))) 100 false 14
def board3 : AObj := .cells ((T.nil.set 0 (.iface 61 (.ptr (some (1, 0))))).set 3 (.bool (.lit false))) 53 false 4
def evO (steps due : IE) : AObj := .cells (treeOf (.int .i64 (.lit 8) :: u (.lit 0) :: u (.lit 0) :: stCells 0 0 steps due) 0 .nil) 48 true 27
def before (steps due : IE) : List AObj := [board3, cpu3 0 0 steps due, slots3, codeO]
def behind (steps : IE) : List AObj := [board3, cpu3 8 8 steps (.lit 0), slots3, codeO]
def cRun (pre : Dec) (os : List AObj) (res : AVal) (os' : List AObj) (lo : Int := 0) : Con := { g := 9, args := [.ptr (some (0, 0)), .int .i64 mo], os := os, bds := [(1, lo, 39), (3, 0, 90), (4, 1, 30)], pre := pre, res := res, os' := os' }
def cE : Con := cRun [(.lt du (.add st mo), false)] (before st du) (.slice none 0 0 0) (before (.add st mo) du)
def cL : Con := cRun [(.lt du st, false), (.lt du (.add st mo), true)] (before st du) (.slice (some (4, 0)) 1 1 27) (behind (.add st mo) ++ [evO du du]) 1
def cD : Con := { cRun [] (behind st) (.slice none 0 0 0) (behind (.add st mo)) with bds := [(1, 0, 39), (3, 0, 40)] }
def K1 : Know := ⟨[], [lOf cA, lOf cB]⟩
def fL : Dec := [(.lt mo (.sub du st), false)]
def tRun (c : Con) (f : Dec) : Out := c.tree PR K1 60 none' no' 20 f
def okRun (c : Con) (f : Dec) : Bool := (tRun c f).all (c.leaf (qX (bdL c.bds) 40 [])) (f ++ c.pre)
theorem okE : okRun cE [] = true := by kernel_rfl
theorem okL : okRun cL fL = true := by kernel_rfl
theorem okD : okRun cD [] = true := by kernel_rfl
theorem wf3 : cE.wf = true ∧ cL.wf = true ∧ cD.wf = true := ⟨by kernel_rfl, by kernel_rfl, by kernel_rfl⟩
section
variable {G : Nat → Int → Int → Int → Int} {GH : Nat → Ghost}
theorem K1_ok : K1.Ok PR G GH := ⟨ConsOk.nil, fun c hc => by
  simp only [K1, List.mem_cons, List.not_mem_nil, or_false] at hc
  rcases hc with rfl | rfl
  · exact ⟨wfA, lA_ok⟩
  · exact ⟨wfB, lB_ok⟩⟩
theorem run_ok {c : Con} (f : Dec) (hf : ∀ ρ : Env, c.pre.holds ρ → f.holds ρ) (h : okRun c f = true) : c.Ok PR G GH :=
  Con.ok_of mixed K1_ok (L := 60) (pol := none') (pure := no') (d := 20) (facts := f) (fun ρ _ _ h3 => hf ρ h3) (Con.leavesX f (fun ρ _ _ h3 => hf ρ h3) 40 [] (fun _ _ _ _ => fun o ho => by cases ho) h)
theorem cE_ok : cE.Ok PR G GH := run_ok [] (fun _ _ => nilH) okE
theorem cL_ok : cL.Ok PR G GH := run_ok fL (fun ρ h3 => fun p hp => by
  simp only [fL, List.mem_cons, List.not_mem_nil, or_false] at hp
  subst hp
  have q : decide (ρ.i 4 < ρ.i 3 + ρ.i 1) = true := h3 (.lt du (.add st mo), true) (by simp [cL, cRun])
  have q := of_decide_eq_true q
  exact decide_eq_false (by show ¬ ρ.i 1 < ρ.i 4 - ρ.i 3; omega)) okL
theorem cD_ok : cD.Ok PR G GH := run_ok [] (fun _ _ => nilH) okD
end
end
end Go.Proofs.Ytbhlmedfhilkbaa.timers
