/- slices.Clone of numbers. No condition. -/
import Derived.Test.YtbhlmedfhilkbaaGreatBs7
set_option linter.unusedSimpArgs false
set_option linter.unusedVariables false
set_option linter.unusedSectionVars false
namespace Go.Proofs.YtbhlmedfhilkbaaGreat
open Go Go.Sx
set_option maxRecDepth 1000000
noncomputable section
def clB : List (Nat × Int × Int) := [(25, 0, 1000000)]
def cClone : Con := { g := 76, args := [.sliceA 0 (.var 25) 1], os := [inN], bds := clB, res := .sliceA 1 (.var 25) 1, os' := [inN, inN] }
def cClone1 : Con := { cClone with pre := [(.lt (.lit 0) (.var 25), true)] }
def cClone2 : Con := { cClone with args := [.sliceS 0 (.lit 0) (.lit 0) 1 true], pre := [(.eq (.var 25) (.lit 0), true)] }
def cClone3 : Con := { cClone with args := [.slice none 0 0 0], pre := [(.eq (.var 25) (.lit 0), true)], res := .slice none 0 0 0, os' := [inN] }
theorem clone_run : (runP cClone1 ⟨[], []⟩ 20 12 12 && (runP cClone2 ⟨[], []⟩ 20 12 12 && (runP cClone3 ⟨[], []⟩ 20 12 12 && cClone.wf))) = true := by kernel_rfl
theorem lrel1 {ρ : Env} {f : Ren} {a b : AVal} {args' : Array Value} {v : Value} (ha : LRel ρ f [a] args') (hv : args'[0]? = some v) (h : VRel ρ f b v) : LRel ρ f [b] args' := by
 refine ⟨ha.1, fun i x v' hx hv' => ?_⟩
 match i, hx with
 | 0, hx =>
   cases hx
   rw [hv] at hv'
   cases hv'
   exact h
 | i + 1, hx => simp at hx
theorem cClone_ok {G : Nat → Int → Int → Int → Int} : cClone.Ok PR G gh := by
 have h := clone_run
 simp only [Bool.and_eq_true] at h
 obtain ⟨r1, r2, r3, _⟩ := h
 intro ρ h1 h2 h3 B W f w args' hr ha hn
 obtain ⟨v, hv0, hv⟩ := ha.get (i := 0) (v := .sliceA 0 (.var 25) 1) rfl
 have h25 := h2 25 0 1000000 rfl
 by_cases h0 : ρ.i 25 = 0
 · have hpre : Dec.holds ρ [(.eq (.var 25) (.lit 0), true)] := fun p hp => by
     rw [List.mem_singleton.1 hp]
     exact decide_eq_true h0
   have two' : VRel ρ f (.sliceS 0 (.lit 0) (.lit 0) 1 true) v → callR PR cClone.g args' w fun v' w' => ∃ f', f.le f' ∧ Go.Sx.Outside f f' cClone.os.length cClone.os'.length ∧ HRel ρ B W f' (outT cClone.os' 0 .nil) w' ∧ VRel ρ f' cClone.res v' := fun hv2 =>
     runP_ok (c := cClone2) knowNil r2 ρ h1 h2 hpre B W f w args' hr (lrel1 ha hv0 hv2) hn
   generalize hb : (AVal.sliceA 0 (.var 25) 1) = b at hv
   cases hv with
   | sliceA hL hl hc hs =>
     cases hb
     have e : (IE.var 25).ev ρ = 0 := h0
     rename_i c L
     have := two' (by
       rw [e]
       have := VRel.sliceS (ρ := ρ) (f := f) (i := 0) (s := 1) (st := .lit 0) (len := .lit 0) (nn := true) (c := c) hL (Int.le_refl 0) (Int.le_refl 0) (Nat.zero_le _)
       exact this)
     exact this
   | sliceN hl =>
     cases hb
     rename_i a
     cases a with
     | some a => exact two' (.sliceZ rfl (fun h => by cases h))
     | none =>
       refine Calls.mono (runP_ok (c := cClone3) knowNil r3 ρ h1 h2 hpre B W f w args' hr (lrel1 ha hv0 .nilSlice) hn) fun e w' ⟨v', e1, f', e2, e3, e4, e5⟩ => ?_
       have f1 : ∀ j, 1 ≤ j → f' j = none := fun j hj => (e3 j (.inr hj)).trans (hn j hj)
       refine ⟨v', e1, f', e2, fun j hj => ?_, ⟨e4.below, e4.bsize, e4.lt, fun x y Lx Ly ox oy hx hy gx gy hxy => ?_, fun x L o hx gx => ?_⟩, ?_⟩
       · rcases hj with hj | hj
         · exact e3 j (.inl hj)
         · exact e3 j (.inr (by have : (2 : Nat) ≤ j := hj; show (1 : Nat) ≤ j; omega))
       · have x0 : x = 0 := by
           rcases Nat.eq_zero_or_pos x with h | h
           · exact h
           · rw [f1 x h] at hx; cases hx
         have y0 : y = 0 := by
           rcases Nat.eq_zero_or_pos y with h | h
           · exact h
           · rw [f1 y h] at hy; cases hy
         exact absurd (x0.trans y0.symm) hxy
       · have x0 : x = 0 := by
           rcases Nat.eq_zero_or_pos x with h | h
           · exact h
           · rw [f1 x h] at hx; cases hx
         subst x0
         refine e4.obj 0 L o hx ?_
         have ho := (outList gx).1
         have : o = inN := by
           have : (some inN : Option AObj) = some o := ho
           cases this
           rfl
         subst this
         exact outT_same [inN] 0 0 .nil inN rfl rfl (by decide)
       · have e5 : VRel ρ f' (.slice none 0 0 0) v' := e5
         cases e5
         exact .sliceN h0
   | _ => cases hb
 · exact runP_ok (c := cClone1) knowNil r1 ρ h1 h2 (fun p hp => by
     rw [List.mem_singleton.1 hp]
     exact decide_eq_true (show (0 : Int) < ρ.i 25 by omega)) B W f w args' hr ha hn
end
end Go.Proofs.YtbhlmedfhilkbaaGreat
