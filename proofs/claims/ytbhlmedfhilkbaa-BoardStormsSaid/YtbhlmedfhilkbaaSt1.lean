/- A vector without code: what the board's run does, delivery by delivery. No condition. -/
import Derived.Test.YtbhlmedfhilkbaaSxX
import Derived.Test.YtbhlmedfhilkbaaRows
namespace Go.Proofs.Ytbhlmedfhilkbaa
open Go Go.Sx
set_option maxRecDepth 1000000
noncomputable section
noncomputable abbrev PR : Program := Try.prog
theorem mixed : PR.follows .mixedOrders = true := by kernel_rfl
def no' : FuncId → Bool := fun _ => false
def none' : FuncId → Nat → Bool := fun _ _ => false
/-! what the symbols are: 1 the vector, 2 the deliveries, 3 the instructions that are left, 9 the events' row -/
def stKinds : List IntKind := .u32 :: (List.replicate 16 .u32 ++ (.u32 :: (List.replicate 4 .u32 ++ [.i64, .i64])))
def evKinds : List IntKind := .i64 :: .u32 :: .u32 :: stKinds
def treeAt (l : List AVal) (j : Nat) : T AVal := treeOf l j .nil
def u (e : IE) : AVal := .int .u32 e
/-- The state: nothing has been executed; the program counter and the control registers as given. -/
def stCells (pc epc cause info : IE) : List AVal := u pc :: u (.lit 0) :: u (.lit 5) :: (List.replicate 14 (u (.lit 0)) ++ [u (.lit 0), u (.var 1), u epc, u cause, u info, .int .i64 (.lit 0), .int .i64 (.lit 0)])
def cpuO (pc epc cause info : IE) : AObj := .cells (treeOf (.slice (some (2, 0)) 2 2 0 :: .bool (.lit false) :: stCells pc epc cause info) 0 .nil) 72 true 26
def slotsO : AObj := .cells (((T.nil.set 1 (.ptr (some (3, 0)))).set 6 (.int .i64 (.lit 4)))) 100 false 14
def codeO (w : Int) : AObj := .cells (treeOf ([w % 256, w / 256 % 256, w / 65536 % 256, w / 16777216].map fun b => .int .u8 (.lit b)) 0 .nil) 102 false 256
def boardO (stop : Bool) : AObj := .cells (treeOf [.iface 61 (.ptr (some (1, 0))), .slice none 0 0 0, .slice none 0 0 0, .bool (.lit stop)] 0 .nil) 53 true 4
def rV : IE := .var 2
def ifR (n : Int) (x y : IE) : IE := .sel false rV (.lit n) x y
def FE : Fns := ⟨100, 101, [1, 2, 3, 9]⟩
/-- w: the instruction's word; k, i: the trap that it is. -/
def cRun (w k i : Int) : Con :=
  { g := 9, args := [.ptr (some (0, 0)), .sliceA 4 rV 27, .int .i64 rV, .int .i64 (.var 3)],
    os := [boardO false, cpuO (ifR 0 (.lit 0) (.var 1)) (.sel true rV (.lit 2) (.lit 0) (.var 1)) (ifR 0 (.lit 0) (ifR 1 (.lit k) (.lit 5))) (ifR 0 (.lit 0) (ifR 1 (.lit i) (.var 1))), slotsO, codeO w, .arr evKinds (.var 9) rV true],
    bds := [(1, 1024, 4294967295), (2, 0, 1000), (3, 1, 50)], pre := [(.eq (.rem (.var 1) (.lit 4)) (.lit 0), true)],
    res := .tuple [.ptr (some (0, 0)), .sliceA 5 (.lit 1001) 27],
    os' := [boardO true, cpuO (.var 1) (.var 1) (.lit 5) (.var 1), slotsO, codeO w, .arr [] (.lit 0) (.lit 0) true, .arr evKinds (.fn FE.KV FE.x (.lit 0) (.lit 32)) (.lit 1001) true] }
def lRun (w k i : Int) : LCon := { con := cRun w k i, key := 7, n := 135, sl := [0, 5, 6, 7], e := .exit 0, sl' := [0, 5] }
def μR : IE := .sub (.lit 1001) rV
def tR (w k i : Int) (f : Dec) : Out := (lRun w k i).tree PR ⟨[], []⟩ 20 none' no' 14 f μR
def r0 : BE := .eq rV (.lit 0)
def r1 : BE := .eq rV (.lit 1)
def r9 : BE := .eq rV (.lit 1000)
def fG : Dec := [(r9, false), (r1, false), (r0, false), (.lt rV (.lit 0), false), (.lt (.lit 1000) rV, false)]
def tAll (w k i : Int) : Out := .split r0 (tR w k i [(r0, true)]) (.split r1 (tR w k i [(r1, true), (r0, false)]) (.split r9 (tR w k i [(r9, true)]) (tR w k i fG)))
/-! the three instructions: Break, Sys 9, a word behind the memory -/
def wB : Int := 3288334336
def wS : Int := 3221225481
def wL : Int := 1547698688
def okR (w k i : Int) : Bool := (tR w k i [(r0, true)]).all ((cRun w k i).defLeaf FE) ((r0, true) :: (cRun w k i).pre) && ((tR w k i [(r1, true), (r0, false)]).all ((cRun w k i).defLeaf FE) ((r1, true) :: (r0, false) :: (cRun w k i).pre) && ((tR w k i [(r9, true)]).all ((cRun w k i).defLeaf FE) ((r9, true) :: (cRun w k i).pre) && (tR w k i fG).all ((cRun w k i).defLeaf FE) (fG ++ (cRun w k i).pre)))
theorem okB : okR wB 3 0 = true := by kernel_rfl
theorem okS : okR wS 4 9 = true := by kernel_rfl
theorem okL : okR wL 5 512 = true := by kernel_rfl
def rtR (w k i : Int) : RT := (cRun w k i).rows FE (tAll w k i)
theorem onlyB : (rtR wB 3 0).only (memV FE.vars) 100 = true := by kernel_rfl
theorem onlyS : (rtR wS 4 9).only (memV FE.vars) 100 = true := by kernel_rfl
theorem onlyL : (rtR wL 5 512).only (memV FE.vars) 100 = true := by kernel_rfl
theorem pick_at {ρ : Env} (w k i : Int) (h : 0 ≤ ρ.i 2 ∧ ρ.i 2 ≤ 1000) : ∃ f : Dec, f.holds ρ ∧ (tAll w k i).pick ρ = (tR w k i f).pick ρ ∧ (f = [(r0, true)] ∨ f = [(r1, true), (r0, false)] ∨ f = [(r9, true)] ∨ f = fG) := by
  have nil : Dec.holds ρ [] := fun p hp => by cases hp
  have e0 : r0.ev ρ = decide (ρ.i 2 = 0) := rfl
  have e1 : r1.ev ρ = decide (ρ.i 2 = 1) := rfl
  have e9 : r9.ev ρ = decide (ρ.i 2 = 1000) := rfl
  have go : (tAll w k i).pick ρ = pickV (r0.ev ρ) ((tR w k i [(r0, true)]).pick ρ) (pickV (r1.ev ρ) ((tR w k i [(r1, true), (r0, false)]).pick ρ) (pickV (r9.ev ρ) ((tR w k i [(r9, true)]).pick ρ) ((tR w k i fG).pick ρ))) := rfl
  rw [go]
  by_cases h0 : ρ.i 2 = 0
  · have e0 : r0.ev ρ = true := by rw [e0]; exact decide_eq_true h0
    exact ⟨_, decCons nil e0, by rw [e0]; rfl, .inl rfl⟩
  · have e0 : r0.ev ρ = false := by rw [e0]; exact decide_eq_false h0
    by_cases h1 : ρ.i 2 = 1
    · have e1 : r1.ev ρ = true := by rw [e1]; exact decide_eq_true h1
      exact ⟨_, decCons (decCons nil e0) e1, by rw [e0, e1]; rfl, .inr (.inl rfl)⟩
    · have e1 : r1.ev ρ = false := by rw [e1]; exact decide_eq_false h1
      by_cases h9 : ρ.i 2 = 1000
      · have e9 : r9.ev ρ = true := by rw [e9]; exact decide_eq_true h9
        exact ⟨_, decCons nil e9, by rw [e0, e1, e9]; rfl, .inr (.inr (.inl rfl))⟩
      · have e9 : r9.ev ρ = false := by rw [e9]; exact decide_eq_false h9
        refine ⟨fG, decCons (decCons (decCons (decCons (decCons nil (v := false) (t := .lt (.lit 1000) rV) ?_) (v := false) (t := .lt rV (.lit 0)) ?_) e0) e1) e9, by rw [e0, e1, e9]; rfl, .inr (.inr (.inr rfl))⟩
        · exact decide_eq_false (by show ¬ (1000 : Int) < ρ.i 2; omega)
        · exact decide_eq_false (by show ¬ ρ.i 2 < 0; omega)
section
variable {G : Nat → Int → Int → Int → Int} {GH : Nat → Ghost}
theorem know0 : Know.Ok PR G GH ⟨[], []⟩ := ⟨ConsOk.nil, fun _ h => by cases h⟩
theorem lRun_ok {w k i : Int} (hwf : (cRun w k i).wf = true) (h : okR w k i = true) (hG : FE.Def G (rtR w k i)) : (lRun w k i).Ok PR G GH := by
  have hr : ∀ ρ : Env, ρ.ok (bdL (cRun w k i).bds) → 0 ≤ ρ.i 2 ∧ ρ.i 2 ≤ 1000 := fun ρ h => h 2 0 1000 rfl
  refine LCon.ok_sel (c := lRun w k i) (L := 20) (pol := none') (pure := no') (d := 14) (μ := μR) (o := tAll w k i) (sel := fun ρ => if h : 0 ≤ ρ.i 2 ∧ ρ.i 2 ≤ 1000 then Classical.choose (pick_at w k i h) else []) mixed know0 hwf rfl (fun ρ h1 h2 h3 => ?_) fun ρ h1 h2 h3 => ?_
  · have := hr ρ h2
    simp only [this, and_self, dite_true]
    have hs := Classical.choose_spec (pick_at w k i this)
    exact ⟨hs.1, hs.2.1⟩
  · obtain ⟨f, f1, f2, f3⟩ := pick_at w k i (hr ρ h2)
    unfold okR at h
    obtain ⟨a1, h⟩ := and_split h
    obtain ⟨a2, h⟩ := and_split h
    obtain ⟨a3, a4⟩ := and_split h
    have ha : (tR w k i f).all ((cRun w k i).defLeaf FE) (f ++ (cRun w k i).pre) = true := by
      rcases f3 with rfl | rfl | rfl | rfl
      · exact a1
      · exact a2
      · exact a3
      · exact a4
    obtain ⟨e, s, dec', hd', p1, p2⟩ := Out.all_pick (holds_app f1 h3) ha
    rw [← f2] at p1
    obtain ⟨q, q1, q2⟩ := Con.def_at (c := cRun w k i) (F := FE) (o := tAll w k i) (dec' := dec') (by decide) h2 (by rw [h1.1]; exact hG) p1 p2
    exact ⟨e, s, _, q, p1, q1, q2⟩
end
end
end Go.Proofs.Ytbhlmedfhilkbaa
