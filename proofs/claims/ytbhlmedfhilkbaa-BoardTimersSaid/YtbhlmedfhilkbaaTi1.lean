/- A timer: what the CPU's run does on a jump to itself. No condition. -/
import Derived.Test.YtbhlmedfhilkbaaSxX
import Derived.Test.YtbhlmedfhilkbaaRows
namespace Go.Proofs.Ytbhlmedfhilkbaa.timers
open Go Go.Sx
set_option maxRecDepth 1000000
noncomputable section
noncomputable abbrev PR : Program := Try.prog
theorem mixed : PR.follows .mixedOrders = true := by kernel_rfl
def no' : FuncId → Bool := fun _ => false
def none' : FuncId → Nat → Bool := fun _ _ => false
/-! 1 most, 2 n, 3 the steps, 4 when it is due -/
def u (e : IE) : AVal := .int .u32 e
def stCells (pc cause : Int) (steps due : IE) : List AVal := u (.lit pc) :: u (.lit 0) :: u (.lit 5) :: (List.replicate 14 (u (.lit 0)) ++ [u (.lit 0), u (.lit 8), u (.lit 0), u (.lit cause), u (.lit 0), .int .i64 steps, .int .i64 due])
def cpuO (pc cause : Int) (steps due : IE) : AObj := .cells (treeOf (.slice (some (1, 0)) 2 2 0 :: .bool (.lit false) :: stCells pc cause steps due) 0 .nil) 72 true 26
def slotsO : AObj := .cells (((T.nil.set 1 (.ptr (some (2, 0)))).set 6 (.int .i64 (.lit 4)))) 100 false 14
def wJ : Int := 2684354560
def by4 (w : Int) : List AVal := [w % 256, w / 256 % 256, w / 65536 % 256, w / 16777216].map fun b => .int .u8 (.lit b)
def codeO : AObj := .cells (treeOf (by4 wJ) 8 (treeOf (by4 wJ) 0 .nil)) 102 false 256
def trapO (k : IE) : AObj := .cells (treeOf [.int .i64 k, u (.lit 0)] 0 .nil) 46 true 2
def mo : IE := .var 1
def nn : IE := .var 2
def st : IE := .var 3
def du : IE := .var 4
def cA : Con :=
  { g := 70, args := [.ptr (some (0, 0)), .int .i64 mo, .ptr (some (3, 0)), .int .i64 nn], os := [cpuO 0 0 st du, slotsO, codeO, trapO (.lit 0)],
    bds := [(1, 1, 50), (2, 0, 50), (3, 0, 90), (4, 1, 30)], pre := [(.lt mo nn, false), (.lt du st, false)], res := .tuple [.ptr (some (3, 0))],
    os' := [cpuO 0 0 (.sel true (.sub mo nn) (.sub du st) (.add st (.sub mo nn)) du) du, slotsO, codeO, trapO (.sel true (.sub mo nn) (.sub du st) (.lit 1) (.lit 8))] }
def cB : Con :=
  { g := 70, args := [.ptr (some (0, 0)), .int .i64 mo, .ptr (some (3, 0)), .int .i64 nn], os := [cpuO 8 8 st (.lit 0), slotsO, codeO, trapO (.lit 0)],
    bds := [(1, 1, 50), (2, 0, 50), (3, 0, 1000)], pre := [(.lt mo nn, false), (.lt (.lit 90) (.add st (.sub mo nn)), false)], res := .tuple [.ptr (some (3, 0))],
    os' := [cpuO 8 8 (.add st (.sub mo nn)) (.lit 0), slotsO, codeO, trapO (.lit 1)] }
def lOf (c : Con) : LCon := { con := c, key := 4, n := 54, sl := [0, 1, 4, 5], e := .ret, sl' := [4] }
def μC : IE := .sub mo nn
def tOf (c : Con) : Out := (lOf c).tree PR ⟨[], []⟩ 20 none' no' 14 [] μC
def eS : IE := .sel true (.sub mo nn) (.sub du st) (.add st (.sub mo nn)) du
def eT : IE := .sel true (.sub mo nn) (.sub du st) (.lit 1) (.lit 8)
def obA : List (Dec × IE × IE) := [([(.lt nn mo, false), (.lt st du, true)], eS, st), ([(.lt nn mo, false), (.lt st du, true)], eT, .lit 1), ([(.lt st du, false)], eS, st), ([(.lt st du, false)], eT, .lit 8)]
theorem okA : (tOf cA).all (cA.leaf (qX (bdL cA.bds) 40 obA)) cA.pre = true := by kernel_rfl
theorem okB : (tOf cB).all (cB.leaf (qX (bdL cB.bds) 40 [])) cB.pre = true := by kernel_rfl
theorem wfA : cA.wf = true := by kernel_rfl
theorem wfB : cB.wf = true := by kernel_rfl
section
variable {G : Nat → Int → Int → Int → Int} {GH : Nat → Ghost}
theorem know0 : Know.Ok PR G GH ⟨[], []⟩ := ⟨ConsOk.nil, fun _ h => by cases h⟩
theorem obA_ok {ρ : Env} (h3 : cA.pre.holds ρ) : obsOk ρ obA := by
  have q1 : decide (ρ.i 1 < ρ.i 2) = false := h3 (.lt mo nn, false) (by simp [cA])
  have q2 : decide (ρ.i 4 < ρ.i 3) = false := h3 (.lt du st, false) (by simp [cA])
  have q1 := of_decide_eq_false q1
  have q2 := of_decide_eq_false q2
  have eS' : eS.ev ρ = if ρ.i 1 - ρ.i 2 < ρ.i 4 - ρ.i 3 then ρ.i 3 + (ρ.i 1 - ρ.i 2) else ρ.i 4 := by
    show selI true (ρ.i 1 - ρ.i 2) (ρ.i 4 - ρ.i 3) (ρ.i 3 + (ρ.i 1 - ρ.i 2)) (ρ.i 4) = _
    simp [selI]
  have eT' : eT.ev ρ = if ρ.i 1 - ρ.i 2 < ρ.i 4 - ρ.i 3 then 1 else 8 := by
    show selI true (ρ.i 1 - ρ.i 2) (ρ.i 4 - ρ.i 3) 1 8 = _
    simp [selI]
  intro o ho hd
  simp only [obA, List.mem_cons, List.not_mem_nil, or_false] at ho
  rcases ho with rfl | rfl | rfl | rfl
  · have d1 : decide (ρ.i 2 < ρ.i 1) = false := hd (.lt nn mo, false) (by simp)
    have d2 : decide (ρ.i 3 < ρ.i 4) = true := hd (.lt st du, true) (by simp)
    have d1 := of_decide_eq_false d1
    have d2 := of_decide_eq_true d2
    show eS.ev ρ = ρ.i 3
    rw [eS', if_pos (by omega)]
    omega
  · have d1 : decide (ρ.i 2 < ρ.i 1) = false := hd (.lt nn mo, false) (by simp)
    have d2 : decide (ρ.i 3 < ρ.i 4) = true := hd (.lt st du, true) (by simp)
    have d1 := of_decide_eq_false d1
    have d2 := of_decide_eq_true d2
    show eT.ev ρ = 1
    rw [eT', if_pos (by omega)]
  · have d2 : decide (ρ.i 3 < ρ.i 4) = false := hd (.lt st du, false) (by simp)
    have d2 := of_decide_eq_false d2
    show eS.ev ρ = ρ.i 3
    rw [eS', if_neg (by omega)]
    omega
  · have d2 : decide (ρ.i 3 < ρ.i 4) = false := hd (.lt st du, false) (by simp)
    have d2 := of_decide_eq_false d2
    show eT.ev ρ = 8
    rw [eT', if_neg (by omega)]
theorem nilH {ρ : Env} : Dec.holds ρ [] := fun p hp => by cases hp
theorem lA_ok : (lOf cA).Ok PR G GH :=
  LCon.ok_of (c := lOf cA) (L := 20) (pol := none') (pure := no') (d := 14) (facts := []) (μ := μC) mixed know0 wfA rfl (fun _ _ _ _ => nilH) (Con.leavesX [] (fun _ _ _ _ => nilH) 40 obA (fun _ _ _ h3 => obA_ok h3) okA)
theorem lB_ok : (lOf cB).Ok PR G GH :=
  LCon.ok_of (c := lOf cB) (L := 20) (pol := none') (pure := no') (d := 14) (facts := []) (μ := μC) mixed know0 wfB rfl (fun _ _ _ _ => nilH) (Con.leavesX [] (fun _ _ _ _ => nilH) 40 [] (fun _ _ _ _ => fun o ho => by cases ho) okB)
end
end
end Go.Proofs.Ytbhlmedfhilkbaa.timers
