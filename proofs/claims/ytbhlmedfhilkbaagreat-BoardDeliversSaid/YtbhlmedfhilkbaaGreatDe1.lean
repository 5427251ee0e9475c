/- After a delivered trap: what the board's run does where the vector has no code, delivery by delivery. No condition. -/
import Derived.Test.YtbhlmedfhilkbaaGreatBd1
set_option linter.unusedVariables false
set_option linter.unusedSimpArgs false
namespace Go.Proofs.YtbhlmedfhilkbaaGreat
open Go Go.Sx
set_option maxRecDepth 1000000
noncomputable section
/-! what the symbols are: 1 the vector, 2 the deliveries (1 at least), 3 the instructions that are left, 9 the events' row, 11..14 the bytes of the code -/
def evKinds : List IntKind := .i64 :: .u32 :: .u32 :: stKinds
def uE (e : IE) : AVal := .int .u32 e
/-- The state: nothing has been executed; the control registers as given. -/
def stD (pc epc cause info : IE) : List AVal := uE pc :: uE (.lit 0) :: uE (.lit 5) :: (List.replicate 14 (uE (.lit 0)) ++ [uE (.lit 0), uE (.var 1), uE epc, uE cause, uE info, .int .i64 (.lit 0), .int .i64 (.lit 0)])
def cpuD (pc epc cause info : IE) : AObj := .cells (treeOf (.slice (some (2, 0)) 2 2 0 :: .bool (.lit false) :: stD pc epc cause info) 0 .nil) 96 true 26
def slotsD : AObj := .cells ((((T.nil.set 1 (.ptr (some (3, 0)))).set 6 (.int .i64 (.lit 4))).set 13 (.int .i64 (.lit 0)))) 148 false 14
def codeD : AObj := .cells (treeOf ([11, 12, 13, 14].map (fun i => .int .u8 (.var i)) ++ List.replicate 252 (.int .u8 (.lit 0))) 0 .nil) 150 false 256
def boardD (stop : Bool) : AObj := .cells (treeOf [.iface 90 (.ptr (some (1, 0))), .slice none 0 0 0, .slice none 0 0 0, .bool (.lit stop)] 0 .nil) 120 true 4
def rD : IE := .var 2
/-- The first event's trap. -/
def evD (j : Int) : IE := .wrap .u32 (.fn 0 (.var 9) (.lit j) (.lit 0))
def FV : Fns := ⟨114, 115, [1, 2, 3, 9]⟩
/-- k, i: the trap at the vector. -/
def cDel (k : Int) (i : IE) (lo hi : Int) : Con :=
  { g := 24, args := [.ptr (some (0, 0)), .sliceA 4 rD 27, .int .i64 rD, .int .i64 (.var 3)],
    os := [boardD false, cpuD (.var 1) (.sel false rD (.lit 1) (.lit 0) (.var 1)) (.sel false rD (.lit 1) (evD 0) (.lit k)) (.sel false rD (.lit 1) (evD 1) i), slotsD, codeD, .arr evKinds (.var 9) rD true],
    bds := [(1, lo, hi), (2, 1, 1000), (3, 1, 50), (11, 0, 255), (12, 0, 255), (13, 0, 255), (14, 0, 255)], pre := [(.eq (.rem (.var 1) (.lit 4)) (.lit 0), true)],
    res := .tuple [.ptr (some (0, 0)), .sliceA 5 (.lit 1001) 27],
    os' := [boardD true, cpuD (.var 1) (.var 1) (.lit k) i, slotsD, codeD, .arr [] (.lit 0) (.lit 0) true, .arr evKinds (.fn 5 (.var 9) (.lit 27) (.fn FV.KV FV.x (.lit 0) (.lit 285))) (.lit 1001) true] }
def lDel (k : Int) (i : IE) (lo hi : Int) : LCon := { con := cDel k i lo hi, key := 7, n := 135, sl := [0, 5, 6, 7], e := .exit 0, sl' := [0, 5] }
def μD : IE := .sub (.lit 1001) rD
def tDel (k : Int) (i : IE) (lo hi : Int) (f : Dec) : Out := (lDel k i lo hi).tree PR ⟨[], []⟩ 20 none' no' 14 f μD
def d1 : BE := .eq rD (.lit 1)
def d9 : BE := .eq rD (.lit 1000)
def fG : Dec := [(d9, false), (d1, false), (.lt rD (.lit 1), false), (.lt (.lit 1000) rD, false)]
section
variable (k : Int) (i : IE) (lo hi : Int)
def rS : Out := .split d1 (tDel k i lo hi [(d1, true)]) (.split d9 (tDel k i lo hi [(d9, true)]) (tDel k i lo hi fG))
def okF (f : Dec) : Bool := (tDel k i lo hi f).all ((cDel k i lo hi).defLeaf FV) (f ++ (cDel k i lo hi).pre)
def okS : Bool := okF k i lo hi [(d1, true)] && (okF k i lo hi [(d9, true)] && okF k i lo hi fG)
theorem pickR {ρ : Env} (h : 1 ≤ ρ.i 2 ∧ ρ.i 2 ≤ 1000) (ho : okS k i lo hi = true) : ∃ f : Dec, f.holds ρ ∧ (rS k i lo hi).pick ρ = (tDel k i lo hi f).pick ρ ∧ okF k i lo hi f = true := by
  obtain ⟨o1, ho⟩ := and_split ho
  obtain ⟨o2, o3⟩ := and_split ho
  have nil : Dec.holds ρ [] := fun p hp => by cases hp
  have e1 : d1.ev ρ = decide (ρ.i 2 = 1) := rfl
  have e9 : d9.ev ρ = decide (ρ.i 2 = 1000) := rfl
  have go : (rS k i lo hi).pick ρ = pickV (d1.ev ρ) ((tDel k i lo hi [(d1, true)]).pick ρ) (pickV (d9.ev ρ) ((tDel k i lo hi [(d9, true)]).pick ρ) ((tDel k i lo hi fG).pick ρ)) := rfl
  rw [go]
  by_cases h1 : ρ.i 2 = 1
  · have e1 : d1.ev ρ = true := by rw [e1]; exact decide_eq_true h1
    exact ⟨_, decCons nil e1, by rw [e1]; rfl, o1⟩
  · have e1 : d1.ev ρ = false := by rw [e1]; exact decide_eq_false h1
    by_cases h9 : ρ.i 2 = 1000
    · have e9 : d9.ev ρ = true := by rw [e9]; exact decide_eq_true h9
      exact ⟨_, decCons nil e9, by rw [e1, e9]; rfl, o2⟩
    · have e9 : d9.ev ρ = false := by rw [e9]; exact decide_eq_false h9
      refine ⟨fG, decCons (decCons (decCons (decCons nil (v := false) (t := .lt (.lit 1000) rD) ?_) (v := false) (t := .lt rD (.lit 1)) ?_) e1) e9, by rw [e1, e9]; rfl, o3⟩
      · exact decide_eq_false (by show ¬ (1000 : Int) < ρ.i 2; omega)
      · exact decide_eq_false (by show ¬ ρ.i 2 < (1 : Int); omega)
end
/-- Page 1 (no right to execute), no page, zeros. -/
abbrev lD1 : LCon := lDel 5 (.var 1) 256 511
abbrev lD2 : LCon := lDel 5 (.var 1) 512 4294967295
abbrev lD0 : LCon := lDel 7 (.lit 0) 4 252
end
end Go.Proofs.YtbhlmedfhilkbaaGreat
