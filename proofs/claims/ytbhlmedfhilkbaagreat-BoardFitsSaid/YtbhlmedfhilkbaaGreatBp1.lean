/- The memory's function Poke. No condition. -/
import Derived.Test.YtbhlmedfhilkbaaGreatSg
import Derived.Test.YtbhlmedfhilkbaaGreatRm4
set_option linter.unusedSimpArgs false
set_option linter.unusedVariables false
set_option linter.unusedSectionVars false
namespace Go.Proofs.YtbhlmedfhilkbaaGreat
open Go Go.Sx
set_option maxRecDepth 1000000
noncomputable section
abbrev mpT : TypeId := 143
abbrev u32T : TypeId := 31
def boxO (v : AVal) (t : TypeId) : AObj := .cells (treeAt [v] 0) t true 1
def i6B (i : Nat) : Nat × Int × Int := (i, 0, 1000000)
/-- Bytes i to 5 of the row 4 put behind the address 1. -/
def poE (M i : IE) : IE := .fn 38 M (.fn 9 (.var 1) (.var 4) (.lit 0)) (.fn 9 i (.var 5) (.lit 0))
def poOs (k : Nat) (M : IE) : List AObj := [boxO (.ptr (some (2, 0))) mpT, boxO (uV .u32 1) u32T, memO k M]
def cPoL (k : Nat) : Con := { g := 177, args := [.strS (.var 4) (.var 5), .func (Fn.func 178) [] [.ptr (some (0, 0)), .ptr (some (1, 0))], .int .i64 (.var 5), .int .i64 (.var 7)], os := poOs k (.var 0), bds := [u32B 1, i6B 5, i6B 7], pre := [(.lt (.var 5) (.var 7), false)], res := .tuple [], os' := poOs k (poE (.var 0) (.var 7)) }
def lPo (k : Nat) : LCon := { con := cPoL k, key := 2, n := 17, sl := [0, 1, 6, 7], e := .exit 0, sl' := [] }
def μPo : IE := .sub (.var 5) (.var 7)
def tPo (k : Nat) : Out := (lPo k).tree PR ⟨[cSet k], []⟩ 20 none' no' 12 [] μPo
def poN : IE := poE (.fn 30 (.var 0) (.wrap .u32 (.add (.var 1) (.var 7))) (.wrap .u8 (.fn 0 (.var 4) (.var 7) (.lit 0)))) (.add (.var 7) (.lit 1))
def obPo : List (Dec × IE × IE) := [([(.lt (.var 7) (.var 5), false)], poE (.var 0) (.var 7), .var 0), ([(.lt (.var 7) (.var 5), true)], poE (.var 0) (.var 7), poN)]
def poOk (k : Nat) : Bool := (tPo k).all ((cPoL k).leaf (qX (bdL (cPoL k).bds) 12 obPo)) (cPoL k).pre && ((cPoL k).wf && (cSet k).wf)
theorem po0 : poOk 0 = true := by kernel_rfl
theorem po1 : poOk 1 = true := by kernel_rfl
def cPoke (k : Nat) : Con := memC k 170 [uV .u32 1, .strS (.var 4) (.var 5)] [u32B 1, i6B 5] (.tuple []) (poE (.var 0) (.lit 0))
def runPoke (k : Nat) : Bool := runP (cPoke k) ⟨[], [lPo k]⟩ 20 12 12 && (cPoke k).wf
theorem poke0 : runPoke 0 = true := by kernel_rfl
theorem poke1 : runPoke 1 = true := by kernel_rfl
section
variable {G : Nat → Int → Int → Int → Int} (hG : Base G)
include hG
theorem pair_ev {GH : Nat → Ghost} {ρ : Env} (h1 : ρ.std G GH) (x y : IE) : (IE.fn 9 x y (.lit 0)).ev ρ = pairI (x.ev ρ) (y.ev ρ) := by
 show fnI ρ 9 (x.ev ρ) (y.ev ρ) 0 = _
 rw [fn_ev hG h1 (by decide) (by decide)]
 rfl
theorem poE_ev {ρ : Env} (h1 : ρ.std G gh) (M i : IE) : (poE M i).ev ρ = poF (M.ev ρ) (ρ.i 1) (ρ.i 4) (i.ev ρ).toNat ((ρ.i 5).toNat - (i.ev ρ).toNat) := by
 show fnI ρ 38 (M.ev ρ) ((IE.fn 9 (.var 1) (.var 4) (.lit 0)).ev ρ) ((IE.fn 9 i (.var 5) (.lit 0)).ev ρ) = _
 rw [fn_ev hG h1 (by decide) (by decide), pair_ev hG h1, pair_ev hG h1]
 show poF _ (unpI (pairI (ρ.i 1) (ρ.i 4))).1 (unpI (pairI (ρ.i 1) (ρ.i 4))).2 (unpI (pairI (i.ev ρ) (ρ.i 5))).1.toNat ((unpI (pairI (i.ev ρ) (ρ.i 5))).2.toNat - (unpI (pairI (i.ev ρ) (ρ.i 5))).1.toNat) = _
 rw [unpI_pair, unpI_pair]
theorem obPo_ok {ρ : Env} (h1 : ρ.std G gh) (h2 : ρ.ok (bdL [u32B 1, i6B 5, i6B 7])) : obsOk ρ obPo := by
 have h7 := h2 7 0 1000000 rfl
 have h5 := h2 5 0 1000000 rfl
 refine obs_cons (fun hd => ?_) (obs_cons (fun hd => ?_) obs_nil)
 · have hd : decide (ρ.i 7 < ρ.i 5) = false := hd (.lt (.var 7) (.var 5), false) (by simp)
   have hd := of_decide_eq_false hd
   rw [poE_ev hG h1]
   show poF (ρ.i 0) _ _ (ρ.i 7).toNat ((ρ.i 5).toNat - (ρ.i 7).toNat) = ρ.i 0
   rw [show (ρ.i 5).toNat - (ρ.i 7).toNat = 0 by omega]
   rfl
 · have hd : decide (ρ.i 7 < ρ.i 5) = true := hd (.lt (.var 7) (.var 5), true) (by simp)
   have hd := of_decide_eq_true hd
   rw [poE_ev hG h1, poN, poE_ev hG h1]
   obtain ⟨i, hi⟩ := Int.eq_ofNat_of_zero_le h7.1
   have e0 : (IE.var 7).ev ρ = (i : Int) := hi
   have e1 : (IE.add (.var 7) (.lit 1)).ev ρ = ((i + 1 : Nat) : Int) := by show ρ.i 7 + 1 = _; rw [hi]; rfl
   have e2 : (IE.fn 30 (.var 0) (.wrap .u32 (.add (.var 1) (.var 7))) (.wrap .u8 (.fn 0 (.var 4) (.var 7) (.lit 0)))).ev ρ = stS (ρ.i 0) (ad (ρ.i 1) i) (IntKind.u8.wrap (rowGet (ρ.i 4) i)) := by
     show fnI ρ 30 (ρ.i 0) (IntKind.u32.wrap (ρ.i 1 + ρ.i 7)) (IntKind.u8.wrap (rowGet (ρ.i 4) (ρ.i 7))) = _
     rw [fn_ev hG h1 (by decide) (by decide), hi]
     rfl
   rw [e0, e1, e2, Int.toNat_natCast, Int.toNat_natCast]
   obtain ⟨k, hk⟩ : ∃ k, (ρ.i 5).toNat - i = k + 1 := ⟨(ρ.i 5).toNat - i - 1, by omega⟩
   rw [hk, show (ρ.i 5).toNat - (i + 1) = k by omega]
   rfl
theorem lPo_ok {k : Nat} (hk : k < 2) : (cPoL k).wf = true ∧ (lPo k).Ok PR G gh := by
 have h := two (p := fun k => poOk k = true) po0 po1 hk
 simp only [poOk, Bool.and_eq_true] at h
 obtain ⟨h, hw, hw'⟩ := h
 refine ⟨hw, LCon.ok_of (c := lPo k) mixed (K := ⟨[cSet k], []⟩) ⟨consOk (by simp [hw']) (fun c hc => ?_), fun _ h => by cases h⟩ hw rfl (facts := []) (fun _ _ _ _ => nilDec) (Con.leavesX [] (fun _ _ _ _ => nilDec) 12 obPo (fun ρ h1 h2 _ => obPo_ok hG h1 h2) h)⟩
 simp only [List.mem_cons, List.not_mem_nil, or_false] at hc
 subst hc
 exact cSet_ok hG hk
theorem cPoke_ok {k : Nat} (hk : k < 2) : (cPoke k).wf = true ∧ (cPoke k).Ok PR G gh := by
 have h := two (p := fun k => runPoke k = true) poke0 poke1 hk
 simp only [runPoke, Bool.and_eq_true] at h
 exact ⟨h.2, runP_ok ⟨ConsOk.nil, fun l hl => by
   simp only [List.mem_cons, List.not_mem_nil, or_false] at hl
   subst hl
   exact lPo_ok hG hk⟩ h.1⟩
end
end
end Go.Proofs.YtbhlmedfhilkbaaGreat
