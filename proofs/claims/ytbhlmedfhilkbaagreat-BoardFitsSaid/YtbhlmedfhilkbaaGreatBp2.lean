/- The memory's functions SetCode (256 bytes), Pages; the reference's Pages. No condition. -/
import Derived.Test.YtbhlmedfhilkbaaGreatRp1
set_option linter.unusedSimpArgs false
set_option linter.unusedVariables false
set_option linter.unusedSectionVars false
namespace Go.Proofs.YtbhlmedfhilkbaaGreat
open Go Go.Sx
set_option maxRecDepth 1000000
noncomputable section
def scM : IE := .fn 34 (.var 0) (.var 1) (.fn 9 (.var 4) (.lit 256) (.lit 0))
def scL : List IE := (List.range 256).map fun j => .wrap .u8 (.fn 0 (.var 4) (.lit (.ofNat j)) (.lit 0))
def scC (b : IE) : IE := strRow scL 0 b
def cSetC (k : Nat) : Con := memC k 48 [uV .i64 1, .strS (.var 4) (.lit 256)] [(1, 0, 9223372036854775807)] (.tuple []) scM
def Wr.setc (k : Nat) (pe : IE) : Wr := ⟨fun coh od oc => match coh, oc with
 | true, _ => openOs (memT k) slT true od oc pe
 | false, true => [.cells (head0 false) (memT k) false 2, .win pe 7 (slotCells 2 3 false od true (rE pe)) slT true, .arr [.u8] (pD pe) (.lit 256) od, .arr [.u8] (scC (pC pe)) (.lit 256) true]
 | false, false => [.cells (head0 false) (memT k) false 2, .win pe 7 (slotCells 2 4 false od true (rE pe)) slT true, .arr [.u8] (pD pe) (.lit 256) od, .arr [.u8] (pC pe) (.lit 256) false, .arr [.u8] (scC (cp (pC pe))) (.lit 256) true],
 fun coh od oc => match coh, oc with
 | true, _ => { od := od, oc := oc, d := pD pe, c := pC pe, r := rE pe }
 | false, true => { j := 3, od := od, oc := true, d := pD pe, c := scC (pC pe), r := rE pe }
 | false, false => { j := 4, od := od, oc := true, d := pD pe, c := scC (cp (pC pe)), r := rE pe }⟩
theorem backOk_setc (k : Nat) (pe : IE) : backOk k pe (Wr.setc k pe) := by
 intro coh od oc
 cases coh <;> cases od <;> cases oc <;> exact ⟨rfl, rfl, fun h => by first | (cases h; done) | rfl, by first | exact (show 3 ≤ 1000 by decide) | exact (show 4 ≤ 1000 by decide) | exact (show 5 ≤ 1000 by decide), by first | exact .inl rfl | exact .inr ⟨rfl, rfl⟩, fun _ => by first | exact .inl rfl | exact .inr ⟨rfl, rfl⟩, fun h => by first | (cases h; done) | exact (show (2 : Nat) ≠ 3 by decide) | exact (show (2 : Nat) ≠ 4 by decide)⟩
theorem setc0 : runPg (cSetC 0) 0 (.var 1) [] [] [] (Wr.setc 0 (.var 1)) = true := by kernel_rfl
theorem setc1 : runPg (cSetC 1) 1 (.var 1) [] [] [] (Wr.setc 1 (.var 1)) = true := by kernel_rfl
def cPages (k : Nat) : Con := memC k 90 [] [] (.int .i64 nE)
def runPages (k : Nat) (coh : Bool) : Bool := runP (memRo0 (cPages k) (memT k) slT coh) ⟨[], []⟩ 20 12 12
theorem pages_run : ((runPages 0 true && runPages 0 false) && (runPages 1 true && runPages 1 false)) = true := by kernel_rfl
def rPages : Con := refC 62 [] [] (.int .i64 nE)
theorem rPages_run : ((runRef rPages [] [] [] true d14 d16 d15 && runRef rPages [] [] [] false d14 d16 d15) && ((cPages 0).wf && ((cPages 1).wf && (rPages.wf && ((cSetC 0).wf && (cSetC 1).wf))))) = true := by kernel_rfl
section
variable {G : Nat → Int → Int → Int → Int} (hG : Base G)
include hG
theorem scM_ev {ρ : Env} (h1 : ρ.std G gh) : scM.ev ρ = scS (ρ.i 0) (ρ.i 1) (ρ.i 4) 256 := by
 show fnI ρ 34 (ρ.i 0) (ρ.i 1) ((IE.fn 9 (.var 4) (.lit 256) (.lit 0)).ev ρ) = _
 rw [fn_ev hG h1 (by decide) (by decide), pair_ev hG h1]
 show scS _ _ (unpI (pairI (ρ.i 4) 256)).1 (unpI (pairI (ρ.i 4) 256)).2 = _
 rw [unpI_pair]
omit hG in
theorem scC_get {ρ : Env} (b : IE) (j : Nat) (hj : j < 256) : rowGet ((scC b).ev ρ) j = IntKind.u8.wrap (rowGet (ρ.i 4) j) := by
 have hL : scL[j]? = some (.wrap .u8 (.fn 0 (.var 4) (.lit (.ofNat j)) (.lit 0))) := by
   unfold scL
   rw [List.getElem?_map, List.getElem?_range hj]
   rfl
 have := strRow_get (ρ := ρ) scL 0 b (fun e he => ?_) j _ hL
 · rw [Nat.zero_add] at this
   exact this
 · unfold scL at he
   obtain ⟨i, _, rfl⟩ := List.mem_map.1 he
   have := byte_wrap (rowGet (ρ.i 4) i)
   show inRow (IntKind.u8.wrap (rowGet (ρ.i 4) i))
   obtain ⟨a, b⟩ := this
   unfold inRow
   omega
theorem cSetC_ok {k : Nat} (hk : k < 2) : (cSetC k).Ok PR G gh := by
 have pos : ∀ {ρ : Env}, ρ.ok (bdL [(1, 0, 9223372036854775807)]) → 0 ≤ ρ.i 1 := fun {ρ} h => (h 1 0 _ rfl).1
 refine pageCon (c := cSetC k) hG hk rfl rfl rfl rfl (.var 1) [] ConsOk.nil [] [] (Wr.setc k (.var 1)) (backOk_setc k _) (fun ρ h2 h3 => pos h2) (fun ρ h1 h2 h3 hin => obs_nil) (fun ρ h1 h2 h3 hin => obs_nil) (fun ρ h1 h2 h3 hm hin => ?_) (fun coh od oc ρ h1 h2 h3 hm hc p hp hlt => ?_) (two (p := fun k => runPg (cSetC k) k (.var 1) [] [] [] (Wr.setc k (.var 1)) = true) setc0 setc1 hk)
 · rw [scM_ev hG h1]
   unfold scS
   rw [if_neg (fun h => by have : mN (ρ.i 0) ≤ ρ.i 1 := hin; omega)]
 · rw [scM_ev hG h1]
   have hp' : ρ.i 1 = p := hp
   unfold scS
   cases coh
   · rw [if_pos ⟨⟨pos h2, by omega⟩, hc⟩, hp', Int.toNat_natCast]
     show memNext (ρ.i 0) (setN (ρ.i 0) (ixC p) (fun j => IntKind.u8.wrap (rowGet (ρ.i 4) j)) 256) p _ _ _
     have key : ∀ b : IE, memNext (ρ.i 0) (setN (ρ.i 0) (ixC p) (fun j => IntKind.u8.wrap (rowGet (ρ.i 4) j)) 256) p (pgD (ρ.i 0) p) ((scC b).ev ρ) (mR (ρ.i 0) p) := fun b =>
       memNext_im hm hc hlt (fun j => by have := byte_wrap (rowGet (ρ.i 4) j); obtain ⟨a, b⟩ := this; unfold inRow; omega) (Nat.le_refl _) fun j hj => by
         rw [if_pos hj]
         exact scC_get b j hj
     cases oc
     · show memNext _ _ p ((pD (.var 1)).ev ρ) ((scC (cp (pC (.var 1)))).ev ρ) ((rE (.var 1)).ev ρ)
       rw [pD_ev hG h1 hp, rE_ev hp (hm.r p hlt)]
       exact key _
     · show memNext _ _ p ((pD (.var 1)).ev ρ) ((scC (pC (.var 1))).ev ρ) ((rE (.var 1)).ev ρ)
       rw [pD_ev hG h1 hp, rE_ev hp (hm.r p hlt)]
       exact key _
   · rw [if_neg (fun h => by rw [hc] at h; exact absurd h.2 (by decide))]
     show memNext (ρ.i 0) (ρ.i 0) p ((pD (.var 1)).ev ρ) ((pC (.var 1)).ev ρ) ((rE (.var 1)).ev ρ)
     rw [pD_ev hG h1 hp, pC_ev hG h1 hp, rE_ev hp (hm.r p hlt)]
     exact memNext.refl hm hlt
omit hG in
theorem cPages_ok {k : Nat} (hk : k < 2) : (cPages k).Ok PR G gh := by
 have h := pages_run
 simp only [Bool.and_eq_true] at h
 refine memCon0 (k := k) (cv := memCv k) (gh_mem hk) rfl rfl rfl rfl fun coh => runP_ok (L := 20) (d := 12) (k := 12) knowNil ?_
 match k, hk with
 | 0, _ => cases coh; exact h.1.2; exact h.1.1
 | 1, _ => cases coh; exact h.2.2; exact h.2.1
theorem rPages_ok : rPages.Ok PR G gh := by
 have h := rPages_run
 simp only [Bool.and_eq_true] at h
 refine refCon2 (el := rfT) (k := 2) (c := rPages) (Me' := .var 0) rfl (base_rows hG) rfl rfl rfl rfl (fun coh ρ h1 h2 h3 hm hc => ⟨d14, d16, d15, ?_, ?_⟩)
 · refine Con.at_treeX (k := 12) (L := 300) (pol := none') (pure := no') (d := 12) (facts := []) (obs := []) mixed (K := ⟨[], []⟩) knowNil h1 h2 h3 nilDec (fun _ ho => by cases ho) ?_
   cases coh
   · exact h.1.2
   · exact h.1.1
 · obtain ⟨e14, e15, e16⟩ := d_ev hG h1
   rw [e14, e15, e16]
   exact refNext.refl hm
end
end
end Go.Proofs.YtbhlmedfhilkbaaGreat
