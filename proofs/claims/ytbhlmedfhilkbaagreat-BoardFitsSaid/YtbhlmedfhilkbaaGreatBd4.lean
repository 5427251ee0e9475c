/- The memory's functions set, Sync. No condition. -/
import Derived.Test.YtbhlmedfhilkbaaGreatBd2
set_option linter.unusedSimpArgs false
set_option linter.unusedVariables false
set_option linter.unusedSectionVars false
namespace Go.Proofs.YtbhlmedfhilkbaaGreat
open Go Go.Sx
set_option maxRecDepth 1000000
noncomputable section
/-! set -/
def stM : IE := .fn 30 (.var 0) (.var 1) (.var 2)
def sameT : BE := .eq dE (.var 2)
def cSet (k : Nat) : Con := memC k 179 [uV .u32 1, uV .u8 2] [u32B 1, u8B 2] (.tuple []) stM
def cSetP (k : Nat) (v : Bool) : Con := { cSet k with pre := [(sameT, v)] }
def pD (pe : IE) : IE := .fn 10 (.var 0) pe (.lit 0)
def pC (pe : IE) : IE := .fn 11 (.var 0) pe (.lit 0)
/-- The page's data written. -/
def cp (e : IE) : IE := .fn 4 e (.lit 256) (.lit 4)
def Wr.data (k : Nat) (pe : IE) (dd : IE → IE) : Wr := ⟨fun coh od oc => match coh, od with
 | true, true => [.cells (head0 true) (memT k) false 2, .win pe 7 (slotCells 2 3 true true oc (rE pe)) slT true, .arr [.u8] (dd (pD pe)) (.lit 256) true]
 | true, false => [.cells (head0 true) (memT k) false 2, .win pe 7 (slotCells 3 3 true true oc (rE pe)) slT true, .arr [.u8] (pD pe) (.lit 256) false, .arr [.u8] (dd (cp (pD pe))) (.lit 256) true]
 | false, true => [.cells (head0 false) (memT k) false 2, .win pe 7 (slotCells 2 3 false true oc (rE pe)) slT true, .arr [.u8] (dd (pD pe)) (.lit 256) true, .arr [.u8] (pC pe) (.lit 256) oc]
 | false, false => [.cells (head0 false) (memT k) false 2, .win pe 7 (slotCells 4 3 false true oc (rE pe)) slT true, .arr [.u8] (pD pe) (.lit 256) false, .arr [.u8] (pC pe) (.lit 256) oc, .arr [.u8] (dd (cp (pD pe))) (.lit 256) true],
 fun coh od oc => { i := match od, coh with | true, _ => 2 | false, true => 3 | false, false => 4, od := true, oc := oc, d := match od with | true => dd (pD pe) | false => dd (cp (pD pe)), c := pC pe, r := rE pe }⟩
theorem backOk_data (k : Nat) (pe : IE) (d : IE → IE) : backOk k pe (Wr.data k pe d) := by
 intro coh od oc
 cases coh <;> cases od <;> cases oc <;> exact ⟨rfl, rfl, fun h => by first | (cases h; done) | rfl, by first | exact (show 3 ≤ 1000 by decide) | exact (show 4 ≤ 1000 by decide) | exact (show 5 ≤ 1000 by decide), .inl rfl, fun _ => by first | exact .inl rfl | exact .inr ⟨rfl, rfl⟩, fun h => by first | (cases h; done) | exact (show (2 : Nat) ≠ 3 by decide) | exact (show (4 : Nat) ≠ 3 by decide)⟩
def stD (e : IE) : IE := .fn 1 e offE (.var 2)
theorem setT0 : runPg (cSetP 0 true) 0 pgE [] [] [] (Wr.read 0 pgE) = true := by kernel_rfl
theorem setT1 : runPg (cSetP 1 true) 1 pgE [] [] [] (Wr.read 1 pgE) = true := by kernel_rfl
theorem setF0 : runPg (cSetP 0 false) 0 pgE [] [] [] (Wr.data 0 pgE stD) = true := by kernel_rfl
theorem setF1 : runPg (cSetP 1 false) 1 pgE [] [] [] (Wr.data 1 pgE stD) = true := by kernel_rfl
section
variable {G : Nat → Int → Int → Int → Int} (hG : Base G)
include hG
theorem pD_ev {ρ : Env} (h1 : ρ.std G gh) {pe : IE} {p : Nat} (hp : pe.ev ρ = p) : (pD pe).ev ρ = pgD (ρ.i 0) p := by
 show fnI ρ 10 (ρ.i 0) (pe.ev ρ) 0 = _
 rw [fn_ev hG h1 (by decide) (by decide), hp]
 rfl
theorem pC_ev {ρ : Env} (h1 : ρ.std G gh) {pe : IE} {p : Nat} (hp : pe.ev ρ = p) : (pC pe).ev ρ = pgC (ρ.i 0) p := by
 show fnI ρ 11 (ρ.i 0) (pe.ev ρ) 0 = _
 rw [fn_ev hG h1 (by decide) (by decide), hp]
 rfl
omit hG in
/-- Digits alone matter. -/
theorem _root_.Go.Sx.memNext.alike {M M' D D' C R : Int} {p : Nat} (h : memNext M M' p D C R) (hd : ∀ j : Nat, j < 256 → rowGet D' j = rowGet D j) : memNext M M' p D' C R :=
 ⟨h.n, h.coh, h.other, h.rights, fun j hj => (h.d j hj).trans (hd j hj).symm, h.c, h.r, h.k⟩
theorem cp_get {ρ : Env} (h1 : ρ.std G gh) {pe : IE} {p : Nat} (hm : memOk (ρ.i 0)) (hp : pe.ev ρ = p) (hlt : p < (mN (ρ.i 0)).toNat) (j : Nat) (hj : j < 256) : rowGet ((cp (pD pe)).ev ρ) j = rowGet (pgD (ρ.i 0) p) j := by
 show rowGet (rowWrap ((pD pe).ev ρ) 256 4) j = _
 rw [rowWrap_get _ _ _ _ (by simpa using hj), pD_ev hG h1 hp, pgD_get' _ _ _ hj]
 exact wrap_byte (hm.d p j hlt hj)
theorem stM_ev {ρ : Env} (h1 : ρ.std G gh) : stM.ev ρ = stS (ρ.i 0) (ρ.i 1) (ρ.i 2) := by
 show fnI ρ 30 (ρ.i 0) (ρ.i 1) (ρ.i 2) = _
 rw [fn_ev hG h1 (by decide) (by decide)]
 rfl
/-- A store within the page. -/
theorem next_st {ρ : Env} (h1 : ρ.std G gh) (h2 : ρ.ok (bdL [u32B 1])) (hb : isByte (ρ.i 2)) (hm : memOk (ρ.i 0)) {p : Nat} (hp : pgE.ev ρ = p) (hlt : p < (mN (ρ.i 0)).toNat) :
   memNext (ρ.i 0) (stM.ev ρ) p (rowSet (pgD (ρ.i 0) p) (ρ.i 1 % 256) (ρ.i 2)) (pgC (ρ.i 0) p) (mR (ρ.i 0) p) := by
 obtain ⟨q1, _, q3⟩ := pos_div h2 rfl
 obtain ⟨n, hn⟩ := Int.eq_ofNat_of_zero_le q1
 have hpn : p = n / 256 := by rw [q3, hn] at hp; omega
 rw [stM_ev hG h1]
 unfold stS
 rw [in_of h2 (by rw [hp]; omega), hn]
 subst hpn
 have := memNext_st (b := ρ.i 2) (n := n) hm hlt hb
 rw [show ((n : Int) * 4) = ((4 * n : Nat) : Int) by omega, show ((n : Int) % 256) = ((n % 256 : Nat) : Int) by omega]
 exact this
theorem cSet_ok {k : Nat} (hk : k < 2) : (cSet k).Ok PR G gh := by
 have pos : ∀ {ρ : Env}, ρ.ok (bdL [u32B 1, u8B 2]) → ρ.ok (bdL [u32B 1]) ∧ isByte (ρ.i 2) := fun {ρ} h => by
   refine ⟨fun i lo hi hb => ?_, h 2 0 255 rfl⟩
   by_cases hi1 : i = 1
   · subst hi1; exact h 1 lo hi hb
   · have : bdL [u32B 1] i = none := by
       unfold bdL u32B
       have : Nat.beq 1 i = false := by
         cases h : Nat.beq 1 i
         · rfl
         · exact absurd (Nat.eq_of_beq_eq_true h).symm hi1
       simp [this, bdL]
     rw [this] at hb
     cases hb
 have pp : ∀ {ρ : Env}, ρ.ok (bdL [u32B 1, u8B 2]) → 0 ≤ pgE.ev ρ := fun {ρ} h => by
   obtain ⟨q1, _, q3⟩ := pos_div (pos h).1 rfl
   rw [q3]
   omega
 have same : ∀ {ρ : Env}, ρ.std G gh → ρ.ok (bdL [u32B 1, u8B 2]) → mN (ρ.i 0) ≤ pgE.ev ρ → stM.ev ρ = ρ.i 0 := fun {ρ} h1 h2 hin => by
   rw [stM_ev hG h1]
   unfold stS
   rw [out_of (pos h2).1 hin]
   rfl
 refine Con.split (b := sameT) ?_ ?_
 · refine pageCon (c := cSetP k true) hG hk rfl rfl rfl rfl pgE [] ConsOk.nil [] [] (Wr.read k pgE) (backOk_read k pgE) (fun ρ h2 h3 => pp h2) (fun ρ h1 h2 h3 hin => obs_nil) (fun ρ h1 h2 h3 hin => obs_nil) (fun ρ h1 h2 h3 hm hin => same h1 h2 hin) (fun coh od oc ρ h1 h2 h3 hm hc p hp hlt => ?_) (two (p := fun k => runPg (cSetP k true) k pgE [] [] [] (Wr.read k pgE) = true) setT0 setT1 hk)
   have hs := next_st hG h1 (pos h2).1 (pos h2).2 hm hp hlt
   show memNext (ρ.i 0) (stM.ev ρ) p ((pD pgE).ev ρ) ((pC pgE).ev ρ) ((rE pgE).ev ρ)
   rw [pD_ev hG h1 hp, pC_ev hG h1 hp, rE_ev hp (hm.r p hlt)]
   have ht : dE.ev ρ = ρ.i 2 := of_decide_eq_true (h3 (sameT, true) (by simp [cSetP]))
   rw [dE_ev hG h1 (pos h2).1] at ht
   obtain ⟨q1, _, q3⟩ := pos_div (pos h2).1 rfl
   have hd : rowGet (pgD (ρ.i 0) p) (ρ.i 1 % 256) = ρ.i 2 := by
     have := (atPage (M := ρ.i 0) q1).1
     rw [q3] at hp
     rw [show (ρ.i 1 / 256).toNat = p by omega] at this
     rw [this]
     have hb : isByte (rowGet (ρ.i 0) (ρ.i 1 * 4)) := by
       obtain ⟨n, hn⟩ := Int.eq_ofNat_of_zero_le q1
       have := hm.d p (n % 256) hlt (Nat.mod_lt _ (by decide))
       unfold mD at this
       rw [hn, show ((n : Int) * 4) = ((4 * (256 * p + n % 256) : Nat) : Int) by omega]
       exact this
     rw [wrap_byte hb] at ht
     exact ht
   obtain ⟨n, hn⟩ := Int.eq_ofNat_of_zero_le (Int.emod_nonneg (ρ.i 1) (show (256 : Int) ≠ 0 by decide))
   rw [hn] at hs hd
   have hz := rowSet_self (d := pgD (ρ.i 0) p) (by unfold pgD; omega) n
   rw [hd] at hz
   rw [hz] at hs
   exact hs
 · refine pageCon (c := cSetP k false) hG hk rfl rfl rfl rfl pgE [] ConsOk.nil [] [] (Wr.data k pgE stD) (backOk_data k pgE stD) (fun ρ h2 h3 => pp h2) (fun ρ h1 h2 h3 hin => obs_nil) (fun ρ h1 h2 h3 hin => obs_nil) (fun ρ h1 h2 h3 hm hin => same h1 h2 hin) (fun coh od oc ρ h1 h2 h3 hm hc p hp hlt => ?_) (two (p := fun k => runPg (cSetP k false) k pgE [] [] [] (Wr.data k pgE stD) = true) setF0 setF1 hk)
   have hs := next_st hG h1 (pos h2).1 (pos h2).2 hm hp hlt
   obtain ⟨q1, _, q3⟩ := pos_div (pos h2).1 rfl
   have ho : offE.ev ρ = ρ.i 1 % 256 := rem_ev q1
   cases od
   · show memNext (ρ.i 0) (stM.ev ρ) p (rowSet ((cp (pD pgE)).ev ρ) (offE.ev ρ) (ρ.i 2)) ((pC pgE).ev ρ) ((rE pgE).ev ρ)
     rw [pC_ev hG h1 hp, rE_ev hp (hm.r p hlt), ho]
     refine hs.alike fun j hj => ?_
     obtain ⟨m, hm'⟩ := Int.eq_ofNat_of_zero_le (Int.emod_nonneg (ρ.i 1) (show (256 : Int) ≠ 0 by decide))
     rw [hm', rowGet_byte (pos h2).2, rowGet_byte (pos h2).2, cp_get hG h1 hm hp hlt j hj]
   · show memNext (ρ.i 0) (stM.ev ρ) p (rowSet ((pD pgE).ev ρ) (offE.ev ρ) (ρ.i 2)) ((pC pgE).ev ρ) ((rE pgE).ev ρ)
     rw [pD_ev hG h1 hp, pC_ev hG h1 hp, rE_ev hp (hm.r p hlt), ho]
     exact hs
end
/-! Sync -/
def syM : IE := .fn 33 (.var 0) (.var 1) (.lit 0)
def cSync (k : Nat) : Con := memC k 174 [uV .u32 1] [u32B 1] (.bool (.lt pgE nE)) syM
/-- The page's image is new. -/
def Wr.image (k : Nat) (pe c : IE) : Wr := ⟨fun coh od oc => match coh with
 | true => openOs (memT k) slT true od oc pe
 | false => [.cells (head0 false) (memT k) false 2, .win pe 7 (slotCells 2 4 false od true (rE pe)) slT true, .arr [.u8] (pD pe) (.lit 256) od, .arr [.u8] (pC pe) (.lit 256) oc, .arr [.u8] c (.lit 256) true],
 fun coh od oc => match coh with
 | true => { od := od, oc := oc, d := pD pe, c := pC pe, r := rE pe }
 | false => { j := 4, od := od, oc := true, d := pD pe, c := c, r := rE pe }⟩
theorem backOk_image (k : Nat) (pe c : IE) : backOk k pe (Wr.image k pe c) := by
 intro coh od oc
 cases coh <;> cases od <;> cases oc <;> exact ⟨rfl, rfl, fun h => by first | (cases h; done) | rfl, by first | exact (show 3 ≤ 1000 by decide) | exact (show 4 ≤ 1000 by decide) | exact (show 5 ≤ 1000 by decide), by first | exact .inl rfl | exact .inr ⟨rfl, rfl⟩, fun _ => by first | exact .inl rfl | exact .inr ⟨rfl, rfl⟩, fun h => by first | (cases h; done) | exact (show (2 : Nat) ≠ 3 by decide) | exact (show (2 : Nat) ≠ 4 by decide)⟩
theorem sync0 : runPg (cSync 0) 0 pgE [] [] [] (Wr.image 0 pgE (cp (pD pgE))) = true := by kernel_rfl
theorem sync1 : runPg (cSync 1) 1 pgE [] [] [] (Wr.image 1 pgE (cp (pD pgE))) = true := by kernel_rfl
section
variable {G : Nat → Int → Int → Int → Int} (hG : Base G)
include hG
theorem syM_ev {ρ : Env} (h1 : ρ.std G gh) : syM.ev ρ = syS (ρ.i 0) (ρ.i 1) := by
 show fnI ρ 33 (ρ.i 0) (ρ.i 1) 0 = _
 rw [fn_ev hG h1 (by decide) (by decide)]
 rfl
theorem cSync_ok {k : Nat} (hk : k < 2) : (cSync k).Ok PR G gh := by
 refine pageCon (c := cSync k) hG hk rfl rfl rfl rfl pgE [] ConsOk.nil [] [] (Wr.image k pgE (cp (pD pgE))) (backOk_image k pgE _) (fun ρ h2 h3 => ?_) (fun ρ h1 h2 h3 hin => obs_nil) (fun ρ h1 h2 h3 hin => obs_nil) (fun ρ h1 h2 h3 hm hin => ?_) (fun coh od oc ρ h1 h2 h3 hm hc p hp hlt => ?_) (two (p := fun k => runPg (cSync k) k pgE [] [] [] (Wr.image k pgE (cp (pD pgE))) = true) sync0 sync1 hk)
 · obtain ⟨q1, _, q3⟩ := pos_div h2 rfl
   rw [q3]
   omega
 · show syM.ev ρ = _
   rw [syM_ev hG h1]
   unfold syS
   rw [out_of h2 hin]
   rfl
 · show memNext (ρ.i 0) (syM.ev ρ) p _ _ _
   rw [syM_ev hG h1]
   obtain ⟨q1, _, q3⟩ := pos_div h2 rfl
   have hpa : (ρ.i 1 / 256).toNat = p := by rw [q3] at hp; omega
   unfold syS
   rw [in_of h2 (by rw [hp]; omega), hc, hpa]
   cases coh
   · show memNext (ρ.i 0) (setN (ρ.i 0) (ixC p) (fun j => mD (ρ.i 0) (256 * p + j)) 256) p ((pD pgE).ev ρ) ((cp (pD pgE)).ev ρ) ((rE pgE).ev ρ)
     rw [pD_ev hG h1 hp, rE_ev hp (hm.r p hlt)]
     refine memNext_im hm hc hlt (fun j => rowGet_in _ _) (Nat.le_refl _) fun j hj => ?_
     rw [if_pos hj, cp_get hG h1 hm hp hlt j hj, pgD_get' _ _ _ hj]
     rfl
   · show memNext (ρ.i 0) (ρ.i 0) p ((pD pgE).ev ρ) ((pC pgE).ev ρ) ((rE pgE).ev ρ)
     rw [pD_ev hG h1 hp, pC_ev hG h1 hp, rE_ev hp (hm.r p hlt)]
     exact memNext.refl hm hlt
end
end
end Go.Proofs.YtbhlmedfhilkbaaGreat
