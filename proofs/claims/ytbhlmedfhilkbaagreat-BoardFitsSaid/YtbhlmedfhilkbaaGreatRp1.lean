/- The reference's memory: Poke, Protect. No condition. -/
import Derived.Test.YtbhlmedfhilkbaaGreatBn1
set_option linter.unusedSimpArgs false
set_option linter.unusedVariables false
set_option linter.unusedSectionVars false
namespace Go.Proofs.YtbhlmedfhilkbaaGreat
open Go Go.Sx
set_option maxRecDepth 1000000
noncomputable section
def v6 : IE := .var 6
def pdE (D i : IE) : IE := .fn 39 D (.fn 9 (.var 1) (.fn 9 (.var 4) lenE (.lit 0)) (.lit 0)) (.fn 9 i (.var 5) (.lit 0))
def cRoL (coh : Bool) : Con := { g := 56, args := [pm, uV .u32 1, .strS (.var 4) (.var 5), .int .i64 (.var 7)], os := refObs rfT coh v6 d16 d15, bds := [u32B 1, i6B 5, i6B 7], pre := (.lt (.var 5) (.var 7), false) :: refPre coh, res := .tuple [], os' := refObs rfT coh (pdE v6 (.var 7)) d16 d15 }
def lRo (coh : Bool) : LCon := { con := cRoL coh, key := 2, n := 33, sl := [0, 1, 2, 6], e := .exit 0, sl' := [] }
def tRo (coh : Bool) : Out := (lRo coh).tree PR ⟨[], []⟩ 20 none' no' 12 [] μPo
def adP : IE := .wrap .u32 (.add (.var 1) (.var 7))
def pdN : IE := pdE (.sel true adP lenE (.fn 1 v6 adP (.wrap .u8 (.fn 0 (.var 4) (.var 7) (.lit 0)))) v6) (.add (.var 7) (.lit 1))
def obRo : List (Dec × IE × IE) := [([(.lt (.var 7) (.var 5), false)], pdE v6 (.var 7), v6), ([(.lt (.var 7) (.var 5), true)], pdE v6 (.var 7), pdN)]
def roOk (coh : Bool) : Bool := (tRo coh).all ((cRoL coh).leaf (qX (bdL (cRoL coh).bds) 12 obRo)) (cRoL coh).pre && (cRoL coh).wf
theorem ro_run : (roOk true && roOk false) = true := by kernel_rfl
def rPoke : Con := refC 56 [uV .u32 1, .strS (.var 4) (.var 5)] [u32B 1, i6B 5] (.tuple []) (poE (.var 0) (.lit 0))
def runRoP (coh : Bool) : Bool := ((refIn rPoke rfT coh (pdE d14 (.lit 0)) d16 d15).tree PR ⟨[], [lRo coh]⟩ 20 none' no' 12 []).all ((refIn rPoke rfT coh (pdE d14 (.lit 0)) d16 d15).leaf (qX (bdL rPoke.bds) 12 [])) (refPre coh ++ rPoke.pre)
theorem rPoke_run : (runRoP true && (runRoP false && rPoke.wf)) = true := by kernel_rfl
def rProt : Con := refC 32 [uV .i64 1, uV .i64 2] [(1, 0, 9223372036854775807), i64B 2] (.tuple []) prM
def prRe : IE := .sel true (.var 1) nE (.fn 1 d16 (.var 1) r7E) d16
def runProt (coh : Bool) : Bool := runRef rProt [] [] [] coh d14 prRe d15
theorem rProt_run : (runProt true && (runProt false && rProt.wf)) = true := by kernel_rfl
section
variable {G : Nat → Int → Int → Int → Int} (hG : Base G)
include hG
theorem pdE_ev {ρ : Env} (h1 : ρ.std G gh) (D i : IE) : (pdE D i).ev ρ = poD (D.ev ρ) (ρ.i 1) (ρ.i 4) (lenE.ev ρ) (i.ev ρ).toNat ((ρ.i 5).toNat - (i.ev ρ).toNat) := by
 show fnI ρ 39 (D.ev ρ) ((IE.fn 9 (.var 1) (.fn 9 (.var 4) lenE (.lit 0)) (.lit 0)).ev ρ) ((IE.fn 9 i (.var 5) (.lit 0)).ev ρ) = _
 rw [fn_ev hG h1 (by decide) (by decide), pair_ev hG h1, pair_ev hG h1, pair_ev hG h1]
 show poD _ (unpI (pairI (ρ.i 1) (pairI (ρ.i 4) (lenE.ev ρ)))).1 (unpI (unpI (pairI (ρ.i 1) (pairI (ρ.i 4) (lenE.ev ρ)))).2).1 (unpI (unpI (pairI (ρ.i 1) (pairI (ρ.i 4) (lenE.ev ρ)))).2).2 (unpI (pairI (i.ev ρ) (ρ.i 5))).1.toNat ((unpI (pairI (i.ev ρ) (ρ.i 5))).2.toNat - (unpI (pairI (i.ev ρ) (ρ.i 5))).1.toNat) = _
 rw [unpI_pair, unpI_pair, unpI_pair]
theorem obRo_ok {ρ : Env} (h1 : ρ.std G gh) (h2 : ρ.ok (bdL [u32B 1, i6B 5, i6B 7])) : obsOk ρ obRo := by
 have h7 := h2 7 0 1000000 rfl
 have h5 := h2 5 0 1000000 rfl
 refine obs_cons (fun hd => ?_) (obs_cons (fun hd => ?_) obs_nil)
 · have hd : decide (ρ.i 7 < ρ.i 5) = false := hd (.lt (.var 7) (.var 5), false) (by simp)
   have hd := of_decide_eq_false hd
   rw [pdE_ev hG h1]
   show poD (ρ.i 6) _ _ _ (ρ.i 7).toNat ((ρ.i 5).toNat - (ρ.i 7).toNat) = ρ.i 6
   rw [show (ρ.i 5).toNat - (ρ.i 7).toNat = 0 by omega]
   rfl
 · have hd : decide (ρ.i 7 < ρ.i 5) = true := hd (.lt (.var 7) (.var 5), true) (by simp)
   have hd := of_decide_eq_true hd
   rw [pdE_ev hG h1, pdN, pdE_ev hG h1]
   obtain ⟨i, hi⟩ := Int.eq_ofNat_of_zero_le h7.1
   have e0 : (IE.var 7).ev ρ = (i : Int) := hi
   have e1 : (IE.add (.var 7) (.lit 1)).ev ρ = ((i + 1 : Nat) : Int) := by show ρ.i 7 + 1 = _; rw [hi]; rfl
   have e2 : (IE.sel true adP lenE (.fn 1 v6 adP (.wrap .u8 (.fn 0 (.var 4) (.var 7) (.lit 0)))) v6).ev ρ = if ad (ρ.i 1) i < lenE.ev ρ then rowSet (ρ.i 6) (ad (ρ.i 1) i) (IntKind.u8.wrap (rowGet (ρ.i 4) i)) else ρ.i 6 := by
     show selI true (IntKind.u32.wrap (ρ.i 1 + ρ.i 7)) (lenE.ev ρ) (rowSet (ρ.i 6) (IntKind.u32.wrap (ρ.i 1 + ρ.i 7)) (IntKind.u8.wrap (rowGet (ρ.i 4) (ρ.i 7)))) (ρ.i 6) = _
     rw [selL', hi]
     rfl
   rw [e0, e1, e2, Int.toNat_natCast, Int.toNat_natCast]
   obtain ⟨k, hk⟩ : ∃ k, (ρ.i 5).toNat - i = k + 1 := ⟨(ρ.i 5).toNat - i - 1, by omega⟩
   rw [hk, show (ρ.i 5).toNat - (i + 1) = k by omega]
   rfl
theorem lRo_ok (coh : Bool) : (cRoL coh).wf = true ∧ (lRo coh).Ok PR G gh := by
 have h0 := ro_run
 simp only [Bool.and_eq_true] at h0
 have h : roOk coh = true := by
   cases coh
   · exact h0.2
   · exact h0.1
 simp only [roOk, Bool.and_eq_true] at h
 exact ⟨h.2, LCon.ok_of (c := lRo coh) mixed (K := ⟨[], []⟩) knowNil h.2 rfl (facts := []) (fun _ _ _ _ => nilDec) (Con.leavesX [] (fun _ _ _ _ => nilDec) 12 obRo (fun ρ h1 h2 _ => obRo_ok hG h1 h2) h.1)⟩
omit hG in
theorem po_next {M a d R C : Int} (ha : ∀ i : Nat, 0 ≤ ad a i) : ∀ (k i : Nat) (Mk D : Int), refNext M Mk D R C → refNext M (poF Mk a d i k) (poD D a d (mN M * 256) i k) R C := by
 intro k
 induction k with
 | zero => intro i Mk D h; exact h
 | succ k ih =>
   intro i Mk D h
   show refNext M (poF (stS Mk (ad a i) (IntKind.u8.wrap (rowGet d i))) a d (i + 1) k) (poD (if ad a i < mN M * 256 then rowSet D (ad a i) (IntKind.u8.wrap (rowGet d i)) else D) a d (mN M * 256) (i + 1) k) R C
   refine ih (i + 1) _ _ ?_
   by_cases hin : ad a i < mN M * 256
   · rw [if_pos hin]
     exact st_step h (ha i) (decide_eq_true (by omega)) (byte_wrap _)
   · rw [if_neg hin]
     have : inM Mk (ad a i) = false := by
       unfold inM
       rw [h.n]
       exact decide_eq_false (by omega)
     unfold stS
     rw [this]
     exact h
theorem rPoke_ok : rPoke.wf = true ∧ rPoke.Ok PR G gh := by
 have h := rPoke_run
 simp only [Bool.and_eq_true] at h
 refine ⟨h.2.2, refCon2 (el := rfT) (k := 2) (c := rPoke) (Me' := poE (.var 0) (.lit 0)) rfl (base_rows hG) rfl rfl rfl rfl (fun coh ρ h1 h2 h3 hm hc => ⟨pdE d14 (.lit 0), d16, d15, ?_, ?_⟩)⟩
 · have kn : Know.Ok PR G gh ⟨[], [lRo coh]⟩ := ⟨ConsOk.nil, fun c hc => by
     rw [List.mem_singleton.1 hc]
     exact lRo_ok hG coh⟩
   refine Con.at_treeX (k := 12) (L := 20) (pol := none') (pure := no') (d := 12) (facts := []) (obs := []) mixed (K := ⟨[], [lRo coh]⟩) kn h1 h2 h3 nilDec (fun _ ho => by cases ho) ?_
   cases coh
   · exact h.2.1
   · exact h.1
 · obtain ⟨e14, e15, e16⟩ := d_ev hG h1
   rw [poE_ev hG h1, pdE_ev hG h1, e14, e15, e16]
   exact po_next (fun i => (ad_nn _ _).1) _ 0 _ _ (refNext.refl hm)
omit hG in
theorem pr_next {M r : Int} {p : Nat} (hm : memOk M) (hp : p < (mN M).toNat) (hr : 0 ≤ r ∧ r ≤ 7) : refNext M (rowSet M ((4 * p + 2 : Nat) : Int) r) (dataR M) (rowSet (rgtR M) (p : Nat) r) (imgR M) := by
 have hb : isByte r := ⟨hr.1, by omega⟩
 have g : ∀ j : Nat, rowGet (rowSet M ((4 * p + 2 : Nat) : Int) r) (j : Nat) = if j = 4 * p + 2 then r else rowGet M j := fun j => rowGet_byte hb
 have eN : mN (rowSet M ((4 * p + 2 : Nat) : Int) r) = mN M := by
   show rowGet _ ((3 : Nat) : Int) = _
   rw [g, if_neg (by omega)]; rfl
 have eC : mCoh (rowSet M ((4 * p + 2 : Nat) : Int) r) = mCoh M := by
   unfold mCoh
   rw [g, if_neg (by omega)]
 have eD : ∀ j, mD (rowSet M ((4 * p + 2 : Nat) : Int) r) j = mD M j := fun j => by
   unfold mD
   rw [g, if_neg (by omega)]
 have eI : ∀ j, mC (rowSet M ((4 * p + 2 : Nat) : Int) r) j = mC M j := fun j => by
   unfold mC
   rw [g, if_neg (by omega)]
 have eR : ∀ j, mR (rowSet M ((4 * p + 2 : Nat) : Int) r) j = if j = p then r else mR M j := fun j => by
   unfold mR
   rw [g]
   by_cases hj : j = p
   · rw [if_pos hj, if_pos (by omega)]
   · rw [if_neg hj, if_neg (by omega)]
 refine ⟨⟨by rw [eN]; exact hm.n, fun q j hq hj => ?_, fun hc q j hq hj => ?_, fun q hq => ?_, hm.k.set (.inr (.inr (.inr ⟨p, hp, rfl⟩))) (by omega) (by omega)⟩, eN, eC, fun j hj => ?_, fun j hj => ?_, fun _ j hj => ?_⟩
 · rw [eN] at hq
   rw [eD]
   exact hm.d q j hq hj
 · rw [eN] at hq
   rw [eC] at hc
   rw [eI]
   exact hm.c hc q j hq hj
 · rw [eN] at hq
   rw [eR]
   split
   · exact hr
   · exact hm.r q hq
 · rw [eD, dataR_get hj]
 · rw [eR, rowGet_byte hb]
   split
   · rfl
   · exact (rgtR_get hj).symm
 · rw [eI, imgR_get hj]
theorem rProt_ok : rProt.wf = true ∧ rProt.Ok PR G gh := by
 have h := rProt_run
 simp only [Bool.and_eq_true] at h
 refine ⟨h.2.2, refCon2 (el := rfT) (k := 2) (c := rProt) (Me' := prM) rfl (base_rows hG) rfl rfl rfl rfl (fun coh ρ h1 h2 h3 hm hc => ⟨d14, prRe, d15, ?_, ?_⟩)⟩
 · refine Con.at_treeX (k := 12) (L := 300) (pol := none') (pure := no') (d := 12) (facts := []) (obs := []) mixed (K := ⟨[], []⟩) knowNil h1 h2 h3 nilDec (fun _ ho => by cases ho) ?_
   cases coh
   · exact h.2.1
   · exact h.1
 · obtain ⟨e14, e15, e16⟩ := d_ev hG h1
   have h10 : 0 ≤ ρ.i 1 := (h2 1 0 _ rfl).1
   obtain ⟨p, hp⟩ := Int.eq_ofNat_of_zero_le h10
   have e : prM.ev ρ = prS (ρ.i 0) (ρ.i 1) (ρ.i 2) := by
     show fnI ρ 31 (ρ.i 0) (ρ.i 1) (ρ.i 2) = _
     rw [fn_ev hG h1 (by decide) (by decide)]
     rfl
   have e2 : prRe.ev ρ = if ρ.i 1 < mN (ρ.i 0) then rowSet (d16.ev ρ) (ρ.i 1) (bitsI .and .i64 (ρ.i 2) 7) else d16.ev ρ := by
     show selI true (ρ.i 1) (nE.ev ρ) (rowSet (d16.ev ρ) (ρ.i 1) (bitsI .and .i64 (ρ.i 2) 7)) (d16.ev ρ) = _
     rw [selL']
     rfl
   rw [e, e2, e14, e15, e16]
   unfold prS
   by_cases hin : ρ.i 1 < mN (ρ.i 0)
   · rw [if_pos ⟨h10, hin⟩, if_pos hin, hp, show ((p : Int) * 4 + 2) = ((4 * p + 2 : Nat) : Int) by omega]
     exact pr_next hm (by omega) (bitsI_and .i64 (ρ.i 2) 7 (by decide))
   · rw [if_neg (fun h => hin h.2), if_neg hin]
     exact refNext.refl hm
end
end
end Go.Proofs.YtbhlmedfhilkbaaGreat
