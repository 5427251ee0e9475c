/- Restore of a snapshot with the memory's own pages: nothing changes but the state. No condition. -/
import Derived.Test.YtbhlmedfhilkbaaGreatBs10
set_option linter.unusedSimpArgs false
set_option linter.unusedVariables false
set_option linter.unusedSectionVars false
namespace Go.Proofs.YtbhlmedfhilkbaaGreat
open Go Go.Sx
set_option maxRecDepth 1000000
noncomputable section
def cRestK : Con := { g := 44, args := [pm, snapV 1 st91 (sl6 4) (sl6 5) (.slice none 0 0 0) (.slice (some (6, 0)) 2 2 0) (.slice none 0 0 0)], os := [brdP (.iface kPT (.ptr (some (1, 0)))) (.sliceA 3 (.var 25) 1) (.slice none 0 0 0) stopB, kcpuAt st90 2, .ghost 0 [.var 0] .nil, inN, rgtC, dataC, in2], pre := [n6, (cohB, true)], bds := [(25, 0, 8)], res := .int .i64 (.lit 0), os' := [brdP (.iface kPT (.ptr (some (1, 0)))) (.slice (some (7, 0)) 2 2 1) (.slice none 0 0 0) (.bool (.lit false)), kcpuAt (stN91 true) 2, .ghost 0 [.var 0] .nil, inN, rgtC, dataC, in2, in2] }
def kReK : Know := ⟨[cPages6 0, cPoke 0, cProtect 0], []⟩
def cRestQ : Con := { g := 44, args := [pm, snapV 2 st91 (sl6 3) (sl6 4) (sl6 5) (.slice (some (6, 0)) 2 2 0) (.slice none 0 0 0)], os := [brdP (.iface qPT (.ptr (some (1, 0)))) (.sliceA 2 (.var 25) 1) (.slice none 0 0 0) stopB, memO 1 (.var 0), inN, rgtC, dataC, codeC, in2], pre := [n6, (cohB, false)], bds := [(25, 0, 8)], res := .int .i64 (.lit 0), os' := [brdP (.iface qPT (.ptr (some (1, 0)))) (.slice (some (7, 0)) 2 2 1) (.slice none 0 0 0) (.bool (.lit false)), .ghost 1 [.var 0] (treeAt (stN91 false) 2), inN, rgtC, dataC, codeC, in2, in2] }
def kReQ : Know := ⟨[cPages6 1, cPoke 1, cProtect 1, cSetC 1], []⟩
def obReK : List (Dec × IE × IE) := [([], .var 0, reK (.var 0) 6)]
def obReQ : List (Dec × IE × IE) := [([], .var 0, reQ (reK (.var 0) 6) 6)]
def restOk (c : Con) (K : Know) (obs : List (Dec × IE × IE)) : Bool := (c.tree PR K 20 none' no' 12 []).all (c.leaf (qX (bdL c.bds) 12 obs)) c.pre && (c.wf && K.cons.all Con.wf)
theorem rest_run : (restOk cRestK kReK obReK && restOk cRestQ kReQ obReQ) = true := by kernel_rfl
/-! what is put is what stands there -/
theorem po_same {M row : Int} {p : Nat} (hm : memOk M) (hp : p < (mN M).toNat) (hrow : ∀ j, j < 256 → rowGet row (j : Nat) = mD M (256 * p + j)) : poF M (256 * p : Nat) row 0 256 = M := by
 have hn := hm.n
 have x := po_next (a := (256 * p : Nat)) (d := row) (fun i => (ad_nn _ _).1) 256 0 M (dataR M) (refNext.refl hm)
 refine hm.ext x.ok x.n x.coh (fun a ha => ?_) (fun hc a ha => ?_) fun q hq => ?_
 · rw [x.d a ha, poD_get 256 0 _ (by omega) (by omega) a]
   by_cases h1 : 256 * p + 0 ≤ a ∧ a < 256 * p + (0 + 256)
   · rw [if_pos h1, hrow (a - 256 * p) (by omega), show 256 * p + (a - 256 * p) = a by omega]
     exact wrap_byte (hm.byte ha).1
   · rw [if_neg h1, dataR_get ha]
 · rw [x.c hc a ha, imgR_get ha]
 · rw [x.r q hq, rgtR_get hq]
theorem pr_same {M : Int} {p : Nat} (hm : memOk M) (hp : p < (mN M).toNat) : prS M p (mR M p) = M := by
 unfold prS
 rw [if_pos ⟨by omega, by omega⟩, bits7 (hm.r p hp), show ((p : Int) * 4 + 2) = ((4 * p + 2 : Nat) : Int) by omega]
 exact rowSet_self hm.k.pos (4 * p + 2)
theorem sc_same {M row : Int} {p : Nat} (hm : memOk M) (hc : mCoh M = false) (hp : p < (mN M).toNat) (hrow : ∀ j, j < 256 → rowGet row (j : Nat) = mC M (256 * p + j)) : scS M p row 256 = M := by
 have e : scS M p row 256 = setN M (ixC p) (fun j => IntKind.u8.wrap (rowGet row j)) 256 := by
   unfold scS
   rw [if_pos ⟨⟨by omega, by omega⟩, hc⟩, Int.toNat_natCast]
   rfl
 rw [e]
 have : ∀ n, n ≤ 256 → setN M (ixC p) (fun j => IntKind.u8.wrap (rowGet row j)) n = M := by
   intro n
   induction n with
   | zero => intro _; rfl
   | succ n ih =>
     intro hn
     show rowSet (setN M (ixC p) _ n) ((ixC p n : Nat) : Int) (IntKind.u8.wrap (rowGet row (n : Nat))) = M
     rw [ih (by omega), hrow n (by omega), wrap_byte ((hm.byte (j := 256 * p + n) (by omega)).2 hc)]
     exact rowSet_self hm.k.pos (ixC p n)
 exact this 256 (Nat.le_refl _)
section
variable {G : Nat → Int → Int → Int → Int} (hG : Base G)
include hG
theorem reK_ev {ρ : Env} (h1 : ρ.std G gh) (hm : memOk (ρ.i 0)) (hn : mN (ρ.i 0) = 6) : ∀ p, p ≤ 6 → (reK (.var 0) p).ev ρ = ρ.i 0 := by
 intro p
 have e6 : (mN (ρ.i 0)).toNat = 6 := by rw [hn]; rfl
 induction p with
 | zero => intro _; rfl
 | succ p ih =>
   intro hp
   show (IE.fn 31 (puE (reK (.var 0) p) p) (.lit p) (rgS p)).ev ρ = _
   rw [prE_ev hG h1, puE_ev hG h1, rgS_ev hG h1 hm hn (by omega), ih (by omega), po_same hm (by omega) fun j hj => (pgS_row hG h1 hn (by omega) j hj).1, pr_same hm (by omega)]
theorem reQ_ev {ρ : Env} (h1 : ρ.std G gh) (hm : memOk (ρ.i 0)) (hn : mN (ρ.i 0) = 6) (hc : mCoh (ρ.i 0) = false) : ∀ p, p ≤ 6 → (reQ (reK (.var 0) 6) p).ev ρ = ρ.i 0 := by
 intro p
 have e6 : (mN (ρ.i 0)).toNat = 6 := by rw [hn]; rfl
 induction p with
 | zero => intro _; exact reK_ev hG h1 hm hn 6 (Nat.le_refl _)
 | succ p ih =>
   intro hp
   show (IE.fn 34 (reQ (reK (.var 0) 6) p) (.lit p) (.fn 9 (imS p) (.lit 256) (.lit 0))).ev ρ = _
   rw [scE_ev hG h1, ih (by omega)]
   exact sc_same hm hc (by omega) fun j hj => (pgS_row hG h1 hn (by omega) j hj).2
theorem cRestK_ok : cRestK.Ok PR G gh := by
 have h := rest_run
 simp only [restOk, Bool.and_eq_true] at h
 have kn : kReK.Ok PR G gh := knowOk h.1.2.2 (allC (cPages6_ok (by decide)) (allC (cPoke_ok hG (by decide)).2 (allC (cProtect_ok hG (by decide)) allN)))
 refine Con.ok_memT mixed kn (k := 0) (i := 2) (el := memT 0) (sl := slT) (M := .var 0) (cv := .nil) (show 7 < 1000000 by decide) (gh_mem (by decide)) rfl (fun ρ B W f w args' hr ha => ?_) 20 none' no' 12 _ (fun ρ h1 h2 h3 hm dec a b hd hab => qX_ok h2 hd (obs_cons (d := []) (a := .var 0) (b := reK (.var 0) 6) (fun _ => (reK_ev hG h1 hm (n6_ev (ρ := ρ) (d := [(cohB, true)]) h3) 6 (Nat.le_refl _)).symm) obs_nil) hab) h.1.1
 obtain ⟨L, hL⟩ := ptr_arg ha (x := 0) (i := 0) (o := 0) rfl
 obtain ⟨L1, hL1⟩ := iface_step hr (show 7 < 1000000 by decide) hL (show cRestK.os[0]? = some (brdP (.iface kPT (.ptr (some (1, 0)))) (.sliceA 3 (.var 25) 1) (.slice none 0 0 0) stopB) from rfl) (x := 0) (o := 0) (at_get (l := [AVal.iface kPT (.ptr (some (1, 0))), .sliceA 3 (.var 25) 1, .slice none 0 0 0, stopB]) rfl (by decide))
 exact ptr_step hr (show 7 < 1000000 by decide) hL1 (show cRestK.os[1]? = some (kcpuAt st90 2) from rfl) (x := 0) (o := 0) (at_get (l := .ptr (some (2, 0)) :: st90) rfl (by decide))
theorem cRestQ_ok : cRestQ.Ok PR G gh := by
 have h := rest_run
 simp only [restOk, Bool.and_eq_true] at h
 have kn : kReQ.Ok PR G gh := knowOk h.2.2.2 (allC (cPages6_ok (by decide)) (allC (cPoke_ok hG (by decide)).2 (allC (cProtect_ok hG (by decide)) (allC (cSetC_ok hG (by decide)) allN))))
 refine Con.ok_memT mixed kn (k := 1) (i := 1) (el := memT 1) (sl := slT) (M := .var 0) (cv := memCv 1) (show 7 < 1000000 by decide) (gh_mem (by decide)) rfl (fun ρ B W f w args' hr ha => ?_) 20 none' no' 12 _ (fun ρ h1 h2 h3 hm dec a b hd hab => qX_ok h2 hd (obs_cons (d := []) (a := .var 0) (b := reQ (reK (.var 0) 6) 6) (fun _ => (reQ_ev hG h1 hm (n6_ev (ρ := ρ) (d := [(cohB, false)]) h3) (coh_at (d := []) h3) 6 (Nat.le_refl _)).symm) obs_nil) hab) h.2.1
 obtain ⟨L, hL⟩ := ptr_arg ha (x := 0) (i := 0) (o := 0) rfl
 exact iface_step hr (show 7 < 1000000 by decide) hL (show cRestQ.os[0]? = some (brdP (.iface qPT (.ptr (some (1, 0)))) (.sliceA 2 (.var 25) 1) (.slice none 0 0 0) stopB) from rfl) (x := 0) (o := 0) (at_get (l := [AVal.iface qPT (.ptr (some (1, 0))), .sliceA 2 (.var 25) 1, .slice none 0 0 0, stopB]) rfl (by decide))
end
end
end Go.Proofs.YtbhlmedfhilkbaaGreat
