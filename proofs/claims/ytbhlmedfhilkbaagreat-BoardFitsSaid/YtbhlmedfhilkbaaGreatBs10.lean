/- Snapshots of boards: the contracts; the loop of words. No condition. -/
import Derived.Test.YtbhlmedfhilkbaaGreatBs9
set_option linter.unusedSimpArgs false
set_option linter.unusedVariables false
set_option linter.unusedSectionVars false
namespace Go.Proofs.YtbhlmedfhilkbaaGreat
open Go Go.Sx
set_option maxRecDepth 1000000
noncomputable section
def kSnK : Know := ⟨cClone :: kSnPK.cons, []⟩
def kSnQ : Know := ⟨cClone :: kSnPQ.cons, []⟩
def snapOk (c : Con) (K : Know) : Bool := (c.tree PR K 20 none' no' 12 []).all (c.leaf (qX (bdL c.bds) 12 obRg)) c.pre && (c.wf && K.cons.all Con.wf)
theorem snapR_run : (peekOk cSnapRK 2 true ⟨[], []⟩ [] && (peekOk cSnapRQ 2 false ⟨[], []⟩ [] && (cSnapRK.wf && cSnapRQ.wf))) = true := by kernel_rfl
theorem snapPK_run : snapOk cSnapPK kSnK = true := by kernel_rfl
theorem snapPQ_run : snapOk cSnapPQ kSnQ = true := by kernel_rfl
theorem at_get {l : List AVal} {j : Nat} {v : AVal} (h : l[j]? = some v) (hl : l.length < 1000) : (treeAt l 0).get j = some v := by
 have := treeOf_same l 0 j .nil v h (by omega)
 rwa [Nat.zero_add] at this
theorem iface_step {ρ : Env} {B : Nat → Prop} {W w : World} {f : Ren} {os : List AObj} {j i o x : Nat} {ty : TypeId} {c : T AVal} {e : TypeId} {ow : Bool} {t : Nat} {L : Go.Sx.Loc} (hr : HRel ρ B W f (treeOf os 0 .nil) w) (hlen : os.length < 1000000) (hj : f j = some L) (ho : os[j]? = some (.cells c e ow t)) (hc : c.get x = some (.iface ty (.ptr (some (i, o))))) : ∃ L', f i = some L' := by
 have := treeOf_same os 0 j .nil _ ho (by omega)
 rw [Nat.zero_add] at this
 obtain ⟨cs, fr, _, _, _, q⟩ := hr.obj j L _ hj this
 obtain ⟨_, v', _, hv⟩ := q x _ hc
 cases hv with
 | iface hv =>
   obtain ⟨L', h, _⟩ := hv.ptr_inv
   exact ⟨L', h⟩
section
variable {G : Nat → Int → Int → Int → Int} (hG : Base G)
include hG
theorem cSnapRK_ok : cSnapRK.Ok PR G gh := by
 have h := snapR_run
 simp only [Bool.and_eq_true] at h
 refine Con.ok_peekT mixed knowNil (k := 2) (i := 2) (N := 6) (el := rfT) (M := .var 0) (by decide) rfl rfl (base_rows hG) (fun ρ _ h3 => n6_ev h3) (fun ρ B W f w args' hr ha => ?_) 40 none' no' 12 12 (fun _ => []) (fun coh ρ h1 h2 h3 hm => obs_nil) fun coh => ?_
 · obtain ⟨L, hL⟩ := ptr_arg ha (x := 0) (i := 0) (o := 0) rfl
   obtain ⟨L1, hL1⟩ := ptr_step hr (show 4 < 1000000 by decide) hL (show cSnapRK.os[0]? = some _ from rfl) (x := 0) (o := 0) (at_get (l := [AVal.ptr (some (1, 0)), .ptr none, .sliceA 3 (.var 25) 1, .slice none 0 0 0, stopB]) rfl (by decide))
   exact ptr_step hr (show 4 < 1000000 by decide) hL1 (show cSnapRK.os[1]? = some (machR st90 2) from rfl) (x := 24) (o := 0) (at_get (l := st90 ++ [.ptr (some (2, 0))]) rfl (by decide))
 · cases coh
   · exact .inl fun ρ _ h3 => not_coh (v := true) (d := []) h3
   · exact .inr h.1
theorem cSnapRQ_ok : cSnapRQ.Ok PR G gh := by
 have h := snapR_run
 simp only [Bool.and_eq_true] at h
 refine Con.ok_peekT mixed knowNil (k := 2) (i := 2) (N := 6) (el := rfT) (M := .var 0) (by decide) rfl rfl (base_rows hG) (fun ρ _ h3 => n6_ev h3) (fun ρ B W f w args' hr ha => ?_) 40 none' no' 12 12 (fun _ => []) (fun coh ρ h1 h2 h3 hm => obs_nil) fun coh => ?_
 · obtain ⟨L, hL⟩ := ptr_arg ha (x := 0) (i := 0) (o := 0) rfl
   obtain ⟨L1, hL1⟩ := ptr_step hr (show 4 < 1000000 by decide) hL (show cSnapRQ.os[0]? = some _ from rfl) (x := 1) (o := 0) (at_get (l := [AVal.ptr none, .ptr (some (1, 0)), .sliceA 3 (.var 25) 1, .slice none 0 0 0, stopB]) rfl (by decide))
   exact ptr_step hr (show 4 < 1000000 by decide) hL1 (show cSnapRQ.os[1]? = some (cpuR6 st90 2) from rfl) (x := 24) (o := 0) (at_get (l := st90 ++ [.ptr (some (2, 0))]) rfl (by decide))
 · cases coh
   · exact .inr h.2.1
   · exact .inl fun ρ _ h3 => not_coh (v := false) (d := []) h3
theorem obRg_ok {ρ : Env} (h1 : ρ.std G gh) (hm : memOk (ρ.i 0)) (hn : mN (ρ.i 0) = 6) : obsOk ρ obRg := by
 intro o ho _
 unfold obRg at ho
 obtain ⟨p, hp, rfl⟩ := List.mem_map.1 ho
 have hp : p < 6 := List.mem_range.1 hp
 show (rgS p).ev ρ = IntKind.i64.wrap (fnI ρ 23 (ρ.i 0) ((p : Nat) : Int) 0)
 rw [rgS_ev hG h1 hm hn hp, fn_ev hG h1 (by decide) (by decide)]
 have e6 : (mN (ρ.i 0)).toNat = 6 := by rw [hn]; rfl
 have hr := hm.r p (by omega)
 show _ = IntKind.i64.wrap (rtS (ρ.i 0) (p : Nat))
 unfold rtS
 rw [if_pos ⟨by omega, by rw [hn]; omega⟩, show ((p : Nat) : Int) * 4 + 2 = ((4 * p + 2 : Nat) : Int) by omega]
 show _ = IntKind.i64.wrap (IntKind.i64.wrap (mR (ρ.i 0) p))
 rw [wrap_id .i64 (mR (ρ.i 0) p) (by simp only [kLo]; omega) (by simp only [kHi]; omega), wrap_id .i64 (mR (ρ.i 0) p) (by simp only [kLo]; omega) (by simp only [kHi]; omega)]
theorem cSnapPK_ok : cSnapPK.Ok PR G gh := by
 have h := snapPK_run
 simp only [snapOk, Bool.and_eq_true] at h
 have kn : kSnK.Ok PR G gh := knowOk h.2.2 (allC cClone_ok (allC (cPages6_ok (by decide)) (allC (cRights_ok hG (by decide)) (allC (cContK_ok hG (by decide)).2 (allC (cContK_ok hG (by decide)).2 (allC (cContK_ok hG (by decide)).2 (allC (cContK_ok hG (by decide)).2 (allC (cContK_ok hG (by decide)).2 (allC (cContK_ok hG (by decide)).2 allN)))))))))
 refine Con.ok_memT mixed kn (k := 0) (i := 2) (el := memT 0) (sl := slT) (M := .var 0) (cv := .nil) (show 4 < 1000000 by decide) (gh_mem (by decide)) rfl (fun ρ B W f w args' hr ha => ?_) 20 none' no' 12 _ (fun ρ h1 h2 h3 hm dec a b hd hab => qX_ok h2 hd (obRg_ok hG h1 hm (n6_ev (ρ := ρ) (d := [(cohB, true)]) h3)) hab) h.1
 obtain ⟨L, hL⟩ := ptr_arg ha (x := 0) (i := 0) (o := 0) rfl
 obtain ⟨L1, hL1⟩ := iface_step hr (show 4 < 1000000 by decide) hL (show cSnapPK.os[0]? = some (brdP (.iface kPT (.ptr (some (1, 0)))) (.sliceA 3 (.var 25) 1) (.slice none 0 0 0) stopB) from rfl) (x := 0) (o := 0) (at_get (l := [AVal.iface kPT (.ptr (some (1, 0))), .sliceA 3 (.var 25) 1, .slice none 0 0 0, stopB]) rfl (by decide))
 exact ptr_step hr (show 4 < 1000000 by decide) hL1 (show cSnapPK.os[1]? = some (kcpuAt st90 2) from rfl) (x := 0) (o := 0) (at_get (l := .ptr (some (2, 0)) :: st90) rfl (by decide))
theorem cSnapPQ_ok : cSnapPQ.Ok PR G gh := by
 have h := snapPQ_run
 simp only [snapOk, Bool.and_eq_true] at h
 have kn : kSnQ.Ok PR G gh := knowOk h.2.2 (allC cClone_ok (allC (cPages6_ok (by decide)) (allC (cRights_ok hG (by decide)) (allC (cContQ_ok hG (by decide)).2 (allC (cContQ_ok hG (by decide)).2 (allC (cContQ_ok hG (by decide)).2 (allC (cContQ_ok hG (by decide)).2 (allC (cContQ_ok hG (by decide)).2 (allC (cContQ_ok hG (by decide)).2 (allC (cContC_ok hG (by decide)).2 (allC (cContC_ok hG (by decide)).2 (allC (cContC_ok hG (by decide)).2 (allC (cContC_ok hG (by decide)).2 (allC (cContC_ok hG (by decide)).2 (allC (cContC_ok hG (by decide)).2 allN)))))))))))))))
 refine Con.ok_memT mixed kn (k := 1) (i := 1) (el := memT 1) (sl := slT) (M := .var 0) (cv := memCv 1) (show 3 < 1000000 by decide) (gh_mem (by decide)) rfl (fun ρ B W f w args' hr ha => ?_) 20 none' no' 12 _ (fun ρ h1 h2 h3 hm dec a b hd hab => qX_ok h2 hd (obRg_ok hG h1 hm (n6_ev (ρ := ρ) (d := [(cohB, false)]) h3)) hab) h.1
 obtain ⟨L, hL⟩ := ptr_arg ha (x := 0) (i := 0) (o := 0) rfl
 exact iface_step hr (show 3 < 1000000 by decide) hL (show cSnapPQ.os[0]? = some (brdP (.iface qPT (.ptr (some (1, 0)))) (.sliceA 2 (.var 25) 1) (.slice none 0 0 0) stopB) from rfl) (x := 0) (o := 0) (at_get (l := [AVal.iface qPT (.ptr (some (1, 0))), .sliceA 2 (.var 25) 1, .slice none 0 0 0, stopB]) rfl (by decide))
end
end
end Go.Proofs.YtbhlmedfhilkbaaGreat
namespace Go.Proofs.YtbhlmedfhilkbaaGreat
open Go Go.Sx
set_option maxRecDepth 1000000
noncomputable section
def sn2K : List AObj := [brdP (.iface kPT (.ptr (some (1, 0)))) (.slice (some (3, 0)) 2 2 1) (.slice none 0 0 0) (.bool (.lit false)), kcpuAt st90 2, .ghost 0 [.var 0] .nil, in2]
def cSnap2K : Con := { g := 35, args := [pm], os := sn2K, pre := [n6, (cohB, true)], res := snapV 1 st90 (sl6 4) (sl6 5) (.slice none 0 0 0) (.slice (some (6, 0)) 2 2 1) (.slice none 0 0 0), os' := sn2K ++ [rgtC, dataC, in2] }
def sn2Q : List AObj := [brdP (.iface qPT (.ptr (some (1, 0)))) (.slice (some (2, 0)) 2 2 1) (.slice none 0 0 0) (.bool (.lit false)), memO 1 (.var 0), in2]
def cSnap2Q : Con := { g := 35, args := [pm], os := sn2Q, pre := [n6, (cohB, false)], res := snapV 2 st90 (sl6 3) (sl6 4) (sl6 5) (.slice (some (6, 0)) 2 2 1) (.slice none 0 0 0), os' := sn2Q ++ [rgtC, dataC, codeC, in2] }
theorem snap2K_run : snapOk cSnap2K kSnPK = true := by kernel_rfl
theorem snap2Q_run : snapOk cSnap2Q kSnPQ = true := by kernel_rfl
section
variable {G : Nat → Int → Int → Int → Int} (hG : Base G)
include hG
theorem cSnap2K_ok : cSnap2K.Ok PR G gh := by
 have h := snap2K_run
 simp only [snapOk, Bool.and_eq_true] at h
 have kn : kSnPK.Ok PR G gh := knowOk h.2.2 ((allC (cPages6_ok (by decide)) (allC (cRights_ok hG (by decide)) (allC (cContK_ok hG (by decide)).2 (allC (cContK_ok hG (by decide)).2 (allC (cContK_ok hG (by decide)).2 (allC (cContK_ok hG (by decide)).2 (allC (cContK_ok hG (by decide)).2 (allC (cContK_ok hG (by decide)).2 allN)))))))))
 refine Con.ok_memT mixed kn (k := 0) (i := 2) (el := memT 0) (sl := slT) (M := .var 0) (cv := .nil) (show 4 < 1000000 by decide) (gh_mem (by decide)) rfl (fun ρ B W f w args' hr ha => ?_) 20 none' no' 12 _ (fun ρ h1 h2 h3 hm dec a b hd hab => qX_ok h2 hd (obRg_ok hG h1 hm (n6_ev (ρ := ρ) (d := [(cohB, true)]) h3)) hab) h.1
 obtain ⟨L, hL⟩ := ptr_arg ha (x := 0) (i := 0) (o := 0) rfl
 obtain ⟨L1, hL1⟩ := iface_step hr (show 4 < 1000000 by decide) hL (show cSnap2K.os[0]? = some (brdP (.iface kPT (.ptr (some (1, 0)))) (.slice (some (3, 0)) 2 2 1) (.slice none 0 0 0) (.bool (.lit false))) from rfl) (x := 0) (o := 0) (at_get (l := [AVal.iface kPT (.ptr (some (1, 0))), .slice (some (3, 0)) 2 2 1, .slice none 0 0 0, .bool (.lit false)]) rfl (by decide))
 exact ptr_step hr (show 4 < 1000000 by decide) hL1 (show cSnap2K.os[1]? = some (kcpuAt st90 2) from rfl) (x := 0) (o := 0) (at_get (l := .ptr (some (2, 0)) :: st90) rfl (by decide))
theorem cSnap2Q_ok : cSnap2Q.Ok PR G gh := by
 have h := snap2Q_run
 simp only [snapOk, Bool.and_eq_true] at h
 have kn : kSnPQ.Ok PR G gh := knowOk h.2.2 ((allC (cPages6_ok (by decide)) (allC (cRights_ok hG (by decide)) (allC (cContQ_ok hG (by decide)).2 (allC (cContQ_ok hG (by decide)).2 (allC (cContQ_ok hG (by decide)).2 (allC (cContQ_ok hG (by decide)).2 (allC (cContQ_ok hG (by decide)).2 (allC (cContQ_ok hG (by decide)).2 (allC (cContC_ok hG (by decide)).2 (allC (cContC_ok hG (by decide)).2 (allC (cContC_ok hG (by decide)).2 (allC (cContC_ok hG (by decide)).2 (allC (cContC_ok hG (by decide)).2 (allC (cContC_ok hG (by decide)).2 allN)))))))))))))))
 refine Con.ok_memT mixed kn (k := 1) (i := 1) (el := memT 1) (sl := slT) (M := .var 0) (cv := memCv 1) (show 3 < 1000000 by decide) (gh_mem (by decide)) rfl (fun ρ B W f w args' hr ha => ?_) 20 none' no' 12 _ (fun ρ h1 h2 h3 hm dec a b hd hab => qX_ok h2 hd (obRg_ok hG h1 hm (n6_ev (ρ := ρ) (d := [(cohB, false)]) h3)) hab) h.1
 obtain ⟨L, hL⟩ := ptr_arg ha (x := 0) (i := 0) (o := 0) rfl
 exact iface_step hr (show 3 < 1000000 by decide) hL (show cSnap2Q.os[0]? = some (brdP (.iface qPT (.ptr (some (1, 0)))) (.slice (some (2, 0)) 2 2 1) (.slice none 0 0 0) (.bool (.lit false))) from rfl) (x := 0) (o := 0) (at_get (l := [AVal.iface qPT (.ptr (some (1, 0))), .slice (some (2, 0)) 2 2 1, .slice none 0 0 0, (.bool (.lit false))]) rfl (by decide))
end
end
end Go.Proofs.YtbhlmedfhilkbaaGreat
