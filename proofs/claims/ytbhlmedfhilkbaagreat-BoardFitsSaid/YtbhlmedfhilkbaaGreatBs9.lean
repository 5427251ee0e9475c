/- Snapshots: the contracts hold. No condition. -/
import Derived.Test.YtbhlmedfhilkbaaGreatBs8
import Derived.Test.YtbhlmedfhilkbaaGreatBs2
import Derived.Test.YtbhlmedfhilkbaaGreatBs3
import Derived.Test.YtbhlmedfhilkbaaGreatBs4
import Derived.Test.YtbhlmedfhilkbaaGreatBs5
import Derived.Test.YtbhlmedfhilkbaaGreatBs6
set_option linter.unusedSimpArgs false
set_option linter.unusedVariables false
set_option linter.unusedSectionVars false
namespace Go.Proofs.YtbhlmedfhilkbaaGreat
open Go Go.Sx
set_option maxRecDepth 1000000
noncomputable section
theorem contK_all {p : Nat} (hp : p < 6) : contK p = true := six_all (f := contK) (by unfold six; rw [contK_0, contK_1, contK_2, contK_3, contK_4, contK_5]; rfl) hp
theorem contQ_all {p : Nat} (hp : p < 6) : contQ p = true := six_all (f := contQ) (by unfold six; rw [contQ_0, contQ_1, contQ_2, contQ_3, contQ_4, contQ_5]; rfl) hp
theorem contC_all {p : Nat} (hp : p < 6) : contC p = true := six_all (f := contC) (by unfold six; rw [contC_0, contC_1, contC_2, contC_3, contC_4, contC_5]; rfl) hp
theorem qCont_ok {ρ : Env} {bd : Bd} (hρ : ρ.ok bd) {c p : Nat} {row : IE} {dec : Dec} (hd : dec.holds ρ) (hv : ∀ (j : Nat) (z : Int), j < 256 → IntKind.u8.wrap (fnI ρ c (ρ.i 0) ((256 * p + j : Nat) : Int) z) = rowGet (row.ev ρ) (j : Nat)) {a b : IE} (h : qCont bd c row p dec a b = true) : a.ev ρ = b.ev ρ := by
 unfold qCont at h
 split at h
 · rename_i c0 r j z k c' x m z'
   obtain ⟨q1, h⟩ := and_split h
   obtain ⟨q2, h⟩ := and_split h
   obtain ⟨q3, h⟩ := and_split h
   obtain ⟨q4, h⟩ := and_split h
   obtain ⟨q5, h⟩ := and_split h
   obtain ⟨q6, q7⟩ := and_split h
   have q1 := Nat.eq_of_beq_eq_true q1
   have q2 := kindEq_eq q2
   have q3 := Nat.eq_of_beq_eq_true q3
   have q4 := Nat.eq_of_beq_eq_true q4
   have q5 : j < 256 := by simpa [Nat.blt_eq] using q5
   have q6 := IE.eq_eq q6
   have q7 := IE.eq_eq q7
   subst q1 q2 q3 q6 q7
   have e : m = 256 * p + j := q4
   subst e
   exact (hv j (z'.ev ρ) q5).symm
 · exact IE.eqN_ev hρ hd h
section
variable {G : Nat → Int → Int → Int → Int} (hG : Base G)
include hG
theorem pk_row {ρ : Env} (h1 : ρ.std G gh) (hm : memOk (ρ.i 0)) (hn : mN (ρ.i 0) = 6) {p : Nat} (hp : p < 6) (j : Nat) (z : Int) (hj : j < 256) : IntKind.u8.wrap (fnI ρ 20 (ρ.i 0) ((256 * p + j : Nat) : Int) z) = rowGet ((pgS p).ev ρ) (j : Nat) := by
 rw [fn_ev hG h1 (by decide) (by decide), (pgS_row hG h1 hn hp j hj).1]
 have e6 : (mN (ρ.i 0)).toNat = 6 := by rw [hn]; rfl
 have hb := (hm.byte (j := 256 * p + j) (by omega)).1
 show IntKind.u8.wrap (pkS (ρ.i 0) ((256 * p + j : Nat) : Int)) = _
 unfold pkS inM
 rw [hn, decide_eq_true (show ((256 * p + j : Nat) : Int) / 256 < 6 by omega), if_pos rfl, show ((256 * p + j : Nat) : Int) * 4 = ((4 * (256 * p + j) : Nat) : Int) by omega]
 show IntKind.u8.wrap (IntKind.u8.wrap (mD (ρ.i 0) (256 * p + j))) = _
 rw [wrap_byte hb, wrap_byte hb]
theorem cd_row {ρ : Env} (h1 : ρ.std G gh) (hm : memOk (ρ.i 0)) (hn : mN (ρ.i 0) = 6) (hc : mCoh (ρ.i 0) = false) {p : Nat} (hp : p < 6) (j : Nat) (z : Int) (hj : j < 256) : IntKind.u8.wrap (fnI ρ 21 (ρ.i 0) ((256 * p + j : Nat) : Int) z) = rowGet ((imS p).ev ρ) (j : Nat) := by
 rw [fn_ev hG h1 (by decide) (by decide), (pgS_row hG h1 hn hp j hj).2]
 have e6 : (mN (ρ.i 0)).toNat = 6 := by rw [hn]; rfl
 have hb := (hm.byte (j := 256 * p + j) (by omega)).2 hc
 show IntKind.u8.wrap (cdS (ρ.i 0) ((256 * p + j : Nat) : Int)) = _
 unfold cdS inM
 rw [hn, decide_eq_true (show ((256 * p + j : Nat) : Int) / 256 < 6 by omega), if_pos rfl, hc, show ((256 * p + j : Nat) : Int) * 4 + 1 = ((4 * (256 * p + j) + 1 : Nat) : Int) by omega]
 show IntKind.u8.wrap (IntKind.u8.wrap (mC (ρ.i 0) (256 * p + j))) = _
 rw [wrap_byte hb, wrap_byte hb]
omit hG in
theorem bnd_arg {ρ : Env} {f : Ren} {args : List AVal} {args' : Array Value} {x i o : Nat} {m : String} {t : TypeId} (ha : LRel ρ f args args') (h : args[x]? = some (bndF m t (.ptr (some (i, o))))) : ∃ L, f i = some L := by
 obtain ⟨v, _, hv⟩ := ha.get h
 unfold bndF at hv
 cases hv with
 | func h1 h2 h3 h4 =>
   rename_i a' b' _
   have hs : 0 < a'.size := by rw [h1]; exact Nat.zero_lt_one
   have hi := h3 0 _ a'[0] rfl (Array.getElem?_eq_getElem hs)
   generalize a'[0] = y at hi
   cases hi with
   | iface h =>
     obtain ⟨L, hL, _⟩ := h.ptr_inv
     exact ⟨L, hL⟩
theorem cContK_ok {p : Nat} (hp : p < 6) : (cContK p).wf = true ∧ (cContK p).Ok PR G gh := by
 have h := contK_all hp
 unfold contK contOk at h
 rw [Bool.and_eq_true] at h
 have kn : Know.Ok PR G gh ⟨[cPeek 0], []⟩ := knowOk (by kernel_rfl) (allC (cPeek_ok hG (by decide)) allN)
 refine ⟨h.2, Con.ok_memT mixed kn (k := 0) (i := 1) (el := memT 0) (sl := slT) (M := .var 0) (cv := .nil) (show 2 < 1000000 by decide) (gh_mem (by decide)) rfl (fun ρ B W f w args' hr ha => ?_) 300 none' no' 12 _ (fun ρ h1 h2 h3 hm dec a b hd hab => ?_) h.1⟩
 · obtain ⟨L, hL⟩ := bnd_arg ha (x := 1) rfl
   exact ptr_step hr (show 2 < 1000000 by decide) hL (show (cContK p).os[0]? = some (kcpuL 1) from rfl) (x := 0) (o := 0) (treeOf_same [AVal.ptr (some (1, 0))] 0 0 .nil (.ptr (some (1, 0))) rfl (by decide))
 · exact qCont_ok h2 hd (fun j z hj => pk_row hG h1 hm (n6_ev (ρ := ρ) (d := []) h3) hp j z hj) hab
theorem cContQ_ok {p : Nat} (hp : p < 6) : (cContQ p).wf = true ∧ (cContQ p).Ok PR G gh := by
 have h := contQ_all hp
 unfold contQ contOk at h
 rw [Bool.and_eq_true] at h
 have kn : Know.Ok PR G gh ⟨[cPeek 1], []⟩ := knowOk (by kernel_rfl) (allC (cPeek_ok hG (by decide)) allN)
 refine ⟨h.2, Con.ok_memT mixed kn (k := 1) (i := 0) (el := memT 1) (sl := slT) (M := .var 0) (cv := memCv 1) (show 1 < 1000000 by decide) (gh_mem (by decide)) rfl (fun ρ B W f w args' hr ha => bnd_arg ha (x := 1) rfl) 300 none' no' 12 _ (fun ρ h1 h2 h3 hm dec a b hd hab => ?_) h.1⟩
 exact qCont_ok h2 hd (fun j z hj => pk_row hG h1 hm (n6_ev (ρ := ρ) (d := []) h3) hp j z hj) hab
theorem cContC_ok {p : Nat} (hp : p < 6) : (cContC p).wf = true ∧ (cContC p).Ok PR G gh := by
 have h := contC_all hp
 unfold contC contOk at h
 rw [Bool.and_eq_true] at h
 have kn : Know.Ok PR G gh ⟨[cCode 1], []⟩ := knowOk (by kernel_rfl) (allC (cCode_ok hG (by decide)) allN)
 refine ⟨h.2, Con.ok_memT mixed kn (k := 1) (i := 0) (el := memT 1) (sl := slT) (M := .var 0) (cv := memCv 1) (show 1 < 1000000 by decide) (gh_mem (by decide)) rfl (fun ρ B W f w args' hr ha => bnd_arg ha (x := 1) rfl) 300 none' no' 12 _ (fun ρ h1 h2 h3 hm dec a b hd hab => ?_) h.1⟩
 exact qCont_ok h2 hd (fun j z hj => cd_row hG h1 hm (n6_ev (ρ := ρ) (d := [(cohB, false)]) h3) (coh_at (d := []) h3) hp j z hj) hab
omit hG in
theorem cPages6_ok {k : Nat} (hk : k < 2) : (cPages6 k).Ok PR G gh := by
 refine conWeakP (c := cPages k) (q := [(.lit 6, nE)]) rfl rfl rfl rfl (cPages_ok hk) rfl fun ρ h1 h2 h3 => ⟨h2, nilDec, fun p hp => ?_⟩
 rw [List.mem_singleton.1 hp]
 exact (n6_ev (ρ := ρ) (d := []) h3).symm
end
end
end Go.Proofs.YtbhlmedfhilkbaaGreat
