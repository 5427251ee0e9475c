/- New memories: mem.New, qcpu.New, kcpu.New, babelref04.New, of six pages. No condition. -/
import Derived.Test.YtbhlmedfhilkbaaGreatSg
import Derived.Test.YtbhlmedfhilkbaaGreatBp1
set_option linter.unusedSimpArgs false
set_option linter.unusedVariables false
set_option linter.unusedSectionVars false
namespace Go.Proofs.YtbhlmedfhilkbaaGreat
open Go Go.Sx
set_option maxRecDepth 1000000
noncomputable section
abbrev pgT : TypeId := 150
abbrev u8T : TypeId := 5
abbrev intT : TypeId := 3
def nlE (coh : Bool) : IE := match coh with
 | true => .fn 37 (.lit 6) (.lit 1) (.lit 0)
 | false => .fn 37 (.lit 6) (.lit 0) (.lit 0)
def slotL (coh : Bool) : List AVal := [.ptr (some (2, 0)), codePtr coh 2, .bool (.lit false), .bool (.lit false), .ptr (some (2, 0)), codePtr coh 2, .int .i64 (.lit 0)]
def slots6 (coh : Bool) : List AVal := slotL coh ++ (slotL coh ++ (slotL coh ++ (slotL coh ++ (slotL coh ++ slotL coh))))
def st0 : List AVal := stKinds.map fun k => .int k (.lit 0)
def hdP (coh : Bool) (l : List AVal) : List AVal := .slice (some (1, 0)) 6 6 0 :: .bool (.lit coh) :: l
def cNewP (coh : Bool) : Con := { g := 89, args := [.int .i64 (.lit 6), .bool (.lit coh)], res := pm, os' := [.ghost 0 [nlE coh] .nil] }
def cNewP' (coh : Bool) : Con := { cNewP coh with os' := [.cells (treeAt (hdP coh []) 0) 94 true 2, .cells (treeAt (slots6 coh) 0) slT true 42, .cells (zeroT .u8 256) pgT true 256] }
def cNewQ : Con := { g := 47, args := [.int .i64 (.lit 6)], res := pm, os' := [.ghost 1 [nlE false] (treeAt st0 2)] }
def cNewQ' : Con := { cNewQ with os' := [.cells (treeAt (hdP false st0) 0) 96 true 26, .cells (treeAt (slots6 false) 0) slT true 42, .cells (zeroT .u8 256) pgT true 256] }
theorem newP_run : (runP (cNewP' true) ⟨[], []⟩ 20 12 12 && (runP (cNewP' false) ⟨[], []⟩ 20 12 12 && runP cNewQ' ⟨[], []⟩ 20 12 12)) = true := by kernel_rfl
def kcpuO (l : List AVal) : AObj := .cells (treeAt (.ptr (some (1, 0)) :: l) 0) 172 true 25
def cNewK : Con := { g := 86, args := [.int .i64 (.lit 6)], res := pm, os' := [kcpuO st0, .ghost 0 [nlE true] .nil] }
def runNewK : Bool := runP cNewK ⟨[cNewP true], []⟩ 20 12 12 && ((cNewP true).wf && ((cNewP false).wf && (cNewQ.wf && cNewK.wf)))
theorem newK_run : runNewK = true := by kernel_rfl
def hdR (coh : Bool) : T AVal := (((T.nil.set 0 (.slice (some (1, 0)) 1536 1536 0)).set 1 (img0 6 coh)).set 4 (.slice (some (2, 0)) 6 6 0)).set 5 (.bool (.lit coh))
def cNewR (coh : Bool) : Con := { g := 82, args := [.int .i64 (.lit 6), .bool (.lit coh)], res := pm, os' := [.ghost 2 [nlE coh] .nil] }
def cNewR' (coh : Bool) : Con := { cNewR coh with os' := .cells (hdR coh) rfT true 6 :: refNew u8T intT 6 coh }
theorem newR_run : (runP (cNewR' true) ⟨[], []⟩ 20 12 12 && runP (cNewR' false) ⟨[], []⟩ 20 12 12) = true := by kernel_rfl
theorem newR_wf : ((cNewR true).wf && (cNewR false).wf) = true := by kernel_rfl
section
variable {G : Nat → Int → Int → Int → Int} (hG : Base G)
include hG
theorem nlE_ev {GH : Nat → Ghost} (coh : Bool) (ρ : Env) (h1 : ρ.std G GH) : (nlE coh).ev ρ = newM (6 : Nat) (b2 coh) := by
 cases coh
 · show fnI ρ 37 6 0 0 = _
   rw [fn_ev hG h1 (by decide) (by decide)]
   rfl
 · show fnI ρ 37 6 1 0 = _
   rw [fn_ev hG h1 (by decide) (by decide)]
   rfl
omit hG in
theorem slots_at (coh : Bool) : ∀ p, p < 6 → (treeAt (slots6 coh) 0).get (p * 7) = some (.ptr (some (2, 0))) ∧ (treeAt (slots6 coh) 0).get (p * 7 + 1) = some (codePtr coh 2) ∧ (treeAt (slots6 coh) 0).get (p * 7 + 2) = some (.bool (.lit false)) ∧ (treeAt (slots6 coh) 0).get (p * 7 + 3) = some (.bool (.lit false)) ∧ (treeAt (slots6 coh) 0).get (p * 7 + 6) = some (.int .i64 (.lit 0)) := by
 have g : ∀ (i : Nat) (v : AVal), (slots6 coh)[i]? = some v → (treeAt (slots6 coh) 0).get i = some v := fun i v h => by
   have := treeOf_same (slots6 coh) 0 i .nil v h (by simp [slots6, slotL])
   rwa [Nat.zero_add] at this
 intro p hp
 match p, hp with
 | 0, _ => exact ⟨g _ _ rfl, g _ _ rfl, g _ _ rfl, g _ _ rfl, g _ _ rfl⟩
 | 1, _ => exact ⟨g _ _ rfl, g _ _ rfl, g _ _ rfl, g _ _ rfl, g _ _ rfl⟩
 | 2, _ => exact ⟨g _ _ rfl, g _ _ rfl, g _ _ rfl, g _ _ rfl, g _ _ rfl⟩
 | 3, _ => exact ⟨g _ _ rfl, g _ _ rfl, g _ _ rfl, g _ _ rfl, g _ _ rfl⟩
 | 4, _ => exact ⟨g _ _ rfl, g _ _ rfl, g _ _ rfl, g _ _ rfl, g _ _ rfl⟩
 | 5, _ => exact ⟨g _ _ rfl, g _ _ rfl, g _ _ rfl, g _ _ rfl, g _ _ rfl⟩
theorem cNewP_ok (coh : Bool) : (cNewP coh).Ok PR G gh := by
 have h := newP_run
 simp only [Bool.and_eq_true] at h
 have hr : runP (cNewP' coh) ⟨[], []⟩ 20 12 12 = true := by
   cases coh
   · exact h.2.1
   · exact h.1
 exact Con.foldMem (c := cNewP coh) (k := 0) (n := 6) (coh := coh) (hc := treeAt (hdP coh []) 0) (cv := .nil) (sc := treeAt (slots6 coh) 0) (top := 2) (tops := 42) (Me := nlE coh) ⟨by decide, by decide⟩ rfl rfl rfl rfl (fun ρ h1 => nlE_ev hG coh ρ h1) (treeOf_same (hdP coh []) 0 0 .nil _ rfl (by simp [hdP])) (treeOf_same (hdP coh []) 0 1 .nil _ rfl (by simp [hdP])) (fun j v hv => by rw [T.get_nil] at hv; cases hv) (slots_at coh) (runP_ok knowNil hr)
theorem cNewQ_ok : cNewQ.Ok PR G gh := by
 have h := newP_run
 simp only [Bool.and_eq_true] at h
 refine Con.foldMem (c := cNewQ) (k := 1) (n := 6) (coh := false) (hc := treeAt (hdP false st0) 0) (cv := treeAt st0 2) (sc := treeAt (slots6 false) 0) (top := 26) (tops := 42) (Me := nlE false) ⟨by decide, by decide⟩ rfl rfl rfl rfl (fun ρ h1 => nlE_ev hG false ρ h1) (treeOf_same (hdP false st0) 0 0 .nil _ rfl (by decide)) (treeOf_same (hdP false st0) 0 1 .nil _ rfl (by decide)) (fun j v hv => ?_) (slots_at false) (runP_ok knowNil h.2.2)
 rcases treeOf_ok _ _ _ _ _ hv with ⟨h2, hv⟩ | hv
 · obtain ⟨i, rfl⟩ : ∃ i, j = 2 + i := ⟨j - 2, by omega⟩
   rw [Nat.add_sub_cancel_left] at hv
   refine ⟨h2, ?_, ?_⟩
   · have := treeOf_same (hdP false st0) 0 (2 + i) .nil v (by rw [Nat.add_comm]; exact hv) (by decide)
     rwa [Nat.zero_add] at this
   · have hm := List.mem_of_getElem? hv
     unfold st0 at hm
     obtain ⟨k, _, rfl⟩ := List.mem_map.1 hm
     cases k <;> rfl
 · rw [T.get_nil] at hv; cases hv
theorem cNewK_ok : cNewK.Ok PR G gh := by
 have h := newK_run
 simp only [runNewK, Bool.and_eq_true] at h
 refine runP_ok ⟨fun c hc => ?_, fun _ h => by cases h⟩ h.1
 simp only [List.mem_cons, List.not_mem_nil, or_false] at hc
 subst hc
 exact ⟨h.2.1, cNewP_ok hG true⟩
theorem cNewR_ok (coh : Bool) : (cNewR coh).Ok PR G gh := by
 have h := newR_run
 simp only [Bool.and_eq_true] at h
 have hr : runP (cNewR' coh) ⟨[], []⟩ 20 12 12 = true := by
   cases coh
   · exact h.2
   · exact h.1
 have g0 : ∀ {t : T AVal} {j k : Nat} {x : AVal}, k < 100 → j ≠ k → (t.set k x).get j = t.get j := fun hk hj => T.get_set_ne (by omega) hj
 have g1 : ∀ {t : T AVal} {k : Nat} {x : AVal}, k < 100 → (t.set k x).get k = some x := fun hk => T.get_set_same (by omega)
 refine Con.foldRef (c := cNewR coh) (k := 2) (n := 6) (coh := coh) (hc := hdR coh) (top := 6) (Me := nlE coh) ⟨by decide, by decide⟩ rfl rfl rfl rfl (fun ρ h1 => nlE_ev hG coh ρ h1) ?_ ?_ ?_ ?_ (runP_ok knowNil hr)
 · unfold hdR
   rw [g0 (by decide) (by decide), g0 (by decide) (by decide), g0 (by decide) (by decide), g1 (by decide)]
 · unfold hdR
   rw [g0 (by decide) (by decide), g1 (by decide)]
 · unfold hdR
   rw [g1 (by decide)]
 · unfold hdR
   rw [g0 (by decide) (by decide), g0 (by decide) (by decide), g1 (by decide)]
end
end
end Go.Proofs.YtbhlmedfhilkbaaGreat
