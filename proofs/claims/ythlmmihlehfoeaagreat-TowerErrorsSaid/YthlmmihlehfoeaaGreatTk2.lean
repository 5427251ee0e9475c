/- Towers: the contracts of Machine and Kinds hold. No condition. -/
import Derived.Test.YthlmmihlehfoeaaGreatTk1
set_option linter.unusedVariables false
set_option linter.unusedSimpArgs false
namespace Go.Proofs.YthlmmihlehfoeaaGreat
open Go Go.Sx
open Go.RowKit (Below)
set_option maxRecDepth 1000000
noncomputable section
def kindAVs (n : Nat) (kd : Nat → IE) (kp : Int) : List AVal := (List.range n).map (fun j => .int .i64 (kd j)) ++ [.int .i64 (.lit kp)]
def cKinds (os : List AObj) (n : Nat) (kd : Nat → IE) (kp : Int) : Con := { g := 15, args := [.ptr (some (0, 0))], os := os, res := .slice (some (os.length, 0)) (n + 1) (n + 1) 1, os' := os ++ [.cells (treeOf (kindAVs n kd kp) 0 .nil) 3 true (n + 1)] }
def plKind (t : TypeId) (k : Int) : Prop := (t = 79 ∧ k = 1) ∨ (t = 83 ∧ k = 2)
theorem kinds_list {w : World} {n₀ : Nat} {l : List (Mac × Int)} (h : ∀ x ∈ l, MacKind w n₀ x.1 x.2) : ∃ xs : List (MacK w n₀), xs.map (fun x => x.1.1) = l.map (·.1) ∧ kindsOf xs = l.map fun x => .int .i64 x.2 := by
  refine ⟨l.pmap (fun x hx => ⟨x, hx⟩) h, ?_, ?_⟩
  · rw [List.map_pmap]
    exact List.pmap_eq_map _
  · unfold kindsOf
    rw [List.map_pmap]
    exact List.pmap_eq_map (f := fun x : Mac × Int => Value.int .i64 x.2) _
theorem cKinds_ok {G : Nat → Int → Int → Int → Int} {GH : Nat → Ghost} {os : List AObj} {n : Nat} {lv : Nat → Nat} {kd : Nat → IE} {plT : TypeId} {plI : Nat} {kp : Int} (hp : TowPat os n lv kd plT plI) (hn : 0 < n) (hn' : n ≤ 900) (hpl : plKind plT kp) : (cKinds os n kd kp).Ok PR G GH := by
  intro ρ h1 _ _ B W f w args' hr ha hfr
  have hl := hp.len
  obtain ⟨v0, hv0, r0⟩ := ha.get (show (cKinds os n kd kp).args[0]? = some (.ptr (some (0, 0))) from rfl)
  obtain ⟨L, hL, rfl⟩ := ptr_rel r0
  have harg : args' = #[.pointer (some ⟨L.blk, L.base, none⟩)] := by
    have hsz : args'.size = 1 := ha.1
    apply Array.ext
    · exact hsz
    · intro i hi _
      have : i = 0 := by omega
      subst this
      rw [Array.getElem?_eq_getElem (by omega)] at hv0
      exact Option.some.inj hv0
  subst harg
  obtain ⟨la, pa, hT, hlv⟩ := hp.at hn hr hL
  have hall : ∀ x ∈ (List.range n).map (fun j => (((46, some (la j)) : Mac), (kd j).ev ρ)) ++ [((plT, some pa), kp)], MacKind w w.heap.size x.1 x.2 := by
    intro x hx
    rcases List.mem_append.1 hx with hx | hx
    · obtain ⟨j, hj, rfl⟩ := List.mem_map.1 hx
      obtain ⟨M, _, h2, h3, h4, h5⟩ := hlv j (List.mem_range.1 hj)
      exact .inr (.inr ⟨rfl, M.blk, M.base, by simp only [h2], h3, h4, h5⟩)
    · rcases List.mem_cons.1 hx with rfl | hx
      · rcases hpl with ⟨e1, e2⟩ | ⟨e1, e2⟩
        · exact .inl ⟨e1, e2⟩
        · exact .inr (.inl ⟨e1, e2⟩)
      · cases hx
  obtain ⟨xs, hx1, hx2⟩ := kinds_list hall
  have hx1' : xs.map (fun x => x.1.1) = towXs la n (plT, some pa) := by
    rw [hx1]
    simp [towXs]
  have hc := callsIn_wide.1 (kinds_in Fence.wide 5 trivial trivial trivial trivial trivial trivial trivial rfl (Nat.le_refl _) L.blk L.base la n (plT, some pa) (by omega) w hT xs hx1')
  refine hc.mono fun e w' ⟨v, he, hrow, hb⟩ => ⟨v, he, ?_⟩
  obtain ⟨hsz, hv | ⟨g, cap, cur, rfl, hg, hcell, hcap, hmax, hcur, htake⟩⟩ := hrow
  · exact absurd hv.2 (by omega)
  have hfn : f os.length = none := hfr os.length (Nat.le_refl _)
  have hlt : g < w'.heap.size := (Array.getElem?_eq_some_iff.1 hcell).1
  have hnb : ¬ B g := hr.fresh hg
  have hcs : cur.size = cap := by rw [hcur, Nat.mul_one]
  have hget : ∀ (j : Nat) (v : AVal), (treeOf (kindAVs n kd kp) 0 .nil).get j = some v → j < n + 1 ∧ ∃ v', cur[j]? = some v' ∧ VRel ρ (f.put os.length ⟨g, 0, cap⟩) v v' := by
    intro j v hj
    rcases treeOf_ok _ _ _ _ _ hj with ⟨_, hj⟩ | hj
    · rw [Nat.sub_zero] at hj
      have hjl : j < n + 1 := by
        have := (List.getElem?_eq_some_iff.1 hj).1
        simpa [kindAVs] using this
      refine ⟨hjl, ?_⟩
      have hc' : cur.toList[j]? = (kindsOf xs)[j]? := by
        rw [← htake, Nat.mul_one, List.getElem?_take_of_lt hjl]
      have hcj : cur[j]? = (kindsOf xs)[j]? := by rw [← hc', Array.getElem?_toList]
      rw [hcj, hx2, List.map_append, List.map_map]
      unfold kindAVs at hj
      by_cases hjn : j < n
      · rw [List.getElem?_append_left (by simpa using hjn)] at hj ⊢
        simp only [List.getElem?_map, List.getElem?_range hjn, Option.map_some, Option.some.injEq] at hj ⊢
        subst hj
        exact ⟨_, rfl, .int .i64 (kd j)⟩
      · obtain rfl : j = n := by omega
        rw [List.getElem?_append_right (by simp)] at hj ⊢
        simp only [List.length_map, List.length_range, Nat.sub_self, List.getElem?_cons_zero, Option.some.injEq, List.map_cons] at hj ⊢
        subst hj
        exact ⟨_, rfl, .int .i64 (.lit kp)⟩
    · rw [T.get_nil] at hj; cases hj
  refine ⟨f.put os.length ⟨g, 0, cap⟩, Ren.le_put _ hfn, fun j hj => ?_, ?_, ?_⟩
  · refine Ren.put_other f _ (fun e => ?_)
    subst e
    rcases hj with hj | hj
    · exact Nat.lt_irrefl _ hj
    · exact absurd hj (by show ¬ (os ++ [_]).length ≤ os.length; simp)
  · refine HRel.newB (o := .cells (treeOf (kindAVs n kd kp) 0 .nil) 3 true (n + 1)) hr hfn hb hg hlt ?_ (fun b hbb => hbb) fun j x hj => ?_
    · exact ⟨cur, (0, 0), hcell, hcs, fun _ => ⟨hnb, fun j _ => by simp⟩, fun j v hj => by
        obtain ⟨h1, v', h2, h3⟩ := hget j v hj
        exact ⟨h1, v', by simpa using h2, h3⟩⟩
    · rcases outT_get _ _ _ _ _ hj with ⟨_, h2, _⟩ | h0
      · rw [Nat.sub_zero] at h2
        by_cases hjl : j < os.length
        · right
          refine ⟨by omega, ?_⟩
          have h2 : (os ++ [AObj.cells (treeOf (kindAVs n kd kp) 0 .nil) 3 true (n + 1)])[j]? = some x := h2
          rw [List.getElem?_append_left hjl] at h2
          have := treeOf_same os 0 j .nil x h2 (by omega)
          rwa [Nat.zero_add] at this
        · left
          have h2 : (os ++ [AObj.cells (treeOf (kindAVs n kd kp) 0 .nil) 3 true (n + 1)])[j]? = some x := h2
          have hj2 := (List.getElem?_eq_some_iff.1 h2).1
          have : j = os.length := by simp at hj2; omega
          subst this
          rw [List.getElem?_append_right (Nat.le_refl _), Nat.sub_self] at h2
          exact ⟨rfl, (Option.some.inj h2).symm⟩
      · rw [T.get_nil] at h0; cases h0
  · exact .sliceG (i := os.length) (o := 0) (g := 0) (L := ⟨g, 0, cap⟩) (Ren.put_same f _ _) (Nat.le_refl _) (by omega) (by simp)
def cMach0 : Con := { g := 12, args := [.ptr none], res := .nilIface }
def cKinds0 : Con := { g := 15, args := [.ptr none], res := .slice none 0 0 0 }
theorem arg_nil {ρ : Env} {f : Ren} {a : Array Value} (h : LRel ρ f [.ptr none] a) : a = #[.pointer none] := by
  have hsz : a.size = 1 := h.1
  obtain ⟨v, hv, r⟩ := h.get (show ([.ptr none] : List AVal)[0]? = some (.ptr none) from rfl)
  apply Array.ext
  · exact hsz
  · intro i hi _
    have : i = 0 := by omega
    subst this
    rw [Array.getElem?_eq_getElem (by omega)] at hv
    cases r
    exact Option.some.inj hv
theorem cMach0_ok {G : Nat → Int → Int → Int → Int} {GH : Nat → Ghost} : cMach0.Ok PR G GH := con_same (by decide) rfl fun ρ B W f w args' _ _ ha => by
  rw [arg_nil ha]
  exact ⟨.nilIface, .nilIface, callsIn_wide.1 (machine_nil Fence.wide 3 trivial trivial trivial rfl (Nat.le_refl _) w)⟩
theorem cKinds0_ok {G : Nat → Int → Int → Int → Int} {GH : Nat → Ghost} : cKinds0.Ok PR G GH := con_same (by decide) rfl fun ρ B W f w args' _ _ ha => by
  rw [arg_nil ha]
  exact ⟨.slice none 0 0, .nilSlice, callsIn_wide.1 (kinds_nil Fence.wide 3 trivial trivial trivial rfl (Nat.le_refl _) w)⟩
end
end Go.Proofs.YthlmmihlehfoeaaGreat
