/- BoardDelivers: the instruction's fields and its word as given numbers: the contracts hold of them, and what is known of the word. No condition. -/
import Derived.Test.YtbhlmedfhilkbaaGreatDe5
set_option linter.unusedVariables false
set_option linter.unusedSimpArgs false
namespace Go.Proofs.YtbhlmedfhilkbaaGreat
open Go Go.Sx
set_option maxRecDepth 1000000
noncomputable section
def mdI (x m : Int) : Int := (x.tmod m + m).tmod m
theorem mdI_in {x m : Int} (hm : 0 < m) : 0 ≤ mdI x m ∧ mdI x m < m := by
  unfold mdI
  have h1 := Int.lt_tmod_of_pos x hm
  rw [Int.tmod_eq_emod_of_nonneg (by omega)]
  exact ⟨Int.emod_nonneg _ (by omega), Int.emod_lt_of_pos _ hm⟩
theorem modC_pos (n : Nat) : 0 < modC n := by unfold modC; split <;> decide
theorem modC_top (n : Nat) : modC n ≤ 4194304 := by unfold modC; split <;> decide
/-- The word. -/
def wordI (n : Nat) (d a b m : Int) : Int :=
  match shpOf n with
  | .abc => n * 67108864 + d * 4194304 + a * 262144 + b * 16384
  | .i => n * 67108864 + d * 4194304 + a * 262144 + m
  | .u => n * 67108864 + d * 4194304 + a * 262144 + m
  | .j => n * 67108864 + d * 4194304 + m
  | .l => n * 67108864 + d * 4194304 + m
  | .s => n * 67108864 + m
  | .n => n * 67108864
  | .y => n * 67108864 + a * 262144
  | .g => n * 67108864 + d * 4194304 + m
  | .c => n * 67108864 + a * 262144 + m
/-- The numbers are those of the input. -/
structure Pro (G : Nat → Int → Int → Int → Int) (I : Nat → Int) (n : Nat) : Prop where
  a : ∀ i : Nat, G 120 i 0 0 = I i
  f : ∀ j : Nat, j < 4 → G 121 j 0 0 = mdI (I j) 16
  m : G 121 4 0 0 = mdI (I 4) (modC n)
  w : G 122 0 0 0 = wordI n (mdI (I 1) 16) (mdI (I 2) 16) (mdI (I 3) 16) (mdI (I 4) (modC n))
/-! the instruction made -/
def sgN (n b : Nat) : IE := .sel true (mM n) (.lit (2 ^ (b - 1) : Nat)) (mM n) (.add (mM n) (.lit (4294967296 - 2 ^ b : Nat)))
def obsM (n : Nat) : List (Dec × IE × IE) := [([], f16 1, md 1 16), ([], f16 2, md 2 16), ([], f16 3, md 3 16), ([], .rem k4C (.lit (modC n)), mM n)] ++ (match shpOf n with
  | .i => [([], sgC 18, sgN n 18)]
  | .j => [([], sgC 22, sgN n 22)]
  | _ => [])
def okM (c : Nat) : Bool := (cMadeP c).wf && ((cMadeP c).tree PR kM 40 none' no' 12 []).all ((cMadeP c).leaf (qN (bdL (cMadeP c).bds) (obsM (opAt c)))) (cMadeP c).pre
def sumE (n : Nat) : IE :=
  let o : IE := .lit (.ofNat (n * 67108864))
  let d : IE := .mul (f16 1) (.lit 4194304)
  let a : IE := .mul (f16 2) (.lit 262144)
  let b : IE := .mul (f16 3) (.lit 16384)
  match shpOf n with
  | .abc => .add (.add (.add o d) a) b
  | .i => .add (.add (.add o d) a) (.rem (sgC 18) (.lit 262144))
  | .u => .add (.add (.add o d) a) (.rem (.rem k4C (.lit 262144)) (.lit 262144))
  | .j => .add (.add o d) (.rem (sgC 22) (.lit 4194304))
  | .l => .add (.add o d) (.rem (.rem k4C (.lit 4194304)) (.lit 4194304))
  | .s => .add o (.rem (.rem k4C (.lit 262144)) (.lit 262144))
  | .n => o
  | .y => .add o a
  | .g => .add (.add o d) (.rem (.rem k4C (.lit 4)) (.lit 262144))
  | .c => .add (.add o a) (.rem (.rem k4C (.lit 5)) (.lit 262144))
def okE (n : Nat) : Bool := (cEncP n).wf && ((cEncP n).tree PR ⟨[], []⟩ 40 none' no' 12 []).all ((cEncP n).leaf (qN (bdL (cEncP n).bds) [([], wC, sumE n)])) []
theorem made_all : (List.range 39).all okM = true := by kernel_rfl
theorem enc_all : opsL.all okE = true := by kernel_rfl
theorem opAt_mem {c : Nat} (h : c < 39) : opAt c ∈ opsL := by
  unfold opAt
  have hl : c < opsL.length := h
  rw [List.getElem?_eq_getElem hl]
  exact List.getElem_mem hl
theorem ops_top {n : Nat} (h : n ∈ opsL) : n ≤ 54 := by
  have : opsL.all (fun n => decide (n ≤ 54)) = true := by decide
  exact of_decide_eq_true (List.all_eq_true.1 this n h)
section
variable {G : Nat → Int → Int → Int → Int} {I : Nat → Int} {n : Nat} (hP : Pro G I n) {ρ : Env} (h1 : ρ.g = G)
include hP h1
theorem nC_ev (i : Nat) : (nC i).ev ρ = I i := by
  show fnI ρ 120 ((i : Nat) : Int) 0 0 = _
  rw [fn_big (by decide), h1, hP.a]
theorem f16_ev {j : Nat} (hj : j < 4) : (f16 j).ev ρ = mdI (I j) 16 := by
  obtain ⟨q1, q2⟩ := mdI_in (x := I j) (m := 16) (by decide)
  have e : (kC j).ev ρ = mdI (I j) 16 := by
    show IntKind.u8.wrap (fnI ρ 121 ((j : Nat) : Int) 0 0) = _
    rw [fn_big (by decide), h1, hP.f j hj]
    exact wrap_id .u8 _ q1 (by show _ ≤ (255 : Int); omega)
  show ((kC j).ev ρ).tmod 16 = _
  rw [e, Int.tmod_eq_emod_of_nonneg q1, Int.emod_eq_of_lt q1 q2]
theorem k4_ev : k4C.ev ρ = mdI (I 4) (modC n) := by
  obtain ⟨q1, q2⟩ := mdI_in (x := I 4) (modC_pos n)
  have := modC_top n
  show IntKind.u32.wrap (fnI ρ 121 4 0 0) = _
  rw [fn_big (by decide), h1, hP.m]
  exact wrap_id .u32 _ q1 (by show _ ≤ (4294967295 : Int); omega)
omit hP h1 in
theorem selT (a b x y : Int) : selI true a b x y = if a < b then x else y := by simp [selI]
omit hP h1 in
theorem remk {m : Int} (h0 : 0 ≤ m) {k : Int} (hk : m < k) : m.tmod k = m := by
  rw [Int.tmod_eq_emod_of_nonneg h0, Int.emod_eq_of_lt h0 hk]
theorem rem_k4 {k : Int} (hk : mdI (I 4) (modC n) < k) : (IE.rem k4C (.lit k)).ev ρ = mdI (I 4) (modC n) := by
  show (k4C.ev ρ).tmod k = _
  rw [k4_ev hP h1]
  exact remk (mdI_in (modC_pos n)).1 hk
theorem rem2_k4 {k k' : Int} (hk : mdI (I 4) (modC n) < k) (hk' : mdI (I 4) (modC n) < k') : (IE.rem (.rem k4C (.lit k)) (.lit k')).ev ρ = mdI (I 4) (modC n) := by
  show ((IE.rem k4C (.lit k)).ev ρ).tmod k' = _
  rw [rem_k4 hP h1 hk]
  exact remk (mdI_in (modC_pos n)).1 hk'
theorem sg18_ev (hk : mdI (I 4) (modC n) < 262144) : (IE.rem (sgC 18) (.lit 262144)).ev ρ = mdI (I 4) (modC n) := by
  obtain ⟨q1, q2⟩ := mdI_in (x := I 4) (modC_pos n)
  show (selI true ((IE.rem k4C (.lit 262144)).ev ρ) 131072 ((IE.rem k4C (.lit 262144)).ev ρ) ((IE.rem k4C (.lit 262144)).ev ρ + 4294705152)).tmod 262144 = _
  rw [rem_k4 hP h1 hk, selT]
  split
  · exact remk q1 hk
  · rw [Int.tmod_eq_emod_of_nonneg (by omega)]
    omega
theorem sg22_ev : (IE.rem (sgC 22) (.lit 4194304)).ev ρ = mdI (I 4) (modC n) := by
  obtain ⟨q1, q2⟩ := mdI_in (x := I 4) (modC_pos n)
  have := modC_top n
  show (selI true ((IE.rem k4C (.lit 4194304)).ev ρ) 2097152 ((IE.rem k4C (.lit 4194304)).ev ρ) ((IE.rem k4C (.lit 4194304)).ev ρ + 4290772992)).tmod 4194304 = _
  rw [rem_k4 hP h1 (by omega), selT]
  split
  · exact remk q1 (by omega)
  · rw [Int.tmod_eq_emod_of_nonneg (by omega)]
    omega
theorem sum_ev : (sumE n).ev ρ = wordI n (mdI (I 1) 16) (mdI (I 2) 16) (mdI (I 3) 16) (mdI (I 4) (modC n)) := by
  have ed := f16_ev hP h1 (j := 1) (by decide)
  have ea := f16_ev hP h1 (j := 2) (by decide)
  have eb := f16_ev hP h1 (j := 3) (by decide)
  have e1 : ((n * 67108864 : Nat) : Int) = n * 67108864 := by omega
  obtain ⟨q1, q2⟩ := mdI_in (x := I 4) (modC_pos n)
  have hm : modC n = match shpOf n with
    | .i | .u | .s => 262144
    | .j | .l => 4194304
    | .g => 4
    | .c => 5
    | _ => 1 := rfl
  unfold sumE wordI
  cases hs : shpOf n <;> rw [hs] at hm <;> simp only at hm ⊢
  · show ((n * 67108864 : Nat) : Int) + (f16 1).ev ρ * 4194304 + (f16 2).ev ρ * 262144 + (f16 3).ev ρ * 16384 = _
    rw [ed, ea, eb, e1]
  · show ((n * 67108864 : Nat) : Int) + (f16 1).ev ρ * 4194304 + (f16 2).ev ρ * 262144 + (IE.rem (sgC 18) (.lit 262144)).ev ρ = _
    rw [ed, ea, sg18_ev hP h1 (by omega), e1]
  · show ((n * 67108864 : Nat) : Int) + (f16 1).ev ρ * 4194304 + (f16 2).ev ρ * 262144 + (IE.rem (.rem k4C (.lit 262144)) (.lit 262144)).ev ρ = _
    rw [ed, ea, rem2_k4 hP h1 (by omega) (by omega), e1]
  · show ((n * 67108864 : Nat) : Int) + (f16 1).ev ρ * 4194304 + (IE.rem (sgC 22) (.lit 4194304)).ev ρ = _
    rw [ed, sg22_ev hP h1, e1]
  · show ((n * 67108864 : Nat) : Int) + (f16 1).ev ρ * 4194304 + (IE.rem (.rem k4C (.lit 4194304)) (.lit 4194304)).ev ρ = _
    rw [ed, rem2_k4 hP h1 (by omega) (by omega), e1]
  · show ((n * 67108864 : Nat) : Int) + (IE.rem (.rem k4C (.lit 262144)) (.lit 262144)).ev ρ = _
    rw [rem2_k4 hP h1 (by omega) (by omega), e1]
  · exact e1
  · show ((n * 67108864 : Nat) : Int) + (f16 2).ev ρ * 262144 = _
    rw [ea, e1]
  · show ((n * 67108864 : Nat) : Int) + (f16 1).ev ρ * 4194304 + (IE.rem (.rem k4C (.lit 4)) (.lit 262144)).ev ρ = _
    rw [ed, rem2_k4 hP h1 (by omega) (by omega), e1]
  · show ((n * 67108864 : Nat) : Int) + (f16 2).ev ρ * 262144 + (IE.rem (.rem k4C (.lit 5)) (.lit 262144)).ev ρ = _
    rw [ea, rem2_k4 hP h1 (by omega) (by omega), e1]
theorem wC_ev (hn : n ≤ 54) : wC.ev ρ = wordI n (mdI (I 1) 16) (mdI (I 2) 16) (mdI (I 3) 16) (mdI (I 4) (modC n)) := by
  obtain ⟨q1, q2⟩ := mdI_in (x := I 4) (modC_pos n)
  have hm := modC_top n
  obtain ⟨d1, d2⟩ := mdI_in (x := I 1) (m := 16) (by decide)
  obtain ⟨a1, a2⟩ := mdI_in (x := I 2) (m := 16) (by decide)
  obtain ⟨b1, b2⟩ := mdI_in (x := I 3) (m := 16) (by decide)
  have hm' : modC n = match shpOf n with
    | .i | .u | .s => 262144
    | .j | .l => 4194304
    | .g => 4
    | .c => 5
    | _ => 1 := rfl
  show IntKind.u32.wrap (fnI ρ 122 0 0 0) = _
  rw [fn_big (by decide), h1, hP.w]
  refine wrap_id .u32 _ ?_ ?_
  · show (0 : Int) ≤ _
    unfold wordI
    split <;> omega
  · show _ ≤ (4294967295 : Int)
    unfold wordI
    cases hs : shpOf n <;> rw [hs] at hm' <;> simp only at hm' ⊢ <;> omega
end
section
variable {G : Nat → Int → Int → Int → Int} {I : Nat → Int} {c : Nat} (hP : Pro G I (opAt c)) (hc : c < 39)
include hP hc
omit hP hc in
theorem kM_ok : kM.Ok PR G gh :=
  ⟨ConsOk.cons wfOps cOps_ok (ConsOk.cons (by kernel_rfl) (cSignRef_ok 18 (.inl rfl)) (ConsOk.cons (by kernel_rfl) (cSignRef_ok 22 (.inr rfl)) ConsOk.nil)), fun _ h => by cases h⟩
theorem cMadeP_ok : (cMadeP c).wf = true ∧ (cMadeP c).Ok PR G gh := by
  have h := List.all_eq_true.1 made_all c (List.mem_range.2 hc)
  simp only [okM, Bool.and_eq_true] at h
  refine ⟨h.1, Con.of_tree mixed kM_ok 40 none' no' 12 [] nil_facts (obsM (opAt c)) (fun ρ h1 h2 h3 => ?_) h.2⟩
  have hi : ∀ i : Nat, 1 ≤ i → i ≤ 4 → ρ.i i = I i := by
    intro i l1 l2
    have e := nC_ev hP h1.1 i
    have hh : ∀ i : Nat, ((BE.eq (.var i) (nC i)), true) ∈ preN → ρ.i i = (nC i).ev ρ := fun i hm => by
      have := h3 _ (List.mem_cons_of_mem _ hm)
      exact of_decide_eq_true this
    rw [← e]
    have : i = 1 ∨ i = 2 ∨ i = 3 ∨ i = 4 := by omega
    rcases this with rfl | rfl | rfl | rfl <;> exact hh _ (by simp [preN])
  have e16 : ∀ j : Nat, 1 ≤ j → j < 4 → (f16 j).ev ρ = (md j 16).ev ρ := fun j l1 l2 => by
    rw [f16_ev hP h1.1 l2]
    show _ = mdI (ρ.i j) 16
    rw [hi j l1 (by omega)]
  have em : (IE.rem k4C (.lit (modC (opAt c)))).ev ρ = (mM (opAt c)).ev ρ := by
    rw [rem_k4 hP h1.1 (mdI_in (modC_pos _)).2]
    show _ = mdI (ρ.i 4) (modC (opAt c))
    rw [hi 4 (by decide) (by decide)]
  have es : ∀ b : Nat, modC (opAt c) = ((2 ^ b : Nat) : Int) → (sgC b).ev ρ = (sgN (opAt c) b).ev ρ := by
    intro b hb
    have e1 : (IE.rem k4C (.lit (2 ^ b : Nat))).ev ρ = (mM (opAt c)).ev ρ := by rw [← hb]; exact em
    show selI true ((IE.rem k4C (.lit (2 ^ b : Nat))).ev ρ) _ ((IE.rem k4C (.lit (2 ^ b : Nat))).ev ρ) ((IE.rem k4C (.lit (2 ^ b : Nat))).ev ρ + _) = selI true ((mM (opAt c)).ev ρ) _ ((mM (opAt c)).ev ρ) ((mM (opAt c)).ev ρ + _)
    rw [e1]
  intro o ho _
  simp only [obsM, List.mem_append, List.mem_cons, List.not_mem_nil, or_false] at ho
  rcases ho with (rfl | rfl | rfl | rfl) | ho
  · exact e16 1 (by decide) (by decide)
  · exact e16 2 (by decide) (by decide)
  · exact e16 3 (by decide) (by decide)
  · exact em
  · have hm : modC (opAt c) = match shpOf (opAt c) with
      | .i | .u | .s => 262144
      | .j | .l => 4194304
      | .g => 4
      | .c => 5
      | _ => 1 := rfl
    cases hs : shpOf (opAt c) <;> rw [hs] at ho hm <;> simp only [List.mem_cons, List.not_mem_nil, or_false] at ho hm
    · rw [ho]; exact es 18 hm
    · rw [ho]; exact es 22 hm
theorem cEncP_ok : (cEncP (opAt c)).wf = true ∧ (cEncP (opAt c)).Ok PR G gh := by
  have h := List.all_eq_true.1 enc_all _ (opAt_mem hc)
  simp only [okE, Bool.and_eq_true] at h
  refine ⟨h.1, Con.of_tree mixed know0 40 none' no' 12 [] nil_facts [([], wC, sumE (opAt c))] (fun ρ h1 h2 h3 => ?_) h.2⟩
  intro o ho _
  simp only [List.mem_cons, List.not_mem_nil, or_false] at ho
  rw [ho]
  show wC.ev ρ = (sumE (opAt c)).ev ρ
  rw [wC_ev hP h1.1 (ops_top (opAt_mem hc)), sum_ev hP h1.1]
end
end
end Go.Proofs.YtbhlmedfhilkbaaGreat
