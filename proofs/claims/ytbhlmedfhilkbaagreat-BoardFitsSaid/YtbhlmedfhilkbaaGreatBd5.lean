/- The memory's rights of several bytes; Load, Store. No condition. -/
import Derived.Test.YtbhlmedfhilkbaaGreatBd4
set_option linter.unusedSimpArgs false
set_option linter.unusedVariables false
set_option linter.unusedSectionVars false
namespace Go.Proofs.YtbhlmedfhilkbaaGreat
open Go Go.Sx
set_option maxRecDepth 1000000
noncomputable section
/-- Rights of the page of the address behind by i, in terms of the row. -/
def rawRt (i : Nat) : IE := .wrap .i64 (.fn 0 (.var 0) (.add (.mul (.quo (adE i) (.lit 256)) (.lit 4)) (.lit 2)) (.lit 0))
def rawOk (i : Nat) (r : Int) (x y : IE) : IE := .sel true (.quo (adE i) (.lit 256)) nE (.sel false (.bits .and .i64 (rawRt i) (.lit r)) (.lit 0) y x) y
def rawAt (r : Int) : Nat → Nat → IE
 | _, 0 => .lit 0
 | i, n + 1 => rawOk i r (rawAt r (i + 1) n) (adE i)
def rawAll (r : Int) : Nat → Nat → IE
 | _, 0 => .lit 1
 | i, n + 1 => rawOk i r (rawAll r (i + 1) n) (.lit 0)
/-- The same by the function 22. -/
def okI (i : Nat) (r : Int) (x y : IE) : IE := .sel false (.fn 22 (.var 0) (adE i) (.lit r)) (.lit 1) x y
def atE (r : Int) : Nat → Nat → IE
 | _, 0 => .lit 0
 | i, n + 1 => okI i r (atE r (i + 1) n) (adE i)
def allE (r : Int) : Nat → Nat → IE
 | _, 0 => .lit 1
 | i, n + 1 => okI i r (allE r (i + 1) n) (.lit 0)
def chk (k n : Nat) (r : Int) (res : AVal) : Con := memC k 296 [uV .u32 1, .int .i64 (.lit n), .int .i64 (.lit r)] [u32B 1] res
def cCheckR (k n : Nat) (r : Int) : Con := chk k n r (.tuple [.int .u32 (rawAt r 0 n), .bool (.eq (rawAll r 0 n) (.lit 1))])
def cCheck (k n : Nat) (r : Int) : Con := chk k n r (.tuple [.int .u32 (atE r 0 n), .bool (.eq (allE r 0 n) (.lit 1))])
def runR0 (c : Con) (k : Nat) (l : List Con) (coh : Bool) : Bool :=
 ((memRo0 c (memT k) slT coh).tree PR ⟨l, []⟩ 20 none' no' 12 []).all ((memRo0 c (memT k) slT coh).leaf (qP (bdL c.bds) 20)) (memRo0 c (memT k) slT coh).pre
theorem chk0 : (runR0 (cCheckR 0 1 1) 0 [] true && (runR0 (cCheckR 0 1 1) 0 [] false && (runR0 (cCheckR 0 1 2) 0 [] true && (runR0 (cCheckR 0 1 2) 0 [] false && (runR0 (cCheckR 0 4 1) 0 [] true && (runR0 (cCheckR 0 4 1) 0 [] false && (runR0 (cCheckR 0 4 2) 0 [] true && runR0 (cCheckR 0 4 2) 0 [] false))))))) = true := by kernel_rfl
theorem chk1 : (runR0 (cCheckR 1 1 1) 1 [] true && (runR0 (cCheckR 1 1 1) 1 [] false && (runR0 (cCheckR 1 1 2) 1 [] true && (runR0 (cCheckR 1 1 2) 1 [] false && (runR0 (cCheckR 1 4 1) 1 [] true && (runR0 (cCheckR 1 4 1) 1 [] false && (runR0 (cCheckR 1 4 2) 1 [] true && runR0 (cCheckR 1 4 2) 1 [] false))))))) = true := by kernel_rfl
section
variable {G : Nat → Int → Int → Int → Int} (hG : Base G)
omit hG in
theorem adE_ev {ρ : Env} (h2 : ρ.ok (bdL [u32B 1])) : ∀ i : Nat, (adE i).ev ρ = ad (ρ.i 1) i ∧ 0 ≤ ad (ρ.i 1) i ∧ ad (ρ.i 1) i ≤ 4294967295 := by
 intro i
 have hm := wrap_mem .u32 (ρ.i 1 + i)
 refine ⟨?_, hm.1, hm.2⟩
 obtain ⟨q1, q2, _⟩ := pos_div h2 rfl
 match i with
 | 0 =>
   show ρ.i 1 = IntKind.u32.wrap (ρ.i 1 + ((0 : Nat) : Int))
   rw [show ρ.i 1 + ((0 : Nat) : Int) = ρ.i 1 by omega]
   exact (wrap_id .u32 _ q1 q2).symm
 | i + 1 => rfl
omit hG in
theorem rawOk_ev {ρ : Env} (h2 : ρ.ok (bdL [u32B 1])) (i : Nat) (r : Int) (x y : IE) : (rawOk i r x y).ev ρ = if okS (ρ.i 0) (ad (ρ.i 1) i) r = true then x.ev ρ else y.ev ρ := by
 obtain ⟨e1, e2, e3⟩ := adE_ev h2 i
 have hq : (IE.quo (adE i) (.lit 256)).ev ρ = ad (ρ.i 1) i / 256 := by
   show ((adE i).ev ρ).tdiv 256 = _
   rw [e1]
   exact Int.tdiv_eq_ediv_of_nonneg e2
 have hr : (rawRt i).ev ρ = IntKind.i64.wrap (rowGet (ρ.i 0) (ad (ρ.i 1) i / 256 * 4 + 2)) := by
   show IntKind.i64.wrap (rowGet (ρ.i 0) ((IE.quo (adE i) (.lit 256)).ev ρ * 4 + 2)) = _
   rw [hq]
 show selI true ((IE.quo (adE i) (.lit 256)).ev ρ) (mN (ρ.i 0)) (selI false (bitsI .and .i64 ((rawRt i).ev ρ) r) 0 (y.ev ρ) (x.ev ρ)) (y.ev ρ) = _
 rw [hq, hr]
 unfold okS inM selI
 by_cases h : ad (ρ.i 1) i / 256 < mN (ρ.i 0)
 · by_cases h' : bitsI .and .i64 (IntKind.i64.wrap (rowGet (ρ.i 0) (ad (ρ.i 1) i / 256 * 4 + 2))) r = 0
   · simp [h, h']
   · simp [h, h']
 · simp [h]
include hG
theorem okI_ev {ρ : Env} (h1 : ρ.std G gh) (h2 : ρ.ok (bdL [u32B 1])) (i : Nat) (r : Int) (x y : IE) : (okI i r x y).ev ρ = if okS (ρ.i 0) (ad (ρ.i 1) i) r = true then x.ev ρ else y.ev ρ := by
 show selI false ((IE.fn 22 (.var 0) (adE i) (.lit r)).ev ρ) 1 (x.ev ρ) (y.ev ρ) = _
 rw [ok_fn hG h1, (adE_ev h2 i).1]
 simp only [selI, b2_one]
 rfl
theorem at_same {ρ : Env} (h1 : ρ.std G gh) (h2 : ρ.ok (bdL [u32B 1])) (r : Int) : ∀ n i, (atE r i n).ev ρ = (rawAt r i n).ev ρ ∧ (allE r i n).ev ρ = (rawAll r i n).ev ρ := by
 intro n
 induction n with
 | zero => intro i; exact ⟨rfl, rfl⟩
 | succ n ih =>
   intro i
   refine ⟨?_, ?_⟩
   · show (okI i r (atE r (i + 1) n) (adE i)).ev ρ = (rawOk i r (rawAt r (i + 1) n) (adE i)).ev ρ
     rw [okI_ev hG h1 h2, rawOk_ev h2, (ih (i + 1)).1]
   · show (okI i r (allE r (i + 1) n) (.lit 0)).ev ρ = (rawOk i r (rawAll r (i + 1) n) (.lit 0)).ev ρ
     rw [okI_ev hG h1 h2, rawOk_ev h2, (ih (i + 1)).2]
theorem cCheck_of {k n : Nat} {r : Int} (hk : k < 2) (hfr : (cCheckR k n r).res.free = true) (ht : runR0 (cCheckR k n r) k [] true = true) (hf : runR0 (cCheckR k n r) k [] false = true) : (cCheck k n r).Ok PR G gh := by
 have raw : (cCheckR k n r).Ok PR G gh := by
   refine memCon0 (k := k) (cv := memCv k) (gh_mem hk) rfl rfl hfr rfl fun coh => ?_
   have h : runR0 (cCheckR k n r) k [] coh = true := by cases coh <;> assumption
   exact Con.of_treeP mixed ⟨ConsOk.nil, fun _ h => by cases h⟩ 20 none' no' 12 20 h
 refine Con.reres (c := cCheckR k n r) (r := .tuple [.int .u32 (atE r 0 n), .bool (.eq (allE r 0 n) (.lit 1))]) raw (q := [(atE r 0 n, rawAt r 0 n), (.sel false (allE r 0 n) (.lit 1) (.lit 1) (.lit 0), .sel false (rawAll r 0 n) (.lit 1) (.lit 1) (.lit 0))]) rfl fun ρ h1 h2 h3 p hp => ?_
 have := at_same hG h1 h2 r n 0
 simp only [List.mem_cons, List.not_mem_nil, or_false] at hp
 rcases hp with rfl | rfl
 · exact this.1
 · show selI false ((allE r 0 n).ev ρ) 1 1 0 = selI false ((rawAll r 0 n).ev ρ) 1 1 0
   rw [this.2]
theorem cCheck_ok {k : Nat} (hk : k < 2) : ∀ n, (n = 1 ∨ n = 4) → ∀ r : Int, (r = 1 ∨ r = 2) → (cCheck k n r).Ok PR G gh := by
 have h := two (p := fun k => (runR0 (cCheckR k 1 1) k [] true && (runR0 (cCheckR k 1 1) k [] false && (runR0 (cCheckR k 1 2) k [] true && (runR0 (cCheckR k 1 2) k [] false && (runR0 (cCheckR k 4 1) k [] true && (runR0 (cCheckR k 4 1) k [] false && (runR0 (cCheckR k 4 2) k [] true && runR0 (cCheckR k 4 2) k [] false))))))) = true) chk0 chk1 hk
 simp only [Bool.and_eq_true] at h
 obtain ⟨a1, a2, a3, a4, a5, a6, a7, a8⟩ := h
 rintro n (rfl | rfl) r (rfl | rfl)
 · exact cCheck_of hG hk rfl a1 a2
 · exact cCheck_of hG hk rfl a3 a4
 · exact cCheck_of hG hk rfl a5 a6
 · exact cCheck_of hG hk rfl a7 a8
end
/-! Load, Store -/
def pkE (i : Nat) : IE := .wrap .u8 (.fn 20 (.var 0) (adE i) (.lit 0))
def ldW (n : Nat) : IE := match n with
 | 1 => pkE 0
 | _ => .add (.mul (.add (.mul (.add (.mul (pkE 3) (.lit 256)) (pkE 2)) (.lit 256)) (pkE 1)) (.lit 256)) (pkE 0)
def allB (r : Int) (n : Nat) : BE := .eq (allE r 0 n) (.lit 1)
def cLoad (k n : Nat) : Con := memC k 294 [uV .u32 1, .int .i64 (.lit n)] [u32B 1] (.tuple [.int .u32 (.sel false (allE 1 0 n) (.lit 1) (ldW n) (.lit 0)), .int .u32 (atE 1 0 n), .bool (allB 1 n)])
def btE (i : Nat) : IE := .wrap .u8 (.quo (.var 2) (.lit (256 ^ i : Nat)))
def stW (n : Nat) : IE := match n with
 | 1 => .fn 30 (.var 0) (adE 0) (btE 0)
 | _ => .fn 30 (.fn 30 (.fn 30 (.fn 30 (.var 0) (adE 0) (btE 0)) (adE 1) (btE 1)) (adE 2) (btE 2)) (adE 3) (btE 3)
def cStore (k n : Nat) : Con := memC k 295 [uV .u32 1, .int .i64 (.lit n), uV .u32 2] [u32B 1, u32B 2] (.tuple [.int .u32 (atE 2 0 n), .bool (allB 2 n)]) (.sel false (allE 2 0 n) (.lit 1) (stW n) (.var 0))
def runC (c : Con) (l : List Con) (d : Nat) : Bool := (c.tree PR ⟨l, []⟩ 20 none' no' 12 []).all (c.leaf (qP (bdL c.bds) d)) c.pre
theorem load0 : (runC (cLoad 0 1) [cCheck 0 1 1, cPeek 0] 20 && runC (cLoad 0 4) [cCheck 0 4 1, cPeek 0] 20) = true := by kernel_rfl
theorem load1 : (runC (cLoad 1 1) [cCheck 1 1 1, cPeek 1] 20 && runC (cLoad 1 4) [cCheck 1 4 1, cPeek 1] 20) = true := by kernel_rfl
theorem store0 : (runC (cStore 0 1) [cCheck 0 1 2, cSet 0] 20 && runC (cStore 0 4) [cCheck 0 4 2, cSet 0] 20) = true := by kernel_rfl
theorem store1 : (runC (cStore 1 1) [cCheck 1 1 2, cSet 1] 20 && runC (cStore 1 4) [cCheck 1 4 2, cSet 1] 20) = true := by kernel_rfl
theorem wfL : ∀ {k : Nat}, k < 2 → [cCheck k 1 1, cPeek k].all Con.wf = true ∧ [cCheck k 4 1, cPeek k].all Con.wf = true ∧ [cCheck k 1 2, cSet k].all Con.wf = true ∧ [cCheck k 4 2, cSet k].all Con.wf = true :=
 two (p := fun k => [cCheck k 1 1, cPeek k].all Con.wf = true ∧ [cCheck k 4 1, cPeek k].all Con.wf = true ∧ [cCheck k 1 2, cSet k].all Con.wf = true ∧ [cCheck k 4 2, cSet k].all Con.wf = true)
   ⟨by kernel_rfl, by kernel_rfl, by kernel_rfl, by kernel_rfl⟩ ⟨by kernel_rfl, by kernel_rfl, by kernel_rfl, by kernel_rfl⟩
theorem pairOk {G : Nat → Int → Int → Int → Int} {c1 c2 : Con} (h : [c1, c2].all Con.wf = true) (h1 : c1.Ok PR G gh) (h2 : c2.Ok PR G gh) : ConsOk PR G gh [c1, c2] := consOk h fun c hc => by
 simp only [List.mem_cons, List.not_mem_nil, or_false] at hc
 rcases hc with rfl | rfl
 · exact h1
 · exact h2
theorem runC_ok {G : Nat → Int → Int → Int → Int} {c : Con} {l : List Con} {d : Nat} (hl : ConsOk PR G gh l) (h : runC c l d = true) : c.Ok PR G gh :=
 Con.of_treeP mixed ⟨hl, fun _ h => by cases h⟩ 20 none' no' 12 d h
section
variable {G : Nat → Int → Int → Int → Int} (hG : Base G)
include hG
theorem cLoad_ok {k : Nat} (hk : k < 2) : ∀ n, (n = 1 ∨ n = 4) → (cLoad k n).Ok PR G gh := by
 obtain ⟨w1, w2, _, _⟩ := wfL hk
 have h := two (p := fun k => (runC (cLoad k 1) [cCheck k 1 1, cPeek k] 20 && runC (cLoad k 4) [cCheck k 4 1, cPeek k] 20) = true) load0 load1 hk
 simp only [Bool.and_eq_true] at h
 rintro n (rfl | rfl)
 · exact runC_ok (pairOk w1 (cCheck_ok hG hk 1 (.inl rfl) 1 (.inl rfl)) (cPeek_ok hG hk)) h.1
 · exact runC_ok (pairOk w2 (cCheck_ok hG hk 4 (.inr rfl) 1 (.inl rfl)) (cPeek_ok hG hk)) h.2
theorem cStore_ok {k : Nat} (hk : k < 2) : ∀ n, (n = 1 ∨ n = 4) → (cStore k n).Ok PR G gh := by
 obtain ⟨_, _, w1, w2⟩ := wfL hk
 have h := two (p := fun k => (runC (cStore k 1) [cCheck k 1 2, cSet k] 20 && runC (cStore k 4) [cCheck k 4 2, cSet k] 20) = true) store0 store1 hk
 simp only [Bool.and_eq_true] at h
 rintro n (rfl | rfl)
 · exact runC_ok (pairOk w1 (cCheck_ok hG hk 1 (.inl rfl) 2 (.inr rfl)) (cSet_ok hG hk)) h.1
 · exact runC_ok (pairOk w2 (cCheck_ok hG hk 4 (.inr rfl) 2 (.inr rfl)) (cSet_ok hG hk)) h.2
end
end
end Go.Proofs.YtbhlmedfhilkbaaGreat
