/- The row's program; short names for patterns. No condition. -/
import Derived.Test.YthcfcjkljglgfaaSh
import Derived.Test.YthcfcjkljglgfaaRows
set_option linter.unusedVariables false
set_option linter.unusedSimpArgs false
namespace Go.Proofs.Ythcfcjkljglgfaa
open Go Go.Sx
set_option maxRecDepth 1000000
noncomputable section
noncomputable abbrev PR : Program := Try.prog
theorem mixed : PR.follows .mixedOrders = true := by kernel_rfl
def stKinds : List IntKind := .u32 :: (List.replicate 16 .u32 ++ (.u32 :: (List.replicate 4 .u32 ++ [.i64, .i64])))
/-- Cells that are the digits of a row. -/
def rowCells (x : IE) : List IntKind → Nat → List AVal
  | [], _ => []
  | k :: l, j => .int k (.wrap k (.fn 0 x (.lit (.ofNat j)) (.lit 0))) :: rowCells x l (j + 1)
def stCells (x : IE) : List AVal := rowCells x stKinds 0
def treeAt (l : List AVal) (j : Nat) : T AVal := treeOf l j .nil
def pm : AVal := .ptr (some (0, 0))
def uV (k : IntKind) (i : Nat) : AVal := .int k (.var i)
def uF (k : IntKind) (c : Nat) (x y : IE) (z : IE := .lit 0) : AVal := .int k (.wrap k (.fn c x y z))
def tF (c : Nat) (x y : IE) (z : IE := .lit 0) : AVal := .bool (.eq (.fn c x y z) (.lit 1))
def u32B (i : Nat) : Nat × Int × Int := (i, 0, 4294967295)
def u8B (i : Nat) : Nat × Int × Int := (i, 0, 255)
def i64B (i : Nat) : Nat × Int × Int := (i, -9223372036854775808, 9223372036854775807)
def none' : FuncId → Nat → Bool := fun _ _ => false
def no' : FuncId → Bool := fun _ => false
theorem consOkG {G : Nat → Int → Int → Int → Int} {GH : Nat → Ghost} {l : List Con} (hw : l.all Con.wf = true) (h : ∀ c ∈ l, c.Ok PR G GH) : ConsOk PR G GH l := fun c hc => ⟨List.all_eq_true.1 hw c hc, h c hc⟩
theorem nilDec {ρ : Env} : Dec.holds ρ [] := fun p hp => by cases hp
theorem knowNil {G : Nat → Int → Int → Int → Int} {GH : Nat → Ghost} : Know.Ok PR G GH ⟨[], []⟩ := ⟨ConsOk.nil, fun _ h => by cases h⟩
/-- A contract's run, its pairs compared by cases. -/
def runP (c : Con) (K : Know) (L d k : Nat) : Bool := (c.tree PR K L none' no' d []).all (c.leaf (qP (bdL c.bds) k)) c.pre
theorem runP_ok {G : Nat → Int → Int → Int → Int} {GH : Nat → Ghost} {c : Con} {K : Know} {L d k : Nat} (hK : K.Ok PR G GH) (h : runP c K L d k = true) : c.Ok PR G GH := Con.of_treeP mixed hK L none' no' d k h
/-! functions given by trees -/
/-- A function's digit. -/
def dg (F : Fns) (k : IntKind) (i : Nat) : IE := .wrap k (.fn 0 (.fn F.KR F.x (.lit 0) (.lit 0)) (.lit (.ofNat i)) (.lit 0))
def dgB (F : Fns) (m : Int) (i : Nat) : IE := .rem (dg F .u8 i) (.lit m)
def dgL (F : Fns) : List IntKind → Nat → List AVal
  | [], _ => []
  | k :: l, j => .int k (dg F k j) :: dgL F l (j + 1)
/-- A whole number of a function. -/
def kvE (F : Fns) (j : Nat) : IE := .fn F.KV F.x (.lit 0) (.lit (.ofNat j))
def onlyL (f : Int → Out) (c : Con) (F : Fns) (K : Nat) (l : List Int) : Bool := l.all fun n => (c.rows F (f n)).only (memV F.vars) K
theorem casesAll_app {e : IE} {f : Int → Out} {p : Int → Dec → AExit → ASt → Bool} {b : Dec} {l m : List Int} (h1 : casesAll e f p b l = true) (h2 : casesAll e f p b m = true) : casesAll e f p b (l ++ m) = true := by
  unfold casesAll at *
  rw [List.all_append, h1, h2]
  rfl
theorem rows_only {e : IE} {f : Int → Out} {c : Con} {F : Fns} {K : Nat} (he : (IE.only (memV F.vars) K e) = true) : ∀ {l : List Int}, onlyL f c F K l = true → (c.rows F (casesO e f l)).only (memV F.vars) K = true := by
  intro l
  induction l with
  | nil => intro _; rfl
  | cons n l ih =>
    intro h
    unfold onlyL at h
    rw [List.all_cons, Bool.and_eq_true] at h
    cases l with
    | nil => exact h.1
    | cons m l =>
      show (BE.only (memV F.vars) K (.eq e (.lit n)) && ((c.rows F (f n)).only (memV F.vars) K && (c.rows F (casesO e f (m :: l))).only (memV F.vars) K)) = true
      rw [h.1, ih h.2]
      show (IE.only (memV F.vars) K e && true && (true && true)) = true
      rw [he]; rfl
theorem noFacts {ρ : Env} : Dec.holds ρ [] := fun p hp => by cases hp
theorem defCaseOk {G : Nat → Int → Int → Int → Int} {GH : Nat → Ghost} {c : Con} {K : Int → Know} {l : List Int} {L d : Nat} {pol : FuncId → Nat → Bool} {pure : FuncId → Bool} {e : IE} {F : Fns} (hK : ∀ n ∈ l, (K n).Ok PR G GH) (hk : 7 < F.KR ∧ 7 < F.KV) (f : Int → Out) (hf : c.caseT PR K L pol pure d [] e = f)
    (hm : ∀ ρ : Env, ρ.std G GH → ρ.ok (bdL c.bds) → c.pre.holds ρ → e.ev ρ ∈ l) (h : casesAll e f (fun _ => c.defLeaf F) c.pre l = true) (hF : F.Def G (c.rows F (casesO e f l))) : c.Ok PR G GH :=
  Con.ok_cases (c := c) mixed (K := K) (l := l) hK (facts := []) (fun _ _ _ _ => noFacts) (e := e) hm (by rw [hf]; exact Con.defCases (facts := []) (fun _ _ _ _ => noFacts) hk hm h hF)
theorem all_app {f : Int → Out} {c : Con} {F : Fns} {e : IE} {K : Nat} {l m : List Int} (h1 : (casesAll e f (fun _ => c.defLeaf F) c.pre l && onlyL f c F K l) = true) (h2 : (casesAll e f (fun _ => c.defLeaf F) c.pre m && onlyL f c F K m) = true) : (casesAll e f (fun _ => c.defLeaf F) c.pre (l ++ m) && onlyL f c F K (l ++ m)) = true := by
  simp only [Bool.and_eq_true] at h1 h2 ⊢
  refine ⟨casesAll_app h1.1 h2.1, ?_⟩
  unfold onlyL at *
  rw [List.all_append, h1.2, h2.2]
  rfl
theorem mem_upto {x : Int} {n : Nat} (h0 : 0 ≤ x) (h1 : x < n) : x ∈ (List.range n).map Int.ofNat := by
  obtain ⟨m, rfl⟩ := Int.eq_ofNat_of_zero_le h0
  exact List.mem_map.2 ⟨m, List.mem_range.2 (by omega), rfl⟩
theorem defOk {G : Nat → Int → Int → Int → Int} {GH : Nat → Ghost} {c : Con} {K : Know} {L d : Nat} {pol : FuncId → Nat → Bool} {pure : FuncId → Bool} {F : Fns} (hK : K.Ok PR G GH) (hk : 7 < F.KR ∧ 7 < F.KV) (t : Out) (ht : c.tree PR K L pol pure d [] = t) (h : t.all (c.defLeaf F) c.pre = true) (hF : F.Def G (c.rows F t)) : c.Ok PR G GH :=
  Con.ok_of mixed hK (facts := []) (fun _ _ _ _ => nilDec) (by rw [ht]; exact Con.defLeaves [] (fun _ _ _ _ => nilDec) hk h hF)
end
end Go.Proofs.Ythcfcjkljglgfaa
