/- RecoveryGuests: the maker's small functions. No condition. -/
import Derived.Test.YthcfcjkljglgfaaSh
import Derived.Test.YthcfcjkljglgfaaBa
set_option linter.unusedVariables false
set_option linter.unusedSimpArgs false
namespace Go.Proofs.Ythcfcjkljglgfaa
open Go Go.Sx
set_option maxRecDepth 1000000
noncomputable section
def gh0 : Nat → Ghost := fun _ => Ghost.no
section
variable {G : Nat → Int → Int → Int → Int}
theorem allN0 : ∀ c ∈ ([] : List Con), c.Ok PR G gh0 := fun _ h => by cases h
theorem allC0 {c : Con} {l : List Con} (h : c.Ok PR G gh0) (t : ∀ c ∈ l, c.Ok PR G gh0) : ∀ x ∈ c :: l, x.Ok PR G gh0 := fun x hx => by
  rcases List.mem_cons.1 hx with rfl | hx
  · exact h
  · exact t x hx
end
/-! 0 the numbers, 1 how many, 2 the place -/
def mkO (at' : IE) : AObj := .cells (treeAt [.sliceS 1 (.lit 0) (.var 1) 1 false, .int .i64 at'] 0) 68 true 2
def numO : AObj := .arr [.i64] (.var 0) (.var 1) false
def mkB (H : Int) : List (Nat × Int × Int) := [(1, 0, 150), (2, 0, H)]
def mkPre : Dec := []
def bV (i : Nat) : AVal := .bool (.eq (.var i) (.lit 1))
def wrV : List AVal := [bV 10, bV 11, bV 12, bV 13, bV 14, bV 15, bV 16, bV 17]
def b01 (i : Nat) : Nat × Int × Int := (i, 0, 1)
def wrB : List (Nat × Int × Int) := [b01 10, b01 11, b01 12, b01 13, b01 14, b01 15, b01 16, b01 17]
def FSo : Fns := ⟨150, 151, [0, 1, 2, 10, 11, 12, 13, 14, 15, 16, 17]⟩
def FWo : Fns := ⟨152, 153, [0, 1, 2]⟩
def topA : Int := 1000000
/-- A number modulo n. -/
def tkE (n : Int) : IE := .sel true (.var 2) (.var 1) (.rem (.add (.rem (.wrap .i64 (.fn 0 (.var 0) (.var 2) (.lit 0))) (.lit n)) (.lit n)) (.lit n)) (.lit 0)
def cTake (n : Int) : Con := { g := 23, args := [pm, .int .i64 (.lit n)], os := [mkO (.var 2), numO], bds := mkB topA, res := .int .i64 (tkE n), os' := [mkO (.add (.var 2) (.lit 1)), numO] }
def takes : List Con := [cTake 2, cTake 4, cTake 6, cTake 8, cTake 12, cTake 13, cTake 19, cTake 27, cTake 64, cTake 128, cTake 65536]
def runTk (c : Con) : Bool := runP c ⟨[], []⟩ 20 12 12 && c.wf
theorem takes_run : takes.all runTk = true := by kernel_rfl
theorem takes_ok {G : Nat → Int → Int → Int → Int} : ∀ c ∈ takes, c.wf = true ∧ c.Ok PR G gh0 := fun c hc => by
  have h := List.all_eq_true.1 takes_run c hc
  unfold runTk at h
  rw [Bool.and_eq_true] at h
  exact ⟨h.2, runP_ok knowNil h.1⟩
def cSource : Con := { g := 33, args := [pm, .agg wrV], os := [mkO (.var 2), numO], bds := mkB topA ++ wrB, pre := mkPre, res := .int .i64 (dg FSo .i64 0), os' := [mkO (.add (.var 2) (.lit 1)), numO] }
def cWord : Con := { g := 34, args := [pm], os := [mkO (.var 2), numO], bds := mkB topA, pre := mkPre, res := .int .u32 (dg FWo .u32 0), os' := [mkO (.add (.add (.var 2) (.lit 1)) (.lit 1)), numO] }
def tSource : Out := cSource.tree PR ⟨takes, []⟩ 20 none' no' 12 []
def tWord : Out := cWord.tree PR ⟨takes, []⟩ 20 none' no' 12 []
def rtSource : RT := cSource.rows FSo tSource
def rtWord : RT := cWord.rows FWo tWord
theorem source_run : (tSource.all (cSource.defLeaf FSo) mkPre && (rtSource.only (memV FSo.vars) 150 && cSource.wf)) = true := by kernel_rfl
theorem word_run : (tWord.all (cWord.defLeaf FWo) mkPre && (rtWord.only (memV FWo.vars) 152 && cWord.wf)) = true := by kernel_rfl
end
end Go.Proofs.Ythcfcjkljglgfaa
