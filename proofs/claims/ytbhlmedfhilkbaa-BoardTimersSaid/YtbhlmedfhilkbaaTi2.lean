/- A timer: the pages of the machine before and behind, read and written; the examples of the document. No condition. -/
import Derived.Test.YtbhlmedfhilkbaaTi1
namespace Go.Proofs.Ytbhlmedfhilkbaa.timers
open Go Go.Sx
set_option maxRecDepth 1000000
noncomputable section
def cSane : Con := { g := 6, args := [], res := .bool (.lit true) }
theorem sane0 : cSane.runs PR [] 300 30 = true := by kernel_rfl
theorem wfSane : cSane.wf = true := by kernel_rfl
/-! blocks: 0 the machine, 1 the slots, 2 the code of page 0, 3 the zeros, 4 the code of page 1 behind -/
def zs (n : Nat) : List Int := List.replicate n 0
def wl (w : Int) : List Int := [w % 256, w / 256 % 256, w / 65536 % 256, w / 16777216]
def pageA : List Int := wl wJ ++ zs 252
def pageB : List Int := wl wJ ++ (zs 4 ++ (wl wJ ++ zs 244))
def pgO (l : List Int) : AObj := .cells (treeOf (l.map fun b => .int .u8 (.lit b)) 0 .nil) 102 false 256
def cpuH : AObj := .cells (treeOf [.slice (some (1, 0)) 2 2 0, .bool (.lit false)] 0 .nil) 72 false 26
def slots2 (b : Nat) : AObj := .cells (((((((T.nil.set 0 (.ptr (some (3, 0)))).set 1 (.ptr (some (2, 0)))).set 6 (.int .i64 (.lit 4))).set 7 (.ptr (some (3, 0)))).set 8 (.ptr (some (b, 0)))).set 13 (.int .i64 (.lit 0)))) 100 false 14
def memA : List AObj := [cpuH, slots2 3, pgO pageA, pgO (zs 256)]
def memB : List AObj := [cpuH, slots2 4, pgO pageB, pgO (zs 256), pgO (zs 256)]
def atV (m : String) : AVal := .func (.method m) [.iface 61 (.ptr (some (0, 0)))] []
def strV (l : List Int) : AVal := .str (l.map fun b => .lit b)
def cCt (os : List AObj) (m : String) (p : Int) (l : List Int) : Con := { g := 29, args := [.int .i64 (.lit p), atV m], os := os, res := strV l, os' := os }
def cPo (p : Int) : Con := { g := 68, args := [.ptr (some (0, 0)), .int .u32 (.lit (256 * p)), strV (zs 256)], os := memA, res := .tuple [], os' := memA }
theorem ctA0 : (cCt memA "Peek" 0 (zs 256)).runs PR [] 300 30 = true := by kernel_rfl
theorem ctA1 : (cCt memA "Peek" 1 (zs 256)).runs PR [] 300 30 = true := by kernel_rfl
theorem ctA2 : (cCt memA "Code" 0 pageA).runs PR [] 300 30 = true := by kernel_rfl
theorem ctA3 : (cCt memA "Code" 1 (zs 256)).runs PR [] 300 30 = true := by kernel_rfl
theorem ctB0 : (cCt memB "Peek" 0 (zs 256)).runs PR [] 300 30 = true := by kernel_rfl
theorem ctB1 : (cCt memB "Peek" 1 (zs 256)).runs PR [] 300 30 = true := by kernel_rfl
theorem ctB2 : (cCt memB "Code" 0 pageB).runs PR [] 300 30 = true := by kernel_rfl
theorem ctB3 : (cCt memB "Code" 1 (zs 256)).runs PR [] 300 30 = true := by kernel_rfl
theorem po0 : (cPo 0).runs PR [] 300 30 = true := by kernel_rfl
theorem po1 : (cPo 1).runs PR [] 300 30 = true := by kernel_rfl
def consL : List Con := [cSane, cCt memA "Peek" 0 (zs 256), cCt memA "Peek" 1 (zs 256), cCt memA "Code" 0 pageA, cCt memA "Code" 1 (zs 256), cCt memB "Peek" 0 (zs 256), cCt memB "Peek" 1 (zs 256), cCt memB "Code" 0 pageB, cCt memB "Code" 1 (zs 256), cPo 0, cPo 1]
theorem consL_wf : consL.all Con.wf = true := by kernel_rfl
theorem consL_ok {G : Nat → Int → Int → Int → Int} {GH : Nat → Ghost} : ConsOk PR G GH consL := fun c hc => by
  refine ⟨List.all_eq_true.1 consL_wf c hc, ?_⟩
  simp only [consL, List.mem_cons, List.not_mem_nil, or_false] at hc
  rcases hc with rfl | rfl | rfl | rfl | rfl | rfl | rfl | rfl | rfl | rfl | rfl
  · exact Con.of_run mixed ConsOk.nil 300 30 sane0
  · exact Con.of_run mixed ConsOk.nil 300 30 ctA0
  · exact Con.of_run mixed ConsOk.nil 300 30 ctA1
  · exact Con.of_run mixed ConsOk.nil 300 30 ctA2
  · exact Con.of_run mixed ConsOk.nil 300 30 ctA3
  · exact Con.of_run mixed ConsOk.nil 300 30 ctB0
  · exact Con.of_run mixed ConsOk.nil 300 30 ctB1
  · exact Con.of_run mixed ConsOk.nil 300 30 ctB2
  · exact Con.of_run mixed ConsOk.nil 300 30 ctB3
  · exact Con.of_run mixed ConsOk.nil 300 30 po0
  · exact Con.of_run mixed ConsOk.nil 300 30 po1
end
end Go.Proofs.Ytbhlmedfhilkbaa.timers
