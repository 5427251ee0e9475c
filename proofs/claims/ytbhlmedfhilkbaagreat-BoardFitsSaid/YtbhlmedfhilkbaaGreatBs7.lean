/- Snapshots of the program's board and of the reference's; Restore of such a one: patterns. No condition. -/
import Derived.Test.YtbhlmedfhilkbaaGreatSg
import Derived.Test.YtbhlmedfhilkbaaGreatBs1
import Derived.Test.YtbhlmedfhilkbaaGreatLa1
set_option linter.unusedSimpArgs false
set_option linter.unusedVariables false
set_option linter.unusedSectionVars false
namespace Go.Proofs.YtbhlmedfhilkbaaGreat
open Go Go.Sx
set_option maxRecDepth 1000000
noncomputable section
abbrev strT : TypeId := 9
def stopB : AVal := .bool (.eq (.var 26) (.lit 1))
def dataC : AObj := .cells (treeAt ((List.range 6).map fun p => .strS (pgS p) (.lit 256)) 0) strT true 6
def codeC : AObj := .cells (treeAt ((List.range 6).map fun p => .strS (imS p) (.lit 256)) 0) strT true 6
def rgtC : AObj := .cells (treeAt ((List.range 6).map fun p => .int .i64 (rgS p)) 0) intT true 6
def sl6 (j : Nat) : AVal := .slice (some (j, 0)) 6 6 1
def snapV (kind : Int) (st : List AVal) (r d c i o : AVal) : AVal := .agg (.int .i64 (.lit kind) :: (st ++ [r, d, c, i, o]))
/-! the reference's -/
def snRK : List AObj := [boardR [.ptr (some (1, 0)), .ptr none] (.sliceA 3 (.var 25) 1) (.slice none 0 0 0) stopB, machR st90 2, .ghost 2 [.var 0] .nil, inN]
def cSnapRK : Con := { g := 17, args := [pm], os := snRK, pre := [n6, (cohB, true)], bds := [(25, 0, 8)], res := snapV 1 st90 (sl6 4) (sl6 5) (.slice none 0 0 0) (.sliceA 3 (.var 25) 1) (.slice none 0 0 0), os' := snRK ++ [rgtC, dataC] }
def snRQ : List AObj := [boardR [.ptr none, .ptr (some (1, 0))] (.sliceA 3 (.var 25) 1) (.slice none 0 0 0) stopB, cpuR6 st90 2, .ghost 2 [.var 0] .nil, inN]
def cSnapRQ : Con := { g := 17, args := [pm], os := snRQ, pre := [n6, (cohB, false)], bds := [(25, 0, 8)], res := snapV 2 st90 (sl6 4) (sl6 5) (sl6 6) (.sliceA 3 (.var 25) 1) (.slice none 0 0 0), os' := snRQ ++ [rgtC, dataC, codeC] }
/-! the program's -/
def brdP (m i o stop : AVal) : AObj := .cells (treeAt [m, i, o, stop] 0) 120 true 4
def snPK : List AObj := [brdP (.iface kPT (.ptr (some (1, 0)))) (.sliceA 3 (.var 25) 1) (.slice none 0 0 0) stopB, kcpuAt st90 2, .ghost 0 [.var 0] .nil, inN]
def cSnapPK : Con := { g := 35, args := [pm], os := snPK, pre := [n6, (cohB, true)], bds := [(25, 0, 8)], res := snapV 1 st90 (sl6 4) (sl6 5) (.slice none 0 0 0) (.sliceA 6 (.var 25) 1) (.slice none 0 0 0), os' := snPK ++ [rgtC, dataC, inN] }
def snPQ : List AObj := [brdP (.iface qPT (.ptr (some (1, 0)))) (.sliceA 2 (.var 25) 1) (.slice none 0 0 0) stopB, memO 1 (.var 0), inN]
def cSnapPQ : Con := { g := 35, args := [pm], os := snPQ, pre := [n6, (cohB, false)], bds := [(25, 0, 8)], res := snapV 2 st90 (sl6 3) (sl6 4) (sl6 5) (.sliceA 6 (.var 25) 1) (.slice none 0 0 0), os' := snPQ ++ [rgtC, dataC, codeC, inN] }
def cPages6 (k : Nat) : Con := { cPages k with pre := [n6], res := .int .i64 (.lit 6) }
def kSnPK : Know := ⟨[cPages6 0, cRights 0, cContK 0, cContK 1, cContK 2, cContK 3, cContK 4, cContK 5], []⟩
def kSnPQ : Know := ⟨[cPages6 1, cRights 1, cContQ 0, cContQ 1, cContQ 2, cContQ 3, cContQ 4, cContQ 5, cContC 0, cContC 1, cContC 2, cContC 3, cContC 4, cContC 5], []⟩
def obRg : List (Dec × IE × IE) := (List.range 6).map fun p => ([], rgS p, .wrap .i64 (.fn 23 (.var 0) (.lit (.ofNat p)) (.lit 0)))
/-! Restore: 91 the state, the memory's own pages -/
def st91 : List AVal := stCells (.var 91)
def e91 (j : Nat) : IE := .wrap (match Nat.ble 22 j with | true => .i64 | false => .u32) (.fn 0 (.var 91) (.lit (.ofNat j)) (.lit 0))
def stN91 (isK : Bool) : List AVal := (List.range 24).map (stN e91 isK)
def in2 : AObj := .cells (treeAt [.int .u32 (.lit 1), .int .u32 (.lit 2)] 0) u32T true 2
def reK (M : IE) : Nat → IE
 | 0 => M
 | p + 1 => .fn 31 (puE (reK M p) p) (.lit p) (rgS p)
def reQ (M : IE) : Nat → IE
 | 0 => M
 | p + 1 => .fn 34 (reQ M p) (.lit p) (.fn 9 (imS p) (.lit 256) (.lit 0))
end
end Go.Proofs.YtbhlmedfhilkbaaGreat
