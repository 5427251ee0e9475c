/- Towers: a page of zeros read byte by byte. No condition. -/
import Derived.Test.YthlmmihlehfoeaaGreatTe1
set_option linter.unusedVariables false
set_option linter.unusedSimpArgs false
namespace Go.Proofs.YthlmmihlehfoeaaGreat
open Go Go.Sx
set_option maxRecDepth 1000000
noncomputable section
def dead (own : Bool) : AObj := .arr [] (.lit 0) (.lit 0) own
def slotsP (N p : Nat) (l : List (Nat × Nat)) : AObj := .cells (l.foldl (fun t x => t.set (Nat.add (Nat.mul 7 p) x.1) (.ptr (some (x.2, 0)))) T.nil) 166 false (Nat.mul 7 N)
def kcP (i : Nat) : AObj := .cells (T.nil.set 0 (.ptr (some (i, 0)))) 117 false 25
def kV (i : Nat) : AVal := .iface 79 (.ptr (some (i, 0)))
def qV (i : Nat) : AVal := .iface 83 (.ptr (some (i, 0)))
def lV (i : Nat) : AVal := .iface 46 (.ptr (some (i, 0)))
def iL (n : Nat) : AVal := .int .i64 (.lit (.ofNat n))
/-- What is copied: a value, its blocks. -/
structure Src where
  v : AVal
  os : List AObj
/-- A machine K, a machine Q (whose code is the same page, or another one), a level on Q, a level on K. -/
def srcK (N p : Nat) : Src := ⟨kV 0, [kcP 1, memP true N 2, slotsP N p [(0, 3)], zeroP]⟩
def srcQ (N p : Nat) : Src := ⟨qV 0, [memP false N 1, slotsP N p [(0, 2), (1, 2)], zeroP]⟩
def srcQ' (N p : Nat) : Src := ⟨qV 0, [memP false N 1, slotsP N p [(0, 2), (1, 3)], zeroP, zeroP]⟩
def lvP (kind n : Nat) (host : AVal) (img : Option Nat) : AObj := .cells (match img with
  | none => ((T.nil.set 0 (iL kind)).set 1 (iL n)).set 2 host
  | some i => (((T.nil.set 0 (iL kind)).set 1 (iL n)).set 2 host).set 36 (.slice (some (i, 0)) (Nat.mul 256 n) (Nat.mul 256 n) 0)) 100 false 45
def srcLK (n N p : Nat) : Src := ⟨lV 0, [lvP 1 n (qV 1) none, memP false N 2, slotsP N p [(0, 3)], zeroP]⟩
def srcLQ (n N p : Nat) : Src := ⟨lV 0, [lvP 2 n (kV 1) (some 2), kcP 3, .arr [.u8] (.lit 0) (.lit (.ofNat (Nat.mul 256 n))) false, memP true N 4, slotsP N p [(0, 5)], zeroP]⟩
def bufO : AObj := .arr [.u8] (.lit 0) (.lit 256) true
def cCp (s : Src) (to : Nat → AVal) (n p : Nat) : Con :=
  let m := s.os.length
  let keep : List AVal := [s.v, to m, .int .i64 (.lit 0), iL p, .int .u32 (.lit (.ofNat (Nat.mul 256 p))), .ptr (some (Nat.add m 1, 0)), .ptr (some (Nat.add m 2, 0)), iL n, iL p]
  { g := 34, args := keep ++ [.int .i64 (.var 1)], os := s.os ++ [dead false, bufO, bufO], bds := [(1, 0, 256)], res := .tuple keep, os' := s.os ++ [dead false, bufO, bufO] }
def isTy (t : TypeId) : Option AVal → Bool
  | some (.iface t' _) => Nat.beq t t'
  | _ => false
def isNat (n : Nat) : Option AVal → Bool
  | some (.int _ (.lit (.ofNat k))) => Nat.beq n k
  | _ => false
def lCp (s : Src) (ft : TypeId) (to : Nat → AVal) (n p : Nat) : LCon := { con := cCp s to n p, key := 10, n := 91, sl := [0, 1, 4, 5, 6, 7, 8, 31, 32, 38], e := .exit 2, sl' := [0, 1, 4, 5, 6, 7, 8, 31, 32], pick := fun st => isTy ft (st.tm.get 0) && (isNat p (st.tm.get 5) && isNat n (st.tm.get 31)) }
def tCp (s : Src) (ft : TypeId) (to : Nat → AVal) (n p : Nat) : Out := (lCp s ft to n p).tree PR ⟨[], []⟩ 20 none' no' 14 [] μP
def okCp (s : Src) (ft : TypeId) (to : Nat → AVal) (n p : Nat) : Bool := (tCp s ft to n p).all ((cCp s to n p).leaf (qP (bdL (cCp s to n p).bds) 10)) [] && (cCp s to n p).wf
theorem lCp_ok {s : Src} {ft : TypeId} {to : Nat → AVal} {n p : Nat} (h : okCp s ft to n p = true) {G : Nat → Int → Int → Int → Int} {GH : Nat → Ghost} : (lCp s ft to n p).con.wf = true ∧ (lCp s ft to n p).Ok PR G GH := by
  obtain ⟨h1, h2⟩ := and_split h
  exact ⟨h2, LCon.ok_each (c := lCp s ft to n p) mixed know0 h2 rfl (fun _ : Unit => []) 20 none' no' 14 10 μP fun ρ _ _ _ => ⟨(), nilH, h1⟩⟩
abbrev tyK : TypeId := 79
abbrev tyQ : TypeId := 83
abbrev tyL : TypeId := 46
/-! the copies: of a machine K or Q to a level, of a level to a machine -/
def kToL (n p : Nat) : LCon := lCp (srcK n p) tyK lV n p
def qToL (n p : Nat) : LCon := lCp (srcQ' n p) tyQ lV n p
def q0ToL (n p : Nat) : LCon := lCp (srcQ n p) tyQ lV n p
def lToQ (N n p : Nat) : LCon := lCp (srcLQ n N p) tyL qV n p
def lToK (N n p : Nat) : LCon := lCp (srcLK n N p) tyL kV n p
end
end Go.Proofs.YthlmmihlehfoeaaGreat
