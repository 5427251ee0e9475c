/- Symbolic integers and tests with their values: smart constructors and their laws. No condition. -/
import Derived.Calls
namespace Go.Sx

/-- What the variables of symbolic values stand for. -/
structure Env where
  i : Nat → Int
  b : Nat → Bool

inductive IE where
  | lit (n : Int)
  | var (i : Nat)
  | add (a b : IE)
  | sub (a b : IE)
  | mul (a b : IE)
  | wrap (k : IntKind) (a : IE)
  | bits (op : BinOp) (k : IntKind) (a b : IE)
  | quo (a b : IE)
  | rem (a b : IE)
  | shl (k : IntKind) (a b : IE)
  | shr (k : IntKind) (a b : IE)
  deriving Inhabited

def bitsI (op : BinOp) (k : IntKind) (x y : Int) : Int :=
  let a := BitVec.ofInt k.bits x
  let b := BitVec.ofInt k.bits y
  match op with
  | .and => k.wrap (a &&& b).toNat
  | .or => k.wrap (a ||| b).toNat
  | .xor => k.wrap (a ^^^ b).toNat
  | _ => k.wrap (a &&& ~~~b).toNat

def shlI (k : IntKind) (x y : Int) : Int := k.wrap (x * 2 ^ (min y.toNat k.bits))
def shrI (k : IntKind) (x y : Int) : Int := x.fdiv (2 ^ (min y.toNat k.bits))

def IE.ev (ρ : Env) : IE → Int
  | .lit n => n
  | .var i => ρ.i i
  | .add a b => a.ev ρ + b.ev ρ
  | .sub a b => a.ev ρ - b.ev ρ
  | .mul a b => a.ev ρ * b.ev ρ
  | .wrap k a => k.wrap (a.ev ρ)
  | .bits op k a b => bitsI op k (a.ev ρ) (b.ev ρ)
  | .quo a b => (a.ev ρ).tdiv (b.ev ρ)
  | .rem a b => (a.ev ρ).tmod (b.ev ρ)
  | .shl k a b => shlI k (a.ev ρ) (b.ev ρ)
  | .shr k a b => shrI k (a.ev ρ) (b.ev ρ)

/-! equality of signs -/
def kindNo : IntKind → Nat
  | .i8 => 0 | .i16 => 1 | .i32 => 2 | .i64 => 3 | .u8 => 4 | .u16 => 5 | .u32 => 6 | .u64 => 7
def kindEq (a b : IntKind) : Bool := Nat.beq (kindNo a) (kindNo b)
theorem kindEq_eq {a b : IntKind} (h : kindEq a b = true) : a = b := by
  cases a <;> cases b <;> first | rfl | cases h
def opNo : BinOp → Nat
  | .add => 0 | .sub => 1 | .mul => 2 | .quo => 3 | .rem => 4 | .and => 5 | .or => 6 | .xor => 7 | .shl => 8 | .shr => 9 | .andNot => 10
  | .eql => 11 | .neq => 12 | .lss => 13 | .leq => 14 | .gtr => 15 | .geq => 16
def opEq (a b : BinOp) : Bool := Nat.beq (opNo a) (opNo b)
theorem opEq_eq {a b : BinOp} (h : opEq a b = true) : a = b := by
  cases a <;> cases b <;> first | rfl | cases h

def intEq : Int → Int → Bool
  | .ofNat a, .ofNat b => Nat.beq a b
  | .negSucc a, .negSucc b => Nat.beq a b
  | _, _ => false
theorem intEq_eq {a b : Int} (h : intEq a b = true) : a = b := by
  cases a <;> cases b <;> simp [intEq] at h <;> simp [h]
theorem intEq_iff {a b : Int} : intEq a b = decide (a = b) := by
  rw [Bool.eq_iff_iff]
  cases a <;> cases b <;> simp [intEq, Nat.beq_eq] <;> omega
def intLe : Int → Int → Bool
  | .ofNat a, .ofNat b => Nat.ble a b
  | .negSucc a, .negSucc b => Nat.ble b a
  | .negSucc _, .ofNat _ => true
  | .ofNat _, .negSucc _ => false
theorem intLe_iff {a b : Int} : intLe a b = decide (a ≤ b) := by
  rw [Bool.eq_iff_iff]
  cases a <;> cases b <;> simp [intLe, Nat.ble_eq] <;> omega
def intLt (a b : Int) : Bool := !(intLe b a)
theorem intLt_iff {a b : Int} : intLt a b = decide (a < b) := by
  rw [Bool.eq_iff_iff]
  simp [intLt, intLe_iff]

def IE.eq : IE → IE → Bool
  | .lit a, .lit b => intEq a b
  | .var i, .var j => Nat.beq i j
  | .add a b, .add c d => a.eq c && b.eq d
  | .sub a b, .sub c d => a.eq c && b.eq d
  | .mul a b, .mul c d => a.eq c && b.eq d
  | .wrap k a, .wrap l b => kindEq k l && a.eq b
  | .bits o k a b, .bits p l c d => opEq o p && kindEq k l && a.eq c && b.eq d
  | .quo a b, .quo c d => a.eq c && b.eq d
  | .rem a b, .rem c d => a.eq c && b.eq d
  | .shl k a b, .shl l c d => kindEq k l && a.eq c && b.eq d
  | .shr k a b, .shr l c d => kindEq k l && a.eq c && b.eq d
  | _, _ => false
theorem IE.eq_eq {a b : IE} (h : a.eq b = true) : a = b := by
  induction a generalizing b with
  | lit a => cases b <;> simp [IE.eq] at h; exact congrArg _ (intEq_eq h)
  | var i => cases b <;> simp [IE.eq] at h; exact congrArg _ h
  | add a b iha ihb => cases b <;> simp [IE.eq] at h <;> simp [iha h.1, ihb h.2]
  | sub a b iha ihb => cases b <;> simp [IE.eq] at h <;> simp [iha h.1, ihb h.2]
  | mul a b iha ihb => cases b <;> simp [IE.eq] at h <;> simp [iha h.1, ihb h.2]
  | wrap k a iha => cases b <;> simp [IE.eq] at h <;> simp [kindEq_eq h.1, iha h.2]
  | bits o k a b iha ihb => cases b <;> simp [IE.eq] at h <;> simp [opEq_eq h.1.1.1, kindEq_eq h.1.1.2, iha h.1.2, ihb h.2]
  | quo a b iha ihb => cases b <;> simp [IE.eq] at h <;> simp [iha h.1, ihb h.2]
  | rem a b iha ihb => cases b <;> simp [IE.eq] at h <;> simp [iha h.1, ihb h.2]
  | shl k a b iha ihb => cases b <;> simp [IE.eq] at h <;> simp [kindEq_eq h.1.1, iha h.1.2, ihb h.2]
  | shr k a b iha ihb => cases b <;> simp [IE.eq] at h <;> simp [kindEq_eq h.1.1, iha h.1.2, ihb h.2]

/-! ranges -/
def kLo : IntKind → Int
  | .i8 => -128 | .i16 => -32768 | .i32 => -2147483648 | .i64 => -9223372036854775808 | _ => 0
def kHi : IntKind → Int
  | .i8 => 127 | .i16 => 32767 | .i32 => 2147483647 | .i64 => 9223372036854775807
  | .u8 => 255 | .u16 => 65535 | .u32 => 4294967295 | .u64 => 18446744073709551615
def wrapL : IntKind → Int → Int
  | .u8, n => n % 256
  | .u16, n => n % 65536
  | .u32, n => n % 4294967296
  | .u64, n => n % 18446744073709551616
  | .i8, n => if 128 ≤ n % 256 then n % 256 - 256 else n % 256
  | .i16, n => if 32768 ≤ n % 65536 then n % 65536 - 65536 else n % 65536
  | .i32, n => if 2147483648 ≤ n % 4294967296 then n % 4294967296 - 4294967296 else n % 4294967296
  | .i64, n => if 9223372036854775808 ≤ n % 18446744073709551616 then n % 18446744073709551616 - 18446744073709551616 else n % 18446744073709551616
theorem wrap_eq (k : IntKind) (n : Int) : k.wrap n = wrapL k n := by
  cases k <;> simp [IntKind.wrap, wrapL, IntKind.bits, IntKind.signed]
theorem wrap_mem (k : IntKind) (n : Int) : kLo k ≤ k.wrap n ∧ k.wrap n ≤ kHi k := by
  rw [wrap_eq]
  cases k <;> simp only [wrapL, kLo, kHi] <;> (try split) <;> omega
theorem wrap_id (k : IntKind) (n : Int) (h : kLo k ≤ n) (h' : n ≤ kHi k) : k.wrap n = n := by
  rw [wrap_eq]
  cases k <;> simp only [wrapL, kLo, kHi] at * <;> (try split) <;> omega
/-- 'wrap' of a number, in few steps. -/
def wrapF (k : IntKind) (n : Int) : Int :=
  match intLe (kLo k) n && intLe n (kHi k) with
  | true => n
  | false => wrapL k n
theorem wrapF_eq (k : IntKind) (n : Int) : wrapF k n = k.wrap n := by
  unfold wrapF
  cases h : intLe (kLo k) n && intLe n (kHi k)
  · exact (wrap_eq k n).symm
  · simp [intLe_iff] at h
    exact (wrap_id k n h.1 h.2).symm
end Go.Sx
