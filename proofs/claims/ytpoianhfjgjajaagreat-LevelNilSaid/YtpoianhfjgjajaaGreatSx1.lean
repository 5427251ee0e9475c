/- Symbolic integers and tests with their values: smart constructors and their laws. No condition. -/
import Derived.Calls
namespace Go.Sx

/-- What is known of a thing that lies in several blocks: what it says for the numbers that it holds, the head block given; which blocks it takes. -/
structure Ghost where
  rel : List Int → World → Nat → Prop
  foot : World → Nat → Nat → Prop
  hd : Nat
  self : ∀ {vs w g}, rel vs w g → foot w g g
  inb : ∀ {vs w g b}, rel vs w g → foot w g b → b < w.heap.size
  frame : ∀ {vs w w' g}, rel vs w g → w.heap.size ≤ w'.heap.size → (∀ b, foot w g b → w'.heap[b]? = w.heap[b]?) → rel vs w' g ∧ ∀ b, foot w' g b → foot w g b
  stay : ∀ {vs w g cs e fr j v}, rel vs w g → w.heap[g]? = some (.cells cs e fr) → hd ≤ j → rel vs (w.setCell ⟨g, j, none⟩ v) g ∧ ∀ b, foot (w.setCell ⟨g, j, none⟩ v) g b → foot w g b
/-- Nothing at all. -/
def Ghost.no : Ghost := ⟨fun _ _ _ => False, fun _ _ _ => False, 0, fun h => h.elim, fun h => h.elim, fun h => h.elim, fun h => h.elim⟩

/-- What the variables of symbolic values stand for. -/
structure Env where
  i : Nat → Int
  b : Nat → Bool
  g : Nat → Int → Int → Int → Int := fun _ _ _ _ => 0
  gh : Nat → Ghost := fun _ => Ghost.no
  sn : Array Value := #[]

/-! rows of integers as one number: digits of 80 bits -/
def rowPut (u : Nat) : Int := if Nat.blt u 604462909807314587353088 then (u : Int) else (u : Int) - 1208925819614629174706176
def rowGet (d j : Int) : Int := rowPut (Nat.mod (Nat.shiftRight d.toNat (Nat.mul 80 j.toNat)) 1208925819614629174706176)
def rowDig (v : Int) : Nat := (v % 1208925819614629174706176).toNat
def rowSet (d j v : Int) : Int :=
  let s := Nat.mul 80 j.toNat
  let n := d.toNat
  ((Nat.add (Nat.sub n (Nat.shiftLeft (Nat.mod (Nat.shiftRight n s) 1208925819614629174706176) s)) (Nat.shiftLeft (rowDig v) s) : Nat) : Int)
/-- n digits from the one numbered o on. -/
def rowCut (d o n : Int) : Int := (Nat.mod (Nat.shiftRight d.toNat (Nat.mul 80 o.toNat)) (Nat.shiftLeft 1 (Nat.mul 80 n.toNat)) : Nat)
/-- e behind n digits of d. -/
def rowCat (d n e : Int) : Int := (Nat.add d.toNat (Nat.shiftLeft e.toNat (Nat.mul 80 n.toNat)) : Nat)

/-- The number of a list. -/
def rowOf : List Int → Nat
  | [] => 0
  | v :: l => rowDig v + 2 ^ 80 * rowOf l
/-- e itself where its n first digits are those of d; else d's n first digits before e. -/
def rowTop (d n e : Int) : Int := if rowCut d 0 n = rowCut e 0 n then e else rowCat (rowCut d 0 n) n e
def kOf (z : Int) : IntKind :=
  match z with
  | 0 => .i8 | 1 => .i16 | 2 => .i32 | 3 => .i64 | 4 => .u8 | 5 => .u16 | 6 => .u32 | _ => .u64
/-- n digits, as numbers of a kind. -/
def rowWrap (d n z : Int) : Int := (rowOf ((List.range n.toNat).map fun j => (kOf z).wrap (rowGet d (j : Nat))) : Nat)
inductive IE where
  | lit (n : Int)
  | var (i : Nat)
  | add (a b : IE)
  | sub (a b : IE)
  | mul (a b : IE)
  | wrap (k : IntKind) (a : IE)
  | bits (op : BinOp) (k : IntKind) (a b : IE)
  | quo (a b : IE)
  | rem (a b : IE)
  | shl (k : IntKind) (a b : IE)
  | shr (k : IntKind) (a b : IE)
  | fn (c : Nat) (x y z : IE)
  | sel (s : Bool) (a b x y : IE)
  deriving Inhabited

def bitsI (op : BinOp) (k : IntKind) (x y : Int) : Int :=
  let a := BitVec.ofInt k.bits x
  let b := BitVec.ofInt k.bits y
  match op with
  | .and => k.wrap (a &&& b).toNat
  | .or => k.wrap (a ||| b).toNat
  | .xor => k.wrap (a ^^^ b).toNat
  | _ => k.wrap (a &&& ~~~b).toNat

def shlI (k : IntKind) (x y : Int) : Int := k.wrap (x * 2 ^ (min y.toNat k.bits))
def shrI (k : IntKind) (x y : Int) : Int := x.fdiv (2 ^ (min y.toNat k.bits))

def fnL (c : Nat) (x y z : Int) : Option Int :=
  match c with
  | 0 => some (rowGet x y)
  | 1 => some (rowSet x y z)
  | 2 => some (rowCut x y z)
  | 3 => some (rowCat x y z)
  | 4 => some (rowWrap x y z)
  | 5 => some (rowTop x y z)
  | _ => none
def fnI (ρ : Env) (c : Nat) (x y z : Int) : Int :=
  match fnL c x y z with
  | some v => v
  | none => ρ.g c x y z
def selI (s : Bool) (a b x y : Int) : Int := if (if s then a < b else a = b) then x else y

def IE.ev (ρ : Env) : IE → Int
  | .lit n => n
  | .var i => ρ.i i
  | .add a b => a.ev ρ + b.ev ρ
  | .sub a b => a.ev ρ - b.ev ρ
  | .mul a b => a.ev ρ * b.ev ρ
  | .wrap k a => k.wrap (a.ev ρ)
  | .bits op k a b => bitsI op k (a.ev ρ) (b.ev ρ)
  | .quo a b => (a.ev ρ).tdiv (b.ev ρ)
  | .rem a b => (a.ev ρ).tmod (b.ev ρ)
  | .shl k a b => shlI k (a.ev ρ) (b.ev ρ)
  | .shr k a b => shrI k (a.ev ρ) (b.ev ρ)
  | .fn c x y z => fnI ρ c (x.ev ρ) (y.ev ρ) (z.ev ρ)
  | .sel s a b x y => selI s (a.ev ρ) (b.ev ρ) (x.ev ρ) (y.ev ρ)

/-! equality of signs -/
def kindNo : IntKind → Nat
  | .i8 => 0 | .i16 => 1 | .i32 => 2 | .i64 => 3 | .u8 => 4 | .u16 => 5 | .u32 => 6 | .u64 => 7
def kindEq (a b : IntKind) : Bool := Nat.beq (kindNo a) (kindNo b)
theorem kindEq_eq {a b : IntKind} (h : kindEq a b = true) : a = b := by
  cases a <;> cases b <;> first | rfl | cases h
def opNo : BinOp → Nat
  | .add => 0 | .sub => 1 | .mul => 2 | .quo => 3 | .rem => 4 | .and => 5 | .or => 6 | .xor => 7 | .shl => 8 | .shr => 9 | .andNot => 10
  | .eql => 11 | .neq => 12 | .lss => 13 | .leq => 14 | .gtr => 15 | .geq => 16
def opEq (a b : BinOp) : Bool := Nat.beq (opNo a) (opNo b)
theorem opEq_eq {a b : BinOp} (h : opEq a b = true) : a = b := by
  cases a <;> cases b <;> first | rfl | cases h

def intEq : Int → Int → Bool
  | .ofNat a, .ofNat b => Nat.beq a b
  | .negSucc a, .negSucc b => Nat.beq a b
  | _, _ => false
theorem intEq_eq {a b : Int} (h : intEq a b = true) : a = b := by
  cases a <;> cases b <;> simp [intEq] at h <;> simp [h]
theorem intEq_iff {a b : Int} : intEq a b = decide (a = b) := by
  rw [Bool.eq_iff_iff]
  cases a <;> cases b <;> simp [intEq, Nat.beq_eq] <;> omega
def intLe : Int → Int → Bool
  | .ofNat a, .ofNat b => Nat.ble a b
  | .negSucc a, .negSucc b => Nat.ble b a
  | .negSucc _, .ofNat _ => true
  | .ofNat _, .negSucc _ => false
theorem intLe_iff {a b : Int} : intLe a b = decide (a ≤ b) := by
  rw [Bool.eq_iff_iff]
  cases a <;> cases b <;> simp [intLe, Nat.ble_eq] <;> omega
def intLt (a b : Int) : Bool := !(intLe b a)
theorem intLt_iff {a b : Int} : intLt a b = decide (a < b) := by
  rw [Bool.eq_iff_iff]
  simp [intLt, intLe_iff]

def IE.eq : IE → IE → Bool
  | .lit a, .lit b => intEq a b
  | .var i, .var j => Nat.beq i j
  | .add a b, .add c d => a.eq c && b.eq d
  | .sub a b, .sub c d => a.eq c && b.eq d
  | .mul a b, .mul c d => a.eq c && b.eq d
  | .wrap k a, .wrap l b => kindEq k l && a.eq b
  | .bits o k a b, .bits p l c d => opEq o p && kindEq k l && a.eq c && b.eq d
  | .quo a b, .quo c d => a.eq c && b.eq d
  | .rem a b, .rem c d => a.eq c && b.eq d
  | .shl k a b, .shl l c d => kindEq k l && a.eq c && b.eq d
  | .shr k a b, .shr l c d => kindEq k l && a.eq c && b.eq d
  | .fn c x y z, .fn d x' y' z' => Nat.beq c d && x.eq x' && y.eq y' && z.eq z'
  | .sel s a b x y, .sel s' a' b' x' y' => (s == s') && a.eq a' && b.eq b' && x.eq x' && y.eq y'
  | _, _ => false
theorem IE.eq_eq {a b : IE} (h : a.eq b = true) : a = b := by
  induction a generalizing b with
  | lit a => cases b <;> simp [IE.eq] at h; exact congrArg _ (intEq_eq h)
  | var i => cases b <;> simp [IE.eq] at h; exact congrArg _ h
  | add a b iha ihb => cases b <;> simp [IE.eq] at h <;> simp [iha h.1, ihb h.2]
  | sub a b iha ihb => cases b <;> simp [IE.eq] at h <;> simp [iha h.1, ihb h.2]
  | mul a b iha ihb => cases b <;> simp [IE.eq] at h <;> simp [iha h.1, ihb h.2]
  | wrap k a iha => cases b <;> simp [IE.eq] at h <;> simp [kindEq_eq h.1, iha h.2]
  | bits o k a b iha ihb => cases b <;> simp [IE.eq] at h <;> simp [opEq_eq h.1.1.1, kindEq_eq h.1.1.2, iha h.1.2, ihb h.2]
  | quo a b iha ihb => cases b <;> simp [IE.eq] at h <;> simp [iha h.1, ihb h.2]
  | rem a b iha ihb => cases b <;> simp [IE.eq] at h <;> simp [iha h.1, ihb h.2]
  | shl k a b iha ihb => cases b <;> simp [IE.eq] at h <;> simp [kindEq_eq h.1.1, iha h.1.2, ihb h.2]
  | shr k a b iha ihb => cases b <;> simp [IE.eq] at h <;> simp [kindEq_eq h.1.1, iha h.1.2, ihb h.2]
  | fn c x y z ihx ihy ihz => cases b <;> simp [IE.eq] at h <;> simp [h.1.1.1, ihx h.1.1.2, ihy h.1.2, ihz h.2]
  | sel s a b x y iha ihb ihx ihy => cases b <;> simp [IE.eq] at h <;> simp [h.1.1.1.1, iha h.1.1.1.2, ihb h.1.1.2, ihx h.1.2, ihy h.2]

/-! ranges -/
def kLo : IntKind → Int
  | .i8 => -128 | .i16 => -32768 | .i32 => -2147483648 | .i64 => -9223372036854775808 | _ => 0
def kHi : IntKind → Int
  | .i8 => 127 | .i16 => 32767 | .i32 => 2147483647 | .i64 => 9223372036854775807
  | .u8 => 255 | .u16 => 65535 | .u32 => 4294967295 | .u64 => 18446744073709551615
def wrapL : IntKind → Int → Int
  | .u8, n => n % 256
  | .u16, n => n % 65536
  | .u32, n => n % 4294967296
  | .u64, n => n % 18446744073709551616
  | .i8, n => if 128 ≤ n % 256 then n % 256 - 256 else n % 256
  | .i16, n => if 32768 ≤ n % 65536 then n % 65536 - 65536 else n % 65536
  | .i32, n => if 2147483648 ≤ n % 4294967296 then n % 4294967296 - 4294967296 else n % 4294967296
  | .i64, n => if 9223372036854775808 ≤ n % 18446744073709551616 then n % 18446744073709551616 - 18446744073709551616 else n % 18446744073709551616
theorem wrap_eq (k : IntKind) (n : Int) : k.wrap n = wrapL k n := by
  cases k <;> simp [IntKind.wrap, wrapL, IntKind.bits, IntKind.signed]
theorem wrap_mem (k : IntKind) (n : Int) : kLo k ≤ k.wrap n ∧ k.wrap n ≤ kHi k := by
  rw [wrap_eq]
  cases k <;> simp only [wrapL, kLo, kHi] <;> (try split) <;> omega
theorem wrap_id (k : IntKind) (n : Int) (h : kLo k ≤ n) (h' : n ≤ kHi k) : k.wrap n = n := by
  rw [wrap_eq]
  cases k <;> simp only [wrapL, kLo, kHi] at * <;> (try split) <;> omega
/-- 'wrap' of a number, in few steps. -/
def wrapF (k : IntKind) (n : Int) : Int :=
  match intLe (kLo k) n && intLe n (kHi k) with
  | true => n
  | false => wrapL k n
theorem wrapF_eq (k : IntKind) (n : Int) : wrapF k n = k.wrap n := by
  unfold wrapF
  cases h : intLe (kLo k) n && intLe n (kHi k)
  · exact (wrap_eq k n).symm
  · simp [intLe_iff] at h
    exact (wrap_id k n h.1 h.2).symm
end Go.Sx
