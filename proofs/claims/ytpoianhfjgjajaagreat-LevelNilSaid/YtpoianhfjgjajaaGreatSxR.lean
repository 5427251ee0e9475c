/- Rows of integers as one number: what the digits are. No condition. -/
import Derived.Test.YtpoianhfjgjajaaGreatSx3
namespace Go.Sx

def rowB : Nat := 1208925819614629174706176
theorem rowB_eq : rowB = 2 ^ 80 := by decide
def dig (n j : Nat) : Nat := n / 2 ^ (80 * j) % 2 ^ 80
theorem rowGet_dig (d : Int) (j : Nat) : rowGet d j = rowPut (dig d.toNat j) := by
  unfold rowGet dig
  have e : (1208925819614629174706176 : Nat) = 2 ^ 80 := by decide
  show rowPut (Nat.mod (Nat.shiftRight d.toNat (Nat.mul 80 (j : Int).toNat)) 1208925819614629174706176) = _
  rw [Int.toNat_natCast, e]
  congr 1
  show (d.toNat >>> (80 * j)) % 2 ^ 80 = _
  rw [Nat.shiftRight_eq_div_pow]
theorem pow_split {i j : Nat} (h : i ≤ j) : 2 ^ (80 * j) = 2 ^ (80 * i) * 2 ^ (80 * (j - i)) := by
  rw [← Nat.pow_add]
  congr 1
  omega
/-- A number with its digit at i turned. -/
def put (n i u : Nat) : Nat := n - dig n i * 2 ^ (80 * i) + u * 2 ^ (80 * i)
theorem put_split (n i u : Nat) : put n i u = n % 2 ^ (80 * i) + 2 ^ (80 * i) * (u + 2 ^ 80 * (n / 2 ^ (80 * i) / 2 ^ 80)) := by
  unfold put dig
  have h1 := Nat.div_add_mod n (2 ^ (80 * i))
  have h2 := Nat.div_add_mod (n / 2 ^ (80 * i)) (2 ^ 80)
  generalize n / 2 ^ (80 * i) / 2 ^ 80 = q at *
  generalize n / 2 ^ (80 * i) % 2 ^ 80 = r at *
  generalize n % 2 ^ (80 * i) = m at *
  generalize hp : 2 ^ (80 * i) = p at *
  generalize n / p = x at *
  subst h2
  rw [← h1, Nat.mul_add, Nat.mul_add, Nat.mul_comm r p, Nat.mul_comm u p]
  omega
theorem dig_low {m p x i j : Nat} (hp : p = 2 ^ (80 * i)) (h : j < i) : dig (m + p * x) j = dig m j := by
  unfold dig
  have e : p = 2 ^ (80 * j) * (2 ^ 80 * 2 ^ (80 * (i - j - 1))) := by
    rw [hp, pow_split (Nat.le_of_lt h)]
    congr 1
    rw [← Nat.pow_add]
    congr 1
    omega
  rw [e, Nat.mul_assoc, Nat.add_mul_div_left _ _ (Nat.two_pow_pos _), Nat.mul_assoc, Nat.add_mul_mod_self_left]
theorem dig_high {m p x i j : Nat} (hp : p = 2 ^ (80 * i)) (hm : m < p) (h : i ≤ j) : dig (m + p * x) j = x / 2 ^ (80 * (j - i)) % 2 ^ 80 := by
  unfold dig
  rw [pow_split h, ← Nat.div_div_eq_div_mul, ← hp, Nat.add_mul_div_left _ _ (by omega), Nat.div_eq_of_lt hm, Nat.zero_add]
theorem dig_put (n i u j : Nat) (hu : u < 2 ^ 80) : dig (put n i u) j = if j = i then u else dig n j := by
  have hm : n % 2 ^ (80 * i) < 2 ^ (80 * i) := Nat.mod_lt _ (Nat.two_pow_pos _)
  have hn : n = n % 2 ^ (80 * i) + 2 ^ (80 * i) * (n / 2 ^ (80 * i)) := by have := Nat.div_add_mod n (2 ^ (80 * i)); omega
  rw [put_split]
  split
  · rename_i e
    subst e
    rw [dig_high rfl hm (Nat.le_refl _), Nat.sub_self, Nat.mul_zero, Nat.pow_zero, Nat.div_one, Nat.add_mul_mod_self_left, Nat.mod_eq_of_lt hu]
  · rename_i e
    rcases Nat.lt_or_gt_of_ne e with h | h
    · rw [dig_low rfl h]
      conv => rhs; rw [hn]
      rw [dig_low rfl h]
    · rw [dig_high rfl hm (Nat.le_of_lt h)]
      conv => rhs; rw [hn]
      rw [dig_high rfl hm (Nat.le_of_lt h)]
      have e : 2 ^ (80 * (j - i)) = 2 ^ 80 * 2 ^ (80 * (j - i - 1)) := by
        rw [← Nat.pow_add]
        congr 1
        omega
      rw [e, ← Nat.div_div_eq_div_mul, ← Nat.div_div_eq_div_mul, Nat.add_mul_div_left _ _ (Nat.two_pow_pos _), Nat.div_eq_of_lt hu, Nat.zero_add]
theorem rowDig_lt (v : Int) : rowDig v < 2 ^ 80 := by
  unfold rowDig
  have : (2 : Nat) ^ 80 = 1208925819614629174706176 := by decide
  omega
theorem rowPut_dig (v : Int) (h : -604462909807314587353088 ≤ v) (h' : v < 604462909807314587353088) : rowPut (rowDig v) = v := by
  unfold rowPut rowDig
  split
  · rename_i hb
    have := Nat.le_of_ble_eq_true hb
    omega
  · rename_i hb
    have : ¬ (v % 1208925819614629174706176).toNat < 604462909807314587353088 := by
      intro hlt
      exact hb (Nat.ble_eq_true_of_le hlt)
    omega
theorem rowSet_toNat (d v : Int) (i : Nat) : (rowSet d i v).toNat = put d.toNat i (rowDig v) := by
  unfold rowSet put dig
  have e : (1208925819614629174706176 : Nat) = 2 ^ 80 := by decide
  show ((((d.toNat - ((d.toNat >>> (80 * (i : Int).toNat)) % 1208925819614629174706176) <<< (80 * (i : Int).toNat)) + rowDig v <<< (80 * (i : Int).toNat) : Nat)) : Int).toNat = _
  rw [Int.toNat_natCast, Int.toNat_natCast, Nat.shiftLeft_eq, Nat.shiftLeft_eq, Nat.shiftRight_eq_div_pow, e]
theorem rowGet_set (d v : Int) (i j : Nat) (h : -604462909807314587353088 ≤ v) (h' : v < 604462909807314587353088) : rowGet (rowSet d i v) j = if j = i then v else rowGet d j := by
  rw [rowGet_dig, rowSet_toNat, dig_put _ _ _ _ (rowDig_lt v)]
  split
  · exact rowPut_dig v h h'
  · rw [rowGet_dig]

theorem dig_rowOf : ∀ (l : List Int) (j : Nat), dig (rowOf l) j = match l[j]? with
    | some v => rowDig v
    | none => 0 := by
  intro l
  induction l with
  | nil => intro j; simp [rowOf, dig]
  | cons v l ih =>
    intro j
    cases j with
    | zero =>
      simp only [dig, rowOf, Nat.mul_zero, Nat.pow_zero, Nat.div_one, List.getElem?_cons_zero]
      rw [Nat.add_mul_mod_self_left, Nat.mod_eq_of_lt (rowDig_lt v)]
    | succ j =>
      have := ih j
      simp only [List.getElem?_cons_succ]
      rw [← this]
      show (rowDig v + 2 ^ 80 * rowOf l) / 2 ^ (80 * (j + 1)) % 2 ^ 80 = rowOf l / 2 ^ (80 * j) % 2 ^ 80
      have e : 2 ^ (80 * (j + 1)) = 2 ^ 80 * 2 ^ (80 * j) := by
        rw [← Nat.pow_add]
        congr 1
        omega
      rw [e, ← Nat.div_div_eq_div_mul, Nat.add_mul_div_left _ _ (Nat.two_pow_pos _), Nat.div_eq_of_lt (rowDig_lt v), Nat.zero_add]
def inRow (v : Int) : Prop := -604462909807314587353088 ≤ v ∧ v < 604462909807314587353088
theorem rowGet_of (l : List Int) (j : Nat) (v : Int) (h : l[j]? = some v) (hv : inRow v) : rowGet (rowOf l : Nat) j = v := by
  rw [rowGet_dig, Int.toNat_natCast, dig_rowOf, h]
  exact rowPut_dig v hv.1 hv.2
theorem rowGet_out (l : List Int) (j : Nat) (h : l.length ≤ j) : rowGet (rowOf l : Nat) j = 0 := by
  rw [rowGet_dig, Int.toNat_natCast, dig_rowOf, List.getElem?_eq_none h]
  rfl
theorem kOf_no (k : IntKind) : kOf (kindNo k) = k := by cases k <;> rfl
theorem wrap_inRow (k : IntKind) (n : Int) : inRow (k.wrap n) := by
  have h := wrap_mem k n
  unfold inRow
  cases k <;> simp only [kLo, kHi] at h <;> omega
theorem rowWrap_get (d n z : Int) (j : Nat) (h : j < n.toNat) : rowGet (rowWrap d n z) j = (kOf z).wrap (rowGet d j) :=
  rowGet_of _ j _ (by simp [h]) (wrap_inRow _ _)
theorem kind_inRow {k : IntKind} {v : Int} (h : kLo k ≤ v) (h' : v ≤ kHi k) : inRow v := by
  unfold inRow
  cases k <;> simp only [kLo, kHi] at * <;> omega
theorem rowGet_set_of (d v : Int) (i j : Nat) {k : IntKind} (h : kLo k ≤ v) (h' : v ≤ kHi k) : rowGet (rowSet d i v) j = if j = i then v else rowGet d j :=
  rowGet_set d v i j (kind_inRow h h').1 (kind_inRow h h').2
/-! parts of rows -/
theorem rowCut_toNat (d : Int) (o k : Nat) : (rowCut d o k).toNat = d.toNat / 2 ^ (80 * o) % 2 ^ (80 * k) := by
  unfold rowCut
  show (((d.toNat >>> (80 * (o : Int).toNat)) % (1 <<< (80 * (k : Int).toNat)) : Nat) : Int).toNat = _
  rw [Int.toNat_natCast, Int.toNat_natCast, Int.toNat_natCast, Nat.shiftRight_eq_div_pow, Nat.shiftLeft_eq, Nat.one_mul]
theorem rowCut_lt (d : Int) (o k : Nat) : (rowCut d o k).toNat < 2 ^ (80 * k) := by
  rw [rowCut_toNat]
  exact Nat.mod_lt _ (Nat.two_pow_pos _)
theorem rowGet_cut (d : Int) (o k j : Nat) (h : j < k) : rowGet (rowCut d o k) j = rowGet d (o + j : Nat) := by
  rw [rowGet_dig, rowGet_dig, rowCut_toNat]
  congr 1
  generalize d.toNat = n
  have e1 : dig (n / 2 ^ (80 * o) % 2 ^ (80 * k)) j = dig (n / 2 ^ (80 * o)) j := by
    conv => rhs; rw [← Nat.mod_add_div (n / 2 ^ (80 * o)) (2 ^ (80 * k))]
    exact (dig_low rfl h).symm
  rw [e1]
  unfold dig
  rw [Nat.div_div_eq_div_mul, ← Nat.pow_add, Nat.mul_add]
theorem rowCat_toNat (d e : Int) (k : Nat) : (rowCat d k e).toNat = d.toNat + 2 ^ (80 * k) * e.toNat := by
  unfold rowCat
  show ((d.toNat + e.toNat <<< (80 * (k : Int).toNat) : Nat) : Int).toNat = _
  rw [Int.toNat_natCast, Int.toNat_natCast, Nat.shiftLeft_eq, Nat.mul_comm]
theorem rowGet_catLo (d e : Int) (k j : Nat) (h : j < k) : rowGet (rowCat d k e) j = rowGet d j := by
  rw [rowGet_dig, rowGet_dig, rowCat_toNat, dig_low rfl h]
theorem rowGet_catHi (d e : Int) (k j : Nat) (hd : d.toNat < 2 ^ (80 * k)) (h : k ≤ j) : rowGet (rowCat d k e) j = rowGet e (j - k : Nat) := by
  rw [rowGet_dig, rowGet_dig, rowCat_toNat, dig_high rfl hd h]
  rfl
def kindsSame : List IntKind → List IntKind → Bool
  | [], [] => true
  | a :: l, b :: m => kindEq a b && kindsSame l m
  | _, _ => false
theorem kindsSame_eq : ∀ {l m : List IntKind}, kindsSame l m = true → l = m := by
  intro l
  induction l with
  | nil => intro m h; cases m <;> simp only [kindsSame] at h <;> first | rfl | (cases h; done)
  | cons a l ih =>
    intro m h
    cases m <;> simp only [kindsSame] at h
    · cases h
    · obtain ⟨h1, h2⟩ := Bool.and_eq_true_iff.1 h
      rw [kindEq_eq h1, ih h2]
theorem rowGet_top (d e : Int) (n j : Nat) (h : j < n) : rowGet (rowTop d n e) j = rowGet d j := by
  have e0 : ((0 : Nat) : Int) = 0 := rfl
  unfold rowTop
  split
  · rename_i hc
    have h1 := rowGet_cut e 0 n j h
    have h2 := rowGet_cut d 0 n j h
    rw [Nat.zero_add, e0] at h1 h2
    rw [← h1, ← h2, hc]
  · rw [rowGet_catLo _ _ _ _ h, ← e0, rowGet_cut _ _ _ _ h, Nat.zero_add]
theorem rowTop_of {d e : Int} {n : Int} (h : rowCut d 0 n = rowCut e 0 n) : rowTop d n e = e := by
  unfold rowTop
  rw [if_pos h]
theorem rowTop_congr {d d' : Int} {n e : Int} (h : rowCut d 0 n = rowCut d' 0 n) : rowTop d n e = rowTop d' n e := by
  unfold rowTop
  rw [h]
theorem rowCut_set (d v : Int) (n i : Nat) (h : n ≤ i) : rowCut (rowSet d i v) 0 n = rowCut d 0 n := by
  have key : ∀ x : Int, rowCut x 0 n = ((x.toNat % 2 ^ (80 * n) : Nat) : Int) := fun x => by
    unfold rowCut
    show (((x.toNat >>> (80 * (0 : Int).toNat)) % (1 <<< (80 * (n : Int).toNat)) : Nat) : Int) = _
    rw [Int.toNat_natCast, Nat.shiftLeft_eq, Nat.one_mul]
    rfl
  rw [key, key, rowSet_toNat, put_split]
  generalize d.toNat = m
  congr 1
  have e1 : 2 ^ (80 * i) = 2 ^ (80 * n) * 2 ^ (80 * (i - n)) := pow_split h
  rw [e1, Nat.mul_assoc, Nat.add_mul_mod_self_left, Nat.mod_mul_right_mod]
end Go.Sx
