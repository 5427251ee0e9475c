/- What a memory answers and becomes, in terms of its row. No condition. -/
import Derived.Test.YtpoianhfjgjajaaGreatSxN
set_option linter.unusedSimpArgs false
set_option linter.unusedVariables false
namespace Go.Sx
open Go.RowKit (Below)
noncomputable section
/-! rows -/
theorem rowSet_pos (d j v : Int) : 0 ≤ rowSet d j v := Int.natCast_nonneg _
theorem dig_lt (n j : Nat) : dig n j < 2 ^ 80 := Nat.mod_lt _ (Nat.two_pow_pos _)
theorem rowDig_rowPut {u : Nat} (h : u < 2 ^ 80) : rowDig (rowPut u) = u := by
  unfold rowDig rowPut
  split
  · have : ((u : Int) % 1208925819614629174706176).toNat = u := by omega
    exact this
  · have : (((u : Int) - 1208925819614629174706176) % 1208925819614629174706176).toNat = u := by omega
    exact this
theorem rowSet_self {d : Int} (h : 0 ≤ d) (i : Nat) : rowSet d i (rowGet d i) = d := by
  have h1 := rowSet_toNat d (rowGet d i) i
  rw [rowGet_dig, rowDig_rowPut (dig_lt _ _)] at h1
  have h2 : put d.toNat i (dig d.toNat i) = d.toNat := by
    unfold put
    have : dig d.toNat i * 2 ^ (80 * i) ≤ d.toNat := by
      unfold dig
      exact Nat.le_trans (Nat.mul_le_mul_right _ (Nat.mod_le _ _)) (Nat.div_mul_le_self _ _)
    omega
  rw [h2] at h1
  have := rowSet_pos d i (rowGet d i)
  rw [rowGet_dig] at this
  rw [rowGet_dig]
  omega
theorem dig_succ (n j : Nat) : dig n (j + 1) = dig (n / 2 ^ 80) j := by
  unfold dig
  rw [show 80 * (j + 1) = 80 + 80 * j by omega, Nat.pow_add, Nat.div_div_eq_div_mul]
theorem dig_ext : ∀ (a b : Nat), (∀ j, dig a j = dig b j) → a = b := by
  intro a
  induction a using Nat.strongRecOn with
  | _ a ih =>
    intro b h
    have h0 : a % 2 ^ 80 = b % 2 ^ 80 := by have := h 0; unfold dig at this; simpa using this
    have hs : ∀ j, dig (a / 2 ^ 80) j = dig (b / 2 ^ 80) j := fun j => by rw [← dig_succ, ← dig_succ]; exact h _
    have e : a / 2 ^ 80 = b / 2 ^ 80 := by
      by_cases ha : a = 0
      · subst ha
        have z : ∀ n : Nat, (∀ j, dig n j = 0) → n = 0 := by
          intro n
          induction n using Nat.strongRecOn with
          | _ n ih =>
            intro hz
            by_cases hn : n = 0
            · exact hn
            · have h1 : n % 2 ^ 80 = 0 := by have := hz 0; unfold dig at this; simpa using this
              have h2 := ih (n / 2 ^ 80) (Nat.div_lt_self (by omega) (by decide)) (fun j => by rw [← dig_succ]; exact hz _)
              omega
        have hz : ∀ j, dig 0 j = 0 := fun j => by unfold dig; simp
        have := z b fun j => by rw [← h j]; exact hz j
        rw [this]
      · exact ih (a / 2 ^ 80) (Nat.div_lt_self (by omega) (by decide)) _ hs
    omega
theorem row_ext {a b : Int} (ha : 0 ≤ a) (hb : 0 ≤ b) (h : ∀ j : Nat, rowGet a j = rowGet b j) : a = b := by
  have : a.toNat = b.toNat := dig_ext _ _ fun j => by
    have := h j
    rw [rowGet_dig, rowGet_dig] at this
    have := congrArg rowDig this
    rwa [rowDig_rowPut (dig_lt _ _), rowDig_rowPut (dig_lt _ _)] at this
  omega
theorem rowGet_byte {d v : Int} {i j : Nat} (hv : isByte v) : rowGet (rowSet d i v) j = if j = i then v else rowGet d j :=
  rowGet_set d v i j (by obtain ⟨h1, h2⟩ := hv; omega) (by obtain ⟨h1, h2⟩ := hv; omega)
theorem wrap_byte {v : Int} (h : isByte v) : IntKind.u8.wrap v = v := wrap_id .u8 _ (by simp only [kLo]; exact h.1) (by simp only [kHi]; exact h.2)
theorem byte_wrap (v : Int) : isByte (IntKind.u8.wrap v) := by
  have := wrap_mem .u8 v
  simp only [kLo, kHi] at this
  exact this
/-- Several digits set. -/
def setN (M : Int) (ix : Nat → Nat) (g : Nat → Int) : Nat → Int
  | 0 => M
  | n + 1 => rowSet (setN M ix g n) (ix n) (g n)
theorem setN_at {M : Int} {ix : Nat → Nat} {g : Nat → Int} (hi : ∀ i j, ix i = ix j → i = j) (hg : ∀ j, inRow (g j)) : ∀ (n j : Nat), j < n → rowGet (setN M ix g n) (ix j) = g j := by
  intro n
  induction n with
  | zero => intro j h; omega
  | succ n ih =>
    intro j h
    show rowGet (rowSet (setN M ix g n) (ix n) (g n)) (ix j) = g j
    rw [rowGet_set _ _ _ _ (hg n).1 (hg n).2]
    by_cases e : ix j = ix n
    · rw [if_pos e, hi _ _ e]
    · rw [if_neg e]
      exact ih j (by have : j ≠ n := fun h => e (by rw [h]); omega)
theorem setN_out {M : Int} {ix : Nat → Nat} {g : Nat → Int} : ∀ (n i : Nat), (∀ j, j < n → i ≠ ix j) → rowGet (setN M ix g n) i = rowGet M i := by
  intro n
  induction n with
  | zero => intro i _; rfl
  | succ n ih =>
    intro i h
    show rowGet (rowSet (setN M ix g n) (ix n) (g n)) i = _
    rw [rowGet_set_ne _ _ (h n (by omega))]
    exact ih i fun j hj => h j (by omega)
/-! the memory -/
def inM (M a : Int) : Bool := decide (a / 256 < mN M)
def ad (a i : Int) : Int := IntKind.u32.wrap (a + i)
def pkS (M a : Int) : Int := if inM M a then IntKind.u8.wrap (rowGet M (a * 4)) else 0
def cdS (M a : Int) : Int := if inM M a then IntKind.u8.wrap (if mCoh M then rowGet M (a * 4) else rowGet M (a * 4 + 1)) else 0
def rtS (M p : Int) : Int := if 0 ≤ p ∧ p < mN M then IntKind.i64.wrap (rowGet M (p * 4 + 2)) else 0
def okS (M a r : Int) : Bool := inM M a && decide (bitsI .and .i64 (IntKind.i64.wrap (rowGet M (a / 256 * 4 + 2))) r ≠ 0)
def chS (M a r : Int) : Nat → Int → Option Int
  | 0, _ => none
  | n + 1, i => if okS M (ad a i) r then chS M a r n (i + 1) else some (ad a i)
/-- z: how many bytes, and which right: 8 n + r. -/
def chOk (M a z : Int) : Int := match chS M a (z % 8) (z / 8).toNat 0 with
  | none => 1
  | some _ => 0
def chAt (M a z : Int) : Int := match chS M a (z % 8) (z / 8).toNat 0 with
  | none => 0
  | some x => x
def stS (M a b : Int) : Int := if inM M a then rowSet M (a * 4) b else M
def prS (M p r : Int) : Int := if 0 ≤ p ∧ p < mN M then rowSet M (p * 4 + 2) (bitsI .and .i64 r 7) else M
def ixC (p j : Nat) : Nat := 4 * (256 * p + j) + 1
def syS (M a : Int) : Int := if inM M a && !mCoh M then setN M (ixC (a / 256).toNat) (fun j => mD M (256 * (a / 256).toNat + j)) 256 else M
/-- The image of page p, by a row and how many of its digits. -/
def scS (M p d n : Int) : Int := if (0 ≤ p ∧ p < mN M) ∧ mCoh M = false then setN M (ixC p.toNat) (fun j => IntKind.u8.wrap (rowGet d j)) (min n.toNat 256) else M
def poS (M a d : Int) : Nat → Int
  | 0 => M
  | n + 1 => stS (poS M a d n) (ad a n) (IntKind.u8.wrap (rowGet d n))
def b2 (b : Bool) : Int := if b then 1 else 0
/-! the rows that the reference has -/
def dataR (M : Int) : Int := (rowOf ((List.range (256 * (mN M).toNat)).map fun i => mD M i) : Nat)
def imgR (M : Int) : Int := (rowOf ((List.range (256 * (mN M).toNat)).map fun i => mC M i) : Nat)
def rgtR (M : Int) : Int := (rowOf ((List.range (mN M).toNat).map fun i => mR M i) : Nat)
def gA (c : Nat) (x y z : Int) : Int :=
  match c with
  | 9 => pairI x y
  | 10 => pgD x y.toNat
  | 11 => pgC x y.toNat
  | 14 => dataR x
  | 15 => imgR x
  | 16 => rgtR x
  | 20 => pkS x y
  | 21 => cdS x y
  | 22 => b2 (okS x y z)
  | 23 => rtS x y
  | 24 => chOk x y z
  | 25 => chAt x y z
  | 30 => stS x y z
  | 31 => prS x y z
  | 33 => syS x y
  | 34 => scS x y (unpI z).1 (unpI z).2
  | 35 => poS x y (unpI z).1 (unpI z).2.toNat
  | _ => 0
def Base (G : Nat → Int → Int → Int → Int) : Prop := ∀ c, c < 100 → ∀ x y z, G c x y z = gA c x y z
theorem Base.pg {G : Nat → Int → Int → Int → Int} (h : Base G) : ∀ M p z, G 10 M p z = pgD M p.toNat ∧ G 11 M p z = pgC M p.toNat := fun M p z => ⟨h 10 (by decide) M p z, h 11 (by decide) M p z⟩
theorem Base.packs {G : Nat → Int → Int → Int → Int} (h : Base G) : Packs G := fun x y z => h 9 (by decide) x y z
theorem fn_ev {G : Nat → Int → Int → Int → Int} (hG : Base G) {GH : Nat → Ghost} {ρ : Env} (h : ρ.std G GH) {c : Nat} (h1 : 7 < c) (h2 : c < 100) (x y z : Int) : fnI ρ c x y z = gA c x y z := by
  rw [fn_big h1, h.1, hG c h2]
/-! what becomes of the digits -/
theorem memNext_st {M b : Int} {n : Nat} (hm : memOk M) (hin : n / 256 < (mN M).toNat) (hb : isByte b) : memNext M (rowSet M ((4 * n : Nat) : Int) b) (n / 256) (rowSet (pgD M (n / 256)) ((n % 256 : Nat) : Int) b) (pgC M (n / 256)) (mR M (n / 256)) := by
  have hn := Nat.div_add_mod n 256
  have hlt := Nat.mod_lt n (show 0 < 256 by decide)
  refine ⟨?_, ?_, fun q j hq hqp hj => ⟨?_, fun _ => ?_⟩, fun q hq hqp => ?_, fun j hj => ?_, fun _ j hj => ?_, ?_, hm.r _ hin⟩
  · exact rowGet_set_ne M b (by omega)
  · unfold mCoh; rw [rowGet_set_ne M b (by omega)]
  · exact rowGet_set_ne M b (by omega)
  · exact rowGet_set_ne M b (by omega)
  · exact rowGet_set_ne M b (by omega)
  · unfold mD
    rw [rowGet_byte hb, rowGet_byte hb, pgD_get' M _ j hj]
    by_cases e : j = n % 256
    · rw [if_pos (by omega), if_pos e]
    · rw [if_neg (by omega), if_neg e]
      rfl
  · unfold mC
    rw [rowGet_set_ne M b (by omega), pgC_get' M _ j hj]
    rfl
  · exact rowGet_set_ne M b (by omega)
theorem memNext_pr {M r : Int} {p : Nat} (hm : memOk M) (hin : p < (mN M).toNat) (hr : 0 ≤ r ∧ r ≤ 7) : memNext M (rowSet M ((4 * p + 2 : Nat) : Int) r) p (pgD M p) (pgC M p) r := by
  have hb : isByte r := ⟨hr.1, by omega⟩
  refine ⟨?_, ?_, fun q j hq hqp hj => ⟨?_, fun _ => ?_⟩, fun q hq hqp => ?_, fun j hj => ?_, fun _ j hj => ?_, ?_, hr⟩
  · exact rowGet_set_ne M r (by omega)
  · unfold mCoh; rw [rowGet_set_ne M r (by omega)]
  · exact rowGet_set_ne M r (by omega)
  · exact rowGet_set_ne M r (by omega)
  · exact rowGet_set_ne M r (by omega)
  · unfold mD
    rw [rowGet_set_ne M r (by omega), pgD_get' M _ j hj]
    rfl
  · unfold mC
    rw [rowGet_set_ne M r (by omega), pgC_get' M _ j hj]
    rfl
  · unfold mR
    rw [rowGet_byte hb, if_pos rfl]
theorem ixC_inj {p i j : Nat} (h : ixC p i = ixC p j) : i = j := by unfold ixC at h; omega
theorem memNext_im {M : Int} {p n : Nat} {g : Nat → Int} (hm : memOk M) (hin : p < (mN M).toNat) (hg' : ∀ j, inRow (g j)) (hn : n ≤ 256) {C : Int} (hC : ∀ j : Nat, j < 256 → rowGet C j = if j < n then g j else mC M (256 * p + j)) : memNext M (setN M (ixC p) g n) p (pgD M p) C (mR M p) := by
  have out : ∀ i, (∀ j, j < n → i ≠ ixC p j) → rowGet (setN M (ixC p) g n) i = rowGet M i := setN_out n
  refine ⟨?_, ?_, fun q j hq hqp hj => ⟨?_, fun _ => ?_⟩, fun q hq hqp => ?_, fun j hj => ?_, fun _ j hj => ?_, ?_, hm.r p hin⟩
  · exact out 3 fun j _ => by unfold ixC; omega
  · unfold mCoh; rw [out 7 fun j _ => by unfold ixC; omega]
  · exact out _ fun j' _ => by unfold ixC; omega
  · exact out _ fun j' h => by unfold ixC; omega
  · exact out _ fun j' _ => by unfold ixC; omega
  · unfold mD
    rw [out _ fun j' _ => by unfold ixC; omega, pgD_get' M _ j hj]
    rfl
  · rw [hC j hj]
    by_cases e : j < n
    · rw [if_pos e]
      exact setN_at (fun _ _ => ixC_inj) hg' n j e
    · rw [if_neg e]
      exact out _ fun j' h => by unfold ixC; omega
  · exact out _ fun j' _ => by unfold ixC; omega
end
end Go.Sx
