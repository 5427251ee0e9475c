/- The evaluator of the model, part Sh. No condition. -/
import Derived.Test.YthlmmihlehfoeaaGreatSg
/- The reference's memory read by code that has other things at hand: its slices laid open, and never written. No condition. -/
set_option linter.unusedSimpArgs false
set_option linter.unusedVariables false
namespace Go.Sx
open Go.RowKit (Below)
noncomputable section
def T.keep {α : Type} (p : α → Bool) : T α → T α
  | .nil => .nil
  | .node v l r => .node (match v with
    | none => none
    | some x => match p x with
      | true => some x
      | false => none) (T.keep p l) (T.keep p r)
theorem T.getS_keep {α : Type} (p : α → Bool) : ∀ (t : T α) (k : Nat) (y : α), (t.keep p).getS k = some y → t.getS k = some y ∧ p y = true := by
  intro t
  induction t with
  | nil => intro k y h; cases h
  | node v l r ihl ihr =>
    intro k y
    simp only [T.keep, T.getS]
    cases Nat.beq k 0
    · cases Nat.beq (k % 2) 1
      · exact ihr _ y
      · exact ihl _ y
    · cases v with
      | none => intro h; cases h
      | some x =>
        cases hp : p x
        · intro h
          simp only [hp] at h
          cases h
        · intro h
          simp only [hp] at h
          cases h
          exact ⟨rfl, hp⟩
theorem T.get_keep {α : Type} {p : α → Bool} {t : T α} {k : Nat} {y : α} (h : (t.keep p).get k = some y) : t.get k = some y ∧ p y = true := by
  rw [T.get_eq] at h
  have := T.getS_keep p t k y h
  rw [← T.get_eq] at this
  exact this
theorem ORel.setB {ρ : Env} {f : Ren} {B B' : Nat → Prop} {w : World} {L : Loc} {o : AObj} (h : ORel ρ f B w L o) (hB : o.own = true → ∀ b, o.foot ρ w L b → ¬ B' b) : ORel ρ f B' w L o := by
  cases o with
  | cells c e ow t => obtain ⟨cs, fr, q1, q2, q3, q4⟩ := h; exact ⟨cs, fr, q1, q2, fun ho => ⟨hB ho _ rfl, (q3 ho).2⟩, q4⟩
  | arr ks c n ow => obtain ⟨cs, el, fr, q1, q2, q3, q4⟩ := h; exact ⟨cs, el, fr, q1, q2, fun ho => ⟨hB ho _ rfl, (q3 ho).2⟩, q4⟩
  | map es => obtain ⟨q0, q1⟩ := h; exact ⟨hB rfl _ rfl, q1⟩
  | ghost k vs c => exact ⟨⟨h.1.1, hB rfl⟩, h.2⟩
  | win i s c e ow => obtain ⟨cs, fr, q1, q2, q3, q4⟩ := h; exact ⟨cs, fr, q1, q2, fun ho => ⟨hB ho _ rfl, (q3 ho).2⟩, q4⟩
  | col s c k code m d n => exact h
  | it0 => exact h
/-! the memory's parts -/
def pkN (N : Nat) : IE := .lit (.ofNat N)
def pkL (N : Nat) : IE := .lit (.ofNat (Nat.mul 256 N))
def pkC (M : IE) : BE := .eq (.fn 0 M (.lit 7) (.lit 0)) (.lit 1)
def pkImg (N : Nat) (coh : Bool) (b : Nat) : AVal := match coh with
  | true => .slice none 0 0 0
  | false => .sliceS (b + 2) (.lit 0) (pkL N) 1 false
def pkHead (N : Nat) (coh : Bool) (b : Nat) : T AVal := (((T.nil.set 0 (.sliceS b (.lit 0) (pkL N) 1 false)).set 1 (pkImg N coh b)).set 4 (.sliceS (b + 1) (.lit 0) (pkN N) 1 false)).set 5 (.bool (.lit coh))
theorem pkHead_inv {N : Nat} {coh : Bool} {b k : Nat} {v : AVal} (h : (pkHead N coh b).get k = some v) : (k = 0 ∧ v = .sliceS b (.lit 0) (pkL N) 1 false) ∨ (k = 1 ∧ v = pkImg N coh b) ∨ (k = 4 ∧ v = .sliceS (b + 1) (.lit 0) (pkN N) 1 false) ∨ (k = 5 ∧ v = .bool (.lit coh)) := by
  unfold pkHead at h
  rcases T.get_set h with ⟨e, h⟩ | ⟨_, h⟩
  · exact .inr (.inr (.inr ⟨e, h.symm⟩))
  rcases T.get_set h with ⟨e, h⟩ | ⟨_, h⟩
  · exact .inr (.inr (.inl ⟨e, h.symm⟩))
  rcases T.get_set h with ⟨e, h⟩ | ⟨_, h⟩
  · exact .inr (.inl ⟨e, h.symm⟩)
  rcases T.get_set h with ⟨e, h⟩ | ⟨_, h⟩
  · exact .inl ⟨e, h.symm⟩
  · rw [T.get_nil] at h; cases h
def pkF (c : Nat) (M : IE) : IE := .fn c M (.lit 0) (.lit 0)
def pkArr (N : Nat) (M : IE) (coh : Bool) : List AObj := match coh with
  | true => [.arr [.u8] (pkF 14 M) (pkL N) false, .arr [.i64] (pkF 16 M) (pkN N) false]
  | false => [.arr [.u8] (pkF 14 M) (pkL N) false, .arr [.i64] (pkF 16 M) (pkN N) false, .arr [.u8] (pkF 15 M) (pkL N) false]
/-- The blocks with the one numbered i laid open. -/
def pkOs (N : Nat) (el : TypeId) (os : List AObj) (i : Nat) (M : IE) (coh : Bool) : List AObj := os.set i (.cells (pkHead N coh os.length) el false 6) ++ pkArr N M coh
def Con.peek (c : Con) (N : Nat) (el : TypeId) (i : Nat) (M : IE) (coh : Bool) : Con := { c with os := pkOs N el c.os i M coh, pre := (pkC M, coh) :: c.pre }
def ASt.unpeek (i k : Nat) (M : IE) (s : ASt) : ASt := ⟨s.tm, (s.hp.keep AObj.own).set i (.ghost k [M] .nil), s.nx⟩
theorem pkOs_get {N : Nat} {el : TypeId} {os : List AObj} {i : Nat} {M : IE} {coh : Bool} {x : Nat} {o : AObj} (hi : i < os.length) (h : (pkOs N el os i M coh)[x]? = some o) :
    (x = i ∧ o = .cells (pkHead N coh os.length) el false 6) ∨ (x < os.length ∧ x ≠ i ∧ os[x]? = some o) ∨ (x = os.length ∧ o = .arr [.u8] (pkF 14 M) (pkL N) false) ∨ (x = os.length + 1 ∧ o = .arr [.i64] (pkF 16 M) (pkN N) false) ∨ (x = os.length + 2 ∧ coh = false ∧ o = .arr [.u8] (pkF 15 M) (pkL N) false) := by
  unfold pkOs at h
  by_cases hx : x < os.length
  · rw [List.getElem?_append_left (by simpa using hx), List.getElem?_set] at h
    by_cases e : i = x
    · rw [if_pos e, if_pos (by omega)] at h
      cases h
      exact .inl ⟨e.symm, rfl⟩
    · rw [if_neg e] at h
      exact .inr (.inl ⟨hx, fun h => e h.symm, h⟩)
  · rw [List.getElem?_append_right (by simpa using Nat.le_of_not_lt hx), List.length_set] at h
    obtain ⟨y, rfl⟩ : ∃ y, x = os.length + y := ⟨x - os.length, by omega⟩
    rw [Nat.add_sub_cancel_left] at h
    cases coh with
    | true =>
      match y, h with
      | 0, h => cases h; exact .inr (.inr (.inl ⟨rfl, rfl⟩))
      | 1, h => cases h; exact .inr (.inr (.inr (.inl ⟨rfl, rfl⟩)))
      | y + 2, h => cases h
    | false =>
      match y, h with
      | 0, h => cases h; exact .inr (.inr (.inl ⟨rfl, rfl⟩))
      | 1, h => cases h; exact .inr (.inr (.inr (.inl ⟨rfl, rfl⟩)))
      | 2, h => cases h; exact .inr (.inr (.inr (.inr ⟨rfl, rfl, rfl⟩)))
      | y + 3, h => cases h
theorem pkOs_length {N : Nat} {el : TypeId} {os : List AObj} {i : Nat} {M : IE} {coh : Bool} : (pkOs N el os i M coh).length = os.length + match coh with | true => 2 | false => 3 := by
  unfold pkOs
  rw [List.length_append, List.length_set]
  cases coh <;> rfl
section
variable {P : Program} {G : Nat → Int → Int → Int → Int} {GH : Nat → Ghost}
set_option maxHeartbeats 2000000 in
theorem peek_goes {R : RunR} (hR : RMono R) {ρ : Env} {k N : Nat} {el : TypeId} {os : List AObj} {i : Nat} {M : IE} {coh : Bool} {args : List AVal} {s : ASt} (hlen : os.length < 1000000)
    (hgh : ρ.gh k = refGhost el) (hg : os[i]? = some (.ghost k [M] .nil)) (c14 : (pkF 14 M).ev ρ = dataR (M.ev ρ)) (c15 : (pkF 15 M).ev ρ = imgR (M.ev ρ)) (c16 : (pkF 16 M).ev ρ = rgtR (M.ev ρ)) (hcoh : mCoh (M.ev ρ) = coh) (hNN : mN (M.ev ρ) = N)
    (hreach : ∀ B W f w args', HRel ρ B W f (treeOf os 0 .nil) w → LRel ρ f args args' → ∃ L, f i = some L)
    (hgo : ∀ B W, RGoes R ρ B W args (treeOf (pkOs N el os i M coh) 0 .nil) (pkOs N el os i M coh).length s) :
    ∀ B W, RGoes R ρ B W args (treeOf os 0 .nil) os.length (s.unpeek i k M) := by
  intro B W
  have hi : i < os.length := (List.getElem?_eq_some_iff.1 hg).1
  have hnx : (pkOs N el os i M coh).length ≤ s.nx := (hgo B W).1
  have hl2 : os.length + 2 ≤ (pkOs N el os i M coh).length := by rw [pkOs_length]; cases coh <;> simp
  refine ⟨by show os.length ≤ s.nx; omega, fun f w args' hr ha hfr => ?_⟩
  have hfr : ∀ j, os.length ≤ j → j < s.nx → f j = none := hfr
  obtain ⟨L, hL⟩ := hreach B W f w args' hr ha
  have tget : ∀ {l : List AObj} {x : Nat} {o : AObj}, l[x]? = some o → l.length < 1000010 → (treeOf l 0 T.nil).get x = some o := by
    intro l x o hx hlt
    have := treeOf_same l 0 x .nil o hx (by omega)
    rwa [Nat.zero_add] at this
  obtain ⟨⟨hrel, hfB⟩, hb0, cs0, el0, fr0, q1, q2, q3, q4⟩ := hr.obj i L _ hL (tget hg (by omega))
  have hgfoot : ∀ b, (AObj.ghost k [M] .nil).foot ρ w L b ↔ (refGhost el).foot w L.blk L.base b := fun b => by show (ρ.gh k).foot w L.blk L.base b ↔ _; rw [hgh]
  rw [hgh] at hrel hfB
  obtain ⟨Mv, Rf, hM, hm, hho⟩ := hrel
  have hM : M.ev ρ = Mv := (List.cons.inj hM).1
  subst hM
  have hinf : ∀ b, inRef (M.ev ρ) L.blk Rf b → (refGhost el).foot w L.blk L.base b := fun b hb => ⟨_, Rf, hm, hho, hb⟩
  have hfoot : ∀ b, inRef (M.ev ρ) L.blk Rf b → ¬ B b := fun b hb => hfB b (hinf b hb)
  obtain ⟨cs, fr, cd, cr', ci, u1, u2, u3, u4, u5, u6, u7, u8⟩ := hm.head
  obtain ⟨ds, de, df, x1, x2, x3⟩ := hm.data
  obtain ⟨rs, re, rf, y1, y2, y3⟩ := hm.rights
  have hcl : ∃ cl : Option Loc, (coh = true → cl = none) ∧ (coh = false → ∃ xs xe xf, cl = some ⟨Rf.ib, Rf.iO, xs.size⟩ ∧ w.heap[Rf.ib]? = some (.cells xs xe xf) ∧ ∀ j, j < 256 * (mN (M.ev ρ)).toNat → xs[Rf.iO + j]? = some (.int .u8 (mC (M.ev ρ) j))) := by
    cases coh with
    | true => exact ⟨none, fun _ => rfl, (fun h => (by cases h))⟩
    | false =>
      obtain ⟨xs, xe, xf, z1, z2, z3⟩ := hm.image hcoh
      exact ⟨some ⟨Rf.ib, Rf.iO, xs.size⟩, (fun h => (by cases h)), fun _ => ⟨xs, xe, xf, rfl, z1, z3⟩⟩
  obtain ⟨cl, cl1, cl2⟩ := hcl
  let n := os.length
  let B' : Nat → Prop := fun b => b < w.heap.size ∧ (B b ∨ inRef (M.ev ρ) L.blk Rf b)
  have hBB : ∀ b, B b → B' b := fun b hb => ⟨Nat.lt_of_lt_of_le (hr.bsize b hb) hr.below.size, .inl hb⟩
  have hBr : ∀ b, inRef (M.ev ρ) L.blk Rf b → B' b := fun b hb => ⟨hm.inb hb, .inr hb⟩
  let f2 : Ren := fun x => if x = n then some ⟨Rf.db, Rf.dO, ds.size⟩ else if x = n + 1 then some ⟨Rf.rb, Rf.rO, rs.size⟩ else if x = n + 2 then (match coh with | true => f x | false => cl) else f x
  have f2n : f2 n = some ⟨Rf.db, Rf.dO, ds.size⟩ := if_pos rfl
  have f2n1 : f2 (n + 1) = some ⟨Rf.rb, Rf.rO, rs.size⟩ := by show (if n + 1 = n then _ else _) = _; rw [if_neg (by omega), if_pos rfl]
  have f2n2 : coh = false → f2 (n + 2) = cl := fun hc => by show (if n + 2 = n then _ else if n + 2 = n + 1 then _ else _) = _; rw [if_neg (by omega), if_neg (by omega), if_pos rfl, hc]
  have f2o : ∀ x, x ≠ n → x ≠ n + 1 → (coh = false → x ≠ n + 2) → f2 x = f x := fun x h1 h2 h3 => by
    show (if x = n then _ else if x = n + 1 then _ else if x = n + 2 then _ else _) = _
    rw [if_neg h1, if_neg h2]
    by_cases e : x = n + 2
    · rw [if_pos e]
      cases hc : coh with
      | true => rfl
      | false => exact absurd e (h3 hc)
    · rw [if_neg e]
  have f2lt : ∀ x, x < n → f2 x = f x := fun x hx => f2o x (by omega) (by omega) (fun _ => by omega)
  have hn2 : coh = false → os.length + 3 ≤ s.nx := fun hc => by
    have h3 := hnx
    rw [pkOs_length, hc] at h3
    exact h3
  have hle : f.le f2 := by
    intro x L' hx
    by_cases h : n ≤ x ∧ x < s.nx
    · rw [hfr x h.1 h.2] at hx
      cases hx
    · rw [f2o x (by omega) (by omega) (fun hc => by have := hn2 hc; omega)]
      exact hx
  have hN : (pkN N).ev ρ = mN (M.ev ρ) := hNN.symm
  have hLn : (pkL N).ev ρ = mN (M.ev ρ) * 256 := by
    rw [hNN]
    show ((256 * N : Nat) : Int) = (N : Int) * 256
    omega
  have n0 := hm.ok.n.1
  have ltE : ∀ y : Nat, (y : Int) < (pkL N).ev ρ → y < 256 * (mN (M.ev ρ)).toNat := fun y hy => by rw [hLn] at hy; omega
  have ltN : ∀ y : Nat, (y : Int) < (pkN N).ev ρ → y < (mN (M.ev ρ)).toNat := fun y hy => by rw [hN] at hy; omega
  have one : ∀ {k : IntKind} {d : Nat} {kd : IntKind} (y : Nat), [k][d]? = some kd → d = 0 ∧ kd = k ∧ y * [k].length + d = y := by
    intro k d kd y hd
    match d, hd with
    | 0, hd => cases hd; exact ⟨rfl, rfl, by simp⟩
  have H2 : HRel ρ B' w f2 (treeOf (pkOs N el os i M coh) 0 .nil) w := by
    have get : ∀ {x : Nat} {o : AObj}, (treeOf (pkOs N el os i M coh) 0 T.nil).get x = some o → _ := fun {x o} h => pkOs_get (x := x) (o := o) hi (listTree h)
    have feet : ∀ {x : Nat} {o : AObj} {K : Loc}, (treeOf (pkOs N el os i M coh) 0 T.nil).get x = some o → f2 x = some K → ¬ (x < n ∧ x ≠ i) → ∀ b, o.foot ρ w K b → inRef (M.ev ρ) L.blk Rf b := by
      intro x o K h hx hni b hb
      rcases get h with ⟨rfl, rfl⟩ | ⟨a1, a2, _⟩ | ⟨rfl, rfl⟩ | ⟨rfl, rfl⟩ | ⟨rfl, hc, rfl⟩
      · rw [f2lt x hi, hL] at hx
        cases hx
        exact .inl hb
      · exact absurd ⟨a1, a2⟩ hni
      · rw [f2n] at hx
        cases hx
        exact .inr (.inl hb)
      · rw [f2n1] at hx
        cases hx
        exact .inr (.inr (.inl hb))
      · obtain ⟨xs, xe, xf, z0, _⟩ := cl2 hc
        rw [f2n2 hc, z0] at hx
        cases hx
        exact .inr (.inr (.inr ⟨by rw [hcoh]; exact hc, hb⟩))
    have old : ∀ {x : Nat} {o : AObj}, (treeOf (pkOs N el os i M coh) 0 T.nil).get x = some o → x < n → x ≠ i → os[x]? = some o := by
      intro x o h h1 h2
      rcases get h with ⟨rfl, _⟩ | ⟨_, _, a⟩ | ⟨rfl, _⟩ | ⟨rfl, _⟩ | ⟨rfl, _, _⟩
      · exact absurd rfl h2
      · exact a
      · exact absurd h1 (Nat.lt_irrefl _)
      · exact absurd h1 (by show ¬ os.length + 1 < os.length; omega)
      · exact absurd h1 (by show ¬ os.length + 2 < os.length; omega)
    have away : ∀ {x : Nat} {o : AObj} {K : Loc}, os[x]? = some o → x ≠ i → f x = some K → o.own = true → ∀ b, o.foot ρ w K b → ¬ inRef (M.ev ρ) L.blk Rf b := by
      intro x o K h1 h2 h3 h4 b hb hin
      exact hr.apart x i K L o _ h3 hL (tget h1 (by omega)) (tget hg (by omega)) h2 h4 b hb ((hgfoot b).2 (hinf b hin))
    have ownOld : ∀ {x : Nat} {o : AObj}, (treeOf (pkOs N el os i M coh) 0 T.nil).get x = some o → o.own = true → x < n ∧ x ≠ i := by
      intro x o h ho
      rcases get h with ⟨rfl, rfl⟩ | ⟨a1, a2, _⟩ | ⟨rfl, rfl⟩ | ⟨rfl, rfl⟩ | ⟨rfl, hc, rfl⟩
      · cases ho
      · exact ⟨a1, a2⟩
      · cases ho
      · cases ho
      · cases ho
    refine ⟨Kept.refl _ _, fun b hb => hb.1, fun x K hx => ?_, fun x y Kx Ky ox oy hx hy gx gy hxy hown b hbx hby => ?_, fun x K o hx gx => ?_⟩
    · by_cases e0 : x = n
      · subst e0; rw [f2n] at hx; cases hx; exact heapLt x1
      by_cases e1 : x = n + 1
      · subst e1; rw [f2n1] at hx; cases hx; exact heapLt y1
      by_cases e2 : coh = false ∧ x = n + 2
      · obtain ⟨hc, rfl⟩ := e2
        obtain ⟨xs, xe, xf, z0, z1, _⟩ := cl2 hc
        rw [f2n2 hc, z0] at hx
        cases hx
        exact heapLt z1
      rw [f2o x e0 e1 (fun hc h => e2 ⟨hc, h⟩)] at hx
      exact hr.lt x K hx
    · obtain ⟨a1, a2⟩ := ownOld gx hown
      rw [f2lt x a1] at hx
      by_cases hy' : y < n ∧ y ≠ i
      · rw [f2lt y hy'.1] at hy
        exact hr.apart x y Kx Ky ox oy hx hy (tget (old gx a1 a2) (by omega)) (tget (old gy hy'.1 hy'.2) (by omega)) hxy hown b hbx hby
      · exact away (old gx a1 a2) a2 hx hown b hbx (feet gy hy hy' b hby)
    · rcases get gx with ⟨rfl, rfl⟩ | ⟨a1, a2, a3⟩ | ⟨rfl, rfl⟩ | ⟨rfl, rfl⟩ | ⟨rfl, hc, rfl⟩
      · rw [f2lt x hi, hL] at hx
        cases hx
        have hsz : cs.size = L.sz := by
          rw [u1] at q1
          cases q1
          exact q2
        have eD : ((pkL N).ev ρ).toNat = 256 * (mN (M.ev ρ)).toNat := by rw [hLn]; omega
        refine ⟨cs, fr, u1, hsz, (fun h => (by cases h)), fun y v hv => ?_⟩
        rcases pkHead_inv hv with ⟨rfl, rfl⟩ | ⟨rfl, rfl⟩ | ⟨rfl, rfl⟩ | ⟨rfl, rfl⟩
        · refine ⟨by decide, _, by rw [← hho]; exact u2, ?_⟩
          have := VRel.sliceS (ρ := ρ) (f := f2) (i := n) (s := 1) (st := .lit 0) (len := pkL N) (nn := false) (L := ⟨Rf.db, Rf.dO, ds.size⟩) (c := cd) f2n (Int.le_refl 0) (by rw [hLn]; omega) (by rw [eD]; exact u3)
          rw [eD] at this
          exact this
        · refine ⟨by decide, _, by rw [← hho]; exact u7, ?_⟩
          rw [hcoh]
          cases hc : coh with
          | true => exact .nilSlice
          | false =>
            obtain ⟨xs, xe, xf, z0, _⟩ := cl2 hc
            have := VRel.sliceS (ρ := ρ) (f := f2) (i := n + 2) (s := 1) (st := .lit 0) (len := pkL N) (nn := false) (L := ⟨Rf.ib, Rf.iO, xs.size⟩) (c := ci) (by rw [f2n2 hc]; exact z0) (Int.le_refl 0) (by rw [hLn]; omega) (by rw [eD]; exact u8)
            rw [eD] at this
            exact this
        · refine ⟨by decide, _, by rw [← hho]; exact u4, ?_⟩
          have := VRel.sliceS (ρ := ρ) (f := f2) (i := n + 1) (s := 1) (st := .lit 0) (len := pkN N) (nn := false) (L := ⟨Rf.rb, Rf.rO, rs.size⟩) (c := cr') f2n1 (Int.le_refl 0) (by rw [hN]; exact n0) (by rw [hN]; exact u5)
          rw [hN] at this
          exact this
        · refine ⟨by decide, _, by rw [← hho]; exact u6, ?_⟩
          rw [hcoh]
          exact .bool (.lit coh)
      · rw [f2lt x a1] at hx
        refine ((hr.obj x K o hx (tget a3 (by omega))).mono hle).setB fun ho b hb hB => ?_
        rcases hB.2 with h | h
        · exact own_foot (hr.obj x K o hx (tget a3 (by omega))) ho b hb h
        · exact away a3 a2 hx ho b hb h
      · have hx : f2 n = some K := hx
        rw [f2n] at hx
        cases hx
        refine ⟨ds, de, df, x1, rfl, (fun h => (by cases h)), fun y d kd hy hd => ?_⟩
        obtain ⟨rfl, rfl, e1⟩ := one y hd
        have hy := ltE y hy
        have hby := (hm.ok.byte hy).1
        rw [e1, c14, dataR_get hy]
        exact ⟨x3 y hy, by show (0 : Int) ≤ _; exact hby.1, by show _ ≤ (255 : Int); exact hby.2⟩
      · have hx : f2 (n + 1) = some K := hx
        rw [f2n1] at hx
        cases hx
        refine ⟨rs, re, rf, y1, rfl, (fun h => (by cases h)), fun y d kd hy hd => ?_⟩
        obtain ⟨rfl, rfl, e1⟩ := one y hd
        have hy := ltN y hy
        have hby := hm.ok.r y hy
        rw [e1, c16, rgtR_get hy]
        exact ⟨y3 y hy, by show (-9223372036854775808 : Int) ≤ _; omega, by show _ ≤ (9223372036854775807 : Int); omega⟩
      · obtain ⟨xs, xe, xf, z0, z1, z3⟩ := cl2 hc
        have hx : f2 (n + 2) = some K := hx
        rw [f2n2 hc, z0] at hx
        cases hx
        refine ⟨xs, xe, xf, z1, rfl, (fun h => (by cases h)), fun y d kd hy hd => ?_⟩
        obtain ⟨rfl, rfl, e1⟩ := one y hd
        have hy := ltE y hy
        have hby := (hm.ok.byte hy).2 (by rw [hcoh]; exact hc)
        rw [e1, c15, imgR_get hy]
        exact ⟨z3 y hy, by show (0 : Int) ≤ _; exact hby.1, by show _ ≤ (255 : Int); exact hby.2⟩
  have hfr2 : Fresh f2 (pkOs N el os i M coh).length s.nx := by
    intro x hx hlt
    have e3 := hx
    rw [pkOs_length] at e3
    rw [f2o x (by show x ≠ os.length; omega) (by show x ≠ os.length + 1; cases coh <;> simp at e3 <;> omega) (fun hc => by show x ≠ os.length + 2; rw [hc] at e3; simp at e3; omega)]
    exact hfr x (by omega) hlt
  refine hR _ _ _ _ ((hgo B' w).2 f2 w args' H2 (ha.mono hle) hfr2) fun v' w3 ⟨f3, e2, e3, e4, e5⟩ => ?_
  have keep : ∀ b, B' b → w3.heap[b]? = w.heap[b]? := e4.below.block
  have hm3 : RefIs el (M.ev ρ) w3 L.blk Rf := hm.keep fun b hb => keep b (hBr b hb)
  have hback : ∀ b, (refGhost el).foot w3 L.blk L.base b → inRef (M.ev ρ) L.blk Rf b := fun b ⟨M2, R2, h2, ho2, h3⟩ => hm3.same h2 (ho2.trans hho.symm) h3
  have f3i : f3 i = some L := e2 i L (by rw [f2lt i hi]; exact hL)
  have cases2 : ∀ {x : Nat} {o : AObj}, (s.unpeek i k M).hp.get x = some o → (x = i ∧ o = .ghost k [M] .nil) ∨ (x ≠ i ∧ s.hp.get x = some o ∧ o.own = true) := by
    intro x o h
    rcases T.get_set h with ⟨a, b⟩ | ⟨a, b⟩
    · exact .inl ⟨a, b.symm⟩
    · exact .inr ⟨a, T.get_keep b⟩
  refine ⟨f3, Ren.le_trans hle e2, fun x hx => ?_, ⟨hr.below.trans (e4.below.mono hBB), hr.bsize, e4.lt, fun x y Kx Ky ox oy hx hy gx gy hxy hown b hbx hby => ?_, fun x K o hx gx => ?_⟩, e5⟩
  · have hx : x < os.length ∨ s.nx ≤ x := hx
    rw [e3 x (by rcases hx with h | h; exact .inl (by omega); exact .inr h)]
    exact f2o x (by show x ≠ os.length; omega) (by show x ≠ os.length + 1; omega) (fun hc => by show x ≠ os.length + 2; have := hn2 hc; omega)
  · rcases cases2 gx with ⟨rfl, rfl⟩ | ⟨a1, a2, a3⟩
    · rcases cases2 gy with ⟨rfl, _⟩ | ⟨b1, b2, b3⟩
      · exact hxy rfl
      · rw [f3i] at hx
        cases hx
        have hbx : (ρ.gh k).foot w3 L.blk L.base b := hbx
        rw [hgh] at hbx
        exact own_foot (e4.obj y Ky oy hy b2) b3 b hby (hBr b (hback b hbx))
    · rcases cases2 gy with ⟨rfl, rfl⟩ | ⟨b1, b2, b3⟩
      · rw [f3i] at hy
        cases hy
        have hby : (ρ.gh k).foot w3 L.blk L.base b := hby
        rw [hgh] at hby
        exact own_foot (e4.obj x Kx ox hx a2) a3 b hbx (hBr b (hback b hby))
      · exact e4.apart x y Kx Ky ox oy hx hy a2 b2 hxy a3 b hbx hby
  · rcases cases2 gx with ⟨rfl, rfl⟩ | ⟨a1, a2, a3⟩
    · rw [f3i] at hx
      cases hx
      refine ⟨⟨by rw [hgh]; exact ⟨_, Rf, rfl, hm3, hho⟩, fun b hb => ?_⟩, hb0, cs0, el0, fr0, (keep _ (hBr _ (.inl rfl))).trans q1, q2, q3, fun j v hv => by rw [T.get_nil] at hv; cases hv⟩
      rw [hgh] at hb
      exact hfoot b (hback b hb)
    · exact (e4.obj x K o hx a2).setB fun ho b hb hB => own_foot (e4.obj x K o hx a2) ho b hb (hBB b hB)
/-- The memory lies behind a pointer. -/
theorem ptr_step {ρ : Env} {B : Nat → Prop} {W w : World} {f : Ren} {os : List AObj} {j i o x : Nat} {c : T AVal} {e : TypeId} {ow : Bool} {t : Nat} {L : Loc} (hr : HRel ρ B W f (treeOf os 0 .nil) w) (hlen : os.length < 1000000) (hj : f j = some L) (ho : os[j]? = some (.cells c e ow t)) (hc : c.get x = some (.ptr (some (i, o)))) : ∃ L', f i = some L' := by
  have := treeOf_same os 0 j .nil _ ho (by omega)
  rw [Nat.zero_add] at this
  obtain ⟨cs, fr, _, _, _, q⟩ := hr.obj j L _ hj this
  obtain ⟨_, v', _, hv⟩ := q x _ hc
  obtain ⟨L', h, _⟩ := hv.ptr_inv
  exact ⟨L', h⟩
theorem ptr_arg {ρ : Env} {f : Ren} {args : List AVal} {args' : Array Value} {x i o : Nat} (ha : LRel ρ f args args') (h : args[x]? = some (.ptr (some (i, o)))) : ∃ L, f i = some L := by
  obtain ⟨v, _, hv⟩ := ha.get h
  obtain ⟨L, hL, _⟩ := hv.ptr_inv
  exact ⟨L, hL⟩
/-- A contract shown by runs in a memory laid open. -/
theorem Con.ok_peek {c : Con} {k i N : Nat} {el : TypeId} {M : IE} (hlen : c.os.length < 1000000) (hk : GH k = refGhost el) (hg : c.os[i]? = some (.ghost k [M] .nil)) (hG : ∀ M y z, G 14 M y z = dataR M ∧ G 15 M y z = imgR M ∧ G 16 M y z = rgtR M)
    (hN : ∀ ρ : Env, ρ.ok (bdL c.bds) → c.pre.holds ρ → mN (M.ev ρ) = N)
    (hreach : ∀ (ρ : Env) B W f w args', HRel ρ B W f (treeOf c.os 0 .nil) w → LRel ρ f c.args args' → ∃ L, f i = some L)
    (h : ∀ (coh : Bool) (ρ : Env), ρ.std G GH → ρ.ok (bdL c.bds) → (c.peek N el i M coh).pre.holds ρ → memOk (M.ev ρ) → ∃ s at' q, (∀ B W, CallGoes P ρ B W c.g c.args (treeOf (c.peek N el i M coh).os 0 .nil) (c.peek N el i M coh).os.length s) ∧ c.ends at' (s.unpeek i k M) = some q ∧ q.hold ρ) : c.Ok P G GH := by
  intro ρ h1 h2 h3 B W f w args' hr ha hn
  have hgh : ρ.gh k = refGhost el := by rw [h1.2]; exact hk
  obtain ⟨L, hL⟩ := hreach ρ B W f w args' hr ha
  have hgt : (treeOf c.os 0 T.nil).get i = some (.ghost k [M] .nil) := by
    have := treeOf_same c.os 0 i .nil _ hg (by omega)
    rwa [Nat.zero_add] at this
  obtain ⟨⟨hrel, _⟩, _⟩ := hr.obj i L _ hL hgt
  rw [hgh] at hrel
  obtain ⟨Mv, Rf, hM, hm, hho⟩ := hrel
  have hM : M.ev ρ = Mv := (List.cons.inj hM).1
  subst hM
  obtain ⟨s, at', q, g1, g2, g3⟩ := h (mCoh (M.ev ρ)) ρ h1 h2 (decCons h3 (t := pkC M) (v := mCoh (M.ev ρ)) rfl) hm.ok
  have ev : ∀ c, 7 < c → (pkF c M).ev ρ = G c (M.ev ρ) 0 0 := fun c hc => by
    show fnI ρ c (M.ev ρ) 0 0 = _
    rw [fn_big hc, h1.1]
  exact Con.at_ends (callR_mono P c.g) (peek_goes (callR_mono P c.g) hlen hgh hg (by rw [ev 14 (by decide), (hG _ _ _).1]) (by rw [ev 15 (by decide), (hG _ _ _).2.1]) (by rw [ev 16 (by decide), (hG _ _ _).2.2]) rfl (hN ρ h2 h3) (fun B W f w args' a b => hreach ρ B W f w args' a b) fun B W => (g1 B W).toR) g2 g3 B W f w args' hr ha hn
/-- The same, by trees of outcomes; of the two ways in which the memory can be (coherent or not) one may be shut out. -/
theorem Con.ok_peekT (mixed : P.follows .mixedOrders = true) {K : Know} (hK : K.Ok P G GH) {c : Con} {k i N : Nat} {el : TypeId} {M : IE} (hlen : c.os.length < 1000000) (hk : GH k = refGhost el) (hg : c.os[i]? = some (.ghost k [M] .nil)) (hG : ∀ M y z, G 14 M y z = dataR M ∧ G 15 M y z = imgR M ∧ G 16 M y z = rgtR M)
    (hN : ∀ ρ : Env, ρ.ok (bdL c.bds) → c.pre.holds ρ → mN (M.ev ρ) = N)
    (hreach : ∀ (ρ : Env) B W f w args', HRel ρ B W f (treeOf c.os 0 .nil) w → LRel ρ f c.args args' → ∃ L, f i = some L) (L : Nat) (pol : FuncId → Nat → Bool) (pure : FuncId → Bool) (d kk : Nat) (obs : Bool → List (Dec × IE × IE))
    (hobs : ∀ (coh : Bool) (ρ : Env), ρ.std G GH → ρ.ok (bdL c.bds) → (c.peek N el i M coh).pre.holds ρ → memOk (M.ev ρ) → obsOk ρ (obs coh))
    (h : ∀ coh : Bool, (∀ ρ : Env, ρ.ok (bdL c.bds) → ¬ (c.peek N el i M coh).pre.holds ρ) ∨ ((c.peek N el i M coh).tree P K L pol pure d []).all (fun dec e s => c.leaf (qX (bdL c.bds) kk (obs coh)) dec e (s.unpeek i k M)) (c.peek N el i M coh).pre = true) : c.Ok P G GH := by
  refine Con.ok_peek hlen hk hg hG hN hreach fun coh ρ h1 h2 h3 hm => ?_
  rcases h coh with hx | hx
  · exact absurd h3 (hx ρ h2)
  · obtain ⟨e, s, dec', hd', p1, p2⟩ := Out.all_pick h3 hx
    unfold Con.leaf at p2
    split at p2
    · rename_i l hl
      exact ⟨s, _, l, Con.tree_goes (c := c.peek N el i M coh) mixed hK (facts := []) h1 h2 h3 (fun p hp => by cases hp) p1, hl, prsAll_ok (fun a b hab => qX_ok h2 hd' (hobs coh ρ h1 h2 h3 hm) hab) p2⟩
    · cases p2
end
end
end Go.Sx
/- New memories: fresh blocks as one thing. No condition. -/
set_option linter.unusedSimpArgs false
set_option linter.unusedVariables false
namespace Go.Sx
open Go.RowKit (Below)
noncomputable section
theorem newM_get {n c : Int} (hn : 0 ≤ n ∧ n ≤ 4096) (hc : c = 0 ∨ c = 1) (j : Nat) : rowGet (newM n c) (j : Nat) = if j = 7 then c else if j = 3 then n else 0 := by
  unfold newM
  rw [rowGet_set _ _ _ _ (by omega) (by omega), rowGet_set _ _ _ _ (by omega) (by omega), rowGet_zero]
theorem newM_n {n c : Int} (hn : 0 ≤ n ∧ n ≤ 4096) (hc : c = 0 ∨ c = 1) : mN (newM n c) = n := by
  have := newM_get hn hc 3
  exact this
theorem newM_c {n c : Int} (hn : 0 ≤ n ∧ n ≤ 4096) (hc : c = 0 ∨ c = 1) : mCoh (newM n c) = decide (c = 1) := by
  unfold mCoh
  have := newM_get hn hc 7
  rw [this]
  rfl
theorem newM_0 {n c : Int} (hn : 0 ≤ n ∧ n ≤ 4096) (hc : c = 0 ∨ c = 1) {j : Nat} (h3 : j ≠ 3) (h7 : j ≠ 7) : rowGet (newM n c) (j : Nat) = 0 := by
  rw [newM_get hn hc, if_neg h7, if_neg h3]
theorem newM_d {n c : Int} (hn : 0 ≤ n ∧ n ≤ 4096) (hc : c = 0 ∨ c = 1) (a : Nat) : mD (newM n c) a = 0 ∧ mC (newM n c) a = 0 ∧ mR (newM n c) a = 0 :=
  ⟨newM_0 hn hc (by omega) (by omega), newM_0 hn hc (by omega) (by omega), newM_0 hn hc (by omega) (by omega)⟩
theorem newM_ok {n c : Int} (hn : 0 ≤ n ∧ n ≤ 4096) (hc : c = 0 ∨ c = 1) : memOk (newM n c) := by
  have z : isByte 0 := ⟨Int.le_refl 0, by decide⟩
  refine ⟨by rw [newM_n hn hc]; exact hn, fun p j _ _ => by rw [(newM_d hn hc _).1]; exact z, fun _ p j _ _ => by rw [(newM_d hn hc _).2.1]; exact z, fun p _ => by rw [(newM_d hn hc _).2.2]; exact ⟨Int.le_refl 0, by decide⟩, ⟨rowSet_pos _ _ _, ?_, fun j hj => ?_⟩⟩
  · have := newM_get hn hc 7
    rw [this]
    exact hc
  · exact newM_0 hn hc (fun e => hj (.inl e)) (fun e => hj (.inr (.inl e)))
theorem b2_01 (b : Bool) : b2 b = 0 ∨ b2 b = 1 := by cases b <;> simp [b2]
theorem b2_coh (b : Bool) : decide (b2 b = 1) = b := by cases b <;> simp [b2]
def zeroT (k : IntKind) (n : Nat) : T AVal := treeOf (List.replicate n (.int k (.lit 0))) 0 .nil
section
variable {P : Program} {G : Nat → Int → Int → Int → Int} {GH : Nat → Ghost}
theorem slice_inv {ρ : Env} {f : Ren} {i n : Nat} {v : Value} (hn : 0 < n) (h : VRel ρ f (.slice (some (i, 0)) n n 0) v) : ∃ L, f i = some L ∧ v = .slice (some ⟨L.blk, L.base, none⟩) n n := by
  cases h with
  | slice h => exact ⟨_, h, rfl⟩
  | sliceE _ _ _ => exact absurd hn (Nat.lt_irrefl 0)
theorem arr0 {ρ : Env} {f : Ren} {B : Nat → Prop} {w : World} {L : Loc} {k : IntKind} {n : Nat} {t : TypeId} (hn : n < 4611686018427387904) (h : ORel ρ f B w L (.cells (zeroT k n) t true n)) : ¬ B L.blk ∧ ∃ cs el fr, w.heap[L.blk]? = some (.cells cs el fr) ∧ (∀ j, j < cs.size → ¬ (fr.1 ≤ j ∧ j < fr.2)) ∧ ∀ j, j < n → cs[L.base + j]? = some (.int k 0) := by
  obtain ⟨cs, fr, h1, h2, h3, h4⟩ := h
  refine ⟨(h3 rfl).1, cs, t, fr, h1, by rw [h2]; exact (h3 rfl).2, fun j hj => ?_⟩
  have g : (zeroT k n).get j = some (.int k (.lit 0)) := by
    have := treeOf_same (List.replicate n (AVal.int k (.lit 0))) 0 j .nil (AVal.int k (.lit 0)) (by rw [List.getElem?_replicate, if_pos hj]) (by simpa using hn)
    rwa [Nat.zero_add] at this
  obtain ⟨_, v, a, b⟩ := h4 j _ g
  rw [a, b.int_inv]
  rfl
set_option maxHeartbeats 1000000 in
/-- A new memory of the program. -/
theorem Con.foldMem {c : Con} {k n tops : Nat} {pt : TypeId} {coh : Bool} {el sl : TypeId} {hc cv sc : T AVal} {top : Nat} {Me : IE} (hn : 0 < n ∧ n ≤ 4096) (hk : GH k = memGhost el sl) (h0 : c.os = []) (ho : c.os' = [.ghost k [Me] cv]) (hres : c.res = .ptr (some (0, 0)))
    (hMe : ∀ ρ : Env, ρ.std G GH → Me.ev ρ = newM n (b2 coh)) (hc0 : hc.get 0 = some (.slice (some (1, 0)) n n 0)) (hc1 : hc.get 1 = some (.bool (.lit coh))) (hcv : ∀ j v, cv.get j = some v → 2 ≤ j ∧ hc.get j = some v ∧ v.free = true)
    (hsc : ∀ p, p < n → sc.get (p * 7) = some (.ptr (some (2, 0))) ∧ sc.get (p * 7 + 1) = some (codePtr coh 2) ∧ sc.get (p * 7 + 2) = some (.bool (.lit false)) ∧ sc.get (p * 7 + 3) = some (.bool (.lit false)) ∧ sc.get (p * 7 + 6) = some (.int .i64 (.lit 0)))
    (h : Con.Ok P G GH { c with os' := [.cells hc el true top, .cells sc sl true tops, .cells (zeroT .u8 256) pt true 256] }) : c.Ok P G GH := by
  intro ρ h1 h2 h3 B W f w args' hr ha hnn
  have hgh : ρ.gh k = memGhost el sl := by rw [h1.2]; exact hk
  have hnone : ∀ j, f j = none := fun j => hnn j (by rw [h0]; exact Nat.zero_le j)
  refine Calls.mono (h ρ h1 h2 h3 B W f w args' hr ha hnn) fun e w' ⟨v', e1, f', e2, e3, e4, e5⟩ => ?_
  rw [show ({ c with os' := [.cells hc el true top, .cells sc sl true tops, .cells (zeroT .u8 256) pt true 256] } : Con).res = .ptr (some (0, 0)) from hres] at e5
  obtain ⟨L, hL, rfl⟩ := e5.ptr_inv
  have tree : ∀ (x : Nat) (o : AObj), ([.cells hc el true top, .cells sc sl true tops, .cells (zeroT .u8 256) pt true 256] : List AObj)[x]? = some o → o.dead = false → (outT [.cells hc el true top, .cells sc sl true tops, .cells (zeroT .u8 256) pt true 256] 0 T.nil).get x = some o := by
    intro x o hx hd
    have := outT_same _ 0 x .nil o hx hd (by simp)
    rwa [Nat.zero_add] at this
  obtain ⟨cs, fr, a1, a2, a3, a4⟩ := e4.obj 0 L _ hL (tree 0 _ rfl rfl)
  obtain ⟨_, v0, b1, b2'⟩ := a4 0 _ hc0
  obtain ⟨L1, hL1, rfl⟩ := slice_inv hn.1 b2'
  obtain ⟨_, v1, c1, c2⟩ := a4 1 _ hc1
  have c2 := c2.bool_eq
  subst c2
  obtain ⟨ss, sf, s1, s2, s3, s4⟩ := e4.obj 1 L1 _ hL1 (tree 1 _ rfl rfl)
  obtain ⟨_, u0, d1, d2⟩ := s4 _ _ (hsc 0 hn.1).1
  obtain ⟨L2, hL2, _⟩ := d2.ptr_inv
  obtain ⟨zB, zs, ze, zf, z1, z2, z3⟩ := arr0 (by decide) (e4.obj 2 L2 _ hL2 (tree 2 _ rfl rfl))
  have n4 : (0 : Int) ≤ (n : Int) ∧ (n : Int) ≤ 4096 := ⟨by omega, by omega⟩
  have hb := b2_01 coh
  have eN : (mN (newM n (b2 coh))).toNat = n := by rw [newM_n n4 hb]; exact Int.toNat_natCast n
  have eC : mCoh (newM n (b2 coh)) = coh := by rw [newM_c n4 hb]; exact b2_coh coh
  have ap01 : L.blk ≠ L1.blk := fun he => e4.apart 0 1 L L1 _ _ hL hL1 (tree 0 _ rfl rfl) (tree 1 _ rfl rfl) (by decide) rfl L.blk rfl he
  have ap02 : L2.blk ≠ L.blk := fun he => e4.apart 2 0 L2 L _ _ hL2 hL (tree 2 _ rfl rfl) (tree 0 _ rfl rfl) (by decide) rfl L2.blk rfl he
  have ap12 : L2.blk ≠ L1.blk := fun he => e4.apart 2 1 L2 L1 _ _ hL2 hL1 (tree 2 _ rfl rfl) (tree 1 _ rfl rfl) (by decide) rfl L2.blk rfl he
  have page : ∀ D : Nat → Int, (∀ j, D j = 0) → pageIs w' L2.blk L2.base D := fun D hD => ⟨zs, ze, zf, z1, z2, fun j hj => by rw [hD j]; exact ⟨z3 j hj, Int.le_refl 0, by decide⟩⟩
  let Pg : Pages := ⟨L.base, L1.blk, L1.base, fun _ => L2.blk, fun _ => L2.base, fun _ => L2.blk, fun _ => L2.base, fun _ => false, fun _ => false⟩
  have hm : MemIs el sl (newM n (b2 coh)) w' L.blk Pg := by
    refine ⟨by rw [newM_n n4 hb]; exact n4, ⟨cs, fr, n, a1, by rw [eN]; exact b1, by rw [eN]; exact Nat.le_refl n, by rw [eC]; exact c1⟩, ⟨ss, sf, s1, by rw [s2]; exact (s3 rfl).2, fun p hp => ?_⟩, fun p _ => page _ fun j => (newM_d n4 hb _).1, fun _ p _ => page _ fun j => (newM_d n4 hb _).2.1, ap01, fun p _ => ⟨ap02, ap12⟩, fun _ p _ => ⟨ap02, ap12⟩, fun p _ ho => (by cases ho), fun _ p _ ho => (by cases ho), (newM_ok n4 hb).k⟩
    rw [eN] at hp
    obtain ⟨p0, p1, p2, p3, p6⟩ := hsc p hp
    obtain ⟨_, x0, y0, r0⟩ := s4 _ _ p0
    obtain ⟨_, x1, y1, r1⟩ := s4 _ _ p1
    obtain ⟨_, x2, y2, r2⟩ := s4 _ _ p2
    obtain ⟨_, x3, y3, r3⟩ := s4 _ _ p3
    obtain ⟨_, x6, y6, r6⟩ := s4 _ _ p6
    obtain ⟨K, hK, rfl⟩ := r0.ptr_inv
    rw [hL2] at hK
    cases hK
    have r2 := r2.bool_eq
    have r3 := r3.bool_eq
    have r6 := r6.int_inv
    subst r2 r3 r6
    refine ⟨y0, ?_, y2, y3, ?_⟩
    · rw [eC]
      cases coh with
      | true => rw [r1.nil_inv] at y1; exact y1
      | false =>
        obtain ⟨K, hK, rfl⟩ := r1.ptr_inv
        rw [hL2] at hK
        cases hK
        exact y1
    · rw [(newM_d n4 hb p).2.2]
      exact ⟨y6, Int.le_refl 0, by decide⟩
  let f'' : Ren := fun j => if j = 0 then some L else f j
  have f0 : f'' 0 = some L := if_pos rfl
  have fo : ∀ j, j ≠ 0 → f'' j = none := fun j hj => (if_neg hj).trans (hnone j)
  have hg' : ∀ x o, (outT c.os' 0 T.nil).get x = some o → x = 0 ∧ o = .ghost k [Me] cv := by
    intro x o hx
    rw [ho] at hx
    have := (outList hx).1
    match x, this with
    | 0, this => simp at this; exact ⟨rfl, this.symm⟩
    | x + 1, this => simp at this
  refine ⟨_, e1, f'', fun j K hj => (by rw [hnone j] at hj; cases hj), fun j hj => ?_, ⟨e4.below, e4.bsize, fun x K hx => ?_, fun x y Kx Ky ox oy hx hy gx gy hxy => ?_, fun x K o hx gx => ?_⟩, ?_⟩
  · rw [h0, ho] at hj
    have hj : j < 0 ∨ 1 ≤ j := hj
    exact if_neg (by omega)
  · by_cases h : x = 0
    · subst h
      rw [f0] at hx
      cases hx
      exact e4.lt 0 L hL
    · rw [fo x h] at hx; cases hx
  · exact absurd ((hg' x ox gx).1.trans (hg' y oy gy).1.symm) hxy
  · obtain ⟨rfl, rfl⟩ := hg' x o gx
    rw [f0] at hx
    cases hx
    refine ⟨⟨by rw [hgh]; exact ⟨_, Pg, by simp [hMe ρ h1], hm, rfl⟩, fun b hb => ?_⟩, trivial, cs, el, fr, a1, a2, (a3 rfl).2, fun j v hv => ?_⟩
    · rw [hgh] at hb
      obtain ⟨M2, P2, k1, k2, k3⟩ := hb
      rcases hm.same k1 k2 k3 with rfl | rfl | ⟨p, _, rfl⟩ | ⟨_, p, _, rfl⟩
      · exact (a3 rfl).1
      · exact (s3 rfl).1
      · exact zB
      · exact zB
    · obtain ⟨q1, q2, q3⟩ := hcv j v hv
      obtain ⟨_, x, q4, q5⟩ := a4 j v q2
      exact ⟨by rw [hgh]; exact q1, x, q4, q5.freed q3⟩
  · rw [hres]
    exact .ptr f0
def refNew (bt it : TypeId) (n : Nat) (coh : Bool) : List AObj := match coh with
  | true => [.cells (zeroT .u8 (256 * n)) bt true (256 * n), .cells (zeroT .i64 n) it true n]
  | false => [.cells (zeroT .u8 (256 * n)) bt true (256 * n), .cells (zeroT .i64 n) it true n, .cells (zeroT .u8 (256 * n)) bt true (256 * n)]
def img0 (n : Nat) (coh : Bool) : AVal := match coh with
  | true => .slice none 0 0 0
  | false => .slice (some (3, 0)) (256 * n) (256 * n) 0
def img0v (n : Nat) (coh : Bool) (ib iO : Nat) : Value := match coh with
  | true => .slice none 0 0
  | false => .slice (some ⟨ib, iO, none⟩) (256 * n) (256 * n)
set_option maxHeartbeats 1000000 in
/-- A new memory of the reference. -/
theorem Con.foldRef {c : Con} {k n : Nat} {bt it : TypeId} {coh : Bool} {el : TypeId} {hc : T AVal} {top : Nat} {Me : IE} (hn : 0 < n ∧ n ≤ 4096) (hk : GH k = refGhost el) (h0 : c.os = []) (ho : c.os' = [.ghost k [Me] .nil]) (hres : c.res = .ptr (some (0, 0)))
    (hMe : ∀ ρ : Env, ρ.std G GH → Me.ev ρ = newM n (b2 coh)) (hc0 : hc.get 0 = some (.slice (some (1, 0)) (256 * n) (256 * n) 0)) (hc4 : hc.get 4 = some (.slice (some (2, 0)) n n 0)) (hc5 : hc.get 5 = some (.bool (.lit coh)))
    (hc1 : hc.get 1 = some (img0 n coh))
    (h : Con.Ok P G GH { c with os' := .cells hc el true top :: refNew bt it n coh }) : c.Ok P G GH := by
  intro ρ h1 h2 h3 B W f w args' hr ha hnn
  have hgh : ρ.gh k = refGhost el := by rw [h1.2]; exact hk
  have hnone : ∀ j, f j = none := fun j => hnn j (by rw [h0]; exact Nat.zero_le j)
  refine Calls.mono (h ρ h1 h2 h3 B W f w args' hr ha hnn) fun e w' ⟨v', e1, f', e2, e3, e4, e5⟩ => ?_
  rw [show ({ c with os' := .cells hc el true top :: refNew bt it n coh } : Con).res = .ptr (some (0, 0)) from hres] at e5
  obtain ⟨L, hL, rfl⟩ := e5.ptr_inv
  have tree : ∀ (x : Nat) (o : AObj), (.cells hc el true top :: refNew bt it n coh : List AObj)[x]? = some o → o.dead = false → (outT (.cells hc el true top :: refNew bt it n coh) 0 T.nil).get x = some o := by
    intro x o hx hd
    have := outT_same _ 0 x .nil o hx hd (by cases coh <;> simp [refNew])
    rwa [Nat.zero_add] at this
  have g1 : (.cells hc el true top :: refNew bt it n coh : List AObj)[1]? = some (.cells (zeroT .u8 (256 * n)) bt true (256 * n)) := by cases coh <;> rfl
  have g2 : (.cells hc el true top :: refNew bt it n coh : List AObj)[2]? = some (.cells (zeroT .i64 n) it true n) := by cases coh <;> rfl
  obtain ⟨cs, fr, a1, a2, a3, a4⟩ := e4.obj 0 L _ hL (tree 0 _ rfl rfl)
  obtain ⟨_, v0, b1, b2'⟩ := a4 0 _ hc0
  obtain ⟨L1, hL1, rfl⟩ := slice_inv (by omega) b2'
  obtain ⟨_, v4, c1, c2⟩ := a4 4 _ hc4
  obtain ⟨L2, hL2, rfl⟩ := slice_inv hn.1 c2
  obtain ⟨_, v5, d1, d2⟩ := a4 5 _ hc5
  have d2 := d2.bool_eq
  subst d2
  obtain ⟨_, v1, i1, i2⟩ := a4 1 _ hc1
  obtain ⟨dB, ds, de, df, x1, x2, x3⟩ := arr0 (by omega) (e4.obj 1 L1 _ hL1 (tree 1 _ g1 rfl))
  obtain ⟨rB, rs, re, rf, y1, y2, y3⟩ := arr0 (by omega) (e4.obj 2 L2 _ hL2 (tree 2 _ g2 rfl))
  have n4 : (0 : Int) ≤ (n : Int) ∧ (n : Int) ≤ 4096 := ⟨by omega, by omega⟩
  have hb := b2_01 coh
  have eN : (mN (newM n (b2 coh))).toNat = n := by rw [newM_n n4 hb]; exact Int.toNat_natCast n
  have eC : mCoh (newM n (b2 coh)) = coh := by rw [newM_c n4 hb]; exact b2_coh coh
  have ap01 : L.blk ≠ L1.blk := fun he => e4.apart 0 1 L L1 _ _ hL hL1 (tree 0 _ rfl rfl) (tree 1 _ g1 rfl) (by decide) rfl L.blk rfl he
  have ap02 : L.blk ≠ L2.blk := fun he => e4.apart 0 2 L L2 _ _ hL hL2 (tree 0 _ rfl rfl) (tree 2 _ g2 rfl) (by decide) rfl L.blk rfl he
  have ap12 : L1.blk ≠ L2.blk := fun he => e4.apart 1 2 L1 L2 _ _ hL1 hL2 (tree 1 _ g1 rfl) (tree 2 _ g2 rfl) (by decide) rfl L1.blk rfl he
  have img : ∃ (ib iO : Nat), v1 = img0v n coh ib iO ∧ (coh = false → ¬ B ib ∧ rowIs' w' ib iO .u8 (256 * n) (fun _ => 0) ∧ L.blk ≠ ib ∧ L1.blk ≠ ib ∧ L2.blk ≠ ib) := by
    cases coh with
    | true =>
      cases i2
      exact ⟨0, 0, rfl, fun h => (by cases h)⟩
    | false =>
      obtain ⟨L3, hL3, rfl⟩ := slice_inv (by omega) i2
      obtain ⟨zB, zs, ze, zf, z1, z2, z3⟩ := arr0 (by omega) (e4.obj 3 L3 _ hL3 (tree 3 (.cells (zeroT .u8 (256 * n)) bt true (256 * n)) rfl rfl))
      refine ⟨L3.blk, L3.base, rfl, fun _ => ⟨zB, ⟨zs, ze, zf, z1, z2, z3⟩, fun he => ?_, fun he => ?_, fun he => ?_⟩⟩
      · exact e4.apart 0 3 L L3 _ _ hL hL3 (tree 0 _ rfl rfl) (tree 3 (.cells (zeroT .u8 (256 * n)) bt true (256 * n)) rfl rfl) (by decide) rfl L.blk rfl he
      · exact e4.apart 1 3 L1 L3 _ _ hL1 hL3 (tree 1 _ g1 rfl) (tree 3 (.cells (zeroT .u8 (256 * n)) bt true (256 * n)) rfl rfl) (by decide) rfl L1.blk rfl he
      · exact e4.apart 2 3 L2 L3 _ _ hL2 hL3 (tree 2 _ g2 rfl) (tree 3 (.cells (zeroT .u8 (256 * n)) bt true (256 * n)) rfl rfl) (by decide) rfl L2.blk rfl he
  obtain ⟨ib, iO, rfl, himg⟩ := img
  have e256 : 256 * (mN (newM n (b2 coh))).toNat = 256 * n := by rw [eN]
  let R : Refs := ⟨L.base, L1.blk, L1.base, L2.blk, L2.base, ib, iO⟩
  have hm : RefIs el (newM n (b2 coh)) w' L.blk R := by
    refine ⟨newM_ok n4 hb, ⟨cs, fr, 256 * n, n, 256 * n, a1, by rw [e256]; exact b1, by rw [e256]; exact Nat.le_refl _, by rw [eN]; exact c1, by rw [eN]; exact Nat.le_refl _, by rw [eC]; exact d1, by rw [eC, e256]; exact i1, by rw [e256]; exact Nat.le_refl _⟩, ⟨ds, de, df, x1, x2, fun j hj => ?_⟩, ⟨rs, re, rf, y1, y2, fun j hj => ?_⟩, fun hc => ?_, ⟨ap01, ap02, ap12⟩, fun hc => ?_⟩
    · rw [(newM_d n4 hb j).1]
      exact x3 j (by omega)
    · rw [(newM_d n4 hb j).2.2]
      exact y3 j (by omega)
    · rw [eC] at hc
      obtain ⟨_, ⟨zs, ze, zf, z1, z2, z3⟩, _⟩ := himg hc
      exact ⟨zs, ze, zf, z1, z2, fun j hj => by rw [(newM_d n4 hb j).2.1]; exact z3 j (by omega)⟩
    · rw [eC] at hc
      exact (himg hc).2.2
  let f'' : Ren := fun j => if j = 0 then some L else f j
  have f0 : f'' 0 = some L := if_pos rfl
  have fo : ∀ j, j ≠ 0 → f'' j = none := fun j hj => (if_neg hj).trans (hnone j)
  have hg' : ∀ x o, (outT c.os' 0 T.nil).get x = some o → x = 0 ∧ o = .ghost k [Me] .nil := by
    intro x o hx
    rw [ho] at hx
    have := (outList hx).1
    match x, this with
    | 0, this => simp at this; exact ⟨rfl, this.symm⟩
    | x + 1, this => simp at this
  refine ⟨_, e1, f'', fun j K hj => (by rw [hnone j] at hj; cases hj), fun j hj => ?_, ⟨e4.below, e4.bsize, fun x K hx => ?_, fun x y Kx Ky ox oy hx hy gx gy hxy => ?_, fun x K o hx gx => ?_⟩, ?_⟩
  · rw [h0, ho] at hj
    have hj : j < 0 ∨ 1 ≤ j := hj
    exact if_neg (by omega)
  · by_cases h : x = 0
    · subst h
      rw [f0] at hx
      cases hx
      exact e4.lt 0 L hL
    · rw [fo x h] at hx; cases hx
  · exact absurd ((hg' x ox gx).1.trans (hg' y oy gy).1.symm) hxy
  · obtain ⟨rfl, rfl⟩ := hg' x o gx
    rw [f0] at hx
    cases hx
    refine ⟨⟨by rw [hgh]; exact ⟨_, R, by simp [hMe ρ h1], hm, rfl⟩, fun b hb => ?_⟩, trivial, cs, el, fr, a1, a2, (a3 rfl).2, fun j v hv => by rw [T.get_nil] at hv; cases hv⟩
    rw [hgh] at hb
    obtain ⟨M2, R2, k1, k2, k3⟩ := hb
    rcases hm.same k1 k2 k3 with rfl | rfl | rfl | ⟨hc, rfl⟩
    · exact (a3 rfl).1
    · exact dB
    · exact rB
    · rw [eC] at hc
      exact (himg hc).1
  · rw [hres]
    exact .ptr f0
end
end
end Go.Sx
/- Contracts shown where a memory's row is in order. No condition. -/
set_option linter.unusedVariables false
namespace Go.Sx
noncomputable section
section
variable {P : Program} {G : Nat → Int → Int → Int → Int} {GH : Nat → Ghost}
theorem Con.ok_mem {c : Con} {k i : Nat} {el sl : TypeId} {M : IE} {cv : T AVal} (hlen : c.os.length < 1000000) (hk : GH k = memGhost el sl) (hg : c.os[i]? = some (.ghost k [M] cv))
    (hreach : ∀ (ρ : Env) B W f w args', HRel ρ B W f (treeOf c.os 0 .nil) w → LRel ρ f c.args args' → ∃ L, f i = some L)
    (h : ∀ ρ : Env, ρ.std G GH → ρ.ok (bdL c.bds) → c.pre.holds ρ → memOk (M.ev ρ) → c.OkAt (callR P c.g) ρ) : c.Ok P G GH := by
  intro ρ h1 h2 h3 B W f w args' hr ha hn
  have hgh : ρ.gh k = memGhost el sl := by rw [h1.2]; exact hk
  obtain ⟨L, hL⟩ := hreach ρ B W f w args' hr ha
  have hgt : (treeOf c.os 0 T.nil).get i = some (.ghost k [M] cv) := by
    have := treeOf_same c.os 0 i .nil _ hg (by omega)
    rwa [Nat.zero_add] at this
  obtain ⟨⟨hrel, _⟩, _⟩ := hr.obj i L _ hL hgt
  rw [hgh] at hrel
  obtain ⟨Mv, Pg, hM, hm, _⟩ := hrel
  have hM : M.ev ρ = Mv := (List.cons.inj hM).1
  subst hM
  exact h ρ h1 h2 h3 hm.ok B W f w args' hr ha hn
/-- The same by a tree of outcomes. -/
theorem Con.ok_memT (mixed : P.follows .mixedOrders = true) {K : Know} (hK : K.Ok P G GH) {c : Con} {k i : Nat} {el sl : TypeId} {M : IE} {cv : T AVal} (hlen : c.os.length < 1000000) (hk : GH k = memGhost el sl) (hg : c.os[i]? = some (.ghost k [M] cv))
    (hreach : ∀ (ρ : Env) B W f w args', HRel ρ B W f (treeOf c.os 0 .nil) w → LRel ρ f c.args args' → ∃ L, f i = some L) (L : Nat) (pol : FuncId → Nat → Bool) (pure : FuncId → Bool) (d : Nat) (q : Dec → IE → IE → Bool)
    (hq : ∀ ρ : Env, ρ.std G GH → ρ.ok (bdL c.bds) → c.pre.holds ρ → memOk (M.ev ρ) → ∀ (dec : Dec) (a b : IE), dec.holds ρ → q dec a b = true → a.ev ρ = b.ev ρ)
    (h : (c.tree P K L pol pure d []).all (c.leaf q) c.pre = true) : c.Ok P G GH := by
  refine Con.ok_mem hlen hk hg hreach fun ρ h1 h2 h3 hm => ?_
  obtain ⟨e, s, dec', hd', p1, p2⟩ := Out.all_pick h3 h
  unfold Con.leaf at p2
  split at p2
  · rename_i l hl
    exact Con.at_ends (callR_mono P c.g) (fun B W => (Con.tree_goes (c := c) mixed hK (facts := []) h1 h2 h3 (fun p hp => by cases hp) p1 B W).toR) hl (prsAll_ok (fun a b hab => hq ρ h1 h2 h3 hm dec' a b hd' hab) p2)
  · cases p2
end
end
end Go.Sx
/- Functions given by a tree that is written by hand; trees of outcomes that fit it. No condition. -/
set_option linter.unusedSimpArgs false
set_option linter.unusedVariables false
namespace Go.Sx
noncomputable section
/-- What a function is: the values where it ends, or the arguments at which it is the same. -/
inductive HT where
  | again (xs : List IE)
  | done (rs : List IE)
  | split (b : BE) (y n : HT)
def packX : List IE → IE
  | [] => .lit 0
  | e :: l => .fn KP e (packX l) (.lit 0)
def HT.rt : HT → RT
  | .again xs => .again (packX xs)
  | .done rs => .done rs
  | .split b y n => .split b y.rt n.rt
def sameX (q : IE → IE → Bool) : IE → List IE → Bool
  | .fn c a r z, l =>
    match l with
    | [] => false
    | e :: l =>
      match Nat.beq c KP && (z.eq (.lit 0) && q a e) with
      | true => sameX q r l
      | false => false
  | .lit n, l =>
    match l with
    | [] => intEq n 0
    | _ :: _ => false
  | _, _ => false
theorem sameX_ok {ρ : Env} {q : IE → IE → Bool} (hq : ∀ a b, q a b = true → a.ev ρ = b.ev ρ) : ∀ {X : IE} {l : List IE}, sameX q X l = true → X.ev ρ = (packX l).ev ρ := by
  intro X
  induction X with
  | lit n =>
    intro l h
    cases l with
    | nil =>
      have h : intEq n 0 = true := h
      rw [intEq_eq h]; rfl
    | cons e l => cases h
  | fn c a r z iha ihr ihz =>
    intro l h
    cases l with
    | nil => cases h
    | cons e l =>
      simp only [sameX] at h
      split at h
      · rename_i hc
        obtain ⟨h1, h2⟩ := and_split hc
        obtain ⟨h2, h3⟩ := and_split h2
        rw [Nat.eq_of_beq_eq_true h1, IE.eq_eq h2]
        show fnI ρ KP (a.ev ρ) (r.ev ρ) 0 = fnI ρ KP (e.ev ρ) ((packX l).ev ρ) 0
        rw [hq _ _ h3, ihr h]
      · cases h
  | _ => intro l h; cases h
/-- Values that are those of the pairs, by the digits' numbers. -/
def fitDone (bd : Bd) (dec : Dec) (F : Fns) (rs : List IE) : Prs → Bool
  | [] => true
  | p :: l =>
    match (match p.1.eq p.2 with
      | true => true
      | false =>
        match digIx p.1 with
        | some i =>
          match rs[i]? with
          | some r => defPair bd F i p.1 r && qP bd 30 dec p.2 r
          | none => false
        | none => false) with
    | true => fitDone bd dec F rs l
    | false => false
theorem fitDone_ok {ρ : Env} {bd : Bd} (hρ : ρ.ok bd) {dec : Dec} (hd : dec.holds ρ) {F : Fns} (hk : 7 < F.KR ∧ 7 < F.KV) {rs : List IE} (hF : F.is ρ.g (F.x.ev ρ) (rs.map (·.ev ρ))) : ∀ {l : Prs}, fitDone bd dec F rs l = true → l.hold ρ := by
  intro l
  induction l with
  | nil => intro _ p hp; cases hp
  | cons x l ih =>
    intro h p hp
    simp only [fitDone] at h
    split at h
    · rename_i hx
      rcases List.mem_cons.1 hp with rfl | hp
      · split at hx
        · rename_i he
          rw [IE.eq_eq he]
        · split at hx
          · rename_i i _
            split at hx
            · rename_i r hr
              obtain ⟨h1, h2⟩ := and_split hx
              rw [qP_ok hρ hd h2]
              exact defPair_ok hρ hk hF (j := i) (by rw [List.getElem?_map, hr]; rfl) h1
            · cases hx
          · cases hx
      · exact ih h p hp
    · cases h
/-- Does an outcome's end fit the tree? -/
def HT.fit (bd : Bd) (F : Fns) (q : Prs) : HT → Dec → Bool
  | .again xs, dec =>
    match headX F q with
    | some X => defXs bd F X q && sameX (qP bd 30 dec) X xs
    | none => false
  | .done rs, dec => fitDone bd dec F rs q
  | .split b y n, dec =>
    match prove bd 4 dec b with
    | some true => y.fit bd F q dec
    | some false => n.fit bd F q dec
    | none =>
      match y.fit bd F q ((b, true) :: dec) with
      | true => n.fit bd F q ((b, false) :: dec)
      | false => false
theorem HT.fit_ok {bd : Bd} {ρ : Env} (hρ : ρ.ok bd) {F : Fns} (hk : 7 < F.KR ∧ 7 < F.KV) {q : Prs} : ∀ {t : HT} {dec : Dec}, dec.holds ρ → t.fit bd F q dec = true → (match t.rt.pick ρ with
    | .bad => True
    | .again X => F.alike ρ.g (F.x.ev ρ) X
    | .done l => F.is ρ.g (F.x.ev ρ) l) → q.hold ρ := by
  intro t
  induction t with
  | again xs =>
    intro dec hd h hF
    unfold HT.fit at h
    split at h
    · rename_i X hX
      obtain ⟨h1, h2⟩ := and_split h
      have e := sameX_ok (ρ := ρ) (fun a b hab => qP_ok hρ hd hab) h2
      exact defXs_ok hk hρ (by rw [e]; exact hF) h1
    · cases h
  | done rs =>
    intro dec hd h hF
    exact fitDone_ok hρ hd hk hF h
  | split b y n ihy ihn =>
    intro dec hd h hF
    have e : (HT.split b y n).rt.pick ρ = pickV (b.ev ρ) (y.rt.pick ρ) (n.rt.pick ρ) := rfl
    rw [e] at hF
    unfold HT.fit at h
    split at h
    · rename_i hb
      rw [prove_ok hρ _ _ _ _ hd hb] at hF
      exact ihy hd h hF
    · rename_i hb
      rw [prove_ok hρ _ _ _ _ hd hb] at hF
      exact ihn hd h hF
    · split at h
      · rename_i h1
        cases hb : b.ev ρ
        · rw [hb] at hF
          exact ihn (decCons hd hb) h hF
        · rw [hb] at hF
          exact ihy (decCons hd hb) h1 hF
      · cases h
def Con.fitLeaf (c : Con) (F : Fns) (t : HT) (dec : Dec) (_ : AExit) (s : ASt) : Bool :=
  match c.endsA s with
  | some q => t.fit (bdL c.bds) F q dec
  | none => false
/-- A tree of outcomes, each of which fits. -/
theorem Con.fitLeaves {G : Nat → Int → Int → Int → Int} {GH : Nat → Ghost} {c : Con} (facts : Dec) (hf : ∀ ρ : Env, ρ.std G GH → ρ.ok (bdL c.bds) → c.pre.holds ρ → facts.holds ρ) {F : Fns} (hk : 7 < F.KR ∧ 7 < F.KV) {t : HT} {o : Out} (h : o.all (c.fitLeaf F t) (facts ++ c.pre) = true) (hG : F.Def G t.rt) : c.Leaves G GH o := by
  intro ρ h1 h2 h3
  obtain ⟨e, s, dec', hd', p1, p2⟩ := Out.all_pick (holds_app (hf ρ h1 h2 h3) h3) h
  unfold Con.fitLeaf at p2
  split at p2
  · rename_i q hq
    exact ⟨e, s, _, q, p1, hq, HT.fit_ok h2 hk hd' p2 (by have := hG ρ h1.1; rw [h1.1]; exact this)⟩
  · cases p2
/-- A loop's contract, in each case by a tree of its own. -/
theorem LCon.ok_any {P : Program} (mixed : P.follows .mixedOrders = true) {G : Nat → Int → Int → Int → Int} {GH : Nat → Ghost} {c : LCon} (hwf : c.con.wf = true) (hsl : c.sl.length = c.con.args.length) {L : Nat} {pol : FuncId → Nat → Bool} {pure : FuncId → Bool} {d : Nat} {μ : IE}
    (h : ∀ ρ : Env, ρ.std G GH → ρ.ok (bdL c.con.bds) → c.con.pre.holds ρ → ∃ (K : Know) (facts : Dec), K.Ok P G GH ∧ facts.holds ρ ∧ ∃ e s at' q, (c.tree P K L pol pure d facts μ).pick ρ = some (e, s) ∧ c.con.ends at' s = some q ∧ q.hold ρ) : c.Ok P G GH := by
  intro fn cd b hfn hb hm hk
  have key : ∀ m, ∀ ρ : Env, ρ.std G GH → ρ.ok (bdL c.con.bds) → c.con.pre.holds ρ → (μ.ev ρ).toNat < m → c.con.OkAt (roundsR P b c m) ρ := by
    intro m
    induction m with
    | zero => intro ρ _ _ _ h; omega
    | succ m ih =>
      intro ρ h1 h2 h3 hlt
      obtain ⟨K, facts, hK, hf, e, s, at', q, p1, p2, p3⟩ := h ρ h1 h2 h3
      exact Con.at_ends (roundsR_mono P b c (m + 1)) (LCon.tree_goes mixed hK hwf hsl h1 h2 h3 hf hfn hb hm hk (fun ρ' k1 k2 k3 k4 => ih ρ' k1 k2 k3 (by omega)) p1) p2 p3
  intro ρ h1 h2 h3
  exact ⟨_, key _ ρ h1 h2 h3 (Nat.lt_succ_self _)⟩
/-- An outcome that fits. -/
theorem Con.fit_at {c : Con} {F : Fns} (hk : 7 < F.KR ∧ 7 < F.KV) {t : HT} {o : Out} {dec : Dec} (h : o.all (c.fitLeaf F t) dec = true) {ρ : Env} (h2 : ρ.ok (bdL c.bds)) (hd : dec.holds ρ) (hF : F.Def ρ.g t.rt) : ∃ e s at' q, o.pick ρ = some (e, s) ∧ c.ends at' s = some q ∧ q.hold ρ := by
  obtain ⟨e, s, dec', hd', p1, p2⟩ := Out.all_pick hd h
  unfold Con.fitLeaf at p2
  split at p2
  · rename_i q hq
    exact ⟨e, s, _, q, p1, hq, HT.fit_ok h2 hk hd' p2 (hF ρ rfl)⟩
  · cases p2
/-- As ok_memT, for a program's memory or the reference's. -/
theorem Con.ok_memA {P : Program} {G : Nat → Int → Int → Int → Int} {GH : Nat → Ghost} (mixed : P.follows .mixedOrders = true) {K : Know} (hK : K.Ok P G GH) {c : Con} {k i : Nat} {M : IE} {cv : T AVal} (hlen : c.os.length < 1000000) (hk : (∃ el sl, GH k = memGhost el sl) ∨ ∃ el, GH k = refGhost el) (hg : c.os[i]? = some (.ghost k [M] cv))
    (hreach : ∀ (ρ : Env) B W f w args', HRel ρ B W f (treeOf c.os 0 .nil) w → LRel ρ f c.args args' → ∃ L, f i = some L) (L : Nat) (pol : FuncId → Nat → Bool) (pure : FuncId → Bool) (d : Nat) (q : Dec → IE → IE → Bool)
    (hq : ∀ ρ : Env, ρ.std G GH → ρ.ok (bdL c.bds) → c.pre.holds ρ → memOk (M.ev ρ) → ∀ (dec : Dec) (a b : IE), dec.holds ρ → q dec a b = true → a.ev ρ = b.ev ρ)
    (h : (c.tree P K L pol pure d []).all (c.leaf q) c.pre = true) : c.Ok P G GH := by
  rcases hk with ⟨el, sl, hk⟩ | ⟨el, hk⟩
  · exact Con.ok_memT mixed hK hlen hk hg hreach L pol pure d q hq h
  · intro ρ h1 h2 h3 B W f w args' hr ha hn
    have hgh : ρ.gh k = refGhost el := by rw [h1.2]; exact hk
    obtain ⟨L', hL⟩ := hreach ρ B W f w args' hr ha
    have hgt : (treeOf c.os 0 T.nil).get i = some (.ghost k [M] cv) := by
      have := treeOf_same c.os 0 i .nil _ hg (by omega)
      rwa [Nat.zero_add] at this
    obtain ⟨⟨hrel, _⟩, _⟩ := hr.obj i L' _ hL hgt
    rw [hgh] at hrel
    obtain ⟨Mv, R, hM, hm, _⟩ := hrel
    have hM : M.ev ρ = Mv := (List.cons.inj hM).1
    subst hM
    obtain ⟨e, s, dec', hd', p1, p2⟩ := Out.all_pick h3 h
    unfold Con.leaf at p2
    split at p2
    · rename_i l hl
      exact Con.at_ends (callR_mono P c.g) (fun B W => (Con.tree_goes (c := c) mixed hK (facts := []) h1 h2 h3 (fun p hp => by cases hp) p1 B W).toR) hl (prsAll_ok (fun a b hab => hq ρ h1 h2 h3 hm.ok dec' a b hd' hab) p2) B W f w args' hr ha hn
    · cases p2
end
end Go.Sx
/- Loops whose rounds are told one by one: a round, then the next contract. No condition. -/
set_option linter.unusedSimpArgs false
set_option linter.unusedVariables false
namespace Go.Sx
open Go.RowKit (Below)
noncomputable section
/-- Behind a round: the next contract. -/
def LCon.onceN (C C' : Ctx) (c : LCon) (dec : Dec) (s : ASt) (again : Dec → Out) : Out :=
  match slotsOf s.tm c.sl with
  | some args =>
    match c.con.fit C' args s.hp s.nx with
    | some (sg, pb) =>
      match c.con.then C' s.hp s.nx sg pb with
      | (v, hp', nx') => .leaf .ret ⟨T.nil.set 0 v, hp', nx'⟩
    | none =>
      match learn C.bd dec (c.con.ask C' args s.hp) with
      | ⟨true, d, _⟩ => again d
      | ⟨false, _, some t⟩ => Out.part t (facts C.bd t dec) again again
      | ⟨false, _, none⟩ => .bad (.num 213)
  | none => .bad (.num 214)
def LCon.backN (C : Ctx) (c c2 : LCon) : Nat → Dec → AExit → ASt → Out
  | 0, _, _, _ => .bad (.num 211)
  | k + 1, dec, e, s =>
    match e with
    | .normal => LCon.onceN C (C.sharp c.con.bds dec) c2 dec (s.nrmS (bdL (sharpL C.bd dec c.con.bds)) dec) (fun d => LCon.backN C c c2 k d .normal s)
    | e =>
      match exitSame e c.e with
      | true =>
        match slotsOf s.tm c.sl' with
        | some vs => .leaf .ret ⟨T.nil.set 0 (.tuple vs), s.hp, s.nx⟩
        | none => .bad (.num 205)
      | false => .bad (.num 206)
def LCon.treeN (c c2 : LCon) (P : Program) (K : Know) (L : Nat) (pol : FuncId → Nat → Bool) (pure : FuncId → Bool) (d : Nat) (facts : Dec) : Out :=
  match loopBody (ctxOf P (bdL c.con.bds)) c.con.g c.key with
  | some b =>
    (oCode (ctxOf P (bdL c.con.bds)) (callOf (smKnow (ctxOf P (bdL c.con.bds)) K) pure (oTree (ctxOf P (bdL c.con.bds)) (smKnow (ctxOf P (bdL c.con.bds)) K) L pol pure d)) (smKnow (ctxOf P (bdL c.con.bds)) K).call (pureTree pure (oTree (ctxOf P (bdL c.con.bds)) (smKnow (ctxOf P (bdL c.con.bds)) K) L pol pure d))
      (askOf (ctxOf P (bdL c.con.bds)) (smKnow (ctxOf P (bdL c.con.bds)) K) pure (oTree (ctxOf P (bdL c.con.bds)) (smKnow (ctxOf P (bdL c.con.bds)) K) L pol pure d)) (askOne (ctxOf P (bdL c.con.bds)) (smKnow (ctxOf P (bdL c.con.bds)) K)) ((smKnow (ctxOf P (bdL c.con.bds)) K).lps c.con.g) c.n L (pol c.con.g) b (facts ++ c.con.pre)
      (ASt.nrmS (bdL c.con.bds) (facts ++ c.con.pre) ⟨tmOf c.sl c.con.args .nil, treeOf c.con.os 0 .nil, c.con.os.length⟩)).bind (facts ++ c.con.pre) (LCon.backN (ctxOf P (bdL c.con.bds)) c c2 8)
  | none => .bad (.num 207)
/-- The next contract is of the same loop. -/
structure LCon.Next (c c2 : LCon) : Prop where
  n : c2.n = c.n
  e : c2.e = c.e
  sl' : c2.sl' = c.sl'
theorem LCon.backN_ok {C : Ctx} {P : Program} {ρ : Env} (hC : C.Ok P ρ) {G : Nat → Int → Int → Int → Int} {GH : Nat → Ghost} (hρ : ρ.std G GH) {c c2 : LCon} (hwf : c2.con.wf = true) (hx : c.Next c2) {b : Code}
    (ih : ∀ ρ' : Env, ρ'.std G GH → ρ'.ok (bdL c2.con.bds) → c2.con.pre.holds ρ' → ∃ m, c2.con.OkAt (roundsR P b c2 m) ρ') : ∀ (k : Nat) (dec : Dec), Dec.holds ρ dec → ∀ (e1 : AExit) (s1 : ASt) (e : AExit) (s : ASt), (c.backN C c2 k dec e1 s1).pick ρ = some (e, s) →
      s1.nx ≤ s.nx ∧ ∃ m, ∀ B W N f1 a1 w1 (Q0 : Exit → Act → World → Prop), s.nx ≤ N → StRel ρ B W c.n N f1 s1 a1 w1 →
        (∀ (v : Value) (a' : Act) (w' : World), (∃ f', f1.le f' ∧ Outside f1 f' s1.nx s.nx ∧ HRel ρ B W f' s.hp w' ∧ ∀ u, s.tm.get 0 = some u → VRel ρ f' u v) → a'.tmps.size = c.n → a'.defers = [] → (∃ l : Array Value, v = .tuple l ∧ l.size = c.sl'.length ∧ ∀ (i s : Nat), c.sl'[i]? = some s → l[i]? = some (a'.tmps.getD s Go.undef)) → Q0 c.e.to a' w') →
        Exit.then (Code.rounds P b Q0 m) Q0 e1.to a1 w1 := by
  intro k
  induction k with
  | zero => intro dec _ e1 s1 e s h; cases h
  | succ k ihk =>
    intro dec hd e1 s1 e s h
    unfold LCon.backN at h
    split at h
    · -- the next one
      have hCs := hC.sharp c.con.bds hd
      have hcov := ASt.nrmS_cov (ρ := ρ) hCs.bd hd s1
      have hbd : (C.sharp c.con.bds dec).bd = bdL (sharpL C.bd dec c.con.bds) := rfl
      rw [hbd] at hcov
      have hnx1 : (s1.nrmS (bdL (sharpL C.bd dec c.con.bds)) dec).nx = s1.nx := rfl
      generalize s1.nrmS (bdL (sharpL C.bd dec c.con.bds)) dec = s2 at h hcov hnx1
      generalize C.sharp c.con.bds dec = Cs at h hCs
      unfold LCon.onceN at h
      split at h
      · rename_i args hargs
        split at h
        · rename_i sg pb hfit
          split at h
          rename_i v hp' nx' hthen
          cases h
          obtain ⟨h1, h2, h3⟩ := Con.fit_ok hCs hwf hfit
          have hnx : nx' = s2.nx + (c2.con.os'.length - c2.con.os.length) := (congrArg (·.2.2) hthen).symm
          subst hnx
          rw [hnx1] at h3 ⊢
          obtain ⟨m, hat⟩ := ih (ρ.rep (sigOf sg)) ⟨hρ.1, hρ.2⟩ h1 h2
          refine ⟨Nat.le_add_right _ _, m, fun B W N f1 a1 w1 Q0 hN hr0 hQ => ?_⟩
          have hr := hcov.st hr0
          refine h3 _ (roundsR_mono P b c2 m) hat B W f1 w1 (c2.sl.map fun k => a1.tmps.getD k Go.undef).toArray hr.heap (hr.tm.args hargs) (hr0.fresh.sub (Nat.le_refl _) hN) a1 (hr.size.trans hx.n.symm) hr.defers (fun i s x hs hx => act_args hs hx) Q0 fun v' a' w' ⟨f', k1, k2, k3, k4⟩ k5 k6 k7 => ?_
          rw [hnx1] at hthen
          rw [hthen] at k3 k4
          rw [hx.sl'] at k7
          rw [hx.n] at k5
          rw [hx.e]
          refine hQ v' a' w' ⟨f', k1, k2, k3, fun u hu => ?_⟩ k5 k6 k7
          have hu : (T.nil.set 0 v).get 0 = some u := hu
          rcases T.get_set hu with ⟨_, rfl⟩ | ⟨h0, _⟩
          · exact k4
          · exact absurd rfl h0
        · have hl := learn_ok hC.bd hd (c2.con.ask Cs args s2.hp)
          split at h
          · rename_i d q hq
            rw [hq] at hl
            exact ihk d hl .normal s1 e s h
          · rename_i t _
            obtain ⟨d, h1, h2⟩ := Out.part_pick (facts_ok hC.bd t hd) t (fun d => LCon.backN C c c2 k d .normal s1) (fun d => LCon.backN C c c2 k d .normal s1)
            rw [h2] at h
            cases ht : t.ev ρ
            · rw [ht] at h; exact ihk d h1 .normal s1 e s h
            · rw [ht] at h; exact ihk d h1 .normal s1 e s h
          · cases h
      · cases h
    · -- the end
      rename_i hne
      split at h
      · rename_i hex
        have hex := exitSame_eq hex
        split at h
        · rename_i vs hvs
          cases h
          refine ⟨Nat.le_refl _, 0, fun B W N f1 a1 w1 Q0 hN hr hQ => ?_⟩
          have hq : Q0 e1.to a1 w1 := by
            rw [hex]
            refine hQ (.tuple (c.sl'.map fun k => a1.tmps.getD k Go.undef).toArray) a1 w1 ⟨f1, Ren.le_refl _, fun _ _ => rfl, hr.heap, fun u hu => ?_⟩ hr.size hr.defers ⟨_, rfl, by simp, fun i s hs => by simp [hs]⟩
            have hu : (T.nil.set 0 (AVal.tuple vs)).get 0 = some u := hu
            rcases T.get_set hu with ⟨_, rfl⟩ | ⟨h0, _⟩
            · have := hr.tm.args hvs
              exact .tuple this.1 this.2
            · exact absurd rfl h0
          cases e1 with
          | normal => exact absurd rfl hne
          | exit i => exact hq
          | ret => exact hq
        · cases h
      · cases h
theorem LCon.treeN_goes {P : Program} (mixed : P.follows .mixedOrders = true) {G : Nat → Int → Int → Int → Int} {GH : Nat → Ghost} {K : Know} (hK : K.Ok P G GH) {c c2 : LCon} (hwf : c2.con.wf = true) (hx : c.Next c2) (hsl : c.sl.length = c.con.args.length) {L : Nat} {pol : FuncId → Nat → Bool} {pure : FuncId → Bool} {d : Nat} {facts : Dec} {ρ : Env} (h1 : ρ.std G GH) (h2 : ρ.ok (bdL c.con.bds)) (h3 : c.con.pre.holds ρ) (hf : facts.holds ρ)
    {fn : Func} {cd b : Code} (hfn : P.funcs[c.con.g]? = some fn) (hb : fn.body = some cd) (hm : b ∈ loopsOf cd) (hk : Code.key b = c.key) (ih : ∀ ρ' : Env, ρ'.std G GH → ρ'.ok (bdL c2.con.bds) → c2.con.pre.holds ρ' → ∃ m, c2.con.OkAt (roundsR P b c2 m) ρ')
    {e : AExit} {s : ASt} (hs : (c.treeN c2 P K L pol pure d facts).pick ρ = some (e, s)) : ∃ m, ∀ B W, RGoes (roundsR P b c (m + 1)) ρ B W c.con.args (treeOf c.con.os 0 .nil) c.con.os.length s := by
  have hC : (ctxOf P (bdL c.con.bds)).Ok P ρ := ctxOf_ok mixed h2
  have hd : Dec.holds ρ (facts ++ c.con.pre) := fun p hp => by
    rcases List.mem_append.1 hp with hp | hp
    · exact hf p hp
    · exact h3 p hp
  unfold LCon.treeN at hs
  split at hs
  · rename_i b' hb'
    have e0 : b' = b := by
      unfold loopBody at hb'
      split at hb'
      · rename_i fn' hfn'
        have := hC.fn _ _ hfn'
        rw [hfn] at this
        cases this
        rw [hb] at hb'
        simp only at hb'
        split at hb'
        · rename_i b1 hl
          cases hb'
          have : b ∈ (loopsOf cd).filter fun b => Nat.beq (Code.key b) c.key := List.mem_filter.2 ⟨hm, by rw [hk]; exact Nat.beq_refl _⟩
          rw [hl] at this
          exact (List.mem_singleton.1 this).symm
        · cases hb'
      · cases hb'
    subst e0
    obtain ⟨e1, s1, d1, hd1, p1, p2⟩ := Out.bind_pick hd hs
    have hsm := smKnow_ok hC h1 hK
    have htr := oTree_ok hC hsm L pol pure d
    have q := fun B W => (oCode_ok (B := B) (W := W) (n := c.n) (ask := askOf (ctxOf P (bdL c.con.bds)) (smKnow (ctxOf P (bdL c.con.bds)) K) pure (oTree (ctxOf P (bdL c.con.bds)) (smKnow (ctxOf P (bdL c.con.bds)) K) L pol pure d)) (asko := askOne (ctxOf P (bdL c.con.bds)) (smKnow (ctxOf P (bdL c.con.bds)) K)) hC (callOf_ok hsm htr) (fun dec hd => hsm.call dec hd B W) (pureTree_ok htr) L (pol c.con.g) b' (fun x hx => hsm.lps _ fn cd hfn hb B W c.n x (LCon.tree_goes.loops_in hm hx)) (facts ++ c.con.pre) hd _ _ _ p1).1
    obtain ⟨r1, m, r2⟩ := LCon.backN_ok hC h1 hwf hx ih 8 d1 hd1 e1 s1 e s p2
    refine ⟨m, fun B W => ⟨Nat.le_trans (q B W).1 r1, fun f w args' hr ha hfr a k1 k2 k3 Q0 hQ => ?_⟩⟩
    refine (q B W).2 s.nx f a w _ r1 ((ASt.nrmS_cov h2 hd ⟨tmOf c.sl c.con.args .nil, treeOf c.con.os 0 .nil, c.con.os.length⟩).st ⟨k1, fun dd v hv => ?_, k2, hr, hfr⟩) fun f1 a1 w1 l1 o1 r => ?_
    · rcases tmOf_get hv with ⟨i, i1, i2⟩ | h
      · obtain ⟨x, x1, x2⟩ := LRel.get ha i2
        rw [k3 i dd x i1 x1]
        exact x2
      · rw [T.get_nil] at h; cases h
    · refine r2 B W s.nx f1 a1 w1 Q0 (Nat.le_refl _) r fun v a' w' ⟨f', y1, y2, y3, y4⟩ y5 y6 y7 => hQ v a' w' ⟨f', Ren.le_trans l1 y1, o1.trans y2 (q B W).1 r1, y3, y4⟩ y5 y6 y7
  · cases hs
/-- A loop's contract by one round and the next contract. -/
theorem LCon.ok_next {P : Program} (mixed : P.follows .mixedOrders = true) {G : Nat → Int → Int → Int → Int} {GH : Nat → Ghost} {c c2 : LCon} (hw2 : c2.con.wf = true) (h2 : c2.Ok P G GH) (hg : c2.con.g = c.con.g) (hkey : c2.key = c.key) (hx : c.Next c2) (hsl : c.sl.length = c.con.args.length) {L : Nat} {pol : FuncId → Nat → Bool} {pure : FuncId → Bool} {d : Nat}
    (h : ∀ ρ : Env, ρ.std G GH → ρ.ok (bdL c.con.bds) → c.con.pre.holds ρ → ∃ (K : Know) (facts : Dec), K.Ok P G GH ∧ facts.holds ρ ∧ ∃ e s at' q, (c.treeN c2 P K L pol pure d facts).pick ρ = some (e, s) ∧ c.con.ends at' s = some q ∧ q.hold ρ) : c.Ok P G GH := by
  intro fn cd b hfn hb hm hk ρ h1 hb2 h3
  obtain ⟨K, facts, hK, hf, e, s, at', q, p1, p2, p3⟩ := h ρ h1 hb2 h3
  obtain ⟨m, hm'⟩ := LCon.treeN_goes mixed hK hw2 hx hsl h1 hb2 h3 hf hfn hb hm hk (fun ρ' k1 k2 k3 => h2 fn cd b (by rw [hg]; exact hfn) hb hm (by rw [hkey]; exact hk) ρ' k1 k2 k3) p1
  exact ⟨m + 1, Con.at_ends (roundsR_mono P b c (m + 1)) hm' p2 p3⟩
/-- Another contract of the loop, at its head. -/
def LCon.tree0 (c c2 : LCon) (P : Program) (facts : Dec) : Out :=
  LCon.backN (ctxOf P (bdL c.con.bds)) c c2 8 (facts ++ c.con.pre) .normal (ASt.nrmS (bdL c.con.bds) (facts ++ c.con.pre) ⟨tmOf c.sl c.con.args .nil, treeOf c.con.os 0 .nil, c.con.os.length⟩)
/-- A loop's contract out of others of the same loop. -/
theorem LCon.ok_from {P : Program} (mixed : P.follows .mixedOrders = true) {G : Nat → Int → Int → Int → Int} {GH : Nat → Ghost} {c : LCon} (hsl : c.sl.length = c.con.args.length)
    (h : ∀ ρ : Env, ρ.std G GH → ρ.ok (bdL c.con.bds) → c.con.pre.holds ρ → ∃ (c2 : LCon) (facts : Dec), c2.con.wf = true ∧ c2.Ok P G GH ∧ c2.con.g = c.con.g ∧ c2.key = c.key ∧ c.Next c2 ∧ facts.holds ρ ∧ ∃ e s at' q, (c.tree0 c2 P facts).pick ρ = some (e, s) ∧ c.con.ends at' s = some q ∧ q.hold ρ) : c.Ok P G GH := by
  intro fn cd b hfn hb hm hk ρ h1 hb2 h3
  obtain ⟨c2, facts, hw2, h2, hg, hkey, hx, hf, e, s, at', q, p1, p2, p3⟩ := h ρ h1 hb2 h3
  have hC : (ctxOf P (bdL c.con.bds)).Ok P ρ := ctxOf_ok mixed hb2
  have hd : Dec.holds ρ (facts ++ c.con.pre) := fun p hp => by
    rcases List.mem_append.1 hp with hp | hp
    · exact hf p hp
    · exact h3 p hp
  obtain ⟨r1, m, r2⟩ := LCon.backN_ok hC h1 hw2 hx (fun ρ' k1 k2 k3 => h2 fn cd b (by rw [hg]; exact hfn) hb hm (by rw [hkey]; exact hk) ρ' k1 k2 k3) 8 _ hd _ _ e s p1
  refine ⟨m, Con.at_ends (roundsR_mono P b c m) (fun B W => ⟨r1, fun f w args' hr ha hfr a k1 k2 k3 Q0 hQ => ?_⟩) p2 p3⟩
  refine r2 B W s.nx f a w Q0 (Nat.le_refl _) ((ASt.nrmS_cov hb2 hd ⟨tmOf c.sl c.con.args .nil, treeOf c.con.os 0 .nil, c.con.os.length⟩).st ⟨k1, fun dd v hv => ?_, k2, hr, hfr⟩) fun v a' w' ⟨f', y1, y2, y3, y4⟩ y5 y6 y7 => hQ v a' w' ⟨f', y1, y2, y3, y4⟩ y5 y6 y7
  rcases tmOf_get hv with ⟨i, i1, i2⟩ | h
  · obtain ⟨x, x1, x2⟩ := LRel.get ha i2
    rw [k3 i dd x i1 x1]
    exact x2
  · rw [T.get_nil] at h; cases h
end
end Go.Sx
