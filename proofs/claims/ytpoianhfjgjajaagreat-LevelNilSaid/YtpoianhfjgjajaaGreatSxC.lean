/- Contracts: what a function does from a pattern of its arguments and blocks; put to use at a call. No condition. -/
import Derived.Test.YtpoianhfjgjajaaGreatSxU
set_option linter.unusedSimpArgs false
set_option linter.unusedVariables false
namespace Go.Sx
open Go.RowKit (Below)
noncomputable section

/-! equal, perhaps behind a turn -/
def IE.eqN (bd : Bd) (dec : Dec) (a b : IE) : Bool :=
  match a.eqF b with
  | true => true
  | false =>
    match (a.nrm bd dec).eq (b.nrm bd dec) with
    | true => true
    | false =>
      match linSame bd (a.nrm bd dec) (b.nrm bd dec) with
      | some v => v
      | none => false
section
variable {ρ : Env} {bd : Bd} {dec : Dec} {f : Ren}
theorem IE.eqN_ev (hρ : ρ.ok bd) (hd : dec.holds ρ) {a b : IE} (h : a.eqN bd dec b = true) : a.ev ρ = b.ev ρ := by
  unfold IE.eqN at h
  split at h
  · rename_i e
    rw [IE.eqF_eq e]
  · split at h
    · rename_i h1
      rw [← IE.nrm_ev hρ hd a, IE.eq_eq h1, IE.nrm_ev hρ hd]
    · split at h
      · rename_i v hv
        subst h
        have := linSame_ok hρ hv
        rw [IE.nrm_ev hρ hd, IE.nrm_ev hρ hd] at this
        exact of_decide_eq_true this
      · cases h
/-- 'x = 1', where x is the number of a test. -/
def isNum (bd : Bd) (dec : Dec) : BE → BE → Bool
  | .eq x (.lit n), b =>
    match intEq n 1, b.num with
    | true, some y => x.eqN bd dec y
    | _, _ => false
  | _, _ => false
theorem isNum_ev (hρ : ρ.ok bd) (hd : dec.holds ρ) {a b : BE} (h : isNum bd dec a b = true) : a.ev ρ = b.ev ρ := by
  cases a with
  | eq x z =>
    cases z with
    | lit n =>
      simp only [isNum] at h
      split at h
      · rename_i y h1 h2
        have := intEq_eq h1
        subst this
        have h3 := IE.eqN_ev hρ hd h
        have h4 := BE.num_ev (ρ := ρ) h2
        show decide (x.ev ρ = 1) = _
        rw [h3, h4]
        cases b.ev ρ <;> rfl
      · cases h
    | _ => simp [isNum] at h
  | _ => simp [isNum] at h
def BE.eqN (bd : Bd) (dec : Dec) (a b : BE) : Bool :=
  match a.same b with
  | true => true
  | false =>
    match isNum bd dec a b with
    | true => true
    | false => (a.nrm bd dec).same (b.nrm bd dec)
theorem BE.eqN_ev (hρ : ρ.ok bd) (hd : dec.holds ρ) {a b : BE} (h : a.eqN bd dec b = true) : a.ev ρ = b.ev ρ := by
  unfold BE.eqN at h
  split at h
  · rename_i e
    rw [BE.same_eq e]
  · split at h
    · rename_i hn
      exact isNum_ev hρ hd hn
    · rw [← BE.nrm_ev hρ hd a, BE.same_eq h, BE.nrm_ev hρ hd]
def ieListN (bd : Bd) (dec : Dec) : List IE → List IE → Bool
  | [], [] => true
  | a :: l, b :: m =>
    match a.eqN bd dec b with
    | true => ieListN bd dec l m
    | false => false
  | _, _ => false
theorem ieListN_ev (hρ : ρ.ok bd) (hd : dec.holds ρ) : ∀ {l m : List IE}, ieListN bd dec l m = true → l.map (·.ev ρ) = m.map (·.ev ρ) := by
  intro l
  induction l with
  | nil => intro m h; cases m with
    | nil => rfl
    | cons b m => cases h
  | cons a l ih =>
    intro m h
    cases m with
    | nil => cases h
    | cons b m =>
      simp only [ieListN] at h
      split at h
      · rename_i e
        simp only [List.map_cons, IE.eqN_ev hρ hd e, ih h]
      · cases h
/-- The digits of a row, from the one numbered j on. -/
def rowIs (bd : Bd) (dec : Dec) (code : IE) : Nat → List IE → Bool
  | _, [] => true
  | j, e :: l =>
    match (nrmFn bd 0 (code.nrm bd dec) (.lit (.ofNat j)) (.lit 0)).eqN bd dec e with
    | true => rowIs bd dec code (j + 1) l
    | false => false
theorem rowIs_ok (hρ : ρ.ok bd) (hd : dec.holds ρ) {code : IE} : ∀ {l : List IE} {j : Nat}, rowIs bd dec code j l = true → ∀ (i : Nat) (e : IE), l[i]? = some e → rowGet (code.ev ρ) (j + i : Nat) = e.ev ρ := by
  intro l
  induction l with
  | nil => intro j _ i e h; simp at h
  | cons a l ih =>
    intro j h i e he
    simp only [rowIs] at h
    split at h
    · rename_i h1
      cases i with
      | zero =>
        simp at he
        subst he
        have := IE.eqN_ev hρ hd h1
        rw [nrmFn_ev hρ, IE.nrm_ev hρ hd] at this
        exact this
      | succ i =>
        have := ih h i e (by simpa using he)
        rw [show j + (i + 1) = j + 1 + i by omega]
        exact this
    · cases h
/-- The digits of a number, where all are numbers: quick. -/
def rowLits : List IE → Nat → Bool
  | [], _ => true
  | e :: l, m =>
    match e with
    | .lit (.ofNat v) =>
      match Nat.beq (Nat.mod m 1208925819614629174706176) v && Nat.blt v 604462909807314587353088 with
      | true => rowLits l (Nat.shiftRight m 80)
      | false => false
    | _ => false
theorem rowLits_ok {ρ : Env} {n : Nat} : ∀ {l : List IE} {j : Nat}, rowLits l (Nat.shiftRight n (Nat.mul 80 j)) = true → ∀ (i : Nat) (e : IE), l[i]? = some e → rowGet (n : Int) (j + i : Nat) = e.ev ρ := by
  intro l
  induction l with
  | nil => intro j _ i e h; simp at h
  | cons a l ih =>
    intro j h i e he
    unfold rowLits at h
    split at h
    · rename_i v
      split at h
      · rename_i h1
        obtain ⟨h1, h2⟩ := and_split h1
        have h1 := Nat.eq_of_beq_eq_true h1
        cases i with
        | zero =>
          simp at he
          subst he
          show rowPut (Nat.mod (Nat.shiftRight ((n : Int).toNat) (Nat.mul 80 ((j : Nat) : Int).toNat)) 1208925819614629174706176) = (v : Int)
          rw [Int.toNat_natCast, Int.toNat_natCast, h1]
          unfold rowPut
          rw [h2]
          rfl
        | succ i =>
          have e1 : Nat.shiftRight (Nat.shiftRight n (Nat.mul 80 j)) 80 = Nat.shiftRight n (Nat.mul 80 (j + 1)) := by
            show (n >>> (80 * j)) >>> 80 = n >>> (80 * (j + 1))
            rw [← Nat.shiftRight_add]
            rfl
          rw [e1] at h
          have := ih h i e (by simpa using he)
          rw [show j + (i + 1) = j + 1 + i by omega]
          exact this
      · cases h
    · cases h
def rowIsF (bd : Bd) (dec : Dec) (code : IE) (l : List IE) : Bool :=
  match code with
  | .lit (.ofNat n) =>
    match rowLits l n with
    | true => true
    | false => rowIs bd dec (.lit (.ofNat n)) 0 l
  | code => rowIs bd dec code 0 l
theorem rowIsF_ok (hρ : ρ.ok bd) (hd : dec.holds ρ) {code : IE} {l : List IE} (h : rowIsF bd dec code l = true) (i : Nat) (e : IE) (he : l[i]? = some e) : rowGet (code.ev ρ) (i : Nat) = e.ev ρ := by
  unfold rowIsF at h
  split at h
  · rename_i n
    split at h
    · rename_i h1
      have := rowLits_ok (ρ := ρ) (n := n) (l := l) (j := 0) (by simpa using h1) i e he
      rw [Nat.zero_add] at this
      exact this
    · have := rowIs_ok hρ hd h i e he
      rw [Nat.zero_add] at this
      exact this
  · have := rowIs_ok hρ hd h i e he
    rw [Nat.zero_add] at this
    exact this
mutual
/-- The first says what the second says. -/
def AVal.cov (bd : Bd) (dec : Dec) : AVal → AVal → Bool
  | .bool a, .bool b => a.eqN bd dec b
  | .int k a, .int j b => kindEq k j && a.eqN bd dec b
  | .str a, .str b => ieListN bd dec a b
  | .ptr a, .ptr b => posSame a b
  | .slice a l c g, .slice b l' c' g' => posSame a b && (Nat.beq l l' && (Nat.beq c c' && Nat.beq g g'))
  | .map none, .map none => true
  | .map (some a), .map (some b) => Nat.beq a b
  | .func a l m, .func b l' m' => fnSame a b && (covList bd dec l l' && covList bd dec m m')
  | .nilFunc, .nilFunc => true
  | .iface t a, .iface u b => Nat.beq t u && a.cov bd dec b
  | .nilIface, .nilIface => true
  | .agg l, .agg m => covList bd dec l m
  | .tuple l, .tuple m => covList bd dec l m
  | .ptrE i a s c, .ptrE j b t d => Nat.beq i j && (a.eqN bd dec b && (Nat.beq s t && Nat.beq c d))
  | .sliceS i a b s nn, .sliceS j c d t nn' => Nat.beq i j && (a.eqN bd dec c && (b.eqN bd dec d && (Nat.beq s t && bEq nn nn')))
  | .sliceS i a b s nn, .slice (some (j, o)) n c 0 => Nat.beq i j && (b.eqN bd dec (.lit (.ofNat n)) && (Nat.ble n c && (match a with
    | .lit (.ofNat st) => Nat.beq (Nat.mul st s) o
    | _ => false)))
  | .sliceS _ _ b _ nn, .slice none 0 0 0 => bEq nn false && b.eqN bd dec (.lit 0)
  | .sliceA i l s, .sliceA j l' t => Nat.beq i j && (l.eqN bd dec l' && Nat.beq s t)
  | .sliceA _ l _, .slice none 0 0 0 => l.eqN bd dec (.lit 0)
  | .strS a b, .strS c d => a.eqN bd dec c && b.eqN bd dec d
  | .strS a b, .str l => b.eqN bd dec (.lit (.ofNat l.length)) && rowIsF bd dec a l
  | _, _ => false
def covList (bd : Bd) (dec : Dec) : List AVal → List AVal → Bool
  | [], [] => true
  | a :: l, b :: m =>
    match a.cov bd dec b with
    | true => covList bd dec l m
    | false => false
  | _, _ => false
end
theorem covList_get : ∀ {l m : List AVal}, covList bd dec l m = true → l.length = m.length ∧ ∀ (i : Nat) (a : AVal), l[i]? = some a → ∃ b, m[i]? = some b ∧ a.cov bd dec b = true := by
  intro l
  induction l with
  | nil => intro m h; cases m with
    | nil => exact ⟨rfl, fun i a ha => by simp at ha⟩
    | cons b m => simp only [covList] at h; cases h
  | cons x l ih =>
    intro m h
    cases m with
    | nil => simp only [covList] at h; cases h
    | cons b m =>
      simp only [covList] at h
      split at h
      · rename_i e
        obtain ⟨h1, h2⟩ := ih h
        refine ⟨by simp [h1], fun i a ha => ?_⟩
        cases i with
        | zero => simp at ha; subst ha; exact ⟨b, rfl, e⟩
        | succ i => exact h2 i a (by simpa using ha)
      · cases h
theorem AVal.cov_ok (hρ : ρ.ok bd) (hd : dec.holds ρ) {b : AVal} {v : Value} (h : VRel ρ f b v) : ∀ {a : AVal}, a.cov bd dec b = true → VRel ρ f a v := by
  have lists : ∀ {m : List AVal} {vs : Array Value}, vs.size = m.length → (∀ (i : Nat) (b : AVal) (v : Value), m[i]? = some b → vs[i]? = some v → ∀ {a : AVal}, a.cov bd dec b = true → VRel ρ f a v) → ∀ {l : List AVal}, covList bd dec l m = true →
      vs.size = l.length ∧ ∀ (i : Nat) (a : AVal) (v : Value), l[i]? = some a → vs[i]? = some v → VRel ρ f a v := by
    intro m vs hs ih l hl
    obtain ⟨h1, h2⟩ := covList_get hl
    refine ⟨by omega, fun i a v ha hv => ?_⟩
    obtain ⟨b, hb, hc⟩ := h2 i a ha
    exact ih i b v hb hv hc
  induction h with
  | bool b =>
    intro a hc
    cases a <;> (try simp only [AVal.cov] at hc) <;> first | (cases hc; done) | skip
    rw [← BE.eqN_ev hρ hd hc]
    exact .bool _
  | int k e =>
    intro a hc
    cases a <;> (try simp only [AVal.cov] at hc) <;> first | (cases hc; done) | skip
    obtain ⟨h1, h2⟩ := and_split hc
    rw [← kindEq_eq h1, ← IE.eqN_ev hρ hd h2]
    exact .int _ _
  | str hs =>
    intro a hc
    cases a <;> (try simp only [AVal.cov] at hc) <;> first | (cases hc; done) | skip
    · refine .str ?_
      unfold SRel at hs ⊢
      rw [hs, ieListN_ev hρ hd hc]
    · obtain ⟨h1, h2⟩ := and_split hc
      refine .strS ?_ fun j b hb => ?_
      · rw [IE.eqN_ev hρ hd h1]
        show ((_ : Nat) : Int) = _
        rw [SRel.size hs]
      · obtain ⟨b', h3, h4⟩ := hs.get (n := j) (e := _) (List.getElem?_eq_getElem (by rw [← SRel.size hs]; exact (Array.getElem?_eq_some_iff.1 hb).1))
        have h5 := rowIsF_ok hρ hd h2 j _ (List.getElem?_eq_getElem (by rw [← SRel.size hs]; exact (Array.getElem?_eq_some_iff.1 hb).1))
        rw [h5, h4]
        have : b' = b := by
          have e1 : _ = some b' := h3
          have e2 : _ = some b := hb
          have e3 : ∀ (s : ByteArray) (n : Nat), s[n]? = s.data[n]? := fun s n => by
            rcases s with ⟨d⟩
            show getElem? (ByteArray.mk d) n = getElem? d n
            by_cases hlt : n < d.size
            · rw [getElem?_pos (ByteArray.mk d) n hlt, getElem?_pos d n hlt]; rfl
            · rw [getElem?_neg (ByteArray.mk d) n hlt, getElem?_neg d n hlt]
          rw [e3] at e1
          rw [e1] at e2
          cases e2
          rfl
        rw [this]
  | nilPtr => intro a hc; cases a <;> simp only [AVal.cov] at hc <;> first | (cases hc; done) | (rw [posSame_eq hc]; exact .nilPtr)
  | ptr hh => intro a hc; cases a <;> simp only [AVal.cov] at hc <;> first | (cases hc; done) | (rw [posSame_eq hc]; exact .ptr hh)
  | nilSlice =>
    intro a hc
    cases a <;> (try simp only [AVal.cov] at hc) <;> first | (cases hc; done) | skip
    · obtain ⟨h1, h2⟩ := and_split hc
      obtain ⟨h2, h3⟩ := and_split h2
      obtain ⟨h3, h4⟩ := and_split h3
      rw [posSame_eq h1, Nat.eq_of_beq_eq_true h2, Nat.eq_of_beq_eq_true h3, Nat.eq_of_beq_eq_true h4]
      exact .nilSlice
    · obtain ⟨h1, h2⟩ := and_split hc
      exact .sliceZ (IE.eqN_ev hρ hd h2) fun _ => ⟨rfl, bEq_eq h1⟩
    · exact .sliceN (IE.eqN_ev hρ hd hc)
  | @slice i0 o n c L hh =>
    intro a hc
    cases a <;> (try simp only [AVal.cov] at hc) <;> first | (cases hc; done) | skip
    · obtain ⟨h1, h2⟩ := and_split hc
      obtain ⟨h2, h3⟩ := and_split h2
      obtain ⟨h3, h4⟩ := and_split h3
      rw [posSame_eq h1, Nat.eq_of_beq_eq_true h2, Nat.eq_of_beq_eq_true h3, Nat.eq_of_beq_eq_true h4]
      exact .slice hh
    · rename_i i a b s nn
      obtain ⟨g1, hc2⟩ := and_split hc
      obtain ⟨g2, hc3⟩ := and_split hc2
      obtain ⟨h3, h4⟩ := and_split hc3
      have h1 := Nat.eq_of_beq_eq_true g1
      subst h1
      have h2 := IE.eqN_ev hρ hd g2
      clear hc hc2 hc3 g1 g2
      split at h4
      · rename_i st
        have h4 := Nat.eq_of_beq_eq_true h4
        have e1 : (IE.lit (Int.ofNat st)).ev ρ = (st : Int) := rfl
        have e2 : b.ev ρ = (n : Int) := h2
        have := VRel.sliceS (ρ := ρ) (f := f) (i := i) (s := s) (st := .lit (.ofNat st)) (len := b) (nn := nn) (L := L) (c := c) hh (by rw [e1]; omega) (by rw [e2]; omega) (by rw [e2]; have := Nat.le_of_ble_eq_true h3; omega)
        rw [e1, e2, Int.toNat_natCast, Int.toNat_natCast] at this
        have e3 : st * s = o := h4
        rw [e3] at this
        exact this
      · cases h4
  | sliceG hh hn hcc hs =>
    intro a hc
    cases a <;> (try simp only [AVal.cov] at hc) <;> first | (cases hc; done) | skip
    obtain ⟨h1, h2⟩ := and_split hc
    obtain ⟨h2, h3⟩ := and_split h2
    obtain ⟨h3, h4⟩ := and_split h3
    rw [posSame_eq h1, Nat.eq_of_beq_eq_true h2, Nat.eq_of_beq_eq_true h3, Nat.eq_of_beq_eq_true h4]
    exact .sliceG hh hn hcc hs
  | sliceE hh hg hs =>
    rename_i i o o' c' g L
    intro a hc
    have hk : ∀ {p : Option (Nat × Nat)} {l c'' g' : Nat}, (posSame p (some (i, o)) && (Nat.beq l 0 && (Nat.beq c'' 0 && Nat.beq g' g))) = true → VRel ρ f (.slice p l c'' g') (.slice (some ⟨L.blk, o', none⟩) 0 c') := by
      intro p l c'' g' hc
      obtain ⟨h1, h2⟩ := and_split hc
      obtain ⟨h2, h3⟩ := and_split h2
      obtain ⟨h3, h4⟩ := and_split h3
      rw [posSame_eq h1, Nat.eq_of_beq_eq_true h2, Nat.eq_of_beq_eq_true h3, Nat.eq_of_beq_eq_true h4]
      exact .sliceE hh hg hs
    cases a with
    | slice p l c'' g' => simp only [AVal.cov] at hc; exact hk hc
    | sliceS j a b s nn =>
      cases g with
      | zero =>
        try simp only [AVal.cov] at hc
        obtain ⟨h1, h2⟩ := and_split hc
        obtain ⟨h2, h3⟩ := and_split h2
        exact .sliceZ (IE.eqN_ev hρ hd h2) (fun h => by cases h)
      | succ g => simp only [AVal.cov] at hc; cases hc
    | _ => simp only [AVal.cov] at hc; cases hc
  | nilMap =>
    intro a hc
    cases a with
    | map p => cases p <;> simp only [AVal.cov] at hc <;> first | (cases hc; done) | exact .nilMap
    | _ => simp only [AVal.cov] at hc; cases hc
  | map hh =>
    intro a hc
    cases a with
    | map p => cases p <;> simp only [AVal.cov] at hc <;> first | (cases hc; done) | (rw [Nat.eq_of_beq_eq_true hc]; exact .map hh)
    | _ => simp only [AVal.cov] at hc; cases hc
  | func ha hb ha' hb' iha ihb =>
    intro a hc
    cases a <;> (try simp only [AVal.cov] at hc) <;> first | (cases hc; done) | skip
    obtain ⟨h1, h2⟩ := and_split hc
    obtain ⟨h2, h3⟩ := and_split h2
    rw [fnSame_eq h1]
    have p := lists ha iha h2
    have q := lists hb ihb h3
    exact .func p.1 q.1 p.2 q.2
  | nilFunc => intro a hc; cases a <;> simp only [AVal.cov] at hc <;> first | (cases hc; done) | exact .nilFunc
  | iface h ih =>
    intro a hc
    cases a <;> (try simp only [AVal.cov] at hc) <;> first | (cases hc; done) | skip
    obtain ⟨h1, h2⟩ := and_split hc
    rw [Nat.eq_of_beq_eq_true h1]
    exact .iface (ih h2)
  | nilIface => intro a hc; cases a <;> simp only [AVal.cov] at hc <;> first | (cases hc; done) | exact .nilIface
  | agg ha ha' ih =>
    intro a hc
    cases a <;> (try simp only [AVal.cov] at hc) <;> first | (cases hc; done) | skip
    have p := lists ha ih hc
    exact .agg p.1 p.2
  | tuple ha ha' ih =>
    intro a hc
    cases a <;> (try simp only [AVal.cov] at hc) <;> first | (cases hc; done) | skip
    have p := lists ha ih hc
    exact .tuple p.1 p.2
  | ptrE hh h0 =>
    intro a hc
    cases a <;> (try simp only [AVal.cov] at hc) <;> first | (cases hc; done) | skip
    obtain ⟨h1, h2⟩ := and_split hc
    obtain ⟨h2, h3⟩ := and_split h2
    obtain ⟨h3, h4⟩ := and_split h3
    have h2 := IE.eqN_ev hρ hd h2
    rw [Nat.eq_of_beq_eq_true h1, Nat.eq_of_beq_eq_true h3, Nat.eq_of_beq_eq_true h4, ← h2]
    exact .ptrE hh (by rw [h2]; exact h0)
  | sliceS hh h0 hl hcap =>
    intro a hc
    cases a <;> (try simp only [AVal.cov] at hc) <;> first | (cases hc; done) | skip
    obtain ⟨h1, h2⟩ := and_split hc
    obtain ⟨h2, h3⟩ := and_split h2
    obtain ⟨h3, h4⟩ := and_split h3
    obtain ⟨h4, h5⟩ := and_split h4
    have h2 := IE.eqN_ev hρ hd h2
    have h3 := IE.eqN_ev hρ hd h3
    rw [Nat.eq_of_beq_eq_true h1, Nat.eq_of_beq_eq_true h4, bEq_eq h5, ← h2, ← h3]
    exact .sliceS hh (by rw [h2]; exact h0) (by rw [h3]; exact hl) (by rw [h3]; exact hcap)
  | sliceZ hl hz =>
    intro a hc
    cases a <;> (try simp only [AVal.cov] at hc) <;> first | (cases hc; done) | skip
    obtain ⟨h1, h2⟩ := and_split hc
    obtain ⟨h2, h3⟩ := and_split h2
    obtain ⟨h3, h4⟩ := and_split h3
    obtain ⟨h4, h5⟩ := and_split h4
    have h3 := IE.eqN_ev hρ hd h3
    rw [Nat.eq_of_beq_eq_true h1, Nat.eq_of_beq_eq_true h4, bEq_eq h5]
    exact .sliceZ (by rw [h3]; exact hl) hz
  | sliceA hh hl hcap hs =>
    intro a hc
    cases a <;> (try simp only [AVal.cov] at hc) <;> first | (cases hc; done) | skip
    obtain ⟨h1, h2⟩ := and_split hc
    obtain ⟨h2, h3⟩ := and_split h2
    have h2 := IE.eqN_ev hρ hd h2
    rw [Nat.eq_of_beq_eq_true h1, Nat.eq_of_beq_eq_true h3, ← h2]
    exact .sliceA hh (by rw [h2]; exact hl) (by rw [h2]; exact hcap) hs
  | sliceN hl =>
    intro a hc
    cases a <;> (try simp only [AVal.cov] at hc) <;> first | (cases hc; done) | skip
    obtain ⟨h1, h2⟩ := and_split hc
    obtain ⟨h2, h3⟩ := and_split h2
    have h2 := IE.eqN_ev hρ hd h2
    exact .sliceN (by rw [h2]; exact hl)
  | strS hl hs =>
    intro a hc
    cases a <;> (try simp only [AVal.cov] at hc) <;> first | (cases hc; done) | skip
    obtain ⟨h1, h2⟩ := and_split hc
    have h1 := IE.eqN_ev hρ hd h1
    have h2 := IE.eqN_ev hρ hd h2
    exact .strS (by rw [h2]; exact hl) (fun j b hb => by rw [h1]; exact hs j b hb)
theorem covList_ok (hρ : ρ.ok bd) (hd : dec.holds ρ) {m : List AVal} {vs : Array Value} (h : LRel ρ f m vs) {l : List AVal} (hc : covList bd dec l m = true) : LRel ρ f l vs := by
  obtain ⟨h1, h2⟩ := covList_get hc
  refine ⟨by rw [h.1, h1], fun i a v ha hv => ?_⟩
  obtain ⟨b, hb, hcb⟩ := h2 i a ha
  exact AVal.cov_ok hρ hd (h.2 i b v hb hv) hcb

/-! objects -/
def cellCov (bd : Bd) (dec : Dec) (c : T AVal) (k : Nat) (v : AVal) : Bool :=
  match c.get k with
  | some u => v.cov bd dec u
  | none => false
/-- Cells as digits of a row. -/
def cellsRow (bd : Bd) (dec : Dec) (ks : List IntKind) (code : IE) (c : T AVal) : Nat → Nat → Bool
  | 0, _ => true
  | n + 1, j =>
    match ks[j % ks.length]?, c.get j with
    | some k, some (.int k' e) =>
      match kindEq k k' && (fits k (rng bd e) && (nrmFn bd 0 (code.nrm bd dec) (.lit (.ofNat j)) (.lit 0)).eqN bd dec e) with
      | true => cellsRow bd dec ks code c n (j + 1)
      | false => false
    | _, _ => false
theorem cellsRow_ok (hρ : ρ.ok bd) (hd : dec.holds ρ) {ks : List IntKind} {code : IE} {c : T AVal} : ∀ {n j : Nat}, cellsRow bd dec ks code c n j = true → ∀ i, j ≤ i → i < j + n →
    ∃ k e, ks[i % ks.length]? = some k ∧ c.get i = some (.int k e) ∧ e.ev ρ = rowGet (code.ev ρ) i ∧ kLo k ≤ e.ev ρ ∧ e.ev ρ ≤ kHi k := by
  intro n
  induction n with
  | zero => intro j _ i h1 h2; omega
  | succ n ih =>
    intro j h i h1 h2
    simp only [cellsRow] at h
    split at h
    · rename_i k k' e hk hc
      split at h
      · rename_i hq
        obtain ⟨q1, q23⟩ := and_split hq
        obtain ⟨q2, q3⟩ := and_split q23
        have q1 := kindEq_eq q1
        subst q1
        by_cases hij : i = j
        · subst hij
          have := IE.eqN_ev hρ hd q3
          rw [nrmFn_ev hρ, IE.nrm_ev hρ hd] at this
          have hr := fits_ok (ρ := ρ) hρ (k := k) (e := e) q2
          exact ⟨k, e, hk, hc, this.symm, hr.1, hr.2⟩
        · exact ih h i (by omega) (by omega)
      · cases h
    · cases h
/-- Cells as digits of a number, where all are numbers: quick. -/
def cellsLits (k : IntKind) (c : T AVal) : Nat → Nat → Nat → Bool
  | 0, _, _ => true
  | n + 1, j, m =>
    match c.get j with
    | some (.int k' e) =>
      match e with
      | .lit (.ofNat v) =>
        match kindEq k k' && (Nat.beq (Nat.mod m 1208925819614629174706176) v && Nat.ble v (kTop k)) with
        | true => cellsLits k c n (j + 1) (Nat.shiftRight m 80)
        | false => false
      | _ => false
    | _ => false
theorem cellsLits_ok {ρ : Env} {k : IntKind} {c : T AVal} {m : Nat} : ∀ {n j : Nat}, cellsLits k c n j (Nat.shiftRight m (Nat.mul 80 j)) = true → ∀ i, j ≤ i → i < j + n →
    ∃ e, c.get i = some (.int k e) ∧ e.ev ρ = rowGet (m : Int) i ∧ kLo k ≤ e.ev ρ ∧ e.ev ρ ≤ kHi k := by
  intro n
  induction n with
  | zero => intro j _ i h1 h2; omega
  | succ n ih =>
    intro j h i h1 h2
    unfold cellsLits at h
    split at h
    · rename_i k' e hc
      split at h
      · rename_i v
        split at h
        · rename_i hq
          obtain ⟨q1, q23⟩ := and_split hq
          obtain ⟨q2, q3⟩ := and_split q23
          have q1 := kindEq_eq q1
          subst q1
          have q2 := Nat.eq_of_beq_eq_true q2
          have q3 : v ≤ kTop k := Nat.le_of_ble_eq_true q3
          by_cases hij : i = j
          · subst hij
            have ev : (IE.lit (.ofNat v)).ev ρ = (v : Int) := rfl
            have hv : (v : Int) ≤ kHi k := by rw [← kTop_hi k]; exact_mod_cast q3
            have hl : kLo k ≤ (v : Int) := by
              have : kLo k ≤ 0 := by cases k <;> decide
              omega
            refine ⟨_, hc, ?_, by rw [ev]; exact hl, by rw [ev]; exact hv⟩
            rw [ev]
            show (v : Int) = rowPut (Nat.mod (Nat.shiftRight ((m : Int).toNat) (Nat.mul 80 ((i : Nat) : Int).toNat)) 1208925819614629174706176)
            rw [Int.toNat_natCast, Int.toNat_natCast, q2]
            unfold rowPut
            have hb : Nat.blt v 604462909807314587353088 = true := by
              rw [Nat.blt_eq]
              have : kTop k < 604462909807314587353088 := by cases k <;> decide
              omega
            rw [hb]
            rfl
          · have e1 : Nat.shiftRight (Nat.shiftRight m (Nat.mul 80 j)) 80 = Nat.shiftRight m (Nat.mul 80 (j + 1)) := by
              show (m >>> (80 * j)) >>> 80 = m >>> (80 * (j + 1))
              rw [← Nat.shiftRight_add]
              rfl
            rw [e1] at h
            exact ih h i (by omega) (by omega)
        · cases h
      · cases h
    · cases h
def cellsRowF (bd : Bd) (dec : Dec) (ks : List IntKind) (code : IE) (c : T AVal) (n : Nat) : Bool :=
  match ks with
  | [k] =>
    match code with
    | .lit (.ofNat m) =>
      match cellsLits k c n 0 m with
      | true => true
      | false => cellsRow bd dec [k] (.lit (.ofNat m)) c n 0
    | code => cellsRow bd dec [k] code c n 0
  | ks => cellsRow bd dec ks code c n 0
theorem cellsRowF_ok (hρ : ρ.ok bd) (hd : dec.holds ρ) {ks : List IntKind} {code : IE} {c : T AVal} {n : Nat} (h : cellsRowF bd dec ks code c n = true) (i : Nat) (hi : i < n) :
    ∃ k e, ks[i % ks.length]? = some k ∧ c.get i = some (.int k e) ∧ e.ev ρ = rowGet (code.ev ρ) i ∧ kLo k ≤ e.ev ρ ∧ e.ev ρ ≤ kHi k := by
  unfold cellsRowF at h
  split at h
  · rename_i k
    split at h
    · rename_i m
      split at h
      · rename_i h1
        obtain ⟨e, q1, q2, q3, q4⟩ := cellsLits_ok (ρ := ρ) (k := k) (c := c) (m := m) (n := n) (j := 0) h1 i (Nat.zero_le _) (by omega)
        refine ⟨k, e, ?_, q1, q2, q3, q4⟩
        simp [Nat.mod_one]
      · exact cellsRow_ok hρ hd h i (Nat.zero_le _) (by omega)
    · exact cellsRow_ok hρ hd h i (Nat.zero_le _) (by omega)
  · exact cellsRow_ok hρ hd h i (Nat.zero_le _) (by omega)
def AObj.cov (bd : Bd) (dec : Dec) : AObj → AObj → Bool
  | .cells c e o t, .cells c' e' o' t' => Nat.beq e e' && (bEq o o' && (Nat.beq t t' && T.allK (cellCov bd dec c') c 1 0))
  | .arr ks c n o, .arr ks' c' n' o' => kindsSame ks ks' && (c.eqN bd dec c' && (n.eqN bd dec n' && bEq o o'))
  | .arr ks c (.lit (.ofNat n)) o, .cells c' _ o' _ => bEq o o' && cellsRowF bd dec ks c c' (Nat.mul n ks.length)
  | .ghost k vs c, .ghost k' vs' c' => Nat.beq k k' && (ieListN bd dec vs vs' && T.allK (cellCov bd dec c') c 1 0)
  | .col s c k code m d n, .col s' c' k' code' m' d' n' => Nat.beq s s' && (Nat.beq c c' && (kindEq k k' && (code.eqN bd dec code' && (Nat.beq m m' && (Nat.beq d d' && n.eqN bd dec n')))))
  | .win i s c e o, .win i' s' c' e' o' => i.eqN bd dec i' && (Nat.beq s s' && (Nat.beq e e' && (bEq o o' && T.allK (cellCov bd dec c') c 1 0)))
  | _, _ => false
theorem cellCov_ok (hρ : ρ.ok bd) (hd : dec.holds ρ) {c c' : T AVal} (h : T.allK (cellCov bd dec c') c 1 0 = true) {k : Nat} {v : AVal} (hv : c.get k = some v) : ∃ u, c'.get k = some u ∧ ∀ x, VRel ρ f u x → VRel ρ f v x := by
  have := T.all_get h hv
  unfold cellCov at this
  split at this
  · rename_i u hu
    exact ⟨u, hu, fun x hx => AVal.cov_ok hρ hd hx this⟩
  · cases this
theorem AObj.cov_ok (hρ : ρ.ok bd) (hd : dec.holds ρ) {o o' : AObj} (h : o.cov bd dec o' = true) {B : Nat → Prop} {w : World} {L : Loc} (ho : ORel ρ f B w L o') : ORel ρ f B w L o ∧ o.own = o'.own ∧ ∀ b, o.foot ρ w L b ↔ o'.foot ρ w L b := by
  unfold AObj.cov at h
  split at h
  · rename_i c e ow t c' e' ow' t'
    obtain ⟨h1, h2⟩ := and_split h
    obtain ⟨h2, h3⟩ := and_split h2
    obtain ⟨h3, h4⟩ := and_split h3
    have h1 := Nat.eq_of_beq_eq_true h1
    have h2 := bEq_eq h2
    have h3 := Nat.eq_of_beq_eq_true h3
    subst h1 h2 h3
    obtain ⟨cs, fr, q1, q2, q3, q4⟩ := ho
    refine ⟨⟨cs, fr, q1, q2, q3, fun j v hj => ?_⟩, rfl, fun _ => Iff.rfl⟩
    obtain ⟨u, hu, hk⟩ := cellCov_ok (f := f) hρ hd h4 hj
    obtain ⟨p1, v', p2, p3⟩ := q4 _ _ hu
    exact ⟨p1, v', p2, hk _ p3⟩
  · rename_i ks c n ow ks' c' n' ow'
    obtain ⟨g1, g2⟩ := and_split h
    obtain ⟨g3, g4⟩ := and_split g2
    obtain ⟨g5, g6⟩ := and_split g4
    have h1 := kindsSame_eq g1
    have h2 := IE.eqN_ev hρ hd g3
    have h3 := IE.eqN_ev hρ hd g5
    have h4 := bEq_eq g6
    clear g1 g2 g3 g4 g5 g6 h
    subst h1 h4
    obtain ⟨cs, el, fr, q1, q2, q3, q4⟩ := ho
    refine ⟨⟨cs, el, fr, q1, q2, q3, fun j c k hj hk => ?_⟩, rfl, fun _ => Iff.rfl⟩
    rw [h3] at hj
    rw [h2]
    exact q4 j c k hj hk
  · rename_i ks c n ow c' e' ow' t'
    obtain ⟨h1, h2⟩ := and_split h
    have h1 := bEq_eq h1
    subst h1
    obtain ⟨cs, fr, q1, q2, q3, q4⟩ := ho
    refine ⟨⟨cs, e', fr, q1, q2, q3, fun j c2 k hj hk => ?_⟩, rfl, fun _ => Iff.rfl⟩
    have hc2 : c2 < ks.length := (List.getElem?_eq_some_iff.1 hk).1
    have hj : j < n := by
      have : (j : Int) < (n : Int) := hj
      omega
    have hlt : j * ks.length + c2 < n * ks.length := by
      have : (j + 1) * ks.length ≤ n * ks.length := Nat.mul_le_mul_right _ hj
      rw [Nat.add_mul] at this
      omega
    obtain ⟨k', e, r1, r2, r3, r4, r5⟩ := cellsRowF_ok hρ hd h2 (j * ks.length + c2) hlt
    have hmod : (j * ks.length + c2) % ks.length = c2 := by
      rw [Nat.add_comm, Nat.add_mul_mod_self_right, Nat.mod_eq_of_lt hc2]
    rw [hmod, hk] at r1
    cases r1
    obtain ⟨p1, v', p2, p3⟩ := q4 _ _ r2
    cases p3
    rw [← r3]
    exact ⟨p2, r4, r5⟩
  · rename_i k vs c k' vs' c'
    obtain ⟨h1, h2⟩ := and_split h
    obtain ⟨h2, h3⟩ := and_split h2
    have h1 := Nat.eq_of_beq_eq_true h1
    have h2 := ieListN_ev hρ hd h2
    subst h1
    obtain ⟨⟨q0, q1⟩, qb, cs, el, fr, q2, q3, q4, q5⟩ := ho
    refine ⟨⟨⟨by rw [h2]; exact q0, q1⟩, qb, cs, el, fr, q2, q3, q4, fun j v hj => ?_⟩, rfl, fun _ => Iff.rfl⟩
    obtain ⟨u, hu, hk⟩ := cellCov_ok (f := f) hρ hd h3 hj
    obtain ⟨p1, v', p2, p3⟩ := q5 _ _ hu
    exact ⟨p1, v', p2, hk _ p3⟩
  · rename_i s c k code m d n s' c' k' code' m' d' n'
    obtain ⟨k1, h⟩ := and_split h
    obtain ⟨k2, h⟩ := and_split h
    obtain ⟨k3, h⟩ := and_split h
    obtain ⟨k4, h⟩ := and_split h
    obtain ⟨k5, h⟩ := and_split h
    obtain ⟨k6, k7⟩ := and_split h
    have k1 := Nat.eq_of_beq_eq_true k1
    have k2 := Nat.eq_of_beq_eq_true k2
    have k3 := kindEq_eq k3
    have k4 := IE.eqN_ev hρ hd k4
    have k5 := Nat.eq_of_beq_eq_true k5
    have k6 := Nat.eq_of_beq_eq_true k6
    have k7 := IE.eqN_ev hρ hd k7
    subst k1 k2 k3 k5 k6
    obtain ⟨cs, el, fr, q1, q2⟩ := ho
    refine ⟨⟨cs, el, fr, q1, fun j hj => ?_⟩, rfl, fun _ => Iff.rfl⟩
    rw [k7] at hj
    rw [k4]
    exact q2 j hj
  · rename_i i s c e o i' s' c' e' o'
    obtain ⟨g1, g2⟩ := and_split h
    obtain ⟨g3, g4⟩ := and_split g2
    obtain ⟨g5, g6⟩ := and_split g4
    obtain ⟨g7, g8⟩ := and_split g6
    have h1 := IE.eqN_ev hρ hd g1
    have h2 := Nat.eq_of_beq_eq_true g3
    have h3 := Nat.eq_of_beq_eq_true g5
    have h4 := bEq_eq g7
    clear h g1 g2 g3 g4 g5 g6 g7
    subst h2 h3 h4
    obtain ⟨cs, fr, q1, q2, q3, q0, q4⟩ := ho
    refine ⟨⟨cs, fr, q1, q2, q3, by rw [h1]; exact q0, fun j v hj => ?_⟩, rfl, fun _ => Iff.rfl⟩
    obtain ⟨u, hu, hk⟩ := cellCov_ok (f := f) hρ hd g8 hj
    obtain ⟨v', p2, p3⟩ := q4 _ _ hu
    rw [h1]
    exact ⟨v', p2, hk _ p3⟩
  · cases h
end

/-! symbols and blocks put for those of an object -/
def T.mapV {α β : Type} (g : α → β) : T α → T β
  | .nil => .nil
  | .node v l r => .node (match v with
    | none => none
    | some x => some (g x)) (T.mapV g l) (T.mapV g r)
theorem T.getS_mapV {α β : Type} (g : α → β) : ∀ (t : T α) (k : Nat), (t.mapV g).getS k = (t.getS k).map g := by
  intro t
  induction t with
  | nil => intro k; rfl
  | node v l r ihl ihr =>
    intro k
    simp only [T.mapV, T.getS]
    cases Nat.beq k 0
    · cases Nat.beq (k % 2) 1
      · exact ihr _
      · exact ihl _
    · cases v <;> rfl
theorem T.get_mapV {α β : Type} (g : α → β) (t : T α) (k : Nat) : (t.mapV g).get k = (t.get k).map g := by
  rw [T.get_eq, T.get_eq, T.getS_mapV]
mutual
def AVal.nrmA (bd : Bd) (dec : Dec) : AVal → AVal
  | .bool b => .bool (b.nrm bd dec)
  | .int k e => .int k (e.nrm bd dec)
  | .str l => .str (l.map (IE.nrm bd dec))
  | .iface t v => .iface t (v.nrmA bd dec)
  | .agg l => .agg (nrmList bd dec l)
  | .tuple l => .tuple (nrmList bd dec l)
  | .ptrE i e s c => .ptrE i (e.nrm bd dec) s c
  | .sliceS i a l s nn => .sliceS i (a.nrm bd dec) (l.nrm bd dec) s nn
  | .sliceA i l s => .sliceA i (l.nrm bd dec) s
  | .strS c l => .strS (c.nrm bd dec) (l.nrm bd dec)
  | v => v
def nrmList (bd : Bd) (dec : Dec) : List AVal → List AVal
  | [] => []
  | v :: l => v.nrmA bd dec :: nrmList bd dec l
end
theorem nrmList_eq (bd : Bd) (dec : Dec) (l : List AVal) : nrmList bd dec l = l.map (AVal.nrmA bd dec) := by
  induction l with
  | nil => rfl
  | cons v l ih => simp [nrmList, ih]
theorem AVal.nrmA_ok {ρ : Env} {bd : Bd} {dec : Dec} {f : Ren} (hρ : ρ.ok bd) (hd : dec.holds ρ) {a : AVal} {v : Value} (h : VRel ρ f a v) : VRel ρ f (a.nrmA bd dec) v := by
  induction h with
  | bool b => simp only [AVal.nrmA]; rw [← BE.nrm_ev hρ hd b]; exact .bool _
  | int k e => simp only [AVal.nrmA]; rw [← IE.nrm_ev hρ hd e]; exact .int _ _
  | str hs =>
    simp only [AVal.nrmA]
    refine .str ?_
    unfold SRel at hs ⊢
    rw [hs, List.map_map]
    congr 1
    funext e
    exact (IE.nrm_ev hρ hd e).symm
  | nilPtr => exact .nilPtr
  | ptr hh => exact .ptr hh
  | nilSlice => exact .nilSlice
  | slice hh => exact .slice hh
  | sliceG hh hn hc hs => exact .sliceG hh hn hc hs
  | sliceE hh hg hs => exact .sliceE hh hg hs
  | nilMap => exact .nilMap
  | map hh => exact .map hh
  | func ha hb ha' hb' iha ihb => exact .func ha hb ha' hb'
  | nilFunc => exact .nilFunc
  | iface h ih => exact .iface ih
  | nilIface => exact .nilIface
  | agg ha ha' ih =>
    simp only [AVal.nrmA]
    rw [nrmList_eq]
    refine .agg (by simp [ha]) fun i v v' h1 h2 => ?_
    simp only [List.getElem?_map, Option.map_eq_some_iff] at h1
    obtain ⟨y, hy, rfl⟩ := h1
    exact ih i y v' hy h2
  | tuple ha ha' ih =>
    simp only [AVal.nrmA]
    rw [nrmList_eq]
    refine .tuple (by simp [ha]) fun i v v' h1 h2 => ?_
    simp only [List.getElem?_map, Option.map_eq_some_iff] at h1
    obtain ⟨y, hy, rfl⟩ := h1
    exact ih i y v' hy h2
  | ptrE hh h0 =>
    simp only [AVal.nrmA]
    rw [← IE.nrm_ev hρ hd] at h0 ⊢
    exact .ptrE hh h0
  | @sliceS i s st len nn L c hh h0 hl hc =>
    simp only [AVal.nrmA]
    have e1 := IE.nrm_ev hρ hd st
    have e2 := IE.nrm_ev hρ hd len
    rw [← e1] at h0 ⊢
    rw [← e2] at hl hc ⊢
    have e3 := IE.nrm_ev hρ hd (st.nrm bd dec)
    exact .sliceS hh h0 hl hc
  | sliceZ hl ha =>
    simp only [AVal.nrmA]
    rw [← IE.nrm_ev hρ hd] at hl
    exact .sliceZ hl ha
  | sliceA hh hl hc hs =>
    simp only [AVal.nrmA]
    rw [← IE.nrm_ev hρ hd] at hl hc ⊢
    exact .sliceA hh hl hc hs
  | sliceN hl =>
    simp only [AVal.nrmA]
    rw [← IE.nrm_ev hρ hd] at hl
    exact .sliceN hl
  | strS hl hs =>
    simp only [AVal.nrmA]
    exact .strS (by rw [IE.nrm_ev hρ hd]; exact hl) fun j b hb => by rw [IE.nrm_ev hρ hd]; exact hs j b hb
/-- What a pattern's value stands for. -/
def putV (bd : Bd) (dec : Dec) (σ : Nat → IE) (π : Nat → Nat) (v : AVal) : AVal := (v.rep σ π).nrmA bd dec
def putO (bd : Bd) (dec : Dec) (σ : Nat → IE) (π : Nat → Nat) : AObj → AObj
  | .cells c e o t => .cells (c.mapV (putV bd dec σ π)) e o t
  | .map es => .map (es.map fun p => (putV bd dec σ π p.1, putV bd dec σ π p.2))
  | .arr ks c n o => .arr ks ((c.rep σ).nrm bd dec) ((n.rep σ).nrm bd dec) o
  | .ghost k vs c => .ghost k (vs.map fun e => (e.rep σ).nrm bd dec) (c.mapV (putV bd dec σ π))
  | .col s c k code m d n => .col s c k ((code.rep σ).nrm bd dec) m d ((n.rep σ).nrm bd dec)
  | .it0 => .it0
  | .win i s c e o => .win ((i.rep σ).nrm bd dec) s (c.mapV (putV bd dec σ π)) e o
section
variable {ρ : Env} {bd : Bd} {dec : Dec} {f f1 : Ren} {σ : Nat → IE} {π : Nat → Nat} {d : Nat → Bool}
theorem putV_ok (hρ : ρ.ok bd) (hd : dec.holds ρ) {v : AVal} {u : Value} (hf : f1.le (f.via d π)) (h : VRel (ρ.rep σ) f1 v u) : VRel ρ f (putV bd dec σ π v) u :=
  AVal.nrmA_ok hρ hd (VRel.sub_to (d := d) v u (h.mono hf))
theorem putO_own (o : AObj) : (putO bd dec σ π o).own = o.own := by cases o <;> rfl
theorem putO_ok (hρ : ρ.ok bd) (hd : dec.holds ρ) (hf : f1.le (f.via d π)) {o : AObj} {B B' : Nat → Prop} {w : World} {L : Loc} (hB : o.own = true → ∀ b, o.foot (ρ.rep σ) w L b → ¬ B' b) (h : ORel (ρ.rep σ) f1 B w L o) : ORel ρ f B' w L (putO bd dec σ π o) ∧ ∀ b, (putO bd dec σ π o).foot ρ w L b ↔ o.foot (ρ.rep σ) w L b := by
  cases o with
  | cells c e ow t =>
    obtain ⟨cs, fr, q1, q2, q3, q4⟩ := h
    refine ⟨⟨cs, fr, q1, q2, fun ho => ⟨hB ho _ rfl, (q3 ho).2⟩, fun j v hj => ?_⟩, fun _ => Iff.rfl⟩
    rw [T.get_mapV] at hj
    simp only [Option.map_eq_some_iff] at hj
    obtain ⟨u, hu, rfl⟩ := hj
    obtain ⟨p1, v', p2, p3⟩ := q4 _ _ hu
    exact ⟨p1, v', p2, putV_ok hρ hd hf p3⟩
  | map es =>
    obtain ⟨q0, es', cl, q1, q2, q3⟩ := h
    refine ⟨⟨hB rfl _ rfl, es', cl, q1, by simp [q2], fun i e e' h1 h2 => ?_⟩, fun _ => Iff.rfl⟩
    simp only [List.getElem?_map, Option.map_eq_some_iff] at h1
    obtain ⟨y, hy, rfl⟩ := h1
    exact ⟨putV_ok hρ hd hf (q3 i y e' hy h2).1, putV_ok hρ hd hf (q3 i y e' hy h2).2⟩
  | arr ks c n ow =>
    obtain ⟨cs, el, fr, q1, q2, q3, q4⟩ := h
    refine ⟨⟨cs, el, fr, q1, q2, fun ho => ⟨hB ho _ rfl, (q3 ho).2⟩, fun j c2 k hj hk => ?_⟩, fun _ => Iff.rfl⟩
    rw [IE.nrm_ev hρ hd, IE.rep_ev] at hj ⊢
    exact q4 j c2 k hj hk
  | ghost k vs c =>
    obtain ⟨⟨q0, q1⟩, qb, cs, el, fr, q2, q3, q4, q5⟩ := h
    have e1 : (vs.map fun e => (e.rep σ).nrm bd dec).map (·.ev ρ) = vs.map (·.ev (ρ.rep σ)) := by
      rw [List.map_map]
      congr 1
      funext e
      show ((e.rep σ).nrm bd dec).ev ρ = _
      rw [IE.nrm_ev hρ hd, IE.rep_ev]
    refine ⟨⟨⟨by rw [e1]; exact q0, hB rfl⟩, qb, cs, el, fr, q2, q3, q4, fun j v hj => ?_⟩, fun _ => Iff.rfl⟩
    rw [T.get_mapV] at hj
    simp only [Option.map_eq_some_iff] at hj
    obtain ⟨u, hu, rfl⟩ := hj
    obtain ⟨p1, v', p2, p3⟩ := q5 _ _ hu
    exact ⟨p1, v', p2, putV_ok hρ hd hf p3⟩
  | col s c k code m d n =>
    obtain ⟨cs, el, fr, q1, q2⟩ := h
    refine ⟨⟨cs, el, fr, q1, fun j hj => ?_⟩, fun _ => Iff.rfl⟩
    rw [IE.nrm_ev hρ hd, IE.rep_ev] at hj ⊢
    exact q2 j hj
  | it0 => exact ⟨h, fun _ => Iff.rfl⟩
  | win i s c e ow =>
    obtain ⟨cs, fr, q1, q2, q3, q0, q4⟩ := h
    refine ⟨⟨cs, fr, q1, q2, fun ho => ⟨hB ho _ rfl, (q3 ho).2⟩, by rw [IE.nrm_ev hρ hd, IE.rep_ev]; exact q0, fun j v hj => ?_⟩, fun _ => Iff.rfl⟩
    rw [T.get_mapV] at hj
    simp only [Option.map_eq_some_iff] at hj
    obtain ⟨u, hu, rfl⟩ := hj
    obtain ⟨v', p2, p3⟩ := q4 _ _ hu
    rw [IE.nrm_ev hρ hd, IE.rep_ev]
    exact ⟨v', p2, putV_ok hρ hd hf p3⟩
end
end
end Go.Sx
