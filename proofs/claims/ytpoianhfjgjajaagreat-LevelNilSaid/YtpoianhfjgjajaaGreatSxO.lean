/- Arguments opened: integers, aggregates of integers, slices of either. No condition. -/
import Derived.Test.YtpoianhfjgjajaaGreatSxP
import Derived.Deep.Slices
set_option linter.unusedSimpArgs false
set_option linter.unusedVariables false
namespace Go.Sx
open Go.RowKit (Below)
open Go.ChangeShapes Go.WideShapes Go.ChangeAt Go.Deep
noncomputable section

/-! the integers in a row of cells -/
def joinKinds : List (Option (List IntKind)) → Option (List IntKind)
  | [] => some []
  | none :: _ => none
  | some a :: l =>
    match joinKinds l with
    | some b => some (a ++ b)
    | none => none
def repKinds (a : List IntKind) : Nat → List IntKind
  | 0 => []
  | n + 1 => a ++ repKinds a n
def fieldKinds (P : Program) (go : TypeId → Option (List IntKind)) : List Field → Nat → Option (List IntKind)
  | [], _ => some []
  | f :: fs, off =>
    match go f.type with
    | none => none
    | some a =>
      match Nat.beq f.offset off, Nat.beq (P.cellsOf f.type) a.length with
      | true, true =>
        match fieldKinds P go fs (off + a.length) with
        | some b => some (a ++ b)
        | none => none
      | _, _ => none
def intKinds (P : Program) : Nat → TypeId → Option (List IntKind)
  | 0, _ => none
  | d + 1, t =>
    match P.underlying t with
    | some (.int k) => some [k]
    | some (.struct fs) => fieldKinds P (intKinds P d) fs.toList 0
    | some (.array n e) =>
      match intKinds P d e with
      | some a =>
        match Nat.beq (P.cellsOf e) a.length with
        | true => some (repKinds a n)
        | false => none
      | none => none
    | _ => none
/-- The cells are integers of these kinds. -/
def AreInts (ks : List IntKind) (cs : List Value) : Prop :=
  ∀ (j : Nat) (k : IntKind), ks[j]? = some k → ∃ n : Int, cs[j]? = some (.int k n) ∧ kLo k ≤ n ∧ n ≤ kHi k
theorem AreInts.app {a b : List IntKind} {xs : List Value} (h : AreInts a (xs.take a.length)) (h' : AreInts b (xs.drop a.length)) : AreInts (a ++ b) xs := by
  intro j k hk
  by_cases hj : j < a.length
  · rw [List.getElem?_append_left hj] at hk
    obtain ⟨n, h1, h2⟩ := h j k hk
    rw [List.getElem?_take, if_pos hj] at h1
    exact ⟨n, h1, h2⟩
  · rw [List.getElem?_append_right (by omega)] at hk
    obtain ⟨n, h1, h2⟩ := h' _ k hk
    rw [List.getElem?_drop] at h1
    rw [show a.length + (j - a.length) = j by omega] at h1
    exact ⟨n, h1, h2⟩
theorem wf_range {k : IntKind} {n : Int} (h : (Lit.int k n).wf = true) : kLo k ≤ n ∧ n ≤ kHi k := by
  simp only [Lit.wf, Bool.and_eq_true, decide_eq_true_eq] at h
  cases k <;> simp only [kLo, kHi, IntKind.min, IntKind.max, IntKind.signed, IntKind.bits] at h ⊢ <;> simpa using h
section
variable {H : Type} {enc : TypeId × Value → H} {P : Program} {w : World} {base : Nat} {spare : Nat → Bool} {held : Bool}
theorem trod_ints : ∀ (d : Nat) (t : TypeId) (ks : List IntKind), intKinds P d t = some ks → ∀ (fuel : Nat) (cs : List Value) (x : DataW H × List MemPlace), DataW.trod enc P w base spare held fuel t cs = some x → AreInts ks cs := by
  intro d
  induction d with
  | zero => intro t ks h; cases h
  | succ d ih =>
    intro t ks h fuel cs x hx
    unfold intKinds at h
    split at h
    · rename_i k hu
      cases h
      obtain ⟨n, rfl, _, hw⟩ := DataW.trod_int hu hx
      intro j k' hk
      cases j with
      | zero => simp at hk; subst hk; exact ⟨n, rfl, wf_range hw⟩
      | succ j => simp at hk
    · rename_i fs hu
      obtain ⟨xs, n, _, _, hlen, _, hf⟩ := DataW.trod_struct hu hx
      have gen : ∀ (l : List Field) (k off : Nat) (ks : List IntKind), fs.toList.drop k = l → fieldKinds P (intKinds P d) l off = some ks → AreInts ks (cs.drop off) := by
        intro l
        induction l with
        | nil => intro k off ks _ h; cases h; intro j k hk; simp at hk
        | cons f l ihl =>
          intro k off ks hk h
          have hfk : fs[k]? = some f := by
            have : (fs.toList.drop k)[0]? = some f := by rw [hk]; rfl
            simpa using this
          have hk' : fs.toList.drop (k + 1) = l := by rw [← List.drop_drop, hk]; rfl
          unfold fieldKinds at h
          split at h
          · cases h
          · rename_i a ha
            split at h
            · rename_i h1 h2
              have h1 := Nat.eq_of_beq_eq_true h1
              have h2 := Nat.eq_of_beq_eq_true h2
              split at h
              · rename_i b hb
                cases h
                have t1 := hf k f hfk
                have hxk : ∃ y, xs[k]? = some y := by
                  have : k < xs.length := by
                    have := (Array.getElem?_eq_some_iff.1 hfk).1
                    omega
                  exact ⟨xs[k], by simp [this]⟩
                obtain ⟨y, hy⟩ := hxk
                rw [hy] at t1
                have q := ih _ _ ha _ _ _ t1
                rw [h1, h2] at q
                refine AreInts.app q ?_
                rw [List.drop_drop]
                exact ihl (k + 1) _ _ hk' hb
              · cases h
            · cases h
      have := gen fs.toList 0 0 ks rfl h
      simpa using this
    · rename_i n e hu
      split at h
      · rename_i a ha
        split at h
        · rename_i hc
          have hc := Nat.eq_of_beq_eq_true hc
          cases h
          obtain ⟨xs, m, _, _, hlen, hxl, hf⟩ := DataW.trod_array hu hx
          have gen : ∀ (r j : Nat), j + r = n → AreInts (repKinds a r) (cs.drop (j * a.length)) := by
            intro r
            induction r with
            | zero => intro j _ i k hk; simp [repKinds] at hk
            | succ r ihr =>
              intro j hj
              have t1 := hf j (by omega)
              have hxj : xs[j]? = some (xs[j]'(by omega)) := by simp
              rw [hxj] at t1
              have q := ih _ _ ha _ _ _ t1
              rw [hc] at q
              refine AreInts.app q ?_
              rw [List.drop_drop]
              have := ihr (j + 1) (by omega)
              rw [Nat.add_mul, Nat.one_mul] at this
              exact this
          have := gen n 0 (by omega)
          simpa using this
        · cases h
      · cases h
    · cases h
end

/-! parameters -/
inductive PQ where
  | int (k : IntKind)
  | agg (ks : List IntKind)
  | sl (ks : List IntKind) (nn : Bool) (hi : Int)
  | nilS
def PQ.ok (P : Program) (t : TypeId) : PQ → Bool
  | .int k => pkOk P t (.int k)
  | .agg ks => pkOk P t (.agg ks)
  | .sl ks _ _ =>
    match P.underlying t with
    | some (.slice e) =>
      match intKinds P 20 e with
      | some ks' => kindsSame ks ks' && (Nat.beq (P.cellsOf e) ks.length && Nat.blt 0 ks.length)
      | none => false
    | _ => false
  | .nilS => true
/-- What is known of an argument beside its type. -/
def PQ.fit : PQ → Value → Prop
  | .sl _ nn hi, v => (nn = true → v ≠ .slice none 0 0) ∧ (0 ≤ hi ∧ ∀ a n c, v = .slice a n c → (n : Int) ≤ hi)
  | .nilS, v => v = .slice none 0 0
  | _, _ => True
def PQ.wide : PQ → Nat
  | .int _ => 1
  | .agg ks => ks.length
  | .sl _ _ _ => 2
  | .nilS => 0
def PQ.sym (off : Nat) : PQ → AVal
  | .int k => .int k (.var off)
  | .agg ks => .agg (symCells ks off)
  | .sl ks nn _ => .sliceS off (.lit 0) (.var (off + 1)) ks.length nn
  | .nilS => .slice none 0 0 0
def kindR (k : IntKind) : Option (Int × Int) := some (k.min, k.max)
def PQ.bds : PQ → List (Option (Int × Int))
  | .int k => [kindR k]
  | .agg ks => ks.map kindR
  | .sl _ _ hi => [none, some (0, hi)]
  | .nilS => []
theorem PQ.bds_length (p : PQ) : p.bds.length = p.wide := by cases p <;> simp [PQ.bds, PQ.wide]
def pqsOk (P : Program) : List TypeId → List PQ → Bool
  | [], [] => true
  | t :: ts, p :: ps =>
    match p.ok P t with
    | true => pqsOk P ts ps
    | false => false
  | _, _ => false
def pqArgs : List PQ → Nat → List AVal
  | [], _ => []
  | p :: ps, off => p.sym off :: pqArgs ps (off + p.wide)
def pqObjs : List PQ → Nat → T AObj
  | [], _ => .nil
  | .sl ks _ _ :: ps, off => (pqObjs ps (off + 2)).set off (.arr ks (.var off) (.var (off + 1)) false)
  | p :: ps, off => pqObjs ps (off + p.wide)
def kindsAt : List PQ → Nat → Nat → Option (List IntKind)
  | [], _, _ => none
  | .sl ks _ _ :: ps, off, i => if i = off then some ks else kindsAt ps (off + 2) i
  | p :: ps, off, i => kindsAt ps (off + p.wide) i
def pqBds : List PQ → List (Option (Int × Int))
  | [] => []
  | p :: ps => p.bds ++ pqBds ps
def pqWide : List PQ → Nat
  | [] => 0
  | p :: ps => p.wide + pqWide ps
def inBd (b : Option (Int × Int)) (n : Int) : Prop := ∀ lo hi, b = some (lo, hi) → lo ≤ n ∧ n ≤ hi
/-- What an argument's block is, for the numbers of its symbols. -/
def slot (off : Nat) (p : PQ) (L : Loc) (w : World) (ns : List Int) : Prop :=
  match p with
  | .sl ks _ _ => ∀ (ρ : Env) (f : Ren) (B : Nat → Prop), (∀ (j : Nat) (n : Int), ns[j]? = some n → ρ.i (off + j) = n) → ORel ρ f B w L (.arr ks (.var off) (.var (off + 1)) false)
  | _ => True
section
variable {H : Type} {enc : TypeId × Value → H} {P : Program} {w : World} {base : Nat} {spare : Nat → Bool} {held : Bool}
theorem cells_row {P : Program} {w : World} {a : Addr} {len s : Nat} {ks : List IntKind} (hs : s = ks.length) (hs0 : 0 < s) (hlen : 0 < len)
    (h : ∀ i, i < len → ∃ cs, AreInts ks cs ∧ ∀ j, j < s → w.cell? (a.add (i * s + j)) = cs[j]?) :
    ∃ (cs : Array Value) (el : TypeId) (fr : Nat × Nat) (code : Int), a.spot = none ∧ w.heap[a.block]? = some (.cells cs el fr) ∧
      ∀ (j c : Nat) (k : IntKind), j < len → ks[c]? = some k → cs[a.off + (j * s + c)]? = some (.int k (rowGet code (j * s + c : Nat))) ∧ kLo k ≤ rowGet code (j * s + c : Nat) ∧ rowGet code (j * s + c : Nat) ≤ kHi k := by
  have cell : ∀ i j k, i < len → ks[j]? = some k → ∃ n : Int, w.cell? (a.add (i * s + j)) = some (.int k n) ∧ kLo k ≤ n ∧ n ≤ kHi k := by
    intro i j k hi hk
    obtain ⟨cs, h1, h2⟩ := h i hi
    obtain ⟨n, h3, h4⟩ := h1 j k hk
    have hj : j < s := by rw [hs]; exact (List.getElem?_eq_some_iff.1 hk).1
    exact ⟨n, by rw [h2 j hj, h3], h4⟩
  have hk0 : ∃ k, ks[0]? = some k := ⟨ks[0]'(by omega), by simp⟩
  obtain ⟨k0, hk0⟩ := hk0
  obtain ⟨n0, hn0, _⟩ := cell 0 0 k0 hlen hk0
  rw [Nat.zero_mul, Nat.zero_add] at hn0
  have ha0 : a.add 0 = a := by
    cases a
    unfold Addr.add
    simp
  rw [ha0] at hn0
  have hb : ∃ cs el fr, w.heap[a.block]? = some (.cells cs el fr) ∧ a.spot = none := by
    unfold World.cell? at hn0
    split at hn0
    · rename_i cs el fr hc
      split at hn0
      · cases hn0
      · rename_i hsp
        exact ⟨cs, el, fr, hc, by simpa using hsp⟩
    · cases hn0
  obtain ⟨cs, el, fr, hc, hsp⟩ := hb
  have get : ∀ m, w.cell? (a.add m) = cs[a.off + m]? := by
    intro m
    obtain ⟨b, o, sp⟩ := a
    simp only at hsp hc
    subst hsp
    rw [addr_add]
    simp [World.cell?, hc]
  let val : Option Value → Int := fun v => match v with
    | some (.int _ n) => n
    | _ => 0
  let zs : List Int := (List.range (len * s)).map fun m => val (cs[a.off + m]?)
  refine ⟨cs, el, fr, (rowOf zs : Nat), hsp, hc, fun j c k hj hk => ?_⟩
  obtain ⟨n, h1, h2⟩ := cell j c k hj hk
  rw [get] at h1
  have hcs : c < s := by rw [hs]; exact (List.getElem?_eq_some_iff.1 hk).1
  have hlt : j * s + c < len * s := by
    have : (j + 1) * s ≤ len * s := Nat.mul_le_mul_right _ hj
    rw [Nat.add_mul] at this
    omega
  have hz : zs[j * s + c]? = some n := by
    simp only [zs, List.getElem?_map, List.getElem?_range hlt, Option.map_some, h1, val]
  have e := rowGet_of zs (j * s + c) n hz (kind_inRow h2.1 h2.2)
  rw [e]
  exact ⟨h1, h2⟩
theorem open_pq {W : World} {t : TypeId} {p : PQ} {v : Value} {d : DataW H} {ps : List MemPlace} (hp : p.ok P t = true) (hfit : p.fit v) (hv : Value.okWide P W .any base t v) (ht : DataW.Trod enc P W 0 (fun _ => true) true t v d ps) :
    ∃ (ns : List Int) (L : Loc), ns.length = p.wide ∧ (∀ (j : Nat) b n, p.bds[j]? = some b → ns[j]? = some n → inBd b n) ∧
      ∀ (off : Nat), (∀ (ρ : Env) (f : Ren), (∀ (j : Nat) (n : Int), ns[j]? = some n → ρ.i (off + j) = n) → (∀ ks nn hi, p = .sl ks nn hi → 0 < ns.getD 1 0 → f off = some L) → VRel ρ f (p.sym off) v) ∧ (∀ ks nn hi, p = .sl ks nn hi → 0 < ns.getD 1 0 → slot off p L W ns) := by
  cases p with
  | int k =>
    obtain ⟨ns, h1, h2, h3⟩ := open_one (W := W) (base := base) (pk := .int k) hp hv
    refine ⟨ns, ⟨0, 0, 0⟩, h1, fun j b n hb hn lo hi hlo => ?_, fun off => ⟨fun ρ f hρ _ => h3 ρ f off hρ, fun ks nn hi hk => by cases hk⟩⟩
    cases j with
    | zero =>
      simp [PQ.bds, kindR] at hb
      subst hb
      simp at hlo
      obtain ⟨rfl, rfl⟩ := hlo
      exact h2 0 k n rfl hn
    | succ j => simp [PQ.bds] at hb
  | agg ks =>
    obtain ⟨ns, h1, h2, h3⟩ := open_one (W := W) (base := base) (pk := .agg ks) hp hv
    refine ⟨ns, ⟨0, 0, 0⟩, h1, fun j b n hb hn lo hi hlo => ?_, fun off => ⟨fun ρ f hρ _ => h3 ρ f off hρ, fun ks nn hi hk => by cases hk⟩⟩
    simp only [PQ.bds, List.getElem?_map, Option.map_eq_some_iff] at hb
    obtain ⟨k, hk, rfl⟩ := hb
    simp [kindR] at hlo
    obtain ⟨rfl, rfl⟩ := hlo
    exact h2 j k n hk hn
  | nilS => exact ⟨[], ⟨0, 0, 0⟩, rfl, fun j b n hb => by simp [PQ.bds] at hb, fun off => ⟨fun ρ f _ _ => by rw [show v = .slice none 0 0 from hfit]; exact .nilSlice, fun ks nn hi hk => by cases hk⟩⟩
  | sl ks nn hi =>
    obtain ⟨hfn, hhi0, hfh⟩ := hfit
    unfold PQ.ok at hp
    simp only at hp
    split at hp
    · rename_i e hu
      split at hp
      · rename_i ks' hks
        obtain ⟨p1, p2⟩ := and_split hp
        obtain ⟨p2, p3⟩ := and_split p2
        have p1 := kindsSame_eq p1
        subst p1
        have p2 := Nat.eq_of_beq_eq_true p2
        have p3 : 0 < ks.length := by simpa [Nat.blt_eq] using p3
        obtain ⟨fuel, hf⟩ := ht
        have bds : ∀ (len : Nat) (code : Int), (len : Int) ≤ hi → ∀ (j : Nat) b n, (PQ.sl ks nn hi).bds[j]? = some b → [code, (len : Int)][j]? = some n → inBd b n := by
          intro len code hl j b n hb hn lo hi2 hlo
          cases j with
          | zero => simp [PQ.bds] at hb; subst hb; cases hlo
          | succ j =>
            cases j with
            | zero =>
              simp [PQ.bds] at hb hn
              subst hb; subst hn
              simp at hlo
              obtain ⟨rfl, rfl⟩ := hlo
              omega
            | succ j => simp [PQ.bds] at hb
        have nil : ∀ (a : Option Addr) (c : Nat), (a = none → c = 0 ∧ nn = false) → v = .slice a 0 c → ∃ (ns : List Int) (L : Loc), ns.length = (PQ.sl ks nn hi).wide ∧ (∀ (j : Nat) b n, (PQ.sl ks nn hi).bds[j]? = some b → ns[j]? = some n → inBd b n) ∧
            ∀ (off : Nat), (∀ (ρ : Env) (f : Ren), (∀ (j : Nat) (n : Int), ns[j]? = some n → ρ.i (off + j) = n) → (∀ ks' nn' hi', PQ.sl ks nn hi = .sl ks' nn' hi' → 0 < ns.getD 1 0 → f off = some L) → VRel ρ f ((PQ.sl ks nn hi).sym off) v) ∧ (∀ ks' nn' hi', PQ.sl ks nn hi = .sl ks' nn' hi' → 0 < ns.getD 1 0 → slot off (.sl ks nn hi) L W ns) := by
          intro a c hac hv'
          refine ⟨[0, 0], ⟨0, 0, 0⟩, rfl, bds 0 0 hhi0, fun off => ⟨fun ρ f hρ _ => ?_, fun ks' _ _ _ h0 => by simp at h0⟩⟩
          subst hv'
          exact .sliceZ (nn := nn) (by have := hρ 1 0 rfl; simpa [IE.ev] using this) hac
        have hcells : v.cells.toList = [v] ∨ ∃ a, v = .agg a := by
          cases v <;> first | exact .inl rfl | exact .inr ⟨_, rfl⟩
        have hnotagg : ∀ a, v ≠ .agg a := by
          rintro a rfl
          unfold Value.okWide at hv
          rw [hu] at hv
          simp only at hv
          unfold Cell.okWide at hv
          rw [hu] at hv
          simp only at hv
          unfold Cell.ok at hv
          rw [hu] at hv
          exact hv
        have hcells : v.cells.toList = [v] := by
          rcases hcells with h | ⟨a, h⟩
          · exact h
          · exact absurd h (hnotagg a)
        rw [hcells] at hf
        rcases open_slice hu hf with ⟨h0, _⟩ | ⟨a, len, cap, m, n, D, Pl, h1, _, hlc, hcm, hm, _, hin⟩
        · simp at h0
          exact nil none 0 (fun _ => ⟨rfl, by cases nn with | false => rfl | true => exact absurd h0 (hfn rfl)⟩) h0
        · simp at h1
          by_cases h0 : len = 0
          · subst h0
            exact nil (some a) cap (fun h => by cases h) h1
          · have hm : m = cap := by simpa using hm
            obtain ⟨cs, el, fr, code, q1, q2, q3⟩ := cells_row (P := P) (w := W) (a := a) (len := len) (s := ks.length) (ks := ks) rfl p3 (by omega) (fun i hil => by
              obtain ⟨cs', c1, c2⟩ := hin i (by omega)
              obtain ⟨_, c3, c4⟩ := World.cells?_some c1
              refine ⟨cs', trod_ints 20 e ks hks n cs' _ c2, fun j hj => ?_⟩
              have := c4 j (by rw [p2]; exact hj)
              rw [← this, p2]
              congr 1
              obtain ⟨b, o, sp⟩ := a
              unfold Addr.add
              simp only
              by_cases hz : i * ks.length = 0
              · rw [if_pos hz]
                rw [hz, Nat.zero_add]
              · rw [if_neg hz, if_neg (by omega)]
                by_cases hj0 : j = 0
                · rw [if_pos hj0, hj0, Nat.add_zero]
                · rw [if_neg hj0]
                  simp [Nat.add_assoc])
            have hmax : (len : Int) ≤ hi := hfh _ _ _ h1
            refine ⟨[code, (len : Int)], ⟨a.block, a.off, cs.size⟩, rfl, bds len code hmax, fun off => ⟨fun ρ f hρ hL => ?_, fun ks' nn' hi' hk' hpos => ?_⟩⟩
            · have e1 : ρ.i (off + 1) = (len : Int) := hρ 1 _ rfl
              have hfo := hL ks nn hi rfl (by simp; omega)
              subst h1
              have := VRel.sliceS (ρ := ρ) (f := f) (i := off) (s := ks.length) (st := .lit 0) (len := .var (off + 1)) (nn := nn) (c := cap) hfo (by simp [IE.ev]) (by simp [IE.ev, e1]) (by simp [IE.ev, e1]; exact hlc)
              simp only [IE.ev, e1, Int.toNat_natCast] at this
              have e2 : (⟨a.block, a.off + Int.toNat 0 * ks.length, none⟩ : Addr) = a := by
                obtain ⟨b, o, sp⟩ := a
                simp only at q1
                subst q1
                simp
              rw [e2] at this
              exact this
            · intro ρ f B hρ
              have e0 : ρ.i off = code := hρ 0 _ rfl
              have e1 : ρ.i (off + 1) = (len : Int) := hρ 1 _ rfl
              refine ⟨cs, el, fr, q2, rfl, fun h => (by cases h), fun j c k hj hk => ?_⟩
              simp only [IE.ev, e0, e1] at hj ⊢
              exact q3 j c k (by omega) hk
      · cases hp
    · cases hp



theorem pqObjs_get : ∀ (ps : List PQ) (off i : Nat) (o : AObj), (pqObjs ps off).get i = some o → off ≤ i ∧ ∃ ks, kindsAt ps off i = some ks ∧ o = .arr ks (.var i) (.var (i + 1)) false := by
  intro ps
  induction ps with
  | nil => intro off i o h; rw [show pqObjs [] off = .nil from rfl, T.get_nil] at h; cases h
  | cons p ps ih =>
    intro off i o h
    cases p with
    | int k =>
      obtain ⟨h1, ks, h2, h3⟩ := ih _ _ _ h
      exact ⟨by omega, ks, h2, h3⟩
    | agg ks =>
      obtain ⟨h1, ks, h2, h3⟩ := ih _ _ _ h
      exact ⟨by omega, ks, h2, h3⟩
    | nilS =>
      obtain ⟨h1, ks, h2, h3⟩ := ih _ _ _ h
      exact ⟨by simp only [PQ.wide] at h1; omega, ks, h2, h3⟩
    | sl ks nn hi =>
      rcases T.get_set h with ⟨rfl, rfl⟩ | ⟨_, h⟩
      · exact ⟨Nat.le_refl _, ks, if_pos rfl, rfl⟩
      · obtain ⟨h1, ks', h2, h3⟩ := ih _ _ _ h
        refine ⟨by omega, ks', ?_, h3⟩
        show (if i = off then some ks else kindsAt ps (off + 2) i) = some ks'
        rw [if_neg (by omega)]
        exact h2
/-- All the parameters opened, from symbol number off on: numbers for the symbols, places for the blocks. -/
theorem open_pqs {W : World} : ∀ (ts : List TypeId) (ps : List PQ) (vs : List Value) (ds : List (DataW H)) (mp : List MemPlace), pqsOk P ts ps = true → (∀ (j : Nat) p v, ps[j]? = some p → vs[j]? = some v → p.fit v) → (∀ (j : Nat) t v, ts[j]? = some t → vs[j]? = some v → Value.okWide P W .any base t v) →
    DataW.TrodAll enc P W 0 (fun _ => true) true ts vs ds mp →
    ∀ off : Nat, ∃ (ns : List Int) (g : Ren), ns.length = pqWide ps ∧ (∀ (j : Nat) b n, (pqBds ps)[j]? = some b → ns[j]? = some n → inBd b n) ∧ (∀ i, (i < off ∨ off + pqWide ps ≤ i) → g i = none) ∧ (∀ i L, g i = some L → ∃ ks, kindsAt ps off i = some ks) ∧
      ∀ (ρ : Env), (∀ (j : Nat) (n : Int), ns[j]? = some n → ρ.i (off + j) = n) →
        (∀ f : Ren, (∀ i L, off ≤ i → i < off + pqWide ps → g i = some L → f i = some L) → LRel ρ f (pqArgs ps off) vs.toArray) ∧
        ∀ (f : Ren) (B : Nat → Prop) (i : Nat) (L : Loc) (ks : List IntKind), g i = some L → kindsAt ps off i = some ks → ORel ρ f B W L (.arr ks (.var i) (.var (i + 1)) false) := by
  intro ts
  induction ts with
  | nil =>
    intro ps vs ds mp hp hft hv ht off
    cases ps with
    | cons p ps => cases hp
    | nil =>
      cases vs with
      | cons v vs => cases ds <;> exact ht.elim
      | nil => exact ⟨[], fun _ => none, rfl, fun j b n h => by simp [pqBds] at h, fun _ _ => rfl, fun i L h => (by cases h), fun ρ _ => ⟨fun f _ => LRel.nil, fun f B i L ks h => by cases h⟩⟩
  | cons t ts ih =>
    intro ps vs ds mp hp hft hv ht off
    cases ps with
    | nil => cases hp
    | cons p ps =>
      cases vs with
      | nil => cases ds <;> exact ht.elim
      | cons v vs =>
        cases ds with
        | nil => exact ht.elim
        | cons d ds =>
          obtain ⟨m1, m2, ht1, ht2, _⟩ := ht
          unfold pqsOk at hp
          split at hp
          · rename_i hp1
            obtain ⟨ns1, L1, a1, a2, a3⟩ := open_pq hp1 (hft 0 p v rfl rfl) (hv 0 t v rfl rfl) ht1
            obtain ⟨ns2, g2, b1, b2, b3, b4, b5⟩   := ih ps vs ds m2 hp (fun j p' v' h1 h2 => hft (j + 1) p' v' (by simpa using h1) (by simpa using h2)) (fun j t' v' h1 h2 => hv (j + 1) t' v' (by simpa using h1) (by simpa using h2)) ht2 (off + p.wide)
            have ev1 : ∀ (ρ : Env), (∀ (j : Nat) (n : Int), (ns1 ++ ns2)[j]? = some n → ρ.i (off + j) = n) → ∀ (j : Nat) (n : Int), ns1[j]? = some n → ρ.i (off + j) = n := by
              intro ρ hρ j n hn
              refine hρ j n ?_
              rw [List.getElem?_append_left (List.getElem?_eq_some_iff.1 hn).1]
              exact hn
            have ev2 : ∀ (ρ : Env), (∀ (j : Nat) (n : Int), (ns1 ++ ns2)[j]? = some n → ρ.i (off + j) = n) → ∀ (j : Nat) (n : Int), ns2[j]? = some n → ρ.i (off + p.wide + j) = n := by
              intro ρ hρ j n hn
              rw [Nat.add_assoc]
              refine hρ _ n ?_
              rw [List.getElem?_append_right (by omega), ← a1]
              rw [show ns1.length + j - ns1.length = j by omega]
              exact hn
            have bds : ∀ (j : Nat) b n, (pqBds (p :: ps))[j]? = some b → (ns1 ++ ns2)[j]? = some n → inBd b n := by
              intro j b n hb hn
              simp only [pqBds] at hb
              by_cases hj : j < ns1.length
              · rw [List.getElem?_append_left hj] at hn
                rw [List.getElem?_append_left (by rw [PQ.bds_length]; omega)] at hb
                exact a2 j b n hb hn
              · rw [List.getElem?_append_right (by omega)] at hn
                rw [List.getElem?_append_right (by rw [PQ.bds_length]; omega), PQ.bds_length, ← a1] at hb
                exact b2 _ b n hb hn
            by_cases hsl : ∃ ks nn hi, p = .sl ks nn hi ∧ 0 < ns1.getD 1 0
            · obtain ⟨ks0, nn0, hi0, rfl, h0⟩ := hsl
              refine ⟨ns1 ++ ns2, fun i => if i = off then some L1 else g2 i, by simp [pqWide, a1, b1], bds, fun i hi => ?_, fun i L hi => ?_, fun ρ hρ => ⟨fun f hf => ?_, fun f B i L ks hg hk => ?_⟩⟩
              · have e : (if i = off then some L1 else g2 i) = g2 i := if_neg (by simp only [pqWide, PQ.wide] at hi; omega)
                show (if i = off then some L1 else g2 i) = none
                rw [e]
                exact b3 i (by simp only [pqWide] at hi; omega)
              · have hi : (if i = off then some L1 else g2 i) = some L := hi
                by_cases h : i = off
                · exact ⟨ks0, if_pos h⟩
                · rw [if_neg h] at hi
                  obtain ⟨ks, hk⟩ := b4 i L hi
                  exact ⟨ks, (if_neg h).trans hk⟩
              · refine LRel.cons ((a3 off).1 ρ f (ev1 ρ hρ) (fun ks _ _ hk h0 => ?_)) ((b5 ρ (ev2 ρ hρ)).1 f (fun i L h1 h2 h3 => ?_))
                · exact hf off L1 (Nat.le_refl _) (by simp [pqWide, PQ.wide]; omega) (if_pos rfl)
                · refine hf i L (by omega) (by simp only [pqWide]; omega) ?_
                  show (if i = off then some L1 else g2 i) = some L
                  rw [if_neg (by simp only [PQ.wide] at h1; omega)]
                  exact h3
              · have hg : (if i = off then some L1 else g2 i) = some L := hg
                have hk : (if i = off then some ks0 else kindsAt ps (off + 2) i) = some ks := hk
                by_cases hi : i = off
                · subst hi
                  rw [if_pos rfl] at hg hk
                  cases hg; cases hk
                  exact (a3 i).2 _ _ _ rfl h0 ρ f B (ev1 ρ hρ)
                · rw [if_neg hi] at hg hk
                  exact (b5 ρ (ev2 ρ hρ)).2 f B i L ks hg hk
            · refine ⟨ns1 ++ ns2, g2, by simp [pqWide, a1, b1], bds, fun i hi => b3 i (by simp only [pqWide] at hi; omega), fun i L hi => ?_, fun ρ hρ => ⟨fun f hf => ?_, fun f B i L ks hg hk => ?_⟩⟩
              · obtain ⟨ks, hk⟩ := b4 i L hi
                cases p with
                | int k => exact ⟨ks, hk⟩
                | agg k => exact ⟨ks, hk⟩
                | nilS => exact ⟨ks, hk⟩
                | sl ks0 nn0 hi0 =>
                  by_cases h : i = off
                  · exact ⟨ks0, if_pos h⟩
                  · exact ⟨ks, (if_neg h).trans hk⟩
              · refine LRel.cons ((a3 off).1 ρ f (ev1 ρ hρ) (fun ks nn hi hk h0 => absurd ⟨ks, nn, hi, hk, h0⟩ hsl)) ((b5 ρ (ev2 ρ hρ)).1 f (fun i L h1 h2 h3 => ?_))
                exact hf i L (by omega) (by simp only [pqWide]; omega) h3
              · cases p with
                | int k => exact (b5 ρ (ev2 ρ hρ)).2 f B i L ks hg hk
                | agg k => exact (b5 ρ (ev2 ρ hρ)).2 f B i L ks hg hk
                | nilS => exact (b5 ρ (ev2 ρ hρ)).2 f B i L ks hg hk
                | sl ks0 nn0 hi0 =>
                  have hk : (if i = off then some ks0 else kindsAt ps (off + 2) i) = some ks := hk
                  by_cases hi : i = off
                  · subst hi
                    rw [b3 i (.inl (by simp [PQ.wide]))] at hg
                    cases hg
                  · rw [if_neg hi] at hk
                    exact (b5 ρ (ev2 ρ hρ)).2 f B i L ks hg hk
          · cases hp
/-- The bounds of the symbols. -/
def pqBd (ps : List PQ) : Bd := fun i =>
  match (treeOf (pqBds ps) 0 .nil).get i with
  | some (some b) => some b
  | _ => none
/-- The start of a law: the symbols' numbers, and the state at its entry. -/
theorem open_law {W : World} {ts : List TypeId} {ps : List PQ} {args : Array Value} {ds : List (DataW H)} {mp : List MemPlace} (hp : pqsOk P ts ps = true) (hft : ∀ (j : Nat) p v, ps[j]? = some p → args[j]? = some v → p.fit v) (hv : ∀ (j : Nat) t v, ts[j]? = some t → args[j]? = some v → Value.okWide P W .any base t v)
    (ht : DataW.TrodAll enc P W 0 (fun _ => true) true ts args.toList ds mp) :
    ∃ I : Nat → Int, ∀ ρ : Env, (∀ i, i < pqWide ps → ρ.i i = I i) → (∀ i lo hi, pqBd ps i = some (lo, hi) → lo ≤ ρ.i i ∧ ρ.i i ≤ hi) ∧
      ∃ f : Ren, HRel ρ (· < W.heap.size) W f (pqObjs ps 0) W ∧ LRel ρ f (pqArgs ps 0) args ∧ ∀ i, pqWide ps ≤ i → f i = none := by
  obtain ⟨ns, g, h1, h2, h3, h5, h4⟩ := open_pqs (W := W) (base := base) ts ps args.toList ds mp hp (fun j p v a b => hft j p v a (by simpa using b)) (fun j t v a b => hv j t v a (by simpa using b)) ht 0
  refine ⟨fun i => ns.getD i 0, fun ρ hρ => ?_⟩
  have hev : ∀ (j : Nat) (n : Int), ns[j]? = some n → ρ.i (0 + j) = n := by
    intro j n hn
    have hlt := (List.getElem?_eq_some_iff.1 hn).1
    rw [Nat.zero_add, hρ j (by omega)]
    simp [List.getD, hn]
  obtain ⟨q1, q2⟩ := h4 ρ hev
  refine ⟨fun i lo hi hb => ?_, g, ⟨Kept.refl _ _, fun _ h => h, fun i L hi => ?_, fun i j Li Lj oi oj hi hj gi gj hij hown => ?_, fun i L o hi ho => ?_⟩, ?_, fun i hi => h3 i (.inr (by omega))⟩
  · unfold pqBd at hb
    split at hb
    · rename_i b hk
      cases hb
      rcases treeOf_ok _ _ _ _ _ hk with ⟨_, hk⟩ | hk
      · have hk : (pqBds ps)[i]? = some (some (lo, hi)) := by simpa using hk
        have hlt : i < ns.length := by
          have hl : ∀ ps : List PQ, (pqBds ps).length = pqWide ps := by
            intro ps
            induction ps with
            | nil => rfl
            | cons p ps ih => simp [pqBds, pqWide, PQ.bds_length, ih]
          have := (List.getElem?_eq_some_iff.1 hk).1
          rw [hl] at this
          omega
        have hn : ns[i]? = some ns[i] := by simp [hlt]
        have := h2 i _ _ hk hn lo hi rfl
        have e := hev i _ hn
        rw [Nat.zero_add] at e
        rw [e]
        exact this
      · (rw [T.get_nil] at hk; cases hk)
    · cases hb
  · obtain ⟨ks, hk⟩ := h5 i L hi
    have o := q2 (fun _ => none) (fun _ => False) i L ks hi hk
    exact o.foot_lt o.foot_self
  · obtain ⟨_, ks, _, rfl⟩ := pqObjs_get _ _ _ _ gi
    cases hown
  · obtain ⟨_, ks, hk, rfl⟩ := pqObjs_get _ _ _ _ ho
    exact q2 _ _ i L ks hi hk
  · have := q1 g (fun i L _ _ hg => hg)
    simpa using this
/-- How long a slice among the arguments is, by its reading. -/
theorem slice_len {t e : TypeId} {a : Option Addr} {n c : Nat} {d : DataW H} {p : List MemPlace} (hu : P.underlying t = some (.slice e)) (h : DataW.Trod enc P w base spare held t (.slice a n c) d p) : n = 0 ∨ ∃ elems rest, d = .slice elems rest ∧ elems.length = n := by
  obtain ⟨fuel, hf⟩ := h
  have hf : DataW.trod enc P w base spare held fuel t [.slice a n c] = some (d, p) := hf
  rcases open_slice hu hf with ⟨h0, _⟩ | ⟨a', len, cap, m, k, D, Pl, h1, _, _, _, _, hx, _⟩
  · simp at h0; exact .inl h0.2.1
  · simp at h1
    obtain ⟨_, rfl, _⟩ := h1
    simp only [Prod.mk.injEq] at hx
    exact .inr ⟨_, _, hx.1, by simp⟩
end
end
end Go.Sx
