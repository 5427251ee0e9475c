/- From a reckoning to a row. No condition. -/
import Derived.Test.YtpoianhfjgjajaaGreatSx21
import Derived.ProofKit
import Derived.OpenShut
import Derived.SizedLaws
set_option linter.unusedSimpArgs false
set_option linter.unusedVariables false
namespace Go.Sx
open Go.RowKit (Below)
open Go.ChangeShapes Go.WideShapes Go.ChangeAt
noncomputable section

/-! parameters of integers -/
inductive PK where
  | int (k : IntKind)
  | agg (ks : List IntKind)
def PK.kinds : PK → List IntKind
  | .int k => [k]
  | .agg ks => ks
def kindsOk (P : Program) : List TypeId → List IntKind → Bool
  | [], [] => true
  | t :: ts, k :: ks =>
    match P.underlying t with
    | some (.int j) =>
      match kindEq k j with
      | true => kindsOk P ts ks
      | false => false
    | _ => false
  | _, _ => false
theorem kindsOk_ok {P : Program} : ∀ {ts : List TypeId} {ks : List IntKind}, kindsOk P ts ks = true → ts.length = ks.length ∧ ∀ (i : Nat) (t : TypeId), ts[i]? = some t → ∃ k, ks[i]? = some k ∧ P.underlying t = some (.int k) := by
  intro ts
  induction ts with
  | nil =>
    intro ks h
    cases ks with
    | nil => exact ⟨rfl, fun i t h => by simp at h⟩
    | cons k ks => cases h
  | cons t ts ih =>
    intro ks h
    cases ks with
    | nil => cases h
    | cons k ks =>
      unfold kindsOk at h
      split at h
      · rename_i j hj
        split at h
        · rename_i he
          obtain ⟨h1, h2⟩ := ih h
          refine ⟨by simp [h1], fun i t' hi => ?_⟩
          cases i with
          | zero =>
            simp at hi
            subst hi
            exact ⟨k, rfl, by rw [kindEq_eq he]; exact hj⟩
          | succ i => exact h2 i t' (by simpa using hi)
        · cases h
      · cases h
def pkOk (P : Program) (t : TypeId) : PK → Bool
  | .int k =>
    match P.underlying t with
    | some (.int j) => kindEq k j
    | _ => false
  | .agg ks =>
    match P.underlying t with
    | some (.struct _) | some (.array _ _) =>
      match P.cellTypes P.depth t with
      | some ts => kindsOk P ts ks && Nat.beq (P.cellsOf t) ks.length
      | none => false
    | _ => false
def symCells : List IntKind → Nat → List AVal
  | [], _ => []
  | k :: ks, off => .int k (.var off) :: symCells ks (off + 1)
def PK.sym (off : Nat) : PK → AVal
  | .int k => .int k (.var off)
  | .agg ks => .agg (symCells ks off)
theorem symCells_get : ∀ (ks : List IntKind) (off j : Nat) (v : AVal), (symCells ks off)[j]? = some v → ∃ k, ks[j]? = some k ∧ v = .int k (.var (off + j)) := by
  intro ks
  induction ks with
  | nil => intro off j v h; simp [symCells] at h
  | cons k ks ih =>
    intro off j v h
    cases j with
    | zero => simp [symCells] at h; exact ⟨k, rfl, h.symm⟩
    | succ j =>
      obtain ⟨k', h1, h2⟩ := ih (off + 1) j v (by simpa [symCells] using h)
      exact ⟨k', by simpa using h1, by rw [h2]; congr 2; omega⟩
theorem symCells_length (ks : List IntKind) (off : Nat) : (symCells ks off).length = ks.length := by
  induction ks generalizing off with
  | nil => rfl
  | cons k ks ih => simp [symCells, ih]
theorem okWide_intCell {P : Program} {W : World} {r : Reach} {base : Nat} {t : TypeId} {k : IntKind} {v : Value} (hu : P.underlying t = some (.int k)) (h : Cell.okWide P W r base t v) : ∃ n, v = .int k n ∧ k.min ≤ n ∧ n ≤ k.max := by
  unfold Cell.okWide at h
  rw [hu] at h
  simp only at h
  unfold Cell.ok at h
  rw [hu] at h
  cases v <;> simp only at h
  obtain ⟨rfl, h⟩ := h
  exact ⟨_, rfl, h.1, h.2⟩
theorem open_one {P : Program} {W : World} {base : Nat} {t : TypeId} {pk : PK} {v : Value} (hp : pkOk P t pk = true) (h : Value.okWide P W .any base t v) :
    ∃ ns : List Int, ns.length = pk.kinds.length ∧ (∀ (j : Nat) (k : IntKind) (n : Int), pk.kinds[j]? = some k → ns[j]? = some n → k.min ≤ n ∧ n ≤ k.max) ∧
      ∀ (ρ : Env) (f : Ren) (off : Nat), (∀ (j : Nat) (n : Int), ns[j]? = some n → ρ.i (off + j) = n) → VRel ρ f (pk.sym off) v := by
  cases pk with
  | int k =>
    unfold pkOk at hp
    simp only at hp
    split at hp
    · rename_i j hu
      have := kindEq_eq hp
      subst this
      unfold Value.okWide at h
      rw [hu] at h
      obtain ⟨n, rfl, h1, h2⟩ := okWide_intCell hu h
      refine ⟨[n], rfl, fun j k' n' hk hn => ?_, fun ρ f off hρ => ?_⟩
      · cases j with
        | zero => simp [PK.kinds] at hk hn; subst hk; subst hn; exact ⟨h1, h2⟩
        | succ j => simp at hn
      · have e := hρ 0 n rfl
        have : VRel ρ f (.int k (.var off)) (.int k ((IE.var off).ev ρ)) := .int k (.var off)
        simp only [IE.ev] at this
        rw [Nat.add_zero] at e
        rw [e] at this
        exact this
    · cases hp
  | agg ks =>
    have key : ∀ ts, P.cellTypes P.depth t = some ts → kindsOk P ts ks = true → P.cellsOf t = ks.length → (∃ cs, v = .agg cs ∧ cs.size = P.cellsOf t ∧ Row.okWide P W .any base t cs) →
        ∃ ns : List Int, ns.length = (PK.agg ks).kinds.length ∧ (∀ (j : Nat) (k : IntKind) (n : Int), (PK.agg ks).kinds[j]? = some k → ns[j]? = some n → k.min ≤ n ∧ n ≤ k.max) ∧
        ∀ (ρ : Env) (f : Ren) (off : Nat), (∀ (j : Nat) (n : Int), ns[j]? = some n → ρ.i (off + j) = n) → VRel ρ f ((PK.agg ks).sym off) v := by
      intro ts hts hk hc ⟨cs, hv, hsz, ts', hts', _, hrow⟩
      rw [hts] at hts'
      cases hts'
      subst hv
      obtain ⟨hlen, hks⟩ := kindsOk_ok hk
      have hcell : ∀ i, i < ks.length → ∃ k n, ks[i]? = some k ∧ cs[i]? = some (.int k n) ∧ k.min ≤ n ∧ n ≤ k.max := by
        intro i hi
        have hi' : i < cs.size := by rw [hsz, hc]; exact hi
        obtain ⟨u, hu, hok⟩ := hrow i cs[i] (by simp [hi'])
        rw [Nat.mod_eq_of_lt (by rw [hlen]; exact hi)] at hu
        obtain ⟨k, hk1, hk2⟩ := hks i u hu
        obtain ⟨n, hn, h1, h2⟩ := okWide_intCell hk2 hok
        exact ⟨k, n, hk1, by simp [hi', hn], h1, h2⟩
      let val : Value → Int := fun v => match v with
        | .int _ n => n
        | _ => 0
      have hns : ∀ (i : Nat) (n : Int), (cs.toList.map val)[i]? = some n → ∃ k, ks[i]? = some k ∧ cs[i]? = some (.int k n) ∧ k.min ≤ n ∧ n ≤ k.max := by
        intro i n hi
        have hlt : i < ks.length := by
          have := (List.getElem?_eq_some_iff.1 hi).1
          simp at this
          omega
        obtain ⟨k, m, a, b, c, d⟩ := hcell i hlt
        have : (cs.toList.map val)[i]? = some m := by simp [b, val]
        rw [this] at hi
        cases hi
        exact ⟨k, a, b, c, d⟩
      refine ⟨cs.toList.map val, by simp [PK.kinds, hsz, hc], fun j k n hk hn => ?_, fun ρ f off hρ => ?_⟩
      · obtain ⟨k', a, _, c⟩ := hns j n hn
        have hk : ks[j]? = some k := hk
        rw [a] at hk
        cases hk
        exact c
      · refine .agg (by rw [symCells_length, hsz, hc]) fun i x x' hx hx' => ?_
        obtain ⟨k, h1, rfl⟩ := symCells_get ks off i x hx
        have hlt : i < ks.length := (List.getElem?_eq_some_iff.1 h1).1
        obtain ⟨k', m, a, b, _⟩ := hcell i hlt
        rw [h1] at a
        cases a
        rw [b] at hx'
        cases hx'
        have e := hρ i m (by simp [b, val])
        have : VRel ρ f (.int k (.var (off + i))) (.int k ((IE.var (off + i)).ev ρ)) := .int k _
        simp only [IE.ev] at this
        rw [e] at this
        exact this
    unfold pkOk at hp
    simp only at hp
    split at hp
    · rename_i fs hu
      split at hp
      · rename_i ts hts
        obtain ⟨h1, h2⟩ := and_split hp
        unfold Value.okWide at h
        rw [hu] at h
        exact key ts hts h1 (Nat.eq_of_beq_eq_true h2) h
      · cases hp
    · rename_i n e hu
      split at hp
      · rename_i ts hts
        obtain ⟨h1, h2⟩ := and_split hp
        unfold Value.okWide at h
        rw [hu] at h
        exact key ts hts h1 (Nat.eq_of_beq_eq_true h2) h
      · cases hp
    · cases hp

def pksOk (P : Program) : List TypeId → List PK → Bool
  | [], [] => true
  | t :: ts, p :: ps =>
    match pkOk P t p with
    | true => pksOk P ts ps
    | false => false
  | _, _ => false
def symArgs : List PK → Nat → List AVal
  | [], _ => []
  | p :: ps, off => p.sym off :: symArgs ps (off + p.kinds.length)
def allKinds : List PK → List IntKind
  | [] => []
  | p :: ps => p.kinds ++ allKinds ps
theorem open_all {P : Program} {W : World} {base : Nat} : ∀ (ts : List TypeId) (ps : List PK) (args : List Value), pksOk P ts ps = true → args.length = ts.length → (∀ (j : Nat) t v, ts[j]? = some t → args[j]? = some v → Value.okWide P W .any base t v) →
    ∃ ns : List Int, ns.length = (allKinds ps).length ∧ (∀ (j : Nat) (k : IntKind) (n : Int), (allKinds ps)[j]? = some k → ns[j]? = some n → k.min ≤ n ∧ n ≤ k.max) ∧
      ∀ (ρ : Env) (f : Ren) (off : Nat), (∀ (j : Nat) (n : Int), ns[j]? = some n → ρ.i (off + j) = n) → LRel ρ f (symArgs ps off) args.toArray := by
  intro ts
  induction ts with
  | nil =>
    intro ps args h hl hv
    cases ps with
    | nil =>
      have : args = [] := List.length_eq_zero_iff.1 hl
      subst this
      exact ⟨[], rfl, fun j k n h => by simp [allKinds] at h, fun ρ f off _ => LRel.nil⟩
    | cons p ps => cases h
  | cons t ts ih =>
    intro ps args h hl hv
    cases ps with
    | nil => cases h
    | cons p ps =>
      cases args with
      | nil => simp at hl
      | cons v args =>
        unfold pksOk at h
        split at h
        · rename_i hp
          obtain ⟨ns1, l1, b1, r1⟩ := open_one hp (hv 0 t v rfl rfl)
          obtain ⟨ns2, l2, b2, r2⟩ := ih ps args h (by simpa using hl) (fun j t' v' h1 h2 => hv (j + 1) t' v' (by simpa using h1) (by simpa using h2))
          refine ⟨ns1 ++ ns2, by simp [allKinds, l1, l2], fun j k n hk hn => ?_, fun ρ f off hρ => ?_⟩
          · unfold allKinds at hk
            by_cases hj : j < ns1.length
            · rw [List.getElem?_append_left hj] at hn
              rw [List.getElem?_append_left (by omega)] at hk
              exact b1 j k n hk hn
            · rw [List.getElem?_append_right (by omega)] at hn hk
              rw [← l1] at hk
              exact b2 _ k n hk hn
          · refine LRel.cons (r1 ρ f off fun j n hn => hρ j n ?_) (r2 ρ f (off + p.kinds.length) fun j n hn => ?_)
            · rw [List.getElem?_append_left (List.getElem?_eq_some_iff.1 hn).1]
              exact hn
            · rw [Nat.add_assoc]
              refine hρ _ n ?_
              rw [List.getElem?_append_right (by omega)]
              have e : p.kinds.length + j - ns1.length = j := by omega
              rw [e]
              exact hn
        · cases h
/-- The bounds of the symbols. -/
def bdOf (ps : List PK) : Bd := fun i =>
  match (treeOf (allKinds ps) 0 .nil).get i with
  | some k => some (k.min, k.max)
  | none => none
/-- The arguments opened: what the symbols stand for, whatever the rest of the environment is. -/
theorem open_envG {P : Program} {W : World} {base : Nat} {ts : List TypeId} {ps : List PK} {args : Array Value} (h : pksOk P ts ps = true) (hl : args.size = ts.length) (hv : ∀ (j : Nat) t v, ts[j]? = some t → args[j]? = some v → Value.okWide P W .any base t v) :
    ∃ I : Nat → Int, (∀ ρ : Env, (∀ i, i < (allKinds ps).length → ρ.i i = I i) → (∀ i lo hi, bdOf ps i = some (lo, hi) → lo ≤ ρ.i i ∧ ρ.i i ≤ hi) ∧ ∀ f, LRel ρ f (symArgs ps 0) args) := by
  obtain ⟨ns, l, b, r⟩ := open_all (W := W) (base := base) ts ps args.toList h (by simpa using hl) (fun j t v h1 h2 => hv j t v h1 (by simpa using h2))
  refine ⟨fun i => ns.getD i 0, fun ρ hρ => ⟨fun i lo hi hb => ?_, fun f => ?_⟩⟩
  · unfold bdOf at hb
    split at hb
    · rename_i k hk
      cases hb
      rcases treeOf_ok _ _ _ _ _ hk with ⟨_, hk⟩ | hk
      · have hk : (allKinds ps)[i]? = some k := by simpa using hk
        have hlt0 := (List.getElem?_eq_some_iff.1 hk).1
        have hlt : i < ns.length := by rw [l]; exact hlt0
        have := b i k ns[i] hk (by simp [hlt])
        rw [hρ i hlt0]
        simp [hlt]
        exact this
      · (rw [T.get_nil] at hk; cases hk)
    · cases hb
  · have := r ρ f 0 (fun j n hn => by
      simp only [Nat.zero_add]
      have hlt : j < (allKinds ps).length := by rw [← l]; exact (List.getElem?_eq_some_iff.1 hn).1
      rw [hρ j hlt]
      simp [List.getD, hn])
    simpa using this
theorem open_env {P : Program} {W : World} {base : Nat} {ts : List TypeId} {ps : List PK} {args : Array Value} (h : pksOk P ts ps = true) (hl : args.size = ts.length) (hv : ∀ (j : Nat) t v, ts[j]? = some t → args[j]? = some v → Value.okWide P W .any base t v) :
    ∃ ρ : Env, ρ.ok (bdOf ps) ∧ ∀ f, LRel ρ f (symArgs ps 0) args := by
  obtain ⟨I, hI⟩ := open_envG (W := W) (base := base) h hl hv
  exact ⟨{ i := I, b := fun _ => false }, hI _ (fun _ _ => rfl)⟩

/-! the world at the start -/
theorem HRel.start (ρ : Env) (W : World) : HRel ρ (· < W.heap.size) W (fun _ => none) .nil W :=
  ⟨Kept.refl _ _, fun _ h => h, fun i L h => (by cases h), fun i j Li Lj oi oj h => (by cases h), fun i L o h => (by cases h)⟩
theorem HRel.after {ρ : Env} {B : Nat → Prop} {W w w' : World} {f : Ren} {h : T AObj} (hr : HRel ρ B W f h w) (hb : Below w.heap.size w w') : HRel ρ B W f h w' :=
  hr.of_same (hr.below.trans (Below.kept hb fun b hB => Nat.lt_of_lt_of_le (hr.bsize b hB) hr.below.size)) hb.size fun i L o hi hg b hf => hb.block b ((hr.obj i L o hi hg).foot_lt hf)
/-- What a call without arguments ends in, whatever the world. -/
def SumOk (P : Program) (g : FuncId) (v : Value) : Prop := ∀ w, Calls P g #[] w fun e w' => e = .returned v ∧ Below w.heap.size w w'
def callTrue (g : FuncId) : ACall := fun g' args h nx =>
  match Nat.beq g g', args with
  | true, [] => some (.bool (.lit true), h, nx)
  | _, _ => none
def sumTrue (g : FuncId) : Sums := ⟨callTrue g, fun _ _ _ _ => none⟩
def noSum : Sums := ⟨fun _ _ _ _ => none, fun _ _ _ _ => none⟩
theorem noSum_ok {P : Program} {ρ : Env} {B : Nat → Prop} {W : World} : SumsOk P ρ B W noSum := ⟨fun g args h nx v h' nx' hc => (by cases hc), fun _ _ _ _ _ _ _ _ => LoopOk.none⟩
theorem callTrue_ok {P : Program} {ρ : Env} {B : Nat → Prop} {W : World} {g : FuncId} (hs : SumOk P g (.bool true)) : CallOk P ρ B W (callTrue g) := by
  intro g' args h nx v h' nx' hc
  unfold callTrue at hc
  split at hc
  · rename_i hg
    cases hc
    have := Nat.eq_of_beq_eq_true hg
    subst this
    refine ⟨Nat.le_refl _, fun f w args' hr ha _ => ?_⟩
    have he : args' = #[] := Array.eq_empty_of_size_eq_zero (by simpa using ha.1)
    subst he
    refine (hs w).mono fun e w' ⟨h1, h2⟩ => ?_
    exact ⟨_, f, h1, Ren.le_refl f, fun _ _ => rfl, hr.after h2, .bool (.lit true)⟩
  · cases hc

theorem sumTrue_ok {P : Program} {ρ : Env} {B : Nat → Prop} {W : World} {g : FuncId} (hs : SumOk P g (.bool true)) : SumsOk P ρ B W (sumTrue g) :=
  ⟨callTrue_ok hs, fun _ _ _ _ _ _ _ _ => LoopOk.none⟩

/-! a tree of cases -/
inductive DT where
  | leaf
  | split (b : BE) (y n : DT)
  | fix (i : Nat) (v : Int) (y n : DT)
  | range (e : IE) (t : DT)
mutual
def AVal.subst (i : Nat) (n : Int) : AVal → AVal
  | .int k (.var j) =>
    match Nat.beq i j with
    | true => .int k (.lit n)
    | false => .int k (.var j)
  | .agg cs => .agg (substList i n cs)
  | v => v
def substList (i : Nat) (n : Int) : List AVal → List AVal
  | [] => []
  | v :: l => v.subst i n :: substList i n l
end
theorem substList_eq (i : Nat) (n : Int) (l : List AVal) : substList i n l = l.map (AVal.subst i n) := by
  induction l with
  | nil => rfl
  | cons v l ih => simp [substList, ih]
theorem subst_ok {ρ : Env} {f : Ren} {i : Nat} {n : Int} (hn : ρ.i i = n) {v : AVal} {v' : Value} (h : VRel ρ f v v') : VRel ρ f (v.subst i n) v' := by
  induction h with
  | int k e =>
    unfold AVal.subst
    split
    · rename_i k' j hk
      cases hk
      split
      · rename_i hij
        have := Nat.eq_of_beq_eq_true hij
        subst this
        have : VRel ρ f (.int k (.lit n)) (.int k ((IE.lit n).ev ρ)) := .int k (.lit n)
        simp only [IE.ev] at this ⊢
        rw [hn]
        exact this
      · exact .int k _
    · rename_i hk; cases hk
    · exact .int k e
  | agg ha ha' ih =>
    unfold AVal.subst
    rw [substList_eq]
    refine .agg (by simp [ha]) fun j x x' hx hx' => ?_
    simp only [List.getElem?_map, Option.map_eq_some_iff] at hx
    obtain ⟨y, hy, rfl⟩ := hx
    exact ih j y x' hy hx'
  | bool b => exact .bool b
  | str h => exact .str h
  | nilPtr => exact .nilPtr
  | ptr hh => exact .ptr hh
  | nilSlice => exact .nilSlice
  | slice hh => exact .slice hh
  | sliceG hh hn hc hs => exact .sliceG hh hn hc hs
  | sliceE hh hg hs => exact .sliceE hh hg hs
  | nilMap => exact .nilMap
  | map hh => exact .map hh
  | func ha hb iha ihb => exact .func ha hb iha ihb
  | nilFunc => exact .nilFunc
  | iface ih => exact .iface ih
  | nilIface => exact .nilIface
  | tuple ha ih => exact .tuple ha ih
  | ptrE hh h0 => exact .ptrE hh h0
  | sliceS hh h0 hl hc => exact .sliceS hh h0 hl hc
  | sliceZ hl ha => exact .sliceZ hl ha
  | strS hl hs => exact .strS hl hs
  | sliceA hh hl hc hs => exact .sliceA hh hl hc hs
  | sliceN hl => exact .sliceN hl
theorem substList_ok {ρ : Env} {f : Ren} {i : Nat} {n : Int} (hn : ρ.i i = n) {l : List AVal} {a : Array Value} (h : LRel ρ f l a) : LRel ρ f (substList i n l) a := by
  rw [substList_eq]
  refine ⟨by simp [h.1], fun j x x' hx hx' => ?_⟩
  simp only [List.getElem?_map, Option.map_eq_some_iff] at hx
  obtain ⟨y, hy, rfl⟩ := hx
  exact subst_ok hn (h.2 j y x' hy hx')

def Ctx.with (C : Ctx) (dec : Dec) : Ctx := { C with dec := dec }
def saysTrue (dec : Dec) : Option (AVal × T AObj × Nat) → Bool
  | some (.bool b, _, _) =>
    match settle dec b with
    | some t => t
    | none => false
  | _ => false
def DT.check (C : Ctx) (sm : Sums) (L d : Nat) (g : FuncId) : DT → Dec → List AVal → Bool
  | .leaf, dec, args => saysTrue dec (aCallN (C.with dec) (aDraw (C.with dec)) sm L d g args .nil 0)
  | .split b y n, dec, args =>
    match settle dec b with
    | some true => DT.check C sm L d g y ((b, true) :: dec) args
    | some false => DT.check C sm L d g n ((b, false) :: dec) args
    | none =>
      match DT.check C sm L d g y ((b, true) :: dec) args with
      | true => DT.check C sm L d g n ((b, false) :: dec) args
      | false => false
  | .fix i v y n, dec, args =>
    match settle dec (mkEq C.bd (.var i) (.lit v)) with
    | some true => DT.check C sm L d g y dec (substList i v args)
    | some false => DT.check C sm L d g n dec args
    | none =>
      match DT.check C sm L d g y ((mkEq C.bd (.var i) (.lit v), true) :: dec) (substList i v args) with
      | true => DT.check C sm L d g n ((mkEq C.bd (.var i) (.lit v), false) :: dec) args
      | false => false
  | .range e t, dec, args =>
    match rng C.bd e with
    | some (lo, hi) => DT.check C sm L d g t ((.lt e (.lit lo), false) :: (.lt (.lit hi) e, false) :: dec) args
    | none => false
theorem Dec.holds_cons {ρ : Env} {dec : Dec} (h : dec.holds ρ) {b : BE} {v : Bool} (hb : b.ev ρ = v) : Dec.holds ρ ((b, v) :: dec) := by
  intro p hp
  rcases List.mem_cons.1 hp with rfl | hp
  · exact hb
  · exact h p hp
theorem Ctx.Ok.with {C : Ctx} {P : Program} {ρ : Env} (h : C.Ok P ρ) {dec : Dec} (hd : dec.holds ρ) : (C.with dec).Ok P ρ :=
  ⟨h.ty, h.fn, h.bd, hd, h.plain, h.mixed⟩
theorem run_sound {C : Ctx} {P : Program} {ρ : Env} (hC : C.Ok P ρ) {sm : Sums} (hsm : ∀ B W, SumsOk P ρ B W sm) {L d : Nat} {g : FuncId} {args : List AVal} {v : AVal} {h' : T AObj} {nx' : Nat} (h : aCallN C (aDraw C) sm L d g args .nil 0 = some (v, h', nx')) {args' : Array Value} (ha : LRel ρ (fun _ => none) args args') (W : World) :
    Calls P g args' W fun e w' => ∃ v' f', e = .returned v' ∧ Below W.heap.size W w' ∧ VRel ρ f' v v' := by
  refine Calls.mono ((aCallN_ok hC (aDraw_ok hC) (hsm (· < W.heap.size) W) L d _ _ _ _ _ _ _ h).2 (fun _ => none) W args' (HRel.start ρ W) ha (fun _ _ _ => rfl)) fun e w' hR => ?_
  obtain ⟨v', f', h1, h2, h3, h4, h5⟩ := hR
  exact ⟨v', f', h1, h4.below.below, h5⟩
theorem DT.sound {C : Ctx} {P : Program} {ρ : Env} (hC : C.Ok P ρ) {sm : Sums} (hsm : ∀ B W, SumsOk P ρ B W sm) {L d : Nat} {g : FuncId} {args' : Array Value} (W : World) : ∀ (t : DT) (dec : Dec) (args : List AVal), dec.holds ρ → LRel ρ (fun _ => none) args args' → t.check C sm L d g dec args = true →
    Calls P g args' W fun e w' => e = .returned (.bool true) ∧ Below W.heap.size W w' := by
  intro t
  induction t with
  | leaf =>
    intro dec args hd ha h
    simp only [DT.check] at h
    unfold saysTrue at h
    split at h
    · rename_i b h' nx hr
      split at h
      · rename_i u hu
        subst h
        refine Calls.mono (run_sound (hC.with hd) hsm hr ha W) fun e w' ⟨v', f', h1, h2, h3⟩ => ?_
        refine ⟨?_, h2⟩
        rw [h1]
        cases h3
        rw [settle_ok hd b _ hu]
      · cases h
    · cases h
  | split b y n ihy ihn =>
    intro dec args hd ha h
    simp only [DT.check] at h
    split at h
    · rename_i hs
      exact ihy _ args (Dec.holds_cons hd (settle_ok hd _ _ hs)) ha h
    · rename_i hs
      exact ihn _ args (Dec.holds_cons hd (settle_ok hd _ _ hs)) ha h
    · split at h
      · rename_i hy
        cases hb : b.ev ρ
        · exact ihn _ args (Dec.holds_cons hd hb) ha h
        · exact ihy _ args (Dec.holds_cons hd hb) ha hy
      · cases h
  | fix i v y n ihy ihn =>
    intro dec args hd ha h
    have hev := mkEq_ev hC.bd (.var i) (.lit v)
    have yes : (mkEq C.bd (.var i) (.lit v)).ev ρ = true → ρ.i i = v := by
      intro ht
      rw [hev] at ht
      exact of_decide_eq_true ht
    simp only [DT.check] at h
    split at h
    · rename_i hs
      exact ihy dec _ hd (substList_ok (yes (settle_ok hd _ _ hs)) ha) h
    · exact ihn dec args hd ha h
    · split at h
      · rename_i hy
        cases hb : (mkEq C.bd (.var i) (.lit v)).ev ρ
        · exact ihn _ args (Dec.holds_cons hd hb) ha h
        · exact ihy _ _ (Dec.holds_cons hd hb) (substList_ok (yes hb) ha) hy
      · cases h
  | range e t ih =>
    intro dec args hd ha h
    simp only [DT.check] at h
    split at h
    · rename_i lo hi hr
      have hb := rng_ok hC.bd e lo hi hr
      exact ih _ args (Dec.holds_cons (Dec.holds_cons hd (ev_gt_f.2 (by omega))) (ev_lt_f.2 (by omega))) ha h
    · cases h
/-- Some tree of cases shuts what is assumed. -/
def Runs (C : Ctx) (sm : Sums) (L d : Nat) (g : FuncId) (dec : Dec) (args : List AVal) : Prop := ∃ t : DT, DT.check C sm L d g t dec args = true
theorem Runs.of {C : Ctx} {sm : Sums} {L d : Nat} {g : FuncId} {dec : Dec} {args : List AVal} (t : DT) (h : DT.check C sm L d g t dec args = true) : Runs C sm L d g dec args := ⟨t, h⟩
theorem Runs.split {C : Ctx} {sm : Sums} {L d : Nat} {g : FuncId} {dec : Dec} {args : List AVal} (b : BE) (hy : Runs C sm L d g ((b, true) :: dec) args) (hn : Runs C sm L d g ((b, false) :: dec) args) : Runs C sm L d g dec args := by
  obtain ⟨y, hy⟩ := hy
  obtain ⟨n, hn⟩ := hn
  refine ⟨.split b y n, ?_⟩
  simp only [DT.check]
  split
  · exact hy
  · exact hn
  · rw [hy]; exact hn
theorem Runs.sure {C : Ctx} {sm : Sums} {L d : Nat} {g : FuncId} {dec : Dec} {args : List AVal} (b : BE) (hs : settle dec b = some true) (hy : Runs C sm L d g ((b, true) :: dec) args) : Runs C sm L d g dec args := by
  obtain ⟨y, hy⟩ := hy
  refine ⟨.split b y y, ?_⟩
  simp only [DT.check, hs]
  exact hy
theorem Runs.range {C : Ctx} {sm : Sums} {L d : Nat} {g : FuncId} {dec : Dec} {args : List AVal} (e : IE) (lo hi : Int) (hr : rng C.bd e = some (lo, hi)) (h : Runs C sm L d g ((.lt e (.lit lo), false) :: (.lt (.lit hi) e, false) :: dec) args) : Runs C sm L d g dec args := by
  obtain ⟨t, h⟩ := h
  refine ⟨.range e t, ?_⟩
  simp only [DT.check, hr]
  exact h
theorem Runs.sound {C : Ctx} {P : Program} {ρ : Env} (hC : C.Ok P ρ) {sm : Sums} (hsm : ∀ B W, SumsOk P ρ B W sm) {L d : Nat} {g : FuncId} {args' : Array Value} (W : World) {dec : Dec} {args : List AVal} (hd : dec.holds ρ) (ha : LRel ρ (fun _ => none) args args') (h : Runs C sm L d g dec args) :
    Calls P g args' W fun e w' => e = .returned (.bool true) ∧ Below W.heap.size W w' := by
  obtain ⟨t, h⟩ := h
  exact DT.sound hC hsm W t dec args hd ha h
theorem SumOk.of_run {C : Ctx} {P : Program} {ρ : Env} (hC : C.Ok P ρ) {L d : Nat} {g : FuncId} (hd : C.dec.holds ρ) (h : saysTrue C.dec (aCallN C (aDraw C) noSum L d g [] .nil 0) = true) : SumOk P g (.bool true) := by
  intro w
  unfold saysTrue at h
  split at h
  · rename_i b h' nx hr
    split at h
    · rename_i u hu
      subst h
      refine Calls.mono (run_sound hC (fun B W => noSum_ok) hr LRel.nil w) fun e w' ⟨v', f', h1, h2, h3⟩ => ?_
      refine ⟨?_, h2⟩
      rw [h1]
      cases h3
      rw [settle_ok hd b _ hu]
    · cases h
  · cases h

/-! the context of a program -/
def ctxOf (P : Program) (bd : Bd) : Ctx := ⟨tyTree P, fnTree P, bd, [], fun t => !(P.stoodInHeld t) && !(P.eqGuardType P.depth t)⟩
theorem ctxOf_ok {P : Program} (hm : P.follows .mixedOrders = true) {bd : Bd} {ρ : Env} (hρ : ρ.ok bd) : (ctxOf P bd).Ok P ρ :=
  ⟨tyTree_ok P, fnTree_ok P, hρ, fun p hp => (by cases hp), fun t h => ⟨by simpa using (and_split h).1, by simpa using (and_split h).2⟩, hm⟩

/-! the row -/
theorem Below.trodAll {H : Type} {enc : TypeId × Value → H} {P : Program} (hl : laidOutB P = true) {W W' : World} (hb : Below W.heap.size W W') : ∀ (ts : List TypeId) (vs : List Value) (ds : List (DataW H)) (ps : List MemPlace), (∀ t ∈ ts, P.readableRec t = true ∧ t < P.types.size) →
    DataW.TrodAll enc P W 0 (fun _ => true) true ts vs ds ps → (∀ x ∈ ps, x.block < W.heap.size) → DataW.TrodAll enc P W' 0 (fun b => decide (b < W.heap.size)) true ts vs ds ps := by
  intro ts
  induction ts with
  | nil =>
    intro vs ds ps _ h _
    cases vs <;> cases ds <;> simp only [DataW.TrodAll] at h ⊢
    exact h
  | cons t ts ih =>
    intro vs ds ps ht h hlt
    cases vs with
    | nil => cases ds <;> simp only [DataW.TrodAll] at h
    | cons v vs =>
      cases ds with
      | nil => simp only [DataW.TrodAll] at h
      | cons d ds =>
        simp only [DataW.TrodAll] at h ⊢
        obtain ⟨p, q, h1, h2, rfl⟩ := h
        obtain ⟨a, b⟩ := ht t (List.mem_cons_self ..)
        exact ⟨p, q, Below.trod hl a b h1 hb (fun x hx => hlt x (List.mem_append.2 (.inl hx))), ih vs ds q (fun t' ht' => ht t' (List.mem_cons_of_mem _ ht')) h2 (fun x hx => hlt x (List.mem_append.2 (.inr hx))), rfl⟩
theorem trodAll_length {H : Type} {enc : TypeId × Value → H} {P : Program} {w : World} {base : Nat} {sp : Nat → Bool} {hd : Bool} : ∀ (ts : List TypeId) (vs : List Value) (ds : List (DataW H)) (ps : List MemPlace), DataW.TrodAll enc P w base sp hd ts vs ds ps → vs.length = ts.length ∧ ds.length = ts.length := by
  intro ts
  induction ts with
  | nil => intro vs ds ps h; cases vs <;> cases ds <;> simp only [DataW.TrodAll] at h <;> exact ⟨rfl, rfl⟩
  | cons t ts ih =>
    intro vs ds ps h
    cases vs with
    | nil => cases ds <;> simp only [DataW.TrodAll] at h
    | cons v vs =>
      cases ds with
      | nil => simp only [DataW.TrodAll] at h
      | cons d ds =>
        simp only [DataW.TrodAll] at h
        obtain ⟨p, q, h1, h2, rfl⟩ := h
        obtain ⟨a, b⟩ := ih vs ds q h2
        exact ⟨by simp [a], by simp [b]⟩
theorem post_true {H : Type} {enc : TypeId × Value → H} {P : Program} {f : Func} {s : ChangeSpec} {tb : TypeId} (hl : laidOutB P = true) (hts : ∀ t ∈ f.params.toList, P.readableRec t = true ∧ t < P.types.size) (hres : f.resultTypes = #[tb]) (hub : P.underlying tb = some .bool) (hvars : s.vars = [])
    {W W' : World} {args : Array Value} {ds gs : List (DataW H)} {before : List MemPlace} (hW : DataW.Whole enc P f.params.toList s.vars false W args.toList ds gs before) (hs : s.fn H (ds ++ gs) = { results := [.lit (.bool true)], args := ds }) (hb : Below W.heap.size W W') :
    s.post enc P f false true false false W args (.bool true) W' := by
  have hlt : ∀ x ∈ before, x.block < W.heap.size := fun x hx => hW.lt x hx
  have hW0 := hW
  obtain ⟨p, q, hA, hV, rfl, hfz, hnd⟩ := hW0
  refine ⟨ds, gs, p ++ q, [], p, [], hW, ?_, ?_, ?_, hb.frame _, fun h => by cases h⟩
  · rw [hs, hres]
    exact trodAll_mk1 (RowKit.shut_bool hub true)
  · rw [hs]
    exact Below.trodAll hl hb _ _ _ _ hts hA (fun x hx => hlt x (List.mem_append.2 (.inl hx)))
  · rw [hs, hvars]
    rfl
end
end Go.Sx
