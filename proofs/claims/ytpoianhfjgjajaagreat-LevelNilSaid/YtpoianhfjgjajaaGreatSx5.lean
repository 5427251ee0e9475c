/- Tables of a program as trees; equality and arithmetic on symbolic values against the model's. No condition. -/
import Derived.Test.YtpoianhfjgjajaaGreatSx4
import Derived.ChangeKeysEq
import Derived.Laws.StructEq
set_option linter.unusedSimpArgs false
set_option linter.unusedVariables false
namespace Go.Sx
open Go.RowKit (Below)
noncomputable section

/-- What a run goes by: the types' and functions' tables, the variables' bounds, the assumed tests, the struct types without peculiarities. -/
structure Ctx where
  ty : T TypeInfo
  fn : T Func
  bd : Bd
  dec : Dec
  plain : TypeId → Bool
structure Ctx.Ok (C : Ctx) (P : Program) (ρ : Env) : Prop where
  ty : ∀ t i, C.ty.get t = some i → P.info? t = some i
  fn : ∀ t i, C.fn.get t = some i → P.funcs[t]? = some i
  bd : ρ.ok C.bd
  dec : C.dec.holds ρ
  plain : ∀ t, C.plain t = true → P.stoodInHeld t = false ∧ P.eqGuardType P.depth t = false
  mixed : P.follows .mixedOrders = true

def treeOf {α : Type} : List α → Nat → T α → T α
  | [], _, t => t
  | x :: l, k, t => treeOf l (k + 1) (t.set k x)
theorem treeOf_ok {α : Type} : ∀ (l : List α) (k : Nat) (t : T α) (j : Nat) (x : α), (treeOf l k t).get j = some x → (k ≤ j ∧ l[j - k]? = some x) ∨ t.get j = some x := by
  intro l
  induction l with
  | nil => intro k t j x h; exact .inr h
  | cons y l ih =>
    intro k t j x h
    rcases ih _ _ _ _ h with ⟨h1, h2⟩ | h
    · exact .inl ⟨by omega, by rw [show j - k = (j - (k + 1)) + 1 by omega]; simpa using h2⟩
    · rcases T.get_set h with ⟨rfl, rfl⟩ | ⟨_, h⟩
      · exact .inl ⟨Nat.le_refl _, by simp⟩
      · exact .inr h
def tyTree (P : Program) : T TypeInfo := treeOf P.types.toList 0 .nil
def fnTree (P : Program) : T Func := treeOf P.funcs.toList 0 .nil
theorem tyTree_ok (P : Program) (t : Nat) (i : TypeInfo) (h : (tyTree P).get t = some i) : P.info? t = some i := by
  rcases treeOf_ok _ _ _ _ _ h with ⟨_, h⟩ | h
  · have h' : P.types[t]? = some i := by simpa using h
    have hlt : t < P.types.size := (Array.getElem?_eq_some_iff.1 h').1
    unfold Tables.info?
    rw [if_pos hlt, h']
  · (rw [T.get_nil] at h; cases h)
theorem fnTree_ok (P : Program) (t : Nat) (i : Func) (h : (fnTree P).get t = some i) : P.funcs[t]? = some i := by
  rcases treeOf_ok _ _ _ _ _ h with ⟨_, h⟩ | h
  · simpa using h
  · (rw [T.get_nil] at h; cases h)

def Ctx.und (C : Ctx) (t : TypeId) : Option TypeDesc :=
  match C.ty.get t with
  | none => none
  | some i =>
    match i.desc with
    | .named _ u =>
      match C.ty.get u with
      | none => none
      | some j => some j.desc
    | d => some d
theorem Ctx.und_ok {C : Ctx} {P : Program} {ρ : Env} (hC : C.Ok P ρ) {t : TypeId} {d : TypeDesc} (h : C.und t = some d) : P.underlying t = some d := by
  unfold Ctx.und at h
  split at h
  · cases h
  · rename_i i hi
    have hi' := hC.ty _ _ hi
    obtain ⟨desc, str, size, bytes, hp, al, fa, zero, cmp, ms⟩ := i
    unfold Program.underlying
    rw [hi']
    cases desc <;> simp only at h ⊢ <;> first
      | exact h
      | (split at h
         · cases h
         · rename_i j hj
           rw [hC.ty _ _ hj]
           exact h)
def Ctx.size (C : Ctx) (t : TypeId) : Option Nat :=
  match C.ty.get t with
  | none => none
  | some i => some i.size
theorem Ctx.info {C : Ctx} {P : Program} {ρ : Env} (hC : C.Ok P ρ) {t : TypeId} {n : Nat} (h : C.size t = some n) : ∃ i, P.info? t = some i ∧ i.size = n := by
  unfold Ctx.size at h
  split at h
  · cases h
  · rename_i i hi
    cases h
    exact ⟨i, hC.ty _ _ hi, rfl⟩
theorem Ctx.size_ok {C : Ctx} {P : Program} {ρ : Env} (hC : C.Ok P ρ) {t : TypeId} {n : Nat} (h : C.size t = some n) (w : World) : (sizeOf t).run P w = .ok n w := by
  obtain ⟨i, hi, rfl⟩ := Ctx.info hC h
  simp [sizeOf, typeInfo, hi]
theorem Ctx.cellsOf {C : Ctx} {P : Program} {ρ : Env} (hC : C.Ok P ρ) {t : TypeId} {n : Nat} (h : C.size t = some n) : P.cellsOf t = n := by
  obtain ⟨i, hi, rfl⟩ := Ctx.info hC h
  simp [Program.cellsOf, hi]
def aggB : TypeDesc → Bool
  | .struct _ | .array _ _ => true
  | _ => false
theorem run_isAgg {P : Program} {t : TypeId} {d : TypeDesc} (h : P.underlying t = some d) (w : World) : (isAgg t).run P w = .ok (aggB d) w := by
  unfold isAgg
  rw [Sem.run_bind, run_underlying h]
  cases d <;> rfl

/-! parts of an aggregate -/
def aPart (C : Ctx) (t : TypeId) (cs : List AVal) (off : Nat) : Option AVal :=
  match C.und t with
  | none => none
  | some d =>
    match aggB d with
    | true =>
      match C.size t with
      | none => none
      | some n => some (.agg ((cs.drop off).take n))
    | false => cs[off]?
theorem LRel.extract {ρ : Env} {f : Ren} {l : List AVal} {a : Array Value} (h : LRel ρ f l a) (o n : Nat) : LRel ρ f ((l.drop o).take n) (a.extract o (o + n)) := by
  refine ⟨?_, fun i v v' h1 h2 => ?_⟩
  · have := h.1
    simp only [Array.size_extract, List.length_take, List.length_drop]
    omega
  · rw [List.getElem?_take, List.getElem?_drop] at h1
    split at h1
    · rw [Array.getElem?_extract] at h2
      split at h2
      · exact h.2 _ _ _ h1 h2
      · cases h2
    · cases h1
theorem aPart_ok {C : Ctx} {P : Program} {ρ : Env} (hC : C.Ok P ρ) {f : Ren} {t : TypeId} {cs : List AVal} {off : Nat} {v : AVal} {a : Array Value} (h : LRel ρ f cs a) (hp : aPart C t cs off = some v) (w : World) :
    ∃ v', (part t a off).run P w = .ok v' w ∧ VRel ρ f v v' := by
  unfold aPart at hp
  split at hp
  · cases hp
  · rename_i d hd
    have hu := Ctx.und_ok hC hd
    split at hp
    · rename_i hagg
      split at hp
      · cases hp
      · rename_i n hn
        cases hp
        refine ⟨.agg (a.extract off (off + n)), ?_, ?_⟩
        · simp [part, run_isAgg hu, hagg, Ctx.size_ok hC hn]
        · have := h.extract off n
          exact .agg this.1 this.2
    · rename_i hagg
      obtain ⟨v', h1, h2⟩ := h.get hp
      exact ⟨v', by simp [part, run_isAgg hu, hagg, h1], h2⟩

/-! equality -/
def bytesEq (C : Ctx) : List IE → List IE → Option Bool
  | [], [] => some true
  | a :: l, b :: m =>
    match settle C.dec (mkEq C.bd a b) with
    | some true => bytesEq C l m
    | some false => some false
    | none => none
  | _, _ => some false
theorem bytesEq_ok {C : Ctx} {P : Program} {ρ : Env} (hC : C.Ok P ρ) : ∀ (l m : List IE) (r : Bool), bytesEq C l m = some r → r = decide (l.map (·.ev ρ) = m.map (·.ev ρ)) := by
  intro l
  induction l with
  | nil => intro m r h; cases m <;> simp [bytesEq] at h <;> simp [h]
  | cons a l ih =>
    intro m r h
    cases m with
    | nil => simp [bytesEq] at h; simp [h]
    | cons b m =>
      simp only [bytesEq] at h
      have key : ∀ v, settle C.dec (mkEq C.bd a b) = some v → decide (a.ev ρ = b.ev ρ) = v := fun v hv => by
        rw [← mkEq_ev hC.bd]; exact settle_ok hC.dec _ _ hv
      split at h
      · rename_i hs
        have := of_decide_eq_true (key _ hs)
        rw [ih _ _ h]
        simp [this]
      · rename_i hs
        have := of_decide_eq_false (key _ hs)
        simp at h
        simp [h, this]
      · cases h
theorem SRel.toList {ρ : Env} {l : List IE} {s : ByteArray} (h : SRel ρ l s) : s.toList.map (fun b => (b.toNat : Int)) = l.map (·.ev ρ) := by
  rw [ByteArray.toList_eq]; exact h
theorem byte_inj : Function.Injective (fun b : UInt8 => (b.toNat : Int)) := by
  intro a b h
  exact UInt8.toNat_inj.1 (Int.ofNat_inj.1 h)
theorem SRel.eq_iff {ρ : Env} {l m : List IE} {s t : ByteArray} (h : SRel ρ l s) (h' : SRel ρ m t) : (s.toList = t.toList) ↔ l.map (·.ev ρ) = m.map (·.ev ρ) := by
  rw [← h.toList, ← h'.toList]
  constructor
  · intro e; rw [e]
  · exact fun e => (List.map_inj_right (fun _ _ e => byte_inj e)).1 e

def eqFields (C : Ctx) (eq : TypeId → AVal → AVal → Option Bool) (xs ys : List AVal) : List Field → Option Bool
  | [] => some true
  | f :: fs =>
    match f.name == "_" with
    | true => none
    | false =>
      match aPart C f.type xs f.offset, aPart C f.type ys f.offset with
      | some a, some b =>
        match eq f.type a b with
        | some true => eqFields C eq xs ys fs
        | r => r
      | _, _ => none
def eqItems (C : Ctx) (eq : TypeId → AVal → AVal → Option Bool) (e : TypeId) (s : Nat) (xs ys : List AVal) : Nat → Nat → Option Bool
  | _, 0 => some true
  | j, n + 1 =>
    match aPart C e xs (j * s), aPart C e ys (j * s) with
    | some a, some b =>
      match eq e a b with
      | some true => eqItems C eq e s xs ys (j + 1) n
      | r => r
    | _, _ => none
/-- 'x == y' of values of type t, decided. -/
def aEqual (C : Ctx) : Nat → TypeId → AVal → AVal → Option Bool
  | 0, _, _, _ => none
  | d + 1, t, x, y =>
    match C.und t with
    | none => none
    | some u =>
      match u, x, y with
      | .bool, .bool a, .bool b =>
        match settle C.dec a, settle C.dec b with
        | some a, some b => some (a == b)
        | _, _ => none
      | .int _, .int k a, .int l b =>
        match kindEq k l with
        | true => settle C.dec (mkEq C.bd a b)
        | false => none
      | .string, .str a, .str b => bytesEq C a b
      | .pointer _, .ptr none, .ptr b => some b.isNone
      | .pointer _, .ptr (some _), .ptr none => some false
      | .pointer e, .ptr (some (i, o)), .ptr (some (j, p)) =>
        match C.size e, Nat.beq i j with
        | some (_ + 1), true => some (Nat.beq o p)
        | _, _ => none
      | .pointer _, .ptrE _ _ _ _, .ptr none => some false
      | .pointer _, .ptr none, .ptrE _ _ _ _ => some false
      | .slice _, .slice none 0 0 0, .slice b _ _ _ => some b.isNone
      | .slice _, .slice (some _) _ _ _, .slice none 0 0 0 => some false
      | .slice _, .sliceS _ _ _ _ true, .slice none 0 0 0 => some false
      | .map _ _, .map none, .map b => some b.isNone
      | .map _ _, .map (some _), .map none => some false
      | .func _ _ _, .nilFunc, .nilFunc => some true
      | .func _ _ _, .nilFunc, .func _ _ _ => some false
      | .func _ _ _, .func _ _ _, .nilFunc => some false
      | .interface _, .nilIface, .nilIface => some true
      | .interface _, .nilIface, .iface _ _ => some false
      | .interface _, .iface _ _, .nilIface => some false
      | .interface _, .iface tx vx, .iface ty vy =>
        match Nat.beq tx ty with
        | false => some false
        | true =>
          match C.ty.get tx with
          | none => none
          | some i =>
            match i.comparable with
            | true => aEqual C d tx vx vy
            | false => none
      | .struct fs, .agg xs, .agg ys =>
        match C.plain t with
        | true => eqFields C (aEqual C d) xs ys fs.toList
        | false => none
      | .array n e, .agg xs, .agg ys =>
        match C.size e with
        | none => none
        | some s => eqItems C (aEqual C d) e s xs ys 0 n
      | _, _, _ => none

set_option maxHeartbeats 800000 in
theorem aEqual_ok {C : Ctx} {P : Program} {ρ : Env} (hC : C.Ok P ρ) {f : Ren} (w : World) : ∀ (d D : Nat) (t : TypeId) (x y : AVal) (x' y' : Value) (r : Bool), d ≤ D → VRel ρ f x x' → VRel ρ f y y' → aEqual C d t x y = some r →
    (Op.equalIn D t x' y').run P w = .ok r w := by
  intro d
  induction d with
  | zero => intro D t x y x' y' r _ _ _ h; cases h
  | succ d ih =>
    intro D t x y x' y' r hD hx hy h
    obtain ⟨D, rfl⟩ : ∃ D', D = D' + 1 := ⟨D - 1, by omega⟩
    simp only [aEqual] at h
    split at h
    · cases h
    · rename_i u hu0
      have hu := Ctx.und_ok hC hu0
      split at h
      -- bool
      · rename_i a b
        cases hx; cases hy
        split at h
        · rename_i p q ha hb
          simp only [Op.equalIn, Sem.run_bind, run_underlying hu, Result.andThen_ok, Sem.run_pure]
          rw [settle_ok hC.dec _ _ ha, settle_ok hC.dec _ _ hb]
          cases h; rfl
        · cases h
      -- int
      · rename_i k a l b
        cases hx; cases hy
        split at h
        · rename_i hk
          have := kindEq_eq hk
          subst this
          have hs := settle_ok hC.dec _ _ h
          rw [mkEq_ev hC.bd] at hs
          simp only [Op.equalIn, Sem.run_bind, run_underlying hu, Result.andThen_ok, if_true, Sem.run_pure]
          rw [← hs]
          congr 1
        · cases h
      -- string
      · rename_i a b
        cases hx; cases hy; rename_i s1 h1 s2 h2
        rw [run_equalIn_string w D t _ _ hu, bytesEq_ok hC _ _ _ h]
        congr 1
        rw [Bool.eq_iff_iff]
        simp [h1.eq_iff h2]
      -- pointers
      · rename_i e b
        cases hx
        cases hy <;> simp only [Op.equalIn, Sem.run_bind, run_underlying hu, Result.andThen_ok, Sem.run_pure] <;> simp at h <;> simp [h]
      · cases hx; cases hy
        simp only [Op.equalIn, Sem.run_bind, run_underlying hu, Result.andThen_ok, Sem.run_pure]
        cases h; rfl
      · rename_i e i o j p
        cases hx; cases hy; rename_i L1 hf L2 hg
        split at h
        · rename_i n hn hij
          have := Nat.eq_of_beq_eq_true hij
          subst this
          rw [hf] at hg
          cases hg
          cases h
          simp only [Op.equalIn, Sem.run_bind, run_underlying hu, Result.andThen_ok, Ctx.size_ok hC hn, ne_eq]
          rw [if_pos (Nat.succ_ne_zero n)]
          simp only [sameAddr, beq_self_eq_true, if_true, Sem.run_pure]
          congr 1
          rw [Bool.eq_iff_iff]
          simp
        · cases h
      · cases hx; cases hy
        simp only [Op.equalIn, Sem.run_bind, run_underlying hu, Result.andThen_ok, Sem.run_pure]
        cases h; rfl
      · cases hx; cases hy
        simp only [Op.equalIn, Sem.run_bind, run_underlying hu, Result.andThen_ok, Sem.run_pure]
        cases h; rfl
      -- slices
      · cases hx
        cases hy <;> simp only [Op.equalIn, Sem.run_bind, run_underlying hu, Result.andThen_ok, Sem.run_pure] <;> simp at h <;> simp [h]
      · cases hy
        cases hx <;> simp only [Op.equalIn, Sem.run_bind, run_underlying hu, Result.andThen_ok, Sem.run_pure] <;> cases h <;> rfl
      · cases hy
        cases hx with
        | sliceS hf h0 hl hc => simp only [Op.equalIn, Sem.run_bind, run_underlying hu, Result.andThen_ok, Sem.run_pure]; cases h; rfl
        | sliceZ hl ha =>
          rename_i a c
          cases a with
          | none => exact absurd (ha rfl).2 (by simp)
          | some a => simp only [Op.equalIn, Sem.run_bind, run_underlying hu, Result.andThen_ok, Sem.run_pure]; cases h; rfl
      -- maps
      · cases hx
        cases hy <;> simp only [Op.equalIn, Sem.run_bind, run_underlying hu, Result.andThen_ok, Sem.run_pure] <;> simp at h <;> simp [h]
      · cases hx; cases hy
        simp only [Op.equalIn, Sem.run_bind, run_underlying hu, Result.andThen_ok, Sem.run_pure]
        cases h; rfl
      -- functions
      · cases hx; cases hy
        simp only [Op.equalIn, Sem.run_bind, run_underlying hu, Result.andThen_ok, Sem.run_pure]
        cases h; rfl
      · cases hx; cases hy
        simp only [Op.equalIn, Sem.run_bind, run_underlying hu, Result.andThen_ok, Sem.run_pure]
        cases h; rfl
      · cases hx; cases hy
        simp only [Op.equalIn, Sem.run_bind, run_underlying hu, Result.andThen_ok, Sem.run_pure]
        cases h; rfl
      -- interfaces
      · cases hx; cases hy
        simp only [Op.equalIn, Sem.run_bind, run_underlying hu, Result.andThen_ok, Sem.run_pure]
        cases h; rfl
      · cases hx; cases hy
        simp only [Op.equalIn, Sem.run_bind, run_underlying hu, Result.andThen_ok, Sem.run_pure]
        cases h; rfl
      · cases hx; cases hy
        simp only [Op.equalIn, Sem.run_bind, run_underlying hu, Result.andThen_ok, Sem.run_pure]
        cases h; rfl
      · rename_i tx vx ty vy
        cases hx; cases hy; rename_i vx' hx vy' hy
        split at h
        · rename_i hne
          have hne' : tx ≠ ty := by intro e; simp [e] at hne
          simp only [Op.equalIn, Sem.run_bind, run_underlying hu, Result.andThen_ok, Sem.run_pure, ne_eq, hne', not_false_eq_true, if_true]
          cases h; rfl
        · rename_i heq
          have := Nat.eq_of_beq_eq_true heq
          subst this
          split at h
          · cases h
          · rename_i i hi
            split at h
            · rename_i hc
              have hrun := ih D tx vx vy _ _ r (by omega) hx hy h
              simp only [Op.equalIn, Sem.run_bind, run_underlying hu, Result.andThen_ok, Sem.run_pure, ne_eq, not_true_eq_false, if_false, typeInfo, run_program, hC.ty _ _ hi, hc, Bool.not_true, Bool.false_eq_true]
              exact hrun
            · cases h
      -- structs
      · rename_i fs xs ys
        cases hx; cases hy; rename_i xs' hx1 hx2 ys' hy1 hy2
        split at h
        · rename_i hp
          obtain ⟨hp1, hp2⟩ := hC.plain _ hp
          have hfs : P.fieldsOf t = fs := by simp [Program.fieldsOf, hu]
          rw [run_equalIn_struct w D t _ _ (by rw [hfs]; exact hu) hp1, hfs]
          generalize fs.toList = l at h
          clear hfs hu hu0
          induction l with
          | nil => simp [eqFields] at h; simp [Op.eqFields, h]
          | cons fd l ihl =>
            simp only [eqFields] at h
            split at h
            · cases h
            · rename_i hn
              have hn' : fd.name ≠ "_" := by simpa using hn
              split at h
              · rename_i a b ha hb
                obtain ⟨a', ha1, ha2⟩ := aPart_ok hC ⟨hx1, hx2⟩ ha w
                obtain ⟨b', hb1, hb2⟩ := aPart_ok hC ⟨hy1, hy2⟩ hb w
                simp only [Op.eqFields, if_pos hn', Sem.run_bind, ha1, hb1, Result.andThen_ok]
                split at h
                · rename_i he
                  rw [ih D _ _ _ _ _ _ (by omega) ha2 hb2 he]
                  simpa using ihl h
                · rename_i he
                  rw [ih D _ _ _ _ _ r (by omega) ha2 hb2 h]
                  cases r
                  · simp
                  · exact absurd h (he)
              · cases h
        · cases h
      -- arrays
      · rename_i n e xs ys
        cases hx; cases hy; rename_i xs' hx1 hx2 ys' hy1 hy2
        split at h
        · cases h
        · rename_i s hs
          obtain ⟨i, hi, _⟩ := Ctx.info hC hs
          rw [run_equalIn_array w D _ _ hu hi, Ctx.cellsOf hC hs, List.range_eq_range']
          have gen : ∀ (n j : Nat), eqItems C (aEqual C d) e s xs ys j n = some r → (Op.eqItems D e s xs' ys' (List.range' j n)).run P w = .ok r w := by
            intro n
            induction n with
            | zero => intro j h; simp [eqItems] at h; simp [Op.eqItems, h]
            | succ n ihn =>
              intro j h
              simp only [eqItems] at h
              split at h
              · rename_i a b ha hb
                obtain ⟨a', ha1, ha2⟩ := aPart_ok hC ⟨hx1, hx2⟩ ha w
                obtain ⟨b', hb1, hb2⟩ := aPart_ok hC ⟨hy1, hy2⟩ hb w
                simp only [List.range'_succ, Op.eqItems, Sem.run_bind, ha1, hb1, Result.andThen_ok]
                split at h
                · rename_i he
                  rw [ih D _ _ _ _ _ _ (by omega) ha2 hb2 he]
                  simpa using ihn (j + 1) h
                · rename_i he
                  rw [ih D _ _ _ _ _ r (by omega) ha2 hb2 h]
                  cases r
                  · simp
                  · exact absurd h (he)
              · cases h
          exact gen n 0 h
      · cases h
end
end Go.Sx
