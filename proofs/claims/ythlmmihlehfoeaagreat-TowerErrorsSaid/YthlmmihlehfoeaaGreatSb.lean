/- The evaluator of the model, part Sb. No condition. -/
import Derived.Test.YthlmmihlehfoeaaGreatSa
import Derived.Laws.BytesString
import Derived.Laws.Tables
import Derived.Laws.MakeOwn
/- Operations that only compute or read: on symbolic values, against the model's. No condition. -/
set_option linter.unusedSimpArgs false
set_option linter.unusedVariables false
namespace Go.Sx
open Go.RowKit (Below)
noncomputable section

def EvRel (ρ : Env) (f : Ren) (aev : Operand → Option AVal) (ev : Operand → Value) : Prop := ∀ x v, aev x = some v → VRel ρ f v (ev x)

/-! constants -/
def absOne : Value → Option AVal
  | .bool b => some (.bool (.lit b))
  | .int k n => some (.int k (.lit n))
  | .string s => some (.str (s.data.toList.map fun b => .lit (.ofNat b.toNat)))
  | .pointer none => some (.ptr none)
  | .slice none 0 0 => some (.slice none 0 0 0)
  | .map none => some (.map none)
  | .nilFunc => some .nilFunc
  | .nilIface => some .nilIface
  | _ => none
def absList : List Value → Option (List AVal)
  | [] => some []
  | v :: l =>
    match absOne v, absList l with
    | some a, some m => some (a :: m)
    | _, _ => none
def absV : Value → Option AVal
  | .agg cs =>
    match absList cs.toList with
    | some l => some (.agg l)
    | none => none
  | .tuple cs =>
    match absList cs.toList with
    | some l => some (.tuple l)
    | none => none
  | v => absOne v
theorem absOne_ok {ρ : Env} {f : Ren} {v : Value} {a : AVal} (h : absOne v = some a) : VRel ρ f a v := by
  unfold absOne at h
  split at h <;> cases h
  · exact .bool (.lit _)
  · exact .int _ (.lit _)
  · exact .str (by simp [SRel, IE.ev, Function.comp_def])
  · exact .nilPtr
  · exact .nilSlice
  · exact .nilMap
  · exact .nilFunc
  · exact .nilIface
theorem absList_ok {ρ : Env} {f : Ren} : ∀ (l : List Value) (m : List AVal), absList l = some m → LRel ρ f m l.toArray := by
  intro l
  induction l with
  | nil => intro m h; simp [absList] at h; subst h; exact LRel.nil
  | cons v l ih =>
    intro m h
    simp only [absList] at h
    split at h
    · rename_i a m' ha hm
      cases h
      exact LRel.cons (absOne_ok ha) (ih _ hm)
    · cases h
theorem absV_ok {ρ : Env} {f : Ren} {v : Value} {a : AVal} (h : absV v = some a) : VRel ρ f a v := by
  unfold absV at h
  split at h
  · rename_i cs
    split at h
    · rename_i l hl
      cases h
      have := absList_ok (ρ := ρ) (f := f) _ _ hl
      exact .agg (by simpa using this.1) (by simpa using this.2)
    · cases h
  · rename_i cs
    split at h
    · rename_i l hl
      cases h
      have := absList_ok (ρ := ρ) (f := f) _ _ hl
      exact .tuple (by simpa using this.1) (by simpa using this.2)
    · cases h
  · exact absOne_ok h

/-- Zero values. -/
def aZero (C : Ctx) (t : TypeId) : Option AVal :=
  match C.ty.get t with
  | none => none
  | some i =>
    match i.zero with
    | none => none
    | some v => absV v
theorem aZero_ok {C : Ctx} {P : Program} {ρ : Env} (hC : C.Ok P ρ) {f : Ren} {t : TypeId} {a : AVal} (h : aZero C t = some a) (w : World) : ∃ v, (zeroValue t).run P w = .ok v w ∧ VRel ρ f a v ∧ (∃ i, P.info? t = some i ∧ i.zero = some v) := by
  unfold aZero at h
  split at h
  · cases h
  · rename_i i hi
    split at h
    · cases h
    · rename_i v hv
      exact ⟨v, by simp [zeroValue, typeInfo, hC.ty _ _ hi, hv], absV_ok h, i, hC.ty _ _ hi, hv⟩

/-! arithmetic -/
/-- A quotient; a number where the bounds leave one alone. -/
def quoR (bd : Bd) (a b : IE) : IE :=
  match b with
  | .lit n =>
    match rng bd a with
    | some (l, h) =>
      match intLe 0 l && (intLe 1 n && intEq (l / n) (h / n)) with
      | true => .lit (l / n)
      | false => mkQuo a (.lit n)
    | none => mkQuo a (.lit n)
  | b => mkQuo a b
theorem quoR_ev {ρ : Env} {bd : Bd} (hρ : ρ.ok bd) (a b : IE) : (quoR bd a b).ev ρ = (a.ev ρ).tdiv (b.ev ρ) := by
  unfold quoR
  split
  · rename_i n
    split
    · rename_i l h hr
      split
      · rename_i hc
        have hc : intLe 0 l = true ∧ intLe 1 n = true ∧ intEq (l / n) (h / n) = true := by
          revert hc
          cases intLe 0 l <;> cases intLe 1 n <;> cases intEq (l / n) (h / n) <;> intro hc <;> first | (cases hc; done) | exact ⟨rfl, rfl, rfl⟩
        obtain ⟨c1, c2, c3⟩ := hc
        rw [intLe_iff] at c1 c2
        have c1 := of_decide_eq_true c1
        have c2 := of_decide_eq_true c2
        have c3 := intEq_eq c3
        obtain ⟨r1, r2⟩ := rng_ok hρ a l h hr
        show l / n = (a.ev ρ).tdiv n
        rw [Int.tdiv_eq_ediv_of_nonneg (by omega)]
        have k1 := Int.ediv_le_ediv (show 0 < n by omega) r1
        have k2 := Int.ediv_le_ediv (show 0 < n by omega) r2
        omega
      · exact mkQuo_ev ρ _ _
    · exact mkQuo_ev ρ _ _
  · exact mkQuo_ev ρ _ _
def aInt (C : Ctx) (op : BinOp) (k : IntKind) (a b : IE) : Option AVal :=
  match op with
  | .add => some (.int k (mkWrap C.bd k (mkAdd a b)))
  | .sub => some (.int k (mkWrap C.bd k (mkSub a b)))
  | .mul => some (.int k (mkWrap C.bd k (mkMul a b)))
  | .quo =>
    match settle C.dec (mkEq C.bd b (.lit 0)) with
    | some false => some (.int k (mkWrap C.bd k (quoR C.bd a b)))
    | _ => none
  | .rem =>
    match settle C.dec (mkEq C.bd b (.lit 0)) with
    | some false => some (.int k (mkRem a b))
    | _ => none
  | .and | .or | .xor | .andNot => some (.int k (mkBits op k a b))
  | .shl | .shr => none
  | .eql => some (.bool (mkEq C.bd a b))
  | .neq => some (.bool (mkNot (mkEq C.bd a b)))
  | .lss => some (.bool (mkLt C.bd a b))
  | .leq => some (.bool (mkNot (mkLt C.bd b a)))
  | .gtr => some (.bool (mkLt C.bd b a))
  | .geq => some (.bool (mkNot (mkLt C.bd a b)))
theorem bitsI_run (op : BinOp) (k : IntKind) (x y : Int) (h : op = .and ∨ op = .or ∨ op = .xor ∨ op = .andNot) : Op.intBits op k x y = pure (.int k (bitsI op k x y)) := by
  rcases h with rfl | rfl | rfl | rfl <;> rfl
theorem aInt_ok {C : Ctx} {P : Program} {ρ : Env} (hC : C.Ok P ρ) {f : Ren} {op : BinOp} {t : TypeId} {k : IntKind} {a b : IE} {v : AVal} (h : aInt C op k a b = some v) (w : World) :
    ∃ v', (binOp op t (.int k (a.ev ρ)) (.int k (b.ev ρ))).run P w = .ok v' w ∧ VRel ρ f v v' := by
  have wr : ∀ e : IE, ∀ n : Int, e.ev ρ = n → VRel ρ f (.int k (mkWrap C.bd k e)) (.int k (k.wrap n)) := fun e n he => by
    rw [← he, ← mkWrap_ev hC.bd]; exact .int k _
  have bw : ∀ e : BE, ∀ b : Bool, e.ev ρ = b → VRel ρ f (.bool e) (.bool b) := fun e b he => by rw [← he]; exact .bool e
  have iw : ∀ e : IE, ∀ n : Int, e.ev ρ = n → VRel ρ f (.int k e) (.int k n) := fun e n he => by rw [← he]; exact .int k e
  cases op <;> simp only [aInt, Option.some.injEq] at h
  case add => subst h; exact ⟨_, by simp only [binOp, ne_eq, not_true_eq_false, if_false, Op.intArith, Sem.run_pure], wr _ _ (mkAdd_ev ρ a b)⟩
  case sub => subst h; exact ⟨_, by simp only [binOp, ne_eq, not_true_eq_false, if_false, Op.intArith, Sem.run_pure], wr _ _ (mkSub_ev ρ a b)⟩
  case mul => subst h; exact ⟨_, by simp only [binOp, ne_eq, not_true_eq_false, if_false, Op.intArith, Sem.run_pure], wr _ _ (mkMul_ev ρ a b)⟩
  case quo =>
    split at h
    · rename_i hs
      have h0 := settle_ok hC.dec _ _ hs
      rw [mkEq_ev hC.bd] at h0
      have h0' : ¬ b.ev ρ = 0 := of_decide_eq_false h0
      cases h
      exact ⟨_, by simp only [binOp, ne_eq, not_true_eq_false, if_false, Op.intDiv, h0', Sem.run_pure], wr _ _ (quoR_ev hC.bd a b)⟩
    · cases h
  case rem =>
    split at h
    · rename_i hs
      have h0 := settle_ok hC.dec _ _ hs
      rw [mkEq_ev hC.bd] at h0
      have h0' : ¬ b.ev ρ = 0 := of_decide_eq_false h0
      cases h
      exact ⟨_, by simp only [binOp, ne_eq, not_true_eq_false, if_false, Op.intDiv, h0', Sem.run_pure], iw _ _ (mkRem_ev ρ a b)⟩
    · cases h
  case and => subst h; exact ⟨_, by simp only [binOp, ne_eq, not_true_eq_false, if_false, bitsI_run .and k _ _ (by simp), Sem.run_pure], iw _ _ (mkBits_ev ρ _ k a b)⟩
  case or => subst h; exact ⟨_, by simp only [binOp, ne_eq, not_true_eq_false, if_false, bitsI_run .or k _ _ (by simp), Sem.run_pure], iw _ _ (mkBits_ev ρ _ k a b)⟩
  case xor => subst h; exact ⟨_, by simp only [binOp, ne_eq, not_true_eq_false, if_false, bitsI_run .xor k _ _ (by simp), Sem.run_pure], iw _ _ (mkBits_ev ρ _ k a b)⟩
  case andNot => subst h; exact ⟨_, by simp only [binOp, ne_eq, not_true_eq_false, if_false, bitsI_run .andNot k _ _ (by simp), Sem.run_pure], iw _ _ (mkBits_ev ρ _ k a b)⟩
  case shl => cases h
  case shr => cases h
  case eql => subst h; exact ⟨.bool (a.ev ρ == b.ev ρ), by simp only [binOp, ne_eq, not_true_eq_false, if_false, Op.intCmp, Sem.run_pure], bw _ _ (by rw [mkEq_ev hC.bd, Bool.eq_iff_iff]; simp)⟩
  case neq => subst h; exact ⟨.bool (a.ev ρ != b.ev ρ), by simp only [binOp, ne_eq, not_true_eq_false, if_false, Op.intCmp, Sem.run_pure], bw _ _ (by rw [mkNot_ev, mkEq_ev hC.bd, Bool.eq_iff_iff]; simp)⟩
  case lss => subst h; exact ⟨_, by simp only [binOp, ne_eq, not_true_eq_false, if_false, Op.intCmp, Sem.run_pure], bw _ _ (mkLt_ev hC.bd a b)⟩
  case leq => subst h; exact ⟨.bool (decide (a.ev ρ ≤ b.ev ρ)), by simp only [binOp, ne_eq, not_true_eq_false, if_false, Op.intCmp, Sem.run_pure], bw _ _ (by rw [mkNot_ev, mkLt_ev hC.bd, Bool.eq_iff_iff]; simp)⟩
  case gtr => subst h; exact ⟨_, by simp only [binOp, ne_eq, not_true_eq_false, if_false, Op.intCmp, Sem.run_pure], bw _ _ (mkLt_ev hC.bd b a)⟩
  case geq => subst h; exact ⟨.bool (decide (a.ev ρ ≥ b.ev ρ)), by simp only [binOp, ne_eq, not_true_eq_false, if_false, Op.intCmp, Sem.run_pure], bw _ _ (by rw [mkNot_ev, mkLt_ev hC.bd, Bool.eq_iff_iff]; simp)⟩

def lenLe {α : Type} : List α → Nat → Bool
  | [], _ => true
  | _ :: _, 0 => false
  | _ :: l, n + 1 => lenLe l n
theorem lenLe_ok {α : Type} : ∀ (l : List α) (n : Nat), lenLe l n = true → l.length ≤ n := by
  intro l
  induction l with
  | nil => intro n _; simp
  | cons a l ih =>
    intro n h
    cases n with
    | zero => cases h
    | succ n => have := ih n h; simp; omega
theorem SRel.size {ρ : Env} {l : List IE} {s : ByteArray} (h : SRel ρ l s) : s.size = l.length := by
  have := congrArg List.length h
  simpa using this
theorem SRel.append {ρ : Env} {l m : List IE} {s t : ByteArray} (h : SRel ρ l s) (h' : SRel ρ m t) : SRel ρ (l ++ m) (s ++ t) := by
  unfold SRel at *
  rw [ByteArray.data_append, Array.toList_append, List.map_append, List.map_append, h, h']

/-- A binary operation. 'cx': is one of the operands a constant? -/
def aBin (C : Ctx) (cx : Bool) (op : BinOp) (t : TypeId) : AVal → AVal → Option AVal
  | .int k a, .int l b =>
    match op with
    | .shl =>
      match settle C.dec (mkLt C.bd b (.lit 0)) with
      | some false => some (.int k (mkShl k a b))
      | _ => none
    | .shr =>
      match settle C.dec (mkLt C.bd b (.lit 0)) with
      | some false => some (.int k (mkShr k a b))
      | _ => none
    | op =>
      match kindEq k l with
      | true => aInt C op k a b
      | false => none
  | .str a, .str b =>
    match op with
    | .add =>
      match lenLe a 4611686018427387904, lenLe b 4611686018427387903 with
      | true, true => some (.str (a ++ b))
      | _, _ => none
    | .eql =>
      match bytesEq C a b with
      | some r => some (.bool (.lit r))
      | none => none
    | .neq =>
      match bytesEq C a b with
      | some r => some (.bool (.lit (!r)))
      | none => none
    | _ => none
  | x, y =>
    match op with
    | .eql =>
      match guardOk C cx t x y with
      | true =>
        match aEqual C 40 t x y with
        | some r => some (.bool (.lit r))
        | none => none
      | false => none
    | .neq =>
      match guardOk C cx t x y with
      | true =>
        match aEqual C 40 t x y with
        | some r => some (.bool (.lit (!r)))
        | none => none
      | false => none
    | _ => none
where
  guardOk (C : Ctx) (cx : Bool) (t : TypeId) : AVal → AVal → Bool
    | .nilIface, .nilIface => cx
    | .agg _, .agg _ => C.plain t
    | .tuple _, _ => false
    | _, .tuple _ => false
    | .strS _ _, _ => false
    | _, .strS _ _ => false
    | _, _ => true
def isC : Operand → Bool
  | .const _ => true
  | _ => false
set_option maxHeartbeats 1000000 in
theorem aBin_ok {C : Ctx} {P : Program} {ρ : Env} (hC : C.Ok P ρ) {f : Ren} {op : BinOp} {t : TypeId} {x y : AVal} {x' y' : Value} {v : AVal} (X Y : Operand)
    (hx : VRel ρ f x x') (hy : VRel ρ f y y') (h : aBin C (isC X || isC Y) op t x y = some v) (w : World) :
    ∃ v', (do eqGuard op t X Y x' y'; binOp op t x' y').run P w = .ok v' w ∧ VRel ρ f v v' := by
  have guardI : ∀ k l a b, (eqGuard op t X Y (.int k a) (.int l b)).run P w = .ok () w := fun k l a b => by
    cases op <;> rfl
  have guardS : ∀ a b, (eqGuard op t X Y (.string a) (.string b)).run P w = .ok () w := fun a b => by
    cases op <;> rfl
  unfold aBin at h
  split at h
  · rename_i k a l b
    cases hx; cases hy
    simp only [Sem.run_bind, guardI, Result.andThen_ok]
    have shift : ∀ (o : BinOp), (settle C.dec (mkLt C.bd b (.lit 0)) = some false) → ¬ b.ev ρ < 0 := fun o hs => by
      have h0 := settle_ok hC.dec _ _ hs
      rw [mkLt_ev hC.bd] at h0
      exact of_decide_eq_false h0
    split at h
    · split at h
      · rename_i hs
        cases h
        have := shift .shl hs
        refine ⟨.int k (shlI k (a.ev ρ) (b.ev ρ)), ?_, by rw [← mkShl_ev]; exact .int k _⟩
        simp only [binOp, Op.shift, if_neg this, Sem.run_pure]
        rfl
      · cases h
    · split at h
      · rename_i hs
        cases h
        have := shift .shr hs
        refine ⟨.int k (shrI k (a.ev ρ) (b.ev ρ)), ?_, by rw [← mkShr_ev]; exact .int k _⟩
        simp only [binOp, Op.shift, if_neg this, Sem.run_pure]
        rfl
      · cases h
    · split at h
      · rename_i hk
        have := kindEq_eq hk
        subst this
        exact aInt_ok hC h w
      · cases h
  · rename_i a b
    cases hx; cases hy; rename_i s1 h1 s2 h2
    simp only [Sem.run_bind, guardS, Result.andThen_ok]
    split at h
    · split at h
      · rename_i la lb
        cases h
        have l1 := lenLe_ok _ _ la
        have l2 := lenLe_ok _ _ lb
        refine ⟨.string (s1 ++ s2), ?_, .str (h1.append h2)⟩
        have hs : ¬ (((s1.size + s2.size : Nat) : Int) > IntKind.i64.max) := by
          rw [h1.size, h2.size]
          have : IntKind.i64.max = 9223372036854775807 := by decide
          rw [this]; omega
        simp only [binOp, Op.stringOp, if_neg hs, Sem.run_pure]
      · cases h
    · split at h
      · rename_i r hr
        cases h
        have := bytesEq_ok hC _ _ _ hr
        refine ⟨.bool r, ?_, .bool (.lit r)⟩
        simp only [binOp, Op.stringOp, Sem.run_pure]
        congr 2
        rw [this, Bool.eq_iff_iff]
        simp [h1.eq_iff h2]
      · cases h
    · split at h
      · rename_i r hr
        cases h
        have := bytesEq_ok hC _ _ _ hr
        refine ⟨.bool (!r), ?_, .bool (.lit (!r))⟩
        simp only [binOp, Op.stringOp, Sem.run_pure]
        congr 3
        rw [this, Bool.eq_iff_iff]
        simp [h1.eq_iff h2]
      · cases h
    · cases h
  · rename_i hni hns
    have guard : aBin.guardOk C (isC X || isC Y) t x y = true → (eqGuard op t X Y x' y').run P w = .ok () w := by
      intro hg
      cases hx <;> cases hy <;> first
        | (exfalso; exact hni _ _ _ _ rfl rfl)
        | (exfalso; exact hns _ _ rfl rfl)
        | (simp [aBin.guardOk] at hg; done)
        | (cases op <;> rfl)
        | (simp only [aBin.guardOk] at hg
           exact run_eqGuard_agg w op t X Y _ _ (hC.plain t hg).2)
        | (simp only [aBin.guardOk, Bool.or_eq_true] at hg
           rcases hg with hg | hg
           · cases X <;> simp [isC] at hg; cases op <;> rfl
           · cases Y <;> simp [isC] at hg; cases op <;> cases X <;> rfl)
    have eqrun : ∀ r, aEqual C 40 t x y = some r → (Op.equal t x' y').run P w = .ok r w := fun r hr => aEqual_ok hC w 40 10000 t x y x' y' r (by omega) hx hy hr
    split at h
    · split at h
      · rename_i hg
        split at h
        · rename_i r hr
          cases h
          refine ⟨.bool r, ?_, .bool (.lit r)⟩
          simp only [Sem.run_bind, guard hg, Result.andThen_ok]
          have := eqrun r hr
          cases hx <;> cases hy <;> first
            | (simp [aBin.guardOk] at hg; done)
            | (exfalso; exact hni _ _ _ _ rfl rfl)
            | (exfalso; exact hns _ _ rfl rfl)
            | (simp only [binOp, Sem.run_bind, this, Result.andThen_ok, Sem.run_pure])
        · cases h
      · cases h
    · split at h
      · rename_i hg
        split at h
        · rename_i r hr
          cases h
          refine ⟨.bool (!r), ?_, .bool (.lit (!r))⟩
          simp only [Sem.run_bind, guard hg, Result.andThen_ok]
          have := eqrun r hr
          cases hx <;> cases hy <;> first
            | (simp [aBin.guardOk] at hg; done)
            | (exfalso; exact hni _ _ _ _ rfl rfl)
            | (exfalso; exact hns _ _ rfl rfl)
            | (simp only [binOp, Sem.run_bind, this, Result.andThen_ok, Sem.run_pure])
        · cases h
      · cases h
    · cases h
end
end Go.Sx
/- Operations that only compute or read (the others of them). No condition. -/
set_option linter.unusedSimpArgs false
set_option linter.unusedVariables false
namespace Go.Sx
open Go.RowKit (Below)
noncomputable section

def aUn (C : Ctx) (op : UnOp) : AVal → Option AVal
  | .int k e =>
    match op with
    | .neg => some (.int k (mkWrap C.bd k (mkSub (.lit 0) e)))
    | .xor => some (.int k (mkBits .xor k (.lit (if k.signed then -1 else kHi k)) e))
    | _ => none
  | .bool b =>
    match op with
    | .not => some (.bool (mkNot b))
    | _ => none
  | _ => none
theorem kMax_eq (k : IntKind) : k.max = kHi k := by cases k <;> decide
theorem aUn_ok {C : Ctx} {P : Program} {ρ : Env} (hC : C.Ok P ρ) {f : Ren} {op : UnOp} {x : AVal} {x' : Value} {v : AVal} (hx : VRel ρ f x x') (h : aUn C op x = some v) (w : World) :
    ∃ v', (Op.unary op x').run P w = .ok v' w ∧ VRel ρ f v v' := by
  unfold aUn at h
  split at h
  · rename_i k e
    cases hx
    split at h
    · cases h
      refine ⟨.int k (k.wrap (0 - e.ev ρ)), by simp only [Op.unary, Op.intArith, Sem.run_pure], ?_⟩
      rw [show k.wrap (0 - e.ev ρ) = (mkWrap C.bd k (mkSub (.lit 0) e)).ev ρ by rw [mkWrap_ev hC.bd, mkSub_ev]; rfl]
      exact .int k _
    · cases h
      refine ⟨.int k (bitsI .xor k (if k.signed then -1 else k.max) (e.ev ρ)), ?_, ?_⟩
      · simp only [Op.unary, bitsI_run .xor k _ _ (by simp), Sem.run_pure]
      · rw [show bitsI .xor k (if k.signed then -1 else k.max) (e.ev ρ) = (mkBits .xor k (.lit (if k.signed then -1 else kHi k)) e).ev ρ by rw [mkBits_ev, kMax_eq]; rfl]
        exact .int k _
    · cases h
  · rename_i b
    cases hx
    split at h
    · cases h
      refine ⟨.bool (!(b.ev ρ)), by simp only [Op.unary, Sem.run_pure], ?_⟩
      rw [← mkNot_ev]
      exact .bool _
    · cases h
  · cases h

/-! numbers known -/
def asNat (C : Ctx) (v : AVal) : Option Nat :=
  match v with
  | .int _ e =>
    match asLit C.dec e with
    | some (.ofNat n) => some n
    | _ => none
  | _ => none
theorem asNat_ok {C : Ctx} {P : Program} {ρ : Env} (hC : C.Ok P ρ) {f : Ren} {v : AVal} {v' : Value} {n : Nat} (hv : VRel ρ f v v') (h : asNat C v = some n) : ∃ k, v' = .int k n := by
  unfold asNat at h
  split at h
  · rename_i k e
    cases hv
    split at h
    · rename_i m hm
      cases h
      exact ⟨k, by rw [asLit_ok hC.dec hm]; rfl⟩
    · cases h
  · cases h

/-! places -/
def aFieldAddr (C : Ctx) (s : TypeId) (x : AVal) (fld : Nat) : Option AVal :=
  match x, C.und s with
  | .ptr (some (i, o)), some (.struct fs) =>
    match fs[fld]? with
    | none => none
    | some fd =>
      match C.size fd.type with
      | some (_ + 1) => some (.ptr (some (i, o + fd.offset)))
      | _ => none
  | _, _ => none
theorem addr_add (b o n : Nat) : (⟨b, o, none⟩ : Addr).add n = ⟨b, o + n, none⟩ := by
  unfold Addr.add; split
  · rename_i e; subst e; rfl
  · rfl
theorem aFieldAddr_ok {C : Ctx} {P : Program} {ρ : Env} (hC : C.Ok P ρ) {f : Ren} {s : TypeId} {x : AVal} {x' : Value} {fld : Nat} {v : AVal} (hx : VRel ρ f x x') (h : aFieldAddr C s x fld = some v) (w : World) :
    ∃ v', (Instr.fieldAt s x' fld).run P w = .ok v' w ∧ VRel ρ f v v' := by
  unfold aFieldAddr at h
  split at h
  · rename_i i o fs hu
    have hu := Ctx.und_ok hC hu
    cases hx; rename_i L hf
    split at h
    · cases h
    · rename_i fd hfd
      split at h
      · rename_i n hn
        cases h
        refine ⟨.pointer (some ⟨L.blk, L.base + (o + fd.offset), none⟩), ?_, .ptr hf⟩
        simp only [Instr.fieldAt, Sem.run_bind, run_underlying hu, Result.andThen_ok, hfd, Instr.sureAddr, Sem.run_pure, fieldPlace, Ctx.size_ok hC hn, Nat.succ_ne_zero, if_false, addr_add, Nat.add_assoc]
      · cases h
  · cases h
def aField (C : Ctx) (t : TypeId) (x : AVal) (fld : Nat) : Option AVal :=
  match x, C.und t with
  | .agg cs, some (.struct fs) =>
    match fs[fld]? with
    | none => none
    | some fd => aPart C fd.type cs fd.offset
  | _, _ => none
theorem aField_ok {C : Ctx} {P : Program} {ρ : Env} (hC : C.Ok P ρ) {f : Ren} {s : TypeId} {x : AVal} {x' : Value} {fld : Nat} {v : AVal} (hx : VRel ρ f x x') (h : aField C s x fld = some v) (w : World) :
    ∃ v', (Instr.field s x' fld).run P w = .ok v' w ∧ VRel ρ f v v' := by
  unfold aField at h
  split at h
  · rename_i cs fs hu
    have hu := Ctx.und_ok hC hu
    cases hx; rename_i a' h1 h2
    split at h
    · cases h
    · rename_i fd hfd
      obtain ⟨v', p, q⟩ := aPart_ok hC (⟨h1, h2⟩ : LRel ρ f cs a') h w
      exact ⟨v', by simp only [Instr.field, Sem.run_bind, run_underlying hu, Result.andThen_ok, hfd, asAgg, Sem.run_pure, p], q⟩
  · cases h
def aIndexAddr (C : Ctx) (t : TypeId) (x ix : AVal) : Option AVal :=
  match asNat C ix with
  | none => none
  | some n =>
    match C.und t, x with
    | some (.array len e), .ptr (some (i, o)) =>
      match Nat.ble (n + 1) len, C.size e with
      | true, some s => some (.ptr (some (i, o + n * s)))
      | _, _ => none
    | some (.slice e), .slice (some (i, o)) len _ _ =>
      match Nat.ble (n + 1) len, C.size e with
      | true, some s => some (.ptr (some (i, o + n * s)))
      | _, _ => none
    | _, _ => none
theorem aIndexAddr_ok {C : Ctx} {P : Program} {ρ : Env} (hC : C.Ok P ρ) {f : Ren} {t : TypeId} {x ix : AVal} {x' ix' : Value} {v : AVal} (hx : VRel ρ f x x') (hi : VRel ρ f ix ix') (h : aIndexAddr C t x ix = some v) (w : World) :
    ∃ v', (Instr.indexAt t x' ix').run P w = .ok v' w ∧ VRel ρ f v v' := by
  unfold aIndexAddr at h
  split at h
  · cases h
  · rename_i n hn
    obtain ⟨k, rfl⟩ := asNat_ok hC hi hn
    split at h
    · rename_i len e i o hu
      have hu := Ctx.und_ok hC hu
      cases hx; rename_i L hf
      split at h
      · rename_i s hlt hs
        have hlt' : n < len := Nat.le_of_ble_eq_true hlt
        cases h
        refine ⟨.pointer (some ⟨L.blk, L.base + (o + n * s), none⟩), ?_, .ptr hf⟩
        have hc : (0 : Int) ≤ (n : Int) ∧ (n : Int) < (len : Int) := by omega
        simp only [Instr.indexAt, asIntOf, Sem.run_bind, run_underlying hu, Result.andThen_ok, Instr.sureAddr, Sem.run_pure, if_pos hc, Ctx.size_ok hC hs, addr_add, Int.toNat_natCast, Nat.add_assoc]
      · cases h
    · rename_i e i o len c g hu
      have hu := Ctx.und_ok hC hu
      split at h
      · rename_i s hlt hs
        have hlt' : n < len := Nat.le_of_ble_eq_true hlt
        cases h
        have hc : (0 : Int) ≤ (n : Int) ∧ (n : Int) < (len : Int) := by omega
        cases hx with
        | slice hf =>
          rename_i L
          refine ⟨.pointer (some ⟨L.blk, L.base + (o + n * s), none⟩), ?_, .ptr hf⟩
          simp only [Instr.indexAt, asIntOf, Sem.run_bind, run_underlying hu, Result.andThen_ok, Instr.sureAddr, Sem.run_pure, if_pos hc, Ctx.size_ok hC hs, addr_add, Int.toNat_natCast, Nat.add_assoc]
        | sliceG hf hn hc' hs' =>
          rename_i L
          refine ⟨.pointer (some ⟨L.blk, L.base + (o + n * s), none⟩), ?_, .ptr hf⟩
          simp only [Instr.indexAt, asIntOf, Sem.run_bind, run_underlying hu, Result.andThen_ok, Instr.sureAddr, Sem.run_pure, if_pos hc, Ctx.size_ok hC hs, addr_add, Int.toNat_natCast, Nat.add_assoc]
        | sliceE hf hg hs' => omega
      · cases h
    · cases h
def aIndex (C : Ctx) (t : TypeId) (x ix : AVal) : Option AVal :=
  match asNat C ix with
  | none => none
  | some n =>
    match C.und t, x with
    | some (.array len e), .agg cs =>
      match Nat.ble (n + 1) len, C.size e with
      | true, some s => aPart C e cs (n * s)
      | _, _ => none
    | some .string, .str l =>
      match l[n]? with
      | some e => some (.int .u8 e)
      | none => none
    | _, _ => none
theorem SRel.get {ρ : Env} {l : List IE} {s : ByteArray} (h : SRel ρ l s) {n : Nat} {e : IE} (he : l[n]? = some e) : ∃ b : UInt8, s[n]? = some b ∧ e.ev ρ = b.toNat := by
  have h1 : (l.map (·.ev ρ))[n]? = some (e.ev ρ) := by simp [he]
  rw [← h] at h1
  simp only [List.getElem?_map, Option.map_eq_some_iff] at h1
  obtain ⟨b, hb, hb'⟩ := h1
  refine ⟨b, ?_, hb'.symm⟩
  have hlt : n < s.size := by
    have := (List.getElem?_eq_some_iff.1 hb).1
    simpa using this
  have : s.data[n]? = some b := by simpa using hb
  rw [← this]
  simp only [getElem?_def]
  rfl
theorem aIndex_ok {C : Ctx} {P : Program} {ρ : Env} (hC : C.Ok P ρ) {f : Ren} {t : TypeId} {x ix : AVal} {x' ix' : Value} {v : AVal} (hx : VRel ρ f x x') (hi : VRel ρ f ix ix') (h : aIndex C t x ix = some v) (w : World) :
    ∃ v', (Instr.index t x' ix').run P w = .ok v' w ∧ VRel ρ f v v' := by
  unfold aIndex at h
  split at h
  · cases h
  · rename_i n hn
    obtain ⟨k, rfl⟩ := asNat_ok hC hi hn
    split at h
    · rename_i len e cs hu
      have hu := Ctx.und_ok hC hu
      cases hx; rename_i a' h1 h2
      split at h
      · rename_i s hlt hs
        have hlt' : n < len := Nat.le_of_ble_eq_true hlt
        obtain ⟨v', p, q⟩ := aPart_ok hC (⟨h1, h2⟩ : LRel ρ f cs a') h w
        have hc : (0 : Int) ≤ (n : Int) ∧ (n : Int) < (len : Int) := by omega
        exact ⟨v', by simp only [Instr.index, asIntOf, Sem.run_bind, run_underlying hu, Result.andThen_ok, Sem.run_pure, if_pos hc, Ctx.size_ok hC hs, Int.toNat_natCast, p], q⟩
      · cases h
    · rename_i l hu
      have hu := Ctx.und_ok hC hu
      cases hx; rename_i s hs
      split at h
      · rename_i e he
        cases h
        obtain ⟨b, hb, hb'⟩ := hs.get he
        refine ⟨.int .u8 b.toNat, ?_, by rw [← hb']; exact .int _ e⟩
        simp only [Instr.index, asIntOf, Sem.run_bind, run_underlying hu, Result.andThen_ok, Sem.run_pure, if_pos (Int.natCast_nonneg n), Int.toNat_natCast, hb]
      · cases h
    · cases h

/-! slice expressions -/
/-- An optional bound: 0 to m. -/
def aBound (C : Ctx) (m : Nat) (dflt : Nat) : Option (Option AVal) → Option Nat
  | none => some dflt
  | some none => none
  | some (some v) =>
    match asNat C v with
    | none => none
    | some n =>
      match Nat.ble n m with
      | true => some n
      | false => none
def OptRel (ρ : Env) (f : Ren) : Option (Option AVal) → Option Value → Prop
  | none, none => True
  | some (some v), some v' => VRel ρ f v v'
  | some none, some _ => True
  | _, _ => False
theorem run_sliceBound {P : Program} {w : World} {k : IntKind} {n y : Nat} {c : BoundsCode} (h : n ≤ y) : (Instr.sliceBound (.int k n) y c).run P w = .ok n w := by
  have hc : (0 : Int) ≤ (n : Int) ∧ (n : Int) ≤ (y : Int) := by omega
  simp only [Instr.sliceBound, asIntOf, Sem.run_bind, Sem.run_pure, Result.andThen_ok, if_pos hc, Int.toNat_natCast]
/-- The three bounds of a slice expression: of length 'len', at most 'cap' long. -/
def aBounds (C : Ctx) (len cap : Nat) (lo hi mx : Option (Option AVal)) : Option (Nat × Nat × Option Nat) :=
  match mx with
  | none =>
    match aBound C cap len hi with
    | none => none
    | some h =>
      match aBound C h 0 lo with
      | none => none
      | some l => some (l, h, none)
  | some _ =>
    match aBound C cap cap mx with
    | none => none
    | some m =>
      match hi with
      | none => none
      | some _ =>
        match aBound C m len hi with
        | none => none
        | some h =>
          match aBound C h 0 lo with
          | none => none
          | some l => some (l, h, some m)
theorem aBound_ok {C : Ctx} {P : Program} {ρ : Env} (hC : C.Ok P ρ) {f : Ren} {m d n : Nat} {b : Option (Option AVal)} {b' : Option Value} (hb : OptRel ρ f b b') (h : aBound C m d b = some n) :
    (b' = none ∧ b = none ∧ n = d) ∨ (∃ k, b' = some (.int k n) ∧ n ≤ m) := by
  cases b with
  | none =>
    cases b' with
    | none => simp [aBound] at h; exact .inl ⟨rfl, rfl, h.symm⟩
    | some v => cases hb
  | some b =>
    cases b with
    | none => simp [aBound] at h
    | some v =>
      cases b' with
      | none => cases hb
      | some v' =>
        simp only [aBound] at h
        split at h
        · cases h
        · rename_i k hk
          obtain ⟨kk, rfl⟩ := asNat_ok hC hb hk
          split at h
          · rename_i hle
            cases h
            exact .inr ⟨kk, rfl, Nat.le_of_ble_eq_true hle⟩
          · cases h
theorem aBounds_ok {C : Ctx} {P : Program} {ρ : Env} (hC : C.Ok P ρ) {f : Ren} {isS : Bool} {len cap cap' : Nat} {lo hi mx : Option (Option AVal)} {lo' hi' mx' : Option Value} (h1 : OptRel ρ f lo lo') (h2 : OptRel ρ f hi hi') (h3 : OptRel ρ f mx mx')
    {l h : Nat} {m : Option Nat} (hcap : cap ≤ cap') (hlen : len ≤ cap) (hh : aBounds C len cap lo hi mx = some (l, h, m)) (w : World) :
    (Instr.sliceBounds isS len cap' lo' hi' mx').run P w = .ok (l, h, m.getD cap') w ∧ l ≤ h ∧ h ≤ cap ∧ (∀ x, m = some x → h ≤ x ∧ x ≤ cap) := by
  unfold aBounds at hh
  split at hh
  · cases mx' with
    | some _ => cases h3
    | none =>
      split at hh
      · cases hh
      · rename_i hv hhv
        split at hh
        · cases hh
        · rename_i lv hlv
          cases hh
          rcases aBound_ok hC h2 hhv with ⟨rfl, _, rfl⟩ | ⟨kh, rfl, hle⟩
          · rcases aBound_ok hC h1 hlv with ⟨rfl, _, rfl⟩ | ⟨kl, rfl, hle'⟩
            · exact ⟨by simp [Instr.sliceBounds], by omega, by omega, by simp⟩
            · exact ⟨by simp [Instr.sliceBounds, run_sliceBound hle'], by omega, by omega, by simp⟩
          · have hle2 : h ≤ cap' := by omega
            rcases aBound_ok hC h1 hlv with ⟨rfl, _, rfl⟩ | ⟨kl, rfl, hle'⟩
            · exact ⟨by simp [Instr.sliceBounds, run_sliceBound hle2], by omega, by omega, by simp⟩
            · exact ⟨by simp [Instr.sliceBounds, run_sliceBound hle', run_sliceBound hle2], by omega, by omega, by simp⟩
  · rename_i mv
    split at hh
    · cases hh
    · rename_i mm hmm
      split at hh
      · cases hh
      · rename_i hiv
        split at hh
        · cases hh
        · rename_i hv hhv
          split at hh
          · cases hh
          · rename_i lv hlv
            cases hh
            rcases aBound_ok hC h3 hmm with ⟨_, h0, _⟩ | ⟨km, rfl, hmle⟩
            · cases h0
            rcases aBound_ok hC h2 hhv with ⟨_, h0, _⟩ | ⟨kh, rfl, hle⟩
            · cases h0
            have hmle2 : mm ≤ cap' := by omega
            rcases aBound_ok hC h1 hlv with ⟨rfl, _, rfl⟩ | ⟨kl, rfl, hle'⟩
            · exact ⟨by simp [Instr.sliceBounds, run_sliceBound hle, run_sliceBound hmle2], by omega, by omega, by intro x hx; cases hx; exact ⟨hle, hmle⟩⟩
            · exact ⟨by simp [Instr.sliceBounds, run_sliceBound hle, run_sliceBound hle', run_sliceBound hmle2], by omega, by omega, by intro x hx; cases hx; exact ⟨hle, hmle⟩⟩
def aSlice (C : Ctx) (t : TypeId) (x : AVal) (lo hi mx : Option (Option AVal)) : Option AVal :=
  match C.und t, x with
  | some .string, .str l =>
    match mx with
    | some _ => none
    | none =>
      let n := l.length
      match aBounds C n n lo hi none with
      | some (a, b, _) => some (.str ((l.drop a).take (b - a)))
      | none => none
  | some (.array n e), .ptr (some (i, o)) =>
    match C.size e, aBounds C n n lo hi mx with
    | some s, some (a, b, m) =>
      let m := m.getD n
      some (.slice (some (i, if m = a then o else o + a * s)) (b - a) (m - a) 0)
    | _, _ => none
  | some (.slice e), .slice none 0 0 0 =>
    match C.size e, aBounds C 0 0 lo hi mx with
    | some _, some _ => some (.slice none 0 0 0)
    | _, _ => none
  | some (.slice e), .slice (some (i, o)) n c g =>
    match Nat.ble n c, C.size e, aBounds C n c lo hi mx with
    | true, some s, some (a, b, m) =>
      match g with
      | 0 =>
        let m := m.getD c
        match Nat.beq c 0 with
        | true => some (.slice (some (i, o)) 0 0 0)
        | false => some (.slice (some (i, if m = a then o else o + a * s)) (b - a) (m - a) 0)
      | g + 1 =>
        match Nat.beq s (g + 1), m with
        | true, some 0 => some (.slice (some (i, o)) 0 0 0)
        | true, none =>
          match Nat.beq a 0 with
          | true => some (.slice (some (i, o)) b c (g + 1))
          | false => some (.slice (some (i, o + a * s)) (b - a) (c - a) (g + 1))
        | _, _ => none
    | _, _, _ => none
  | _, _ => none
theorem drop_take_map {α β : Type} (g : α → β) (l : List α) (a n : Nat) : ((l.drop a).take n).map g = ((l.map g).drop a).take n := by
  simp [List.map_take, List.map_drop]
theorem SRel.extract {ρ : Env} {l : List IE} {s : ByteArray} (h : SRel ρ l s) (a b : Nat) : SRel ρ ((l.drop a).take (b - a)) (s.extract a b) := by
  unfold SRel at *
  rw [drop_take_map, ← h, ← drop_take_map]
  congr 1
  simp [ByteArray.data_extract, List.extract_eq_take_drop]
theorem aSlice_ok {C : Ctx} {P : Program} {ρ : Env} (hC : C.Ok P ρ) {f : Ren} {t : TypeId} {x : AVal} {x' : Value} {lo hi mx : Option (Option AVal)} {lo' hi' mx' : Option Value} {v : AVal} (hx : VRel ρ f x x')
    (h1 : OptRel ρ f lo lo') (h2 : OptRel ρ f hi hi') (h3 : OptRel ρ f mx mx') (h : aSlice C t x lo hi mx = some v) (w : World) :
    ∃ v', (Instr.sliceAt t x' lo' hi' mx').run P w = .ok v' w ∧ VRel ρ f v v' := by
  unfold aSlice at h
  split at h
  · rename_i l hu
    have hu := Ctx.und_ok hC hu
    cases hx; rename_i s hs
    split at h
    · cases h
    · cases mx' with
      | some _ => cases h3
      | none =>
        simp only at h
        split at h
        · rename_i a b m hb
          cases h
          rw [← hs.size] at hb
          obtain ⟨hr, _⟩ := aBounds_ok hC (isS := false) h1 h2 (show OptRel ρ f none none from trivial) (Nat.le_refl _) (Nat.le_refl _) hb w
          refine ⟨.string (s.extract a b), ?_, .str (hs.extract a b)⟩
          simp only [Instr.sliceAt, Instr.slice, Sem.run_bind, run_underlying hu, Result.andThen_ok, Option.isSome_none, Bool.false_eq_true, if_false, hr, Sem.run_pure]
        · cases h
  · rename_i n e i o hu
    have hu := Ctx.und_ok hC hu
    cases hx; rename_i L hf
    split at h
    · rename_i s a b m hs hb
      cases h
      obtain ⟨hr, _⟩ := aBounds_ok hC (isS := false) h1 h2 h3 (Nat.le_refl _) (Nat.le_refl _) hb w
      refine ⟨.slice (some ⟨L.blk, L.base + (if m.getD n = a then o else o + a * s), none⟩) (b - a) (m.getD n - a), ?_, .slice hf⟩
      simp only [Instr.sliceAt, Sem.run_bind, run_underlying hu, Result.andThen_ok, Instr.sureAddr, Sem.run_pure, hr, Ctx.size_ok hC hs]
      congr 3
      split
      · rfl
      · rw [addr_add, Nat.add_assoc]
    · cases h
  · rename_i e hu
    have hu := Ctx.und_ok hC hu
    cases hx
    split at h
    · rename_i s bb hs hb
      cases h
      obtain ⟨a, b, m⟩ := bb
      obtain ⟨hr, q1, q2, q3⟩ := aBounds_ok hC (isS := true) h1 h2 h3 (Nat.le_refl _) (Nat.le_refl _) hb w
      have hb0 : b = 0 := by omega
      have ha0 : a = 0 := by omega
      have hm : m.getD 0 = 0 := by
        cases m with
        | none => rfl
        | some x => have := q3 x rfl; simp; omega
      subst hb0; subst ha0
      rw [hm] at hr
      refine ⟨.slice none 0 0, ?_, .nilSlice⟩
      simp only [Instr.sliceAt, Instr.slice, Sem.run_bind, run_underlying hu, Result.andThen_ok, hr, Ctx.size_ok hC hs, Sem.run_pure, if_true, Nat.sub_self]
    · cases h
  · rename_i e i o n c g hu
    have hu := Ctx.und_ok hC hu
    split at h
    · rename_i s a b m hnc hs hb
      replace hnc := Nat.le_of_ble_eq_true hnc
      have run : ∀ (ad : Addr) (nn cc : Nat), nn = n → c ≤ cc → (Instr.sliceAt t (.slice (some ad) nn cc) lo' hi' mx').run P w = .ok (.slice (if m.getD cc = a then some ad else some (ad.add (a * s))) (b - a) (m.getD cc - a)) w := by
        intro ad nn cc hnn hcc
        subst hnn
        obtain ⟨hr, q⟩ := aBounds_ok hC (isS := true) h1 h2 h3 hcc hnc hb w
        simp only [Instr.sliceAt, Instr.slice, Sem.run_bind, run_underlying hu, Result.andThen_ok, hr, Ctx.size_ok hC hs, Sem.run_pure, Option.map_some]
      obtain ⟨-, q1, q2, q3⟩ := aBounds_ok hC (isS := true) h1 h2 h3 (Nat.le_refl c) hnc hb w
      split at h
      · -- exact
        simp only at h
        have hm : m.getD c ≤ c ∧ b ≤ m.getD c := by
          cases m with
          | none => simp; omega
          | some x => have := q3 x rfl; simp; omega
        split at h
        · rename_i hc0
          replace hc0 := Nat.eq_of_beq_eq_true hc0
          cases h
          have e1 : m.getD c = 0 := by omega
          have e2 : a = 0 := by omega
          have e3 : b = 0 := by omega
          cases hx with
          | slice hf =>
            rename_i L
            refine ⟨_, run _ _ _ rfl (Nat.le_refl _), ?_⟩
            rw [e1, e2, e3, if_pos rfl]
            exact .slice hf
          | sliceE hf hg hss =>
            rename_i o' c' L
            obtain rfl := hg rfl
            refine ⟨_, run _ _ _ rfl (Nat.zero_le _), ?_⟩
            rw [e1, e2, e3, if_pos rfl]
            exact .sliceE hf (fun _ => rfl) hss
        · rename_i hc0
          have hc0 : c ≠ 0 := by intro e; simp [e] at hc0
          cases h
          cases hx with
          | slice hf =>
            rename_i L
            refine ⟨_, run _ _ _ rfl (Nat.le_refl _), ?_⟩
            have e : (if m.getD c = a then some (⟨L.blk, L.base + o, none⟩ : Addr) else some ((⟨L.blk, L.base + o, none⟩ : Addr).add (a * s))) = some ⟨L.blk, L.base + (if m.getD c = a then o else o + a * s), none⟩ := by
              split
              · rfl
              · rw [addr_add, Nat.add_assoc]
            rw [e]
            exact .slice hf
          | sliceE hf hg hss => exact absurd rfl hc0
      · rename_i g
        split at h
        · rename_i hsg
          have hsg := Nat.eq_of_beq_eq_true hsg
          have e := q3 0 rfl
          have e2 : a = 0 := by omega
          have e3 : b = 0 := by omega
          cases h
          cases hx with
          | sliceG hf hn hcc hss =>
            rename_i c' L
            refine ⟨_, run _ _ _ rfl hcc, ?_⟩
            rw [e2, e3]
            simp only [Option.getD_some, if_true, Nat.sub_self]
            exact .slice hf
          | sliceE hf hg hss =>
            rename_i o' c' L
            refine ⟨_, run _ _ _ rfl (Nat.zero_le _), ?_⟩
            rw [e2, e3]
            simp only [Option.getD_some, if_true, Nat.sub_self]
            exact .sliceE hf (fun _ => rfl) (by omega)
        · rename_i hsg
          have hsg := Nat.eq_of_beq_eq_true hsg
          split at h
          · rename_i ha0
            have ha0 := Nat.eq_of_beq_eq_true ha0
            subst ha0
            cases h
            cases hx with
            | sliceG hf hn hcc hss =>
              rename_i c' L
              refine ⟨_, run _ _ _ rfl hcc, ?_⟩
              have e : (if (none : Option Nat).getD c' = 0 then some (⟨L.blk, L.base + o, none⟩ : Addr) else some ((⟨L.blk, L.base + o, none⟩ : Addr).add (0 * s))) = some ⟨L.blk, L.base + o, none⟩ := by
                split
                · rfl
                · rw [addr_add]; simp
              rw [e]
              simp only [Option.getD_none, Nat.sub_zero]
              exact .sliceG hf q2 hcc hss
            | sliceE hf hg hss =>
              rename_i o' c' L
              have hb0 : b = 0 := by omega
              subst hb0
              refine ⟨_, run _ _ _ rfl (Nat.zero_le _), ?_⟩
              have e : (if (none : Option Nat).getD c' = 0 then some (⟨L.blk, o', none⟩ : Addr) else some ((⟨L.blk, o', none⟩ : Addr).add (0 * s))) = some ⟨L.blk, o', none⟩ := by
                split
                · rfl
                · rw [addr_add]; simp
              rw [e]
              simp only [Option.getD_none, Nat.sub_zero]
              exact .sliceE hf hg hss
          · rename_i ha0
            have ha0 : a ≠ 0 := by intro e; simp [e] at ha0
            cases h
            cases hx with
            | sliceG hf hn hcc hss =>
              rename_i c' L
              refine ⟨_, run _ _ _ rfl hcc, ?_⟩
              simp only [Option.getD_none]
              by_cases hca : c' = a
              · rw [if_pos hca]
                have e1 : b - a = 0 := by omega
                have e2 : c - a = 0 := by omega
                have e3 : c' - a = 0 := by omega
                rw [e1, e2, e3]
                exact .sliceE hf (fun h => by cases h) (by simp; have := Nat.zero_le (c' * (g + 1)); omega)
              · rw [if_neg hca, addr_add, Nat.add_assoc]
                refine .sliceG hf (by omega) (by omega) ?_
                have hle : a ≤ c' := by omega
                obtain ⟨k, rfl⟩ := Nat.exists_eq_add_of_le hle
                rw [hsg, Nat.add_sub_cancel_left]
                rw [Nat.add_mul] at hss
                omega
            | sliceE hf hg hss => omega
        · cases h
    · cases h
  · cases h
end
end Go.Sx
/- All operations that only compute or read. No condition. -/
set_option linter.unusedSimpArgs false
set_option linter.unusedVariables false
namespace Go.Sx
open Go.RowKit (Below)
noncomputable section

def aLoad (C : Ctx) (h : T AObj) (t : TypeId) : AVal → Option AVal
  | .ptr (some (i, o)) =>
    match C.und t with
    | none => none
    | some d =>
      match aggB d with
      | true =>
        match C.size t with
        | none => none
        | some n =>
          match aGetN h i o n with
          | some l => some (.agg l)
          | none => none
      | false => aGet h i o
  | _ => none
theorem aLoad_ok {C : Ctx} {P : Program} {ρ : Env} (hC : C.Ok P ρ) {B : Nat → Prop} {W w : World} {f : Ren} {h : T AObj} (hr : HRel ρ B W f h w) {t : TypeId} {x : AVal} {x' : Value} {v : AVal} (hx : VRel ρ f x x') (hl : aLoad C h t x = some v) :
    ∃ v', (Instr.loadAt t x').run P w = .ok v' w ∧ VRel ρ f v v' := by
  unfold aLoad at hl
  split at hl
  · rename_i i o
    cases hx; rename_i L hf
    split at hl
    · cases hl
    · rename_i d hd
      have hu := Ctx.und_ok hC hd
      split at hl
      · rename_i ha
        split at hl
        · cases hl
        · rename_i n hn
          split at hl
          · rename_i l hg
            cases hl
            obtain ⟨cs, h1, h2, h3⟩ := aGetN_ok hr hf n o l hg
            have := run_loadCells_at (P := P) h2 h3
            exact ⟨.agg cs.toArray, by simp only [Instr.loadAt, Instr.sureAddr, Sem.run_bind, Sem.run_pure, Result.andThen_ok, loadVar, run_isAgg hu, ha, if_true, Ctx.size_ok hC hn, this], .agg h1.1 h1.2⟩
          · cases hl
      · rename_i ha
        obtain ⟨v', h1, h2⟩ := aGet_ok hr hf hl
        exact ⟨v', by simp only [Instr.loadAt, Instr.sureAddr, Sem.run_bind, Sem.run_pure, Result.andThen_ok, loadVar, run_isAgg hu, ha, Bool.false_eq_true, if_false, run_load, h1], h2⟩
  · cases hl

/-! conversions that make no memory -/
def allBytes (C : Ctx) : List AVal → Option (List IE)
  | [] => some []
  | .int .u8 e :: l =>
    match fits .u8 (rng C.bd e), allBytes C l with
    | true, some m => some (e :: m)
    | _, _ => none
  | _ :: _ => none
theorem allBytes_ok {C : Ctx} {P : Program} {ρ : Env} (hC : C.Ok P ρ) {f : Ren} : ∀ (l : List AVal) (m : List IE) (cs : List Value), allBytes C l = some m → LRel ρ f l cs.toArray →
    ∃ bs : List UInt8, cs = bs.map (fun b => .int .u8 b.toNat) ∧ bs.map (fun b => (b.toNat : Int)) = m.map (·.ev ρ) := by
  intro l
  induction l with
  | nil =>
    intro m cs h hl
    simp [allBytes] at h; subst h
    have : cs = [] := by have := hl.1; simpa using this
    exact ⟨[], by simp [this], rfl⟩
  | cons a l ih =>
    intro m cs h hl
    cases cs with
    | nil => have := hl.1; simp at this
    | cons c cs =>
      have ha : VRel ρ f a c := hl.2 0 a c (by simp) (by simp)
      have hl' : LRel ρ f l cs.toArray := ⟨by have := hl.1; simp at this ⊢; exact this, fun j x x' hx hx' => hl.2 (j + 1) x x' (by simpa using hx) (by simpa using hx')⟩
      unfold allBytes at h
      split at h
      · cases ‹_ = []›
      · rename_i e l' heq
        cases heq
        split at h
        · rename_i m' hf hm
          cases h
          cases ha
          obtain ⟨bs, h1, h2⟩ := ih _ _ hm hl'
          unfold fits at hf
          split at hf
          · rename_i lo hi hrng
            simp [intLe_iff, kLo, kHi] at hf
            have hb := rng_ok hC.bd e _ _ hrng
            have hn : ((UInt8.ofNat (e.ev ρ).toNat).toNat : Int) = e.ev ρ := by
              rw [UInt8.toNat_ofNat']
              omega
            refine ⟨UInt8.ofNat (e.ev ρ).toNat :: bs, ?_, ?_⟩
            · rw [List.map_cons, ← h1, hn]
            · rw [List.map_cons, List.map_cons, h2, hn]
          · cases hf
        · cases h
      · cases h
def aConv (C : Ctx) (h : T AObj) (s d : TypeId) (x : AVal) : Option AVal :=
  match C.und s, C.und d, x with
  | some _, some (.int k), .int _ e => some (.int k (mkWrap C.bd k e))
  | some .string, some .string, .str l => some (.str l)
  | some (.slice e), some .string, .slice a n _ _ =>
    match C.und e with
    | some (.int .u8) =>
      match a with
      | none => some (.str [])
      | some (i, o) =>
        match aGetN h i o n with
        | none => none
        | some l =>
          match allBytes C l with
          | some m => some (.str m)
          | none => none
    | _ => none
  | some (.slice e), some .string, .sliceA i (.lit (.ofNat n)) 1 =>
    match C.und e with
    | some (.int .u8) =>
      match aGetN h i 0 n with
      | none => none
      | some l =>
        match allBytes C l with
        | some m => some (.str m)
        | none => none
    | _ => none
  | _, _, _ => none
theorem foldl_push (ns : List Int) : ∀ (s : ByteArray), (ns.foldl (fun r n => r.push (UInt8.ofNat n.toNat)) s).data.toList = s.data.toList ++ ns.map (fun n => UInt8.ofNat n.toNat) := by
  induction ns with
  | nil => intro s; simp
  | cons n ns ih => intro s; simp [ih, ByteArray.data_push]
theorem SRel.of_ints {ρ : Env} {m : List IE} {bs : List UInt8} (h : bs.map (fun b => (b.toNat : Int)) = m.map (·.ev ρ)) :
    SRel ρ m ((m.map (·.ev ρ)).foldl (fun r n => r.push (UInt8.ofNat n.toNat)) ByteArray.empty) := by
  unfold SRel
  rw [foldl_push, ← h]
  simp [Function.comp_def]
theorem aConv_ok {C : Ctx} {P : Program} {ρ : Env} (hC : C.Ok P ρ) {B : Nat → Prop} {W w : World} {f : Ren} {h : T AObj} (hr : HRel ρ B W f h w) {s d : TypeId} {x : AVal} {x' : Value} {v : AVal} (hx : VRel ρ f x x') (hl : aConv C h s d x = some v) :
    ∃ v', (convert s d x').run P w = .ok v' w ∧ VRel ρ f v v' := by
  unfold aConv at hl
  split at hl
  · rename_i u k l e hs hd
    have hs := Ctx.und_ok hC hs
    have hd := Ctx.und_ok hC hd
    cases hx; cases hl
    refine ⟨.int k (k.wrap (e.ev ρ)), ?_, by rw [← mkWrap_ev hC.bd]; exact .int k _⟩
    simp only [convert, Sem.run_bind, run_underlying hs, run_underlying hd, Result.andThen_ok, Conv.intToInt, Sem.run_pure]
  · rename_i l hs hd
    have hs := Ctx.und_ok hC hs
    have hd := Ctx.und_ok hC hd
    cases hx; rename_i st hst
    cases hl
    exact ⟨.string st, by simp only [convert, Sem.run_bind, run_underlying hs, run_underlying hd, Result.andThen_ok, Sem.run_pure], .str hst⟩
  · rename_i e a n c g hs hd
    have hs := Ctx.und_ok hC hs
    have hd := Ctx.und_ok hC hd
    split at hl
    · rename_i he
      have he := Ctx.und_ok hC he
      split at hl
      · cases hl
        cases hx
        refine ⟨.string .empty, ?_, .str rfl⟩
        rw [run_convert_bytes_string w s d e _ _ _ hs he hd]
        simp [Conv.bytesToString]
      · rename_i i o
        split at hl
        · cases hl
        · rename_i l hg
          split at hl
          · rename_i m hm
            cases hl
            have main : ∀ (L : Loc), f i = some L → ∀ c', ∃ v', (convert s d (.slice (some ⟨L.blk, L.base + o, none⟩) n c')).run P w = .ok v' w ∧ VRel ρ f (.str m) v' := by
              intro L hf c'
              obtain ⟨cs, h1, h2, h3⟩ := aGetN_ok hr hf n o l hg
              obtain ⟨bs, h4, h5⟩ := allBytes_ok hC l m cs hm h1
              have hrun := run_loadCells_at (P := P) h2 h3
              refine ⟨_, ?_, .str (SRel.of_ints h5)⟩
              rw [run_convert_bytes_string w s d e _ _ _ hs he hd]
              refine run_bytesToString w _ _ _ _ ?_
              rw [hrun, h4, ← h5, List.map_map]
              rfl
            cases hx with
            | slice hf => exact main _ hf _
            | sliceG hf _ _ _ => exact main _ hf _
            | sliceE hf hg' hs' =>
              rename_i o' c' L
              simp [aGetN] at hg
              subst hg
              simp [allBytes] at hm
              subst hm
              refine ⟨.string .empty, ?_, .str rfl⟩
              rw [run_convert_bytes_string w s d e _ _ _ hs he hd]
              refine (run_bytesToString w _ 0 c' [] ?_).trans rfl
              simp [loadCells, loadCellsFrom]
          · cases hl
    · cases hl
  · rename_i e i n hs hd
    have hs := Ctx.und_ok hC hs
    have hd := Ctx.und_ok hC hd
    split at hl
    · rename_i he
      have he := Ctx.und_ok hC he
      split at hl
      · cases hl
      · rename_i l hg
        split at hl
        · rename_i m hm
          cases hl
          cases hx with
          | sliceA hf h0 hc hz =>
            rename_i c' L
            obtain ⟨cs, h1, h2, h3⟩ := aGetN_ok hr hf n 0 l hg
            obtain ⟨bs, h4, h5⟩ := allBytes_ok hC l m cs hm h1
            have hrun := run_loadCells_at (P := P) h2 h3
            refine ⟨_, ?_, .str (SRel.of_ints h5)⟩
            rw [run_convert_bytes_string w s d e _ _ _ hs he hd]
            refine run_bytesToString w _ _ _ _ ?_
            have e0 : ((IE.lit (Int.ofNat n)).ev ρ).toNat = n := rfl
            rw [e0]
            rw [Nat.add_zero] at hrun
            rw [hrun, h4, ← h5, List.map_map]
            rfl
          | sliceN hl0 =>
            rename_i a
            have hn : n = 0 := by
              have : ((n : Nat) : Int) = 0 := hl0
              omega
            subst hn
            simp [aGetN] at hg
            subst hg
            simp [allBytes] at hm
            subst hm
            refine ⟨.string .empty, ?_, .str rfl⟩
            rw [run_convert_bytes_string w s d e _ _ _ hs he hd]
            cases a with
            | none => simp [Conv.bytesToString]
            | some b =>
              refine (run_bytesToString w b 0 0 [] ?_).trans rfl
              exact run_loadCells_list w b [] (fun j v hv => by simp at hv)
        · cases hl
    · cases hl
  · cases hl

/-! look-ups -/
def keyEq (C : Ctx) (a b : AVal) : Option Bool :=
  match a, b with
  | .int k x, .int l y =>
    match kindEq k l with
    | true => settle C.dec (mkEq C.bd x y)
    | false => none
  | .str x, .str y => bytesEq C x y
  | _, _ => none
def fitD : AVal → TypeDesc → Bool
  | .int _ _, .int _ => true
  | .str _, .string => true
  | _, _ => false
def aFind (C : Ctx) (k : AVal) : List (AVal × AVal) → Nat → Option (Option (Nat × AVal))
  | [], _ => some none
  | e :: es, i =>
    match keyEq C k e.1 with
    | some true => some (some (i, e.2))
    | some false => aFind C k es (i + 1)
    | none => none
/-- Entries, one by one. -/
def EsRel (ρ : Env) (f : Ren) (es : List (AVal × AVal)) (es' : List MapEntry) : Prop :=
  es'.length = es.length ∧ ∀ (i : Nat) (e : AVal × AVal) (e' : MapEntry), es[i]? = some e → es'[i]? = some e' → VRel ρ f e.1 e'.key ∧ VRel ρ f e.2 e'.val
theorem keyEq_ok {C : Ctx} {P : Program} {ρ : Env} (hC : C.Ok P ρ) {f : Ren} {a b : AVal} {a' b' : Value} {r : Bool} (ha : VRel ρ f a a') (hb : VRel ρ f b b') (h : keyEq C a b = some r) {d : TypeDesc} (hf : fitD a d = true) : Instr.sameNow d a' b' = some r := by
  unfold keyEq at h
  split at h
  · rename_i k x l y
    split at h
    · rename_i hk
      have := kindEq_eq hk
      subst this
      cases ha; cases hb
      have hs := settle_ok hC.dec _ _ h
      rw [mkEq_ev hC.bd] at hs
      cases d <;> simp [fitD] at hf
      simp only [Instr.sameNow, if_true]
      rw [← hs]
      congr 1
    · cases h
  · rename_i x y
    cases ha; cases hb; rename_i s1 h1 s2 h2
    cases d <;> simp [fitD] at hf
    simp only [Instr.sameNow, beq_toListBytes, bytesEq_ok hC _ _ _ h]
    congr 1
    rw [Bool.eq_iff_iff]
    simp [h1.eq_iff h2]
  · cases h
def keyFits (C : Ctx) (t : TypeId) (k : AVal) : Bool :=
  match C.und t with
  | some d => fitD k d
  | none => false
theorem sameBits_of_now {d : TypeDesc} {a b : Value} (h : Instr.sameNow d a b = some true) : Instr.sameBits 10000 b a = true := by
  unfold Instr.sameNow at h
  split at h
  · split at h
    · rename_i hk
      simp at h
      simp [Instr.sameBits, hk, h]
    · cases h
  · rename_i a b
    have e : (a == b) = true := by simpa using h
    rw [beq_toListBytes] at e
    have e' : b.toList = a.toList := (by simpa using e : a.toList = b.toList).symm
    simp only [Instr.sameBits, beq_toListBytes, e', beq_self_eq_true]
  · simp at h
    simp [Instr.sameBits, h]
  · cases h
theorem checkKey_plain {P : Program} {t : TypeId} {k' : Value} {d : TypeDesc} (hd : P.underlying t = some d) (hk : (match d, k' with | .int _, .int _ _ => true | .string, .string _ => true | _, _ => false) = true) (n : Nat) (e : Bool) (w : World) :
    (Instr.checkKey e (n + 1) t k').run P w = .ok () w := by
  unfold Instr.checkKey
  simp only [Sem.run_bind, run_underlying hd, Result.andThen_ok]
  cases d <;> cases k' <;> simp at hk <;> rfl
theorem findNow_ok {C : Ctx} {P : Program} {ρ : Env} (hC : C.Ok P ρ) {f : Ren} {k : AVal} {k' : Value} (hk : VRel ρ f k k') {d : TypeDesc} (hf : fitD k d = true) {r : Option (Nat × AVal)} :
    ∀ (es : List (AVal × AVal)) (es' : List MapEntry) (j : Nat), EsRel ρ f es es' → aFind C k es j = some r →
      (r = none ∧ Instr.findNow d k' es' j = some none) ∨ ∃ i v v' e', r = some (j + i, v) ∧ Instr.findNow d k' es' j = some (some (j + i, v')) ∧ VRel ρ f v v' ∧ es'[i]? = some e' ∧ e'.val = v' ∧ Instr.sameNow d k' e'.key = some true := by
  intro es
  induction es with
  | nil =>
    intro es' j he h
    have : es' = [] := List.eq_nil_of_length_eq_zero he.1
    subst this
    simp [aFind] at h
    exact .inl ⟨h.symm, rfl⟩
  | cons e es ih =>
    intro es' j he h
    cases es' with
    | nil => have := he.1; simp at this
    | cons e' es' =>
      have h0 := he.2 0 e e' (by simp) (by simp)
      have he' : EsRel ρ f es es' := ⟨by have := he.1; simpa using this, fun i a a' x y => he.2 (i + 1) a a' (by simpa using x) (by simpa using y)⟩
      simp only [aFind] at h
      split at h
      · rename_i hq
        cases h
        have hsn := keyEq_ok hC hk h0.1 hq hf
        exact .inr ⟨0, e.2, e'.val, e', rfl, by simp [Instr.findNow, hsn], h0.2, by simp, rfl, hsn⟩
      · rename_i hq
        have hsn := keyEq_ok hC hk h0.1 hq hf
        rcases ih es' (j + 1) he' h with ⟨r1, r2⟩ | ⟨i, v, v', e'', r1, r2, r3, r4, r5, r6⟩
        · exact .inl ⟨r1, by simp [Instr.findNow, hsn, r2]⟩
        · refine .inr ⟨i + 1, v, v', e'', by rw [r1]; congr 2; omega, ?_, r3, by simpa using r4, r5, r6⟩
          simp only [Instr.findNow, hsn, r2]
          congr 3; omega
      · cases h
theorem aFind_ok {C : Ctx} {P : Program} {ρ : Env} (hC : C.Ok P ρ) {f : Ren} {t : TypeId} {k : AVal} {k' : Value} (hk : VRel ρ f k k') (ht : keyFits C t k = true) (w : World) {es : List (AVal × AVal)} {es' : List MapEntry} (he : EsRel ρ f es es')
    {r : Option (Nat × AVal)} (h : aFind C k es 0 = some r) :
    (∀ e, (Instr.checkKey e 10000 t k').run P w = .ok () w) ∧
    ((r = none ∧ (Instr.findKey t k' es').run P w = .ok none w) ∨ ∃ i v v' e', r = some (i, v) ∧ (Instr.findKey t k' es').run P w = .ok (some (i, v')) w ∧ VRel ρ f v v' ∧ es'[i]? = some e' ∧ e'.val = v' ∧ Instr.sameBits 10000 e'.key k' = true) := by
  unfold keyFits at ht
  split at ht
  · rename_i d hu
    have hd := Ctx.und_ok hC hu
    refine ⟨fun e => ?_, ?_⟩
    · exact checkKey_plain hd (by cases hk <;> cases d <;> simp [fitD] at ht <;> rfl) 9999 e w
    · rcases findNow_ok hC hk ht es es' 0 he h with ⟨r1, r2⟩ | ⟨i, v, v', e'', r1, r2, r3, r4, r5, r6⟩
      · exact .inl ⟨r1, by simp only [Instr.findKey, Sem.run_bind, run_underlying hd, Result.andThen_ok, r2, Sem.run_pure]⟩
      · exact .inr ⟨i, v, v', e'', by simpa using r1, by simp only [Instr.findKey, Sem.run_bind, run_underlying hd, Result.andThen_ok, r2, Sem.run_pure, Nat.zero_add], r3, r4, r5, sameBits_of_now r6⟩
  · cases ht
def mapEs (h : T AObj) : AVal → Option (List (AVal × AVal))
  | .map none => some []
  | .map (some r) =>
    match h.get r with
    | some (.map es) => some es
    | _ => none
  | _ => none
def lookRes (C : Ctx) (elem : TypeId) (ok : Bool) : Option (Nat × AVal) → Option AVal
  | some (_, v) => some (if ok then .tuple [v, .bool (.lit true)] else v)
  | none =>
    match aZero C elem with
    | some z => some (if ok then .tuple [z, .bool (.lit false)] else z)
    | none => none
def aLookup (C : Ctx) (h : T AObj) (t : TypeId) (m k : AVal) (ok : Bool) : Option AVal :=
  match C.und t with
  | some (.map key elem) =>
    match mapEs h m with
    | none => none
    | some es =>
      match keyFits C key k with
      | false => none
      | true =>
        match aFind C k es 0 with
        | some r => lookRes C elem ok r
        | none => none
  | _ => none
theorem pair_ok {ρ : Env} {f : Ren} {v : AVal} {v' : Value} (h : VRel ρ f v v') (b : Bool) : VRel ρ f (.tuple [v, .bool (.lit b)]) (.tuple #[v', .bool b]) := by
  have := LRel.cons h (LRel.cons (.bool (.lit b)) LRel.nil)
  exact .tuple this.1 this.2
theorem mapEs_ok {P : Program} {ρ : Env} {B : Nat → Prop} {W w : World} {f : Ren} {h : T AObj} (hr : HRel ρ B W f h w) {m : AVal} {m' : Value} {es : List (AVal × AVal)} (hm : VRel ρ f m m') (hes : mapEs h m = some es) :
    ∃ es' : Array MapEntry, EsRel ρ f es es'.toList ∧ ((m' = .map none ∧ es' = #[]) ∨ ∃ b cl, m' = .map (some b) ∧ (getObj b).run P w = .ok (.map es' cl) w) := by
  unfold mapEs at hes
  split at hes
  · cases hm; cases hes
    exact ⟨#[], ⟨rfl, by simp⟩, .inl ⟨rfl, rfl⟩⟩
  · rename_i r
    cases hm; rename_i L hf
    split at hes
    · rename_i es1 he
      cases hes
      obtain ⟨_, es', cl, q1, q2, q3⟩ := hr.obj _ L _ hf he
      exact ⟨es', ⟨by simpa using q2, by simpa using q3⟩, .inr ⟨L.blk, cl, rfl, by simp only [getObj, Sem.run, q1]⟩⟩
    · cases hes
  · cases hes
theorem aLookup_ok {C : Ctx} {P : Program} {ρ : Env} (hC : C.Ok P ρ) {B : Nat → Prop} {W w : World} {f : Ren} {h : T AObj} (hr : HRel ρ B W f h w) {t : TypeId} {m k : AVal} {m' k' : Value} {ok : Bool} {v : AVal} (hm : VRel ρ f m m') (hk : VRel ρ f k k') (hl : aLookup C h t m k ok = some v) :
    ∃ v', (Instr.lookup t m' k' ok).run P w = .ok v' w ∧ VRel ρ f v v' := by
  unfold aLookup at hl
  split at hl
  · rename_i key elem hu
    have hd := Ctx.und_ok hC hu
    split at hl
    · cases hl
    · rename_i es hes
      split at hl
      · cases hl
      · rename_i hkf
        split at hl
        · rename_i r hf
          obtain ⟨es', he, hm'⟩ := mapEs_ok (P := P) hr hm hes
          obtain ⟨h1, h2⟩ := aFind_ok hC hk hkf w he hf
          have run : ∀ (q : Value × Bool) (u : Option (Nat × Value)), (Instr.findKey key k' es'.toList).run P w = .ok u w → (match u with
              | some (_, v) => Result.ok (v, true) w
              | none => ((zeroValue elem).run P w).andThen fun z w' => .ok (z, false) w') = .ok q w →
              (Instr.lookup t m' k' ok).run P w = .ok (if ok then .tuple #[q.1, .bool q.2] else q.1) w := by
            intro q u hu1 hu2
            rcases hm' with ⟨rfl, rfl⟩ | ⟨b, cl, rfl, hg⟩
            · unfold Instr.lookup
              simp only [Sem.run_bind, run_underlying hd, Result.andThen_ok, Sem.run_pure, h1, hu1]
              cases u with
              | none =>
                simp only at hu2
                cases hz : (zeroValue elem).run P w with
                | ok z w1 => rw [hz] at hu2; simp only [Result.andThen_ok, Result.ok.injEq] at hu2; obtain ⟨rfl, rfl⟩ := hu2; simp only [Sem.run_bind, hz, Result.andThen_ok, Sem.run_pure]
                | halt x w1 => rw [hz] at hu2; simp at hu2
              | some p => simp only [Result.ok.injEq, and_true] at hu2; subst hu2; rfl
            · unfold Instr.lookup
              simp only [Sem.run_bind, run_underlying hd, Result.andThen_ok, Sem.run_pure, hg, h1, hu1]
              cases u with
              | none =>
                simp only at hu2
                cases hz : (zeroValue elem).run P w with
                | ok z w1 => rw [hz] at hu2; simp only [Result.andThen_ok, Result.ok.injEq] at hu2; obtain ⟨rfl, rfl⟩ := hu2; simp only [Sem.run_bind, hz, Result.andThen_ok, Sem.run_pure]
                | halt x w1 => rw [hz] at hu2; simp at hu2
              | some p => simp only [Result.ok.injEq, and_true] at hu2; subst hu2; rfl
          unfold lookRes at hl
          split at hl
          · rename_i i u
            cases hl
            rcases h2 with ⟨h2, _⟩ | ⟨i', u', v', e', h2, h3, h4, _⟩
            · cases h2
            · cases h2
              refine ⟨_, run (v', true) _ h3 rfl, ?_⟩
              cases ok
              · exact h4
              · exact pair_ok h4 true
          · split at hl
            · rename_i z hz
              cases hl
              obtain ⟨z', hz1, hz2, _⟩ := aZero_ok hC (f := f) hz w
              rcases h2 with ⟨_, h3⟩ | ⟨i', u', v', e', h2, _⟩
              · refine ⟨_, run (z', false) _ h3 (by simp only [hz1, Result.andThen_ok]), ?_⟩
                cases ok
                · exact hz2
                · exact pair_ok hz2 false
              · cases h2
            · cases hl
        · cases hl
  · cases hl
end
end Go.Sx
/- Rows of tests at an index that is not known. No condition. -/
set_option linter.unusedSimpArgs false
set_option linter.unusedVariables false
namespace Go.Sx
open Go.RowKit (Below)
noncomputable section
/-- A test as 1 or 0. -/
def BE.num : BE → Option IE
  | .lit true => some (.lit 1)
  | .lit false => some (.lit 0)
  | .var _ => none
  | .eq a b => some (.sel false a b (.lit 1) (.lit 0))
  | .lt a b => some (.sel true a b (.lit 1) (.lit 0))
  | .not t =>
    match BE.num t with
    | some e => some (.sub (.lit 1) e)
    | none => none
theorem BE.num_ev {ρ : Env} : ∀ {b : BE} {z : IE}, b.num = some z → z.ev ρ = if b.ev ρ then 1 else 0 := by
  intro b
  induction b with
  | lit v => intro z h; cases v <;> (cases h; simp [BE.ev, IE.ev])
  | var i => intro z h; cases h
  | eq a b => intro z h; cases h; simp [IE.ev, selI, BE.ev]
  | lt a b => intro z h; cases h; simp [IE.ev, selI, BE.ev]
  | not t ih =>
    intro z h
    simp only [BE.num] at h
    split at h
    · rename_i e he
      cases h
      have := ih he
      cases ht : t.ev ρ <;> simp [IE.ev, this, BE.ev, ht]
    · cases h

theorem num_is {ρ : Env} {b : BE} {z : IE} (h : b.num = some z) {bd : Bd} (hb : ρ.ok bd) {y : IE} (hy : y.ev ρ = z.ev ρ) : (mkEq bd y (.lit 1)).ev ρ = b.ev ρ := by
  rw [mkEq_ev hb, hy, BE.num_ev h]
  cases b.ev ρ <;> rfl
def chainB (C : Ctx) (c0 : T AVal) (e : IE) (s c : Nat) : Nat → Nat → Option IE
  | 0, j =>
    match c0.get (j * s + c) with
    | some (.bool x) => x.num
    | _ => none
  | n + 1, j =>
    match c0.get (j * s + c) with
    | some (.bool x) =>
      match x.num, chainB C c0 e s c n (j + 1) with
      | some p, some y => some (mkSel C.bd false e (.lit (.ofNat j)) p y)
      | _, _ => none
    | _ => none
theorem chainB_ok {C : Ctx} {P : Program} {ρ : Env} (hC : C.Ok P ρ) {c0 : T AVal} {e : IE} {s c : Nat} : ∀ (n j : Nat) (y : IE), chainB C c0 e s c n j = some y → ∀ m : Nat, j ≤ m → m ≤ j + n → e.ev ρ = m →
    ∃ x z, c0.get (m * s + c) = some (.bool x) ∧ x.num = some z ∧ y.ev ρ = z.ev ρ := by
  intro n
  induction n with
  | zero =>
    intro j y h m h1 h2 hm
    have : m = j := by omega
    subst this
    simp only [chainB] at h
    split at h
    · rename_i x hx
      exact ⟨x, y, hx, h, rfl⟩
    · cases h
  | succ n ih =>
    intro j y h m h1 h2 hm
    simp only [chainB] at h
    split at h
    · rename_i x hx
      split at h
      · rename_i p z hp hz
        cases h
        rw [mkSel_ev hC.bd]
        simp only [selI, Bool.false_eq_true, if_false, IE.ev, Int.ofNat_eq_natCast]
        by_cases hj : m = j
        · subst hj
          rw [if_pos hm]
          exact ⟨x, p, hx, hp, rfl⟩
        · rw [if_neg (by omega)]
          exact ih _ _ hz m (by omega) (by omega) hm
      · cases h
    · cases h
def chainLB (C : Ctx) (e : IE) : List AVal → Nat → Option IE
  | [], _ => none
  | .bool x :: l, j =>
    match l with
    | [] => x.num
    | l =>
      match x.num, chainLB C e l (j + 1) with
      | some p, some y => some (mkSel C.bd false e (.lit (.ofNat j)) p y)
      | _, _ => none
  | _ :: _, _ => none
theorem chainLB_ok {C : Ctx} {P : Program} {ρ : Env} (hC : C.Ok P ρ) {e : IE} : ∀ (l : List AVal) (j : Nat) (y : IE), chainLB C e l j = some y → ∀ m : Nat, m < l.length → e.ev ρ = (j + m : Nat) →
    ∃ x z, l[m]? = some (.bool x) ∧ x.num = some z ∧ y.ev ρ = z.ev ρ := by
  intro l
  induction l with
  | nil => intro j y h; simp [chainLB] at h
  | cons a l ih =>
    intro j y h m hm he
    unfold chainLB at h
    split at h
    · rename_i heq; cases heq
    · rename_i x l' heq
      cases heq
      split at h
      · have : m = 0 := by simp at hm; omega
        subst this
        exact ⟨x, y, rfl, h, rfl⟩
      · split at h
        · rename_i p z hp hz
          cases h
          rw [mkSel_ev hC.bd]
          simp only [selI, Bool.false_eq_true, if_false, IE.ev, Int.ofNat_eq_natCast]
          cases m with
          | zero =>
            rw [if_pos (by simpa using he)]
            exact ⟨x, p, rfl, hp, rfl⟩
          | succ m =>
            rw [if_neg (by omega)]
            obtain ⟨u, q0, q1, q2, q3⟩ := ih _ _ hz m (by simpa using hm) (by omega)
            exact ⟨u, q0, by simpa using q1, q2, q3⟩
        · cases h
    · cases h
/-- A test put among others. -/
def updB (C : Ctx) (e x : IE) (s c : Nat) : Nat → Nat → T AVal → Option (T AVal)
  | 0, _, c0 => some c0
  | n + 1, j, c0 =>
    match c0.get (j * s + c) with
    | some (.bool y) =>
      match y.num with
      | some q => updB C e x s c n (j + 1) (c0.set (j * s + c) (.bool (mkEq C.bd (mkSel C.bd false e (.lit (.ofNat j)) x q) (.lit 1))))
      | none => none
    | _ => none
theorem updB_ok {C : Ctx} {P : Program} {ρ : Env} (hC : C.Ok P ρ) {e x : IE} {t : BE} (ht : t.num = some x) {s c : Nat} (hs : 0 < s) : ∀ (n j : Nat) (c0 c1 : T AVal), updB C e x s c n j c0 = some c1 → ∀ p v, c1.get p = some v →
    (∃ m y, j ≤ m ∧ m < j + n ∧ p = m * s + c ∧ c0.get p = some (.bool y) ∧ ∃ z, v = .bool z ∧ z.ev ρ = if e.ev ρ = (m : Int) then t.ev ρ else y.ev ρ) ∨ ((∀ m, j ≤ m → m < j + n → p ≠ m * s + c) ∧ c0.get p = some v) := by
  intro n
  induction n with
  | zero => intro j c0 c1 h p v hv; cases h; exact .inr ⟨fun m h1 h2 => by omega, hv⟩
  | succ n ih =>
    intro j c0 c1 h p v hv
    have inj : ∀ a b : Nat, a * s + c = b * s + c → a = b := fun a b hab => Nat.eq_of_mul_eq_mul_right hs (by omega)
    unfold updB at h
    split at h
    · rename_i y hy
      split at h
      · rename_i q hq
        have hz : (mkEq C.bd (mkSel C.bd false e (.lit (.ofNat j)) x q) (.lit 1)).ev ρ = if e.ev ρ = (j : Int) then t.ev ρ else y.ev ρ := by
          by_cases hj : e.ev ρ = (j : Int)
          · rw [if_pos hj]
            exact num_is ht hC.bd (by rw [mkSel_ev hC.bd]; simp [selI, IE.ev, hj])
          · rw [if_neg hj]
            exact num_is hq hC.bd (by rw [mkSel_ev hC.bd]; simp [selI, IE.ev, hj])
        rcases ih _ _ _ h p v hv with ⟨m', y', q1, q2, q3, q4, q5⟩ | ⟨q1, q2⟩
        · rcases T.get_set q4 with ⟨r1, r2⟩ | ⟨r1, r2⟩
          · exfalso
            have := inj m' j (by omega)
            omega
          · exact .inl ⟨m', y', by omega, by omega, q3, r2, q5⟩
        · rcases T.get_set q2 with ⟨r1, r2⟩ | ⟨r1, r2⟩
          · exact .inl ⟨j, y, Nat.le_refl _, by omega, r1, by rw [r1]; exact hy, _, r2.symm, hz⟩
          · refine .inr ⟨fun m' h1 h2 => ?_, r2⟩
            by_cases hj : m' = j
            · subst hj; exact r1
            · exact q1 m' (by omega) (by omega)
      · cases h
    · cases h
/-- The tests between are there. -/
theorem updB_there {C : Ctx} {e x : IE} {s c : Nat} (hs : 0 < s) : ∀ (n j : Nat) (c0 c1 : T AVal), updB C e x s c n j c0 = some c1 → ∀ m, j ≤ m → m < j + n → ∃ y, c0.get (m * s + c) = some (.bool y) := by
  intro n
  induction n with
  | zero => intro j c0 c1 h m h1 h2; omega
  | succ n ih =>
    intro j c0 c1 h m hm1 hm2
    unfold updB at h
    split at h
    · rename_i y hy
      split at h
      · by_cases hj : m = j
        · subst hj; exact ⟨y, hy⟩
        · obtain ⟨y', hy'⟩ := ih _ _ _ h m (by omega) (by omega)
          rcases T.get_set hy' with ⟨e1, e2⟩ | ⟨_, e2⟩
          · exact absurd (Nat.eq_of_mul_eq_mul_right hs (by omega)) hj
          · exact ⟨y', e2⟩
      · cases h
    · cases h
end
end Go.Sx
/- Places and rows at an index that is not known as a number. No condition. -/
set_option linter.unusedSimpArgs false
set_option linter.unusedVariables false
namespace Go.Sx
open Go.RowKit (Below)
noncomputable section

/-- Is it an index below n? -/
def bnd (C : Ctx) (e n : IE) : Bool :=
  match settle C.dec (mkLt C.bd e (.lit 0)) with
  | some false =>
    match settle C.dec (mkLt C.bd e n) with
    | some true => true
    | _ => false
  | _ => false
theorem bnd_ok {C : Ctx} {P : Program} {ρ : Env} (hC : C.Ok P ρ) {e n : IE} (h : bnd C e n = true) : 0 ≤ e.ev ρ ∧ e.ev ρ < n.ev ρ := by
  unfold bnd at h
  split at h
  · rename_i h1
    split at h
    · rename_i h2
      have a := settle_ok hC.dec _ _ h1
      have b := settle_ok hC.dec _ _ h2
      rw [mkLt_ev hC.bd] at a b
      have a := of_decide_eq_false a
      have b := of_decide_eq_true b
      simp only [IE.ev] at a
      omega
    · cases h
  · cases h
theorem mkMul_lit (ρ : Env) (a : IE) (n : Nat) : (mkMul a (.lit (.ofNat n))).ev ρ = a.ev ρ * n := by
  rw [mkMul_ev]
  rfl

/-! places -/
def aIndexAddrE (C : Ctx) (t : TypeId) (x ix : AVal) : Option AVal :=
  match ix with
  | .int _ e =>
    match C.und t, x with
    | some (.array len el), .ptr (some (i, o)) =>
      match bnd C e (.lit (.ofNat len)), C.size el with
      | true, some s => some (.ptrE i e s o)
      | _, _ => none
    | some (.slice el), .slice (some (i, o)) len _ _ =>
      match bnd C e (.lit (.ofNat len)), C.size el with
      | true, some s => some (.ptrE i e s o)
      | _, _ => none
    | some (.slice el), .sliceS i st len s _ =>
      match bnd C e len, C.size el with
      | true, some s' =>
        match Nat.beq s s' with
        | true => some (.ptrE i (mkAdd st e) s 0)
        | false => none
      | _, _ => none
    | some (.array len el), .ptrE i d s c =>
      match asLit C.dec e, C.size el with
      | some (.ofNat n), some s' =>
        match Nat.ble (n + 1) len with
        | true => some (.ptrE i d s (c + n * s'))
        | false => none
      | _, _ => none
    | _, _ => none
  | _ => none
theorem aIndexAddrE_ok {C : Ctx} {P : Program} {ρ : Env} (hC : C.Ok P ρ) {f : Ren} {t : TypeId} {x ix : AVal} {x' ix' : Value} {v : AVal} (hx : VRel ρ f x x') (hi : VRel ρ f ix ix') (h : aIndexAddrE C t x ix = some v) (w : World) :
    ∃ v', (Instr.indexAt t x' ix').run P w = .ok v' w ∧ VRel ρ f v v' := by
  unfold aIndexAddrE at h
  split at h
  · rename_i k e
    cases hi
    split at h
    · rename_i len el i o hu
      have hu := Ctx.und_ok hC hu
      cases hx; rename_i L hf
      split at h
      · rename_i s hb hs
        have hb := bnd_ok hC hb
        cases h
        refine ⟨.pointer (some ⟨L.blk, L.base + ((e.ev ρ).toNat * s + o), none⟩), ?_, .ptrE hf hb.1⟩
        have hc : (0 : Int) ≤ e.ev ρ ∧ e.ev ρ < (len : Int) := hb
        simp only [Instr.indexAt, asIntOf, Sem.run_bind, run_underlying hu, Result.andThen_ok, Instr.sureAddr, Sem.run_pure, if_pos hc, Ctx.size_ok hC hs, addr_add]
        congr 4
        omega
      · cases h
    · rename_i el i o len c g hu
      have hu := Ctx.und_ok hC hu
      split at h
      · rename_i s hb hs
        have hb := bnd_ok hC hb
        cases h
        have hc : (0 : Int) ≤ e.ev ρ ∧ e.ev ρ < (len : Int) := hb
        cases hx with
        | slice hf =>
          rename_i L
          refine ⟨.pointer (some ⟨L.blk, L.base + ((e.ev ρ).toNat * s + o), none⟩), ?_, .ptrE hf hb.1⟩
          simp only [Instr.indexAt, asIntOf, Sem.run_bind, run_underlying hu, Result.andThen_ok, Instr.sureAddr, Sem.run_pure, if_pos hc, Ctx.size_ok hC hs, addr_add]
          congr 4
          omega
        | sliceG hf hn hc' hs' =>
          rename_i L
          refine ⟨.pointer (some ⟨L.blk, L.base + ((e.ev ρ).toNat * s + o), none⟩), ?_, .ptrE hf hb.1⟩
          simp only [Instr.indexAt, asIntOf, Sem.run_bind, run_underlying hu, Result.andThen_ok, Instr.sureAddr, Sem.run_pure, if_pos hc, Ctx.size_ok hC hs, addr_add]
          congr 4
          omega
        | sliceE hf hg hs' => simp at hc; omega
      · cases h
    · rename_i el i st len s nn hu
      have hu := Ctx.und_ok hC hu
      split at h
      · rename_i s' hb hs
        have hb := bnd_ok hC hb
        split at h
        · rename_i hss
          have := Nat.eq_of_beq_eq_true hss
          subst this
          cases h
          cases hx with
          | sliceS hf h0 hl hc =>
            rename_i L c
            have hc : (0 : Int) ≤ e.ev ρ ∧ e.ev ρ < ((len.ev ρ).toNat : Int) := by omega
            have e1 : (mkAdd st e).ev ρ = st.ev ρ + e.ev ρ := mkAdd_ev ρ st e
            refine ⟨.pointer (some ⟨L.blk, L.base + (((mkAdd st e).ev ρ).toNat * s + 0), none⟩), ?_, .ptrE hf (by omega)⟩
            simp only [Instr.indexAt, asIntOf, Sem.run_bind, run_underlying hu, Result.andThen_ok, Instr.sureAddr, Sem.run_pure, if_pos hc, Ctx.size_ok hC hs, addr_add]
            congr 4
            rw [e1, Int.toNat_add h0 hc.1, Nat.add_mul]
            omega
          | sliceZ hl ha => omega
        · cases h
      · cases h
    · rename_i len el i d s c hu
      have hu := Ctx.und_ok hC hu
      cases hx; rename_i L hf h0
      split at h
      · rename_i n s' hn hs
        have hn : e.ev ρ = (n : Int) := asLit_ok hC.dec hn
        split at h
        · rename_i hle
          have hle := Nat.le_of_ble_eq_true hle
          cases h
          refine ⟨.pointer (some ⟨L.blk, L.base + ((d.ev ρ).toNat * s + (c + n * s')), none⟩), ?_, .ptrE hf h0⟩
          have hc : (0 : Int) ≤ (n : Int) ∧ (n : Int) < (len : Int) := by omega
          simp only [Instr.indexAt, asIntOf, Sem.run_bind, run_underlying hu, Result.andThen_ok, Instr.sureAddr, Sem.run_pure, hn, if_pos hc, Ctx.size_ok hC hs, addr_add, Int.toNat_natCast, Nat.add_assoc]
        · cases h
      · cases h
    · cases h
  · cases h
def aFieldAddrE (C : Ctx) (t : TypeId) (x : AVal) (fld : Nat) : Option AVal :=
  match x, C.und t with
  | .ptrE i e s c, some (.struct fs) =>
    match fs[fld]? with
    | none => none
    | some fd =>
      match C.size fd.type with
      | some (_ + 1) => some (.ptrE i e s (c + fd.offset))
      | _ => none
  | _, _ => none
theorem aFieldAddrE_ok {C : Ctx} {P : Program} {ρ : Env} (hC : C.Ok P ρ) {f : Ren} {s : TypeId} {x : AVal} {x' : Value} {fld : Nat} {v : AVal} (hx : VRel ρ f x x') (h : aFieldAddrE C s x fld = some v) (w : World) :
    ∃ v', (Instr.fieldAt s x' fld).run P w = .ok v' w ∧ VRel ρ f v v' := by
  unfold aFieldAddrE at h
  split at h
  · rename_i i e s c fs hu
    have hu := Ctx.und_ok hC hu
    cases hx; rename_i L hf h0
    split at h
    · cases h
    · rename_i fd hfd
      split at h
      · rename_i n hn
        cases h
        refine ⟨.pointer (some ⟨L.blk, L.base + ((e.ev ρ).toNat * s + (c + fd.offset)), none⟩), ?_, .ptrE hf h0⟩
        simp only [Instr.fieldAt, Sem.run_bind, run_underlying hu, Result.andThen_ok, hfd, Instr.sureAddr, Sem.run_pure, fieldPlace, Ctx.size_ok hC hn, Nat.succ_ne_zero, if_false, addr_add, Nat.add_assoc]
      · cases h
  · cases h

/-! cells -/
def idxR (C : Ctx) (e : IE) : Option (Nat × Nat) :=
  match (match rng C.bd e with
    | some (l, h) => (optMax (narrow e C.dec).1 l, optMin (narrow e C.dec).2 h)
    | none => narrow e C.dec) with
  | (some (.ofNat a), some (.ofNat b)) =>
    match Nat.ble a b, Nat.ble (b - a) 300 with
    | true, true => some (a, b)
    | _, _ => none
  | _ => none
theorem idxR_ok {C : Ctx} {P : Program} {ρ : Env} (hC : C.Ok P ρ) {e : IE} {a b : Nat} (h : idxR C e = some (a, b)) : a ≤ (e.ev ρ).toNat ∧ (e.ev ρ).toNat ≤ b ∧ a ≤ b ∧ 0 ≤ e.ev ρ := by
  have hn := narrow_ok e hC.dec
  unfold idxR at h
  have key : within (match rng C.bd e with
    | some (l, h) => (optMax (narrow e C.dec).1 l, optMin (narrow e C.dec).2 h)
    | none => narrow e C.dec) (e.ev ρ) := by
    split
    · rename_i l hh hr
      have := rng_ok hC.bd e _ _ hr
      exact ⟨optMax_ok hn.1 this.1, optMin_ok hn.2 this.2⟩
    · exact hn
  split at h
  · rename_i x y hx
    rw [hx] at key
    split at h
    · rename_i h1 h2
      have h1 := Nat.le_of_ble_eq_true h1
      cases h
      have k1 := key.1 _ rfl
      have k2 := key.2 _ rfl
      simp only [Int.ofNat_eq_natCast] at k1 k2
      omega
    · cases h
  · cases h
def chain (C : Ctx) (c0 : T AVal) (k : IntKind) (e : IE) (s c : Nat) : Nat → Nat → Option IE
  | 0, j =>
    match c0.get (j * s + c) with
    | some (.int k' x) =>
      match kindEq k k' with
      | true => some x
      | false => none
    | _ => none
  | n + 1, j =>
    match c0.get (j * s + c) with
    | some (.int k' x) =>
      match kindEq k k', chain C c0 k e s c n (j + 1) with
      | true, some y => some (mkSel C.bd false e (.lit (.ofNat j)) x y)
      | _, _ => none
    | _ => none
theorem chain_ok {C : Ctx} {P : Program} {ρ : Env} (hC : C.Ok P ρ) {c0 : T AVal} {k : IntKind} {e : IE} {s c : Nat} : ∀ (n j : Nat) (y : IE), chain C c0 k e s c n j = some y → ∀ m : Nat, j ≤ m → m ≤ j + n → e.ev ρ = m →
    ∃ x, c0.get (m * s + c) = some (.int k x) ∧ y.ev ρ = x.ev ρ := by
  intro n
  induction n with
  | zero =>
    intro j y h m h1 h2 hm
    have : m = j := by omega
    subst this
    simp only [chain] at h
    split at h
    · rename_i k' x hx
      split at h
      · rename_i hk
        have := kindEq_eq hk
        subst this
        cases h
        exact ⟨_, hx, rfl⟩
      · cases h
    · cases h
  | succ n ih =>
    intro j y h m h1 h2 hm
    simp only [chain] at h
    split at h
    · rename_i k' x hx
      split at h
      · rename_i z hk hz
        have hkk := kindEq_eq hk
        subst hkk
        cases h
        rw [mkSel_ev hC.bd]
        simp only [selI, Bool.false_eq_true, if_false, IE.ev, Int.ofNat_eq_natCast]
        by_cases hj : m = j
        · subst hj
          rw [if_pos hm]
          exact ⟨x, hx, rfl⟩
        · rw [if_neg (by omega)]
          exact ih _ _ hz m (by omega) (by omega) hm
      · cases h
    · cases h
/-! cells that are digits of a row, one behind the other -/
def digAt (k : IntKind) : AVal → Option (IE × Nat)
  | .int k1 (.wrap k2 (.fn c x (.lit (.ofNat i)) _)) =>
    match Nat.beq c 0 && (kindEq k k1 && kindEq k k2) with
    | true => some (x, i)
    | false => none
  | _ => none
theorem digAt_ok {ρ : Env} {k : IntKind} {v : AVal} {x : IE} {i : Nat} (h : digAt k v = some (x, i)) : ∃ y, v = .int k y ∧ y.ev ρ = k.wrap (rowGet (x.ev ρ) i) := by
  unfold digAt at h
  split at h
  · rename_i k1 k2 c y j z
    split at h
    · rename_i hc
      cases h
      cases h0 : Nat.beq c 0
      · rw [h0] at hc; cases hc
      · rw [h0] at hc
        cases h1 : kindEq k k1
        · rw [h1] at hc; cases hc
        · rw [h1] at hc
          have e1 := kindEq_eq h1
          have e2 := kindEq_eq (show kindEq k k2 = true from hc)
          have e0 := Nat.eq_of_beq_eq_true h0
          subst e0; subst e1; subst e2
          exact ⟨_, rfl, rfl⟩
    · cases h
  · cases h
def digRun (c0 : T AVal) (k : IntKind) (x : IE) (s c : Nat) : Nat → Nat → Nat → Bool
  | 0, _, _ => true
  | n + 1, j, d =>
    match c0.get (j * s + c) with
    | some v =>
      match digAt k v with
      | some (y, i) =>
        match Nat.beq i d with
        | true =>
          match x.eq y with
          | true => digRun c0 k x s c n (j + 1) (d + 1)
          | false => false
        | false => false
      | none => false
    | none => false
theorem digRun_ok {ρ : Env} {c0 : T AVal} {k : IntKind} {x : IE} {s c : Nat} : ∀ (n j d : Nat), digRun c0 k x s c n j d = true → ∀ m : Nat, j ≤ m → m < j + n → ∃ y, c0.get (m * s + c) = some (.int k y) ∧ y.ev ρ = k.wrap (rowGet (x.ev ρ) (d + (m - j) : Nat)) := by
  intro n
  induction n with
  | zero => intro j d _ m h1 h2; omega
  | succ n ih =>
    intro j d h m h1 h2
    unfold digRun at h
    split at h
    · rename_i v hv
      split at h
      · rename_i y i hy
        split at h
        · rename_i hi
          split at h
          · rename_i hx
            have hi := Nat.eq_of_beq_eq_true hi
            have hx := IE.eq_eq hx
            subst hi; subst hx
            obtain ⟨z, q1, q2⟩ := digAt_ok (ρ := ρ) hy
            by_cases hj : m = j
            · subst hj
              exact ⟨z, by rw [hv, q1], by rw [q2, Nat.sub_self, Nat.add_zero]⟩
            · obtain ⟨z', a1, a2⟩ := ih _ _ h m (by omega) (by omega)
              refine ⟨z', a1, ?_⟩
              rw [a2, show i + 1 + (m - (j + 1)) = i + (m - j) by omega]
          · cases h
        · cases h
      · cases h
    · cases h
def digRow (c0 : T AVal) (k : IntKind) (e : IE) (s c n j : Nat) : Option IE :=
  match Nat.ble 3 n with
  | true =>
    match c0.get (j * s + c) with
    | some v =>
      match digAt k v with
      | some (x, d) =>
        match Nat.ble j d with
        | true =>
          match digRun c0 k x s c (n + 1) j d with
          | true => some (.wrap k (mkFn 0 x (mkAdd e (.lit (.ofNat (d - j)))) (.lit 0)))
          | false => none
        | false => none
      | none => none
    | none => none
  | false => none
theorem digRow_ok {ρ : Env} {c0 : T AVal} {k : IntKind} {e : IE} {s c n j : Nat} {y : IE} (h : digRow c0 k e s c n j = some y) (m : Nat) (h1 : j ≤ m) (h2 : m ≤ j + n) (hm : e.ev ρ = m) : ∃ x, c0.get (m * s + c) = some (.int k x) ∧ y.ev ρ = x.ev ρ := by
  unfold digRow at h
  split at h
  · split at h
    · split at h
      · rename_i x d _
        split at h
        · rename_i hjd
          split at h
          · rename_i hr
            cases h
            have hjd := Nat.le_of_ble_eq_true hjd
            obtain ⟨z, a1, a2⟩ := digRun_ok (ρ := ρ) _ _ _ hr m h1 (by omega)
            refine ⟨z, a1, ?_⟩
            rw [a2]
            show k.wrap ((mkFn 0 x (mkAdd e (.lit (.ofNat (d - j)))) (.lit 0)).ev ρ) = _
            rw [mkFn_ev, mkAdd_ev, hm]
            show k.wrap (rowGet (x.ev ρ) ((m : Int) + ((d - j : Nat) : Int))) = _
            rw [show ((m : Int) + ((d - j : Nat) : Int)) = ((d + (m - j) : Nat) : Int) by omega]
          · cases h
        · cases h
      · cases h
    · cases h
  · cases h
def chainD (C : Ctx) (c0 : T AVal) (k : IntKind) (e : IE) (s c : Nat) : Nat → Nat → Option IE
  | 0, j => chain C c0 k e s c 0 j
  | n + 1, j =>
    match digRow c0 k e s c (n + 1) j with
    | some y => some y
    | none =>
      match c0.get (j * s + c) with
      | some (.int k' x) =>
        match kindEq k k', chainD C c0 k e s c n (j + 1) with
        | true, some y => some (mkSel C.bd false e (.lit (.ofNat j)) x y)
        | _, _ => none
      | _ => none
theorem chainD_ok {C : Ctx} {P : Program} {ρ : Env} (hC : C.Ok P ρ) {c0 : T AVal} {k : IntKind} {e : IE} {s c : Nat} : ∀ (n j : Nat) (y : IE), chainD C c0 k e s c n j = some y → ∀ m : Nat, j ≤ m → m ≤ j + n → e.ev ρ = m →
    ∃ x, c0.get (m * s + c) = some (.int k x) ∧ y.ev ρ = x.ev ρ := by
  intro n
  induction n with
  | zero => intro j y h m h1 h2 hm; exact chain_ok hC 0 j y h m h1 h2 hm
  | succ n ih =>
    intro j y h m h1 h2 hm
    unfold chainD at h
    split at h
    · rename_i y' hy
      cases h
      exact digRow_ok hy m h1 h2 hm
    · split at h
      · rename_i k' x hx
        split at h
        · rename_i z hk hz
          have hkk := kindEq_eq hk
          subst hkk
          cases h
          rw [mkSel_ev hC.bd]
          simp only [selI, Bool.false_eq_true, if_false, IE.ev, Int.ofNat_eq_natCast]
          by_cases hj : m = j
          · subst hj
            rw [if_pos hm]
            exact ⟨x, hx, rfl⟩
          · rw [if_neg (by omega)]
            exact ih _ _ hz m (by omega) (by omega) hm
        · cases h
      · cases h
def loadE1 (C : Ctx) (h : T AObj) (i : Nat) (e : IE) (s c : Nat) : Option AVal :=
  match h.get i with
  | some (.arr ks code n _) =>
    match Nat.beq s ks.length, bnd C e n with
    | true, true =>
      match ks[c]? with
      | some k => some (.int k (mkWrap C.bd k (mkFn 0 code (mkAdd (mkMul e (.lit (.ofNat s))) (.lit (.ofNat c))) (.lit 0))))
      | none => none
    | _, _ => none
  | some (.cells c0 _ _ _) =>
    match idxR C e with
    | some (a, b) =>
      match c0.get (a * s + c) with
      | some (.int k _) =>
        match chainD C c0 k e s c (b - a) a with
        | some y => some (.int k y)
        | none => none
      | some (.bool _) =>
        match chainB C c0 e s c (b - a) a with
        | some y => some (.bool (mkEq C.bd y (.lit 1)))
        | none => none
      | _ => none
    | none => none
  | some (.win idx s' c0 _ _) =>
    match Nat.beq s s', e.eq idx with
    | true, true => c0.get c
    | _, _ => none
  | some (.col s' c' k code m d n) =>
    match Nat.beq s s' && Nat.beq c c', bnd C e n with
    | true, true => some (.int k (mkWrap C.bd k (mkFn 0 code (mkAdd (mkMul e (.lit (.ofNat m))) (.lit (.ofNat d))) (.lit 0))))
    | _, _ => none
  | _ => none
theorem pos_ev {ρ : Env} {e : IE} {s c : Nat} (h0 : 0 ≤ e.ev ρ) : (mkAdd (mkMul e (.lit (.ofNat s))) (.lit (.ofNat c))).ev ρ = ((e.ev ρ).toNat * s + c : Nat) := by
  rw [mkAdd_ev, mkMul_lit]
  obtain ⟨m, hm⟩ := Int.eq_ofNat_of_zero_le h0
  rw [hm]
  simp [IE.ev]
theorem loadE1_ok {C : Ctx} {P : Program} {ρ : Env} (hC : C.Ok P ρ) {B : Nat → Prop} {W w : World} {f : Ren} {h : T AObj} (hr : HRel ρ B W f h w) {i : Nat} {L : Loc} (hf : f i = some L) {e : IE} {s c : Nat} (h0 : 0 ≤ e.ev ρ) {v : AVal} (hv : loadE1 C h i e s c = some v) :
    ∃ v', w.cell? ⟨L.blk, L.base + ((e.ev ρ).toNat * s + c), none⟩ = some v' ∧ VRel ρ f v v' := by
  unfold loadE1 at hv
  split at hv
  · rename_i ks code n own hg
    obtain ⟨cs, el, fr, h1, h2, h3, h4⟩ := hr.obj i L _ hf hg
    split at hv
    · rename_i hs hb
      have hs := Nat.eq_of_beq_eq_true hs
      have hb := bnd_ok hC hb
      split at hv
      · rename_i k hk
        cases hv
        obtain ⟨q1, q2, q3⟩ := h4 (e.ev ρ).toNat c k (by omega) hk
        subst hs
        refine ⟨.int k (rowGet (code.ev ρ) ((e.ev ρ).toNat * ks.length + c : Nat)), by simp only [World.cell?, h1, q1]; rfl, ?_⟩
        have e1 : (mkWrap C.bd k (mkFn 0 code (mkAdd (mkMul e (.lit (.ofNat ks.length))) (.lit (.ofNat c))) (.lit 0))).ev ρ = rowGet (code.ev ρ) ((e.ev ρ).toNat * ks.length + c : Nat) := by
          rw [mkWrap_ev hC.bd, mkFn_ev, pos_ev h0]
          exact wrap_id k _ q2 q3
        rw [← e1]
        exact .int k _
      · cases hv
    · cases hv
  · rename_i c0 el own top hg
    obtain ⟨cs, fr, h1, h2, h3, h4⟩ := hr.obj i L _ hf hg
    split at hv
    · rename_i a b hi
      obtain ⟨r1, r2, r3, r4⟩ := idxR_ok hC hi
      split at hv
      · rename_i k x0 hx0
        split at hv
        · rename_i y hy
          cases hv
          obtain ⟨x, q1, q2⟩ := chainD_ok hC _ _ _ hy (e.ev ρ).toNat r1 (by omega) (by omega)
          obtain ⟨_, v', p1, p2⟩ := h4 _ _ q1
          refine ⟨v', by simp [World.cell?, h1, p1], ?_⟩
          cases p2
          rw [← q2]
          exact .int k y
        · cases hv
      · rename_i x0 hx0
        split at hv
        · rename_i y hy
          cases hv
          obtain ⟨x, z, q1, q2, q3⟩ := chainB_ok hC _ _ _ hy (e.ev ρ).toNat r1 (by omega) (by omega)
          obtain ⟨_, v', p1, p2⟩ := h4 _ _ q1
          refine ⟨v', by simp [World.cell?, h1, p1], ?_⟩
          cases p2
          rw [← num_is q2 hC.bd q3]
          exact .bool _
        · cases hv
      · cases hv
    · cases hv
  · rename_i idx s' c0 el own hg
    obtain ⟨cs, fr, h1, h2, h3, _, h4⟩ := hr.obj i L _ hf hg
    split at hv
    · rename_i hs he
      have hs := Nat.eq_of_beq_eq_true hs
      have he := IE.eq_eq he
      subst hs he
      obtain ⟨v', p1, p2⟩ := h4 _ _ hv
      exact ⟨v', by simp [World.cell?, h1, p1], p2⟩
    · cases hv
  · rename_i s' c' k code m d n hg
    obtain ⟨cs, el, fr, h1, h4⟩ := hr.obj i L _ hf hg
    split at hv
    · rename_i hs hb
      cases hv
      have hs : Nat.beq s s' = true ∧ Nat.beq c c' = true := by simpa only [Bool.and_eq_true] using hs
      have hs1 := Nat.eq_of_beq_eq_true hs.1
      have hs2 := Nat.eq_of_beq_eq_true hs.2
      subst hs1 hs2
      have hb := bnd_ok hC hb
      obtain ⟨q1, q2, q3⟩ := h4 (e.ev ρ).toNat (by omega)
      refine ⟨.int k (rowGet (code.ev ρ) ((e.ev ρ).toNat * m + d : Nat)), by simp only [World.cell?, h1, q1]; rfl, ?_⟩
      have e1 : (mkWrap C.bd k (mkFn 0 code (mkAdd (mkMul e (.lit (.ofNat m))) (.lit (.ofNat d))) (.lit 0))).ev ρ = rowGet (code.ev ρ) ((e.ev ρ).toNat * m + d : Nat) := by
        rw [mkWrap_ev hC.bd, mkFn_ev, pos_ev h0]
        exact wrap_id k _ q2 q3
      rw [← e1]
      exact .int k _
    · cases hv
  · cases hv
def loadEN (C : Ctx) (h : T AObj) (i : Nat) (e : IE) (s : Nat) : Nat → Nat → Option (List AVal)
  | 0, _ => some []
  | n + 1, c =>
    match loadE1 C h i e s c with
    | none => none
    | some v =>
      match loadEN C h i e s n (c + 1) with
      | none => none
      | some l => some (v :: l)
theorem loadEN_ok {C : Ctx} {P : Program} {ρ : Env} (hC : C.Ok P ρ) {B : Nat → Prop} {W w : World} {f : Ren} {h : T AObj} (hr : HRel ρ B W f h w) {i : Nat} {L : Loc} (hf : f i = some L) {e : IE} {s : Nat} (h0 : 0 ≤ e.ev ρ) :
    ∀ (n c : Nat) (l : List AVal), loadEN C h i e s n c = some l → ∃ cs : List Value, LRel ρ f l cs.toArray ∧ cs.length = n ∧ ∀ j v', cs[j]? = some v' → w.cell? ⟨L.blk, L.base + ((e.ev ρ).toNat * s + c) + j, none⟩ = some v' := by
  intro n
  induction n with
  | zero => intro c l hl; simp [loadEN] at hl; subst hl; exact ⟨[], LRel.nil, rfl, by simp⟩
  | succ n ih =>
    intro c l hl
    simp only [loadEN] at hl
    split at hl
    · cases hl
    · rename_i v hv
      split at hl
      · cases hl
      · rename_i l' hl'
        cases hl
        obtain ⟨v', h1, h2⟩ := loadE1_ok hC hr hf h0 hv
        obtain ⟨cs, h3, h4, h5⟩ := ih _ _ hl'
        refine ⟨v' :: cs, LRel.cons h2 h3, by simp [h4], fun j u hj => ?_⟩
        cases j with
        | zero => simp at hj; subst hj; simpa using h1
        | succ j =>
          have := h5 j u (by simpa using hj)
          rw [show L.base + ((e.ev ρ).toNat * s + c) + (j + 1) = L.base + ((e.ev ρ).toNat * s + (c + 1)) + j by omega]
          exact this
def aLoadE0 (C : Ctx) (h : T AObj) (t : TypeId) : AVal → Option AVal
  | .ptrE i e s c =>
    match C.und t with
    | none => none
    | some d =>
      match aggB d with
      | true =>
        match C.size t with
        | none => none
        | some n =>
          match loadEN C h i e s n c with
          | some l => some (.agg l)
          | none => none
      | false => loadE1 C h i e s c
  | _ => none
theorem aLoadE0_ok {C : Ctx} {P : Program} {ρ : Env} (hC : C.Ok P ρ) {B : Nat → Prop} {W w : World} {f : Ren} {h : T AObj} (hr : HRel ρ B W f h w) {t : TypeId} {x : AVal} {x' : Value} {v : AVal} (hx : VRel ρ f x x') (hl : aLoadE0 C h t x = some v) :
    ∃ v', (Instr.loadAt t x').run P w = .ok v' w ∧ VRel ρ f v v' := by
  unfold aLoadE0 at hl
  split at hl
  · rename_i i e s c
    cases hx; rename_i L hf h0
    split at hl
    · cases hl
    · rename_i d hd
      have hu := Ctx.und_ok hC hd
      split at hl
      · rename_i ha
        split at hl
        · cases hl
        · rename_i n hn
          split at hl
          · rename_i l hg
            cases hl
            obtain ⟨cs, h1, h2, h3⟩ := loadEN_ok hC hr hf h0 n c l hg
            have := run_loadCells_at (P := P) h2 h3
            exact ⟨.agg cs.toArray, by simp only [Instr.loadAt, Instr.sureAddr, Sem.run_bind, Sem.run_pure, Result.andThen_ok, loadVar, run_isAgg hu, ha, if_true, Ctx.size_ok hC hn, this], .agg h1.1 h1.2⟩
          · cases hl
      · rename_i ha
        obtain ⟨v', h1, h2⟩ := loadE1_ok hC hr hf h0 hl
        exact ⟨v', by simp only [Instr.loadAt, Instr.sureAddr, Sem.run_bind, Sem.run_pure, Result.andThen_ok, loadVar, run_isAgg hu, ha, Bool.false_eq_true, if_false, run_load, h1], h2⟩
  · cases hl

/-- A place of a row that is known as a number. -/
def reE (h : T AObj) : AVal → AVal
  | .ptr (some (i, o)) =>
    match h.get i with
    | some (.arr ks _ _ _) => .ptrE i (.lit (.ofNat (Nat.div o ks.length))) ks.length (Nat.mod o ks.length)
    | _ => .ptr (some (i, o))
  | v => v
theorem reE_ok {ρ : Env} {f : Ren} {h : T AObj} {x : AVal} {x' : Value} (hx : VRel ρ f x x') : VRel ρ f (reE h x) x' := by
  unfold reE
  split
  · rename_i i o
    split
    · rename_i ks _ _ _ _
      cases hx with
      | ptr hf =>
        rename_i L
        have := VRel.ptrE (ρ := ρ) (f := f) (i := i) (s := ks.length) (c := Nat.mod o ks.length) (idx := .lit (.ofNat (Nat.div o ks.length))) hf (Int.natCast_nonneg _)
        have e : ((IE.lit (.ofNat (Nat.div o ks.length))).ev ρ).toNat * ks.length + Nat.mod o ks.length = o := by
          show o / ks.length * ks.length + o % ks.length = o
          rw [Nat.mul_comm]
          exact Nat.div_add_mod o ks.length
        rw [e] at this
        exact this
    · exact hx
  · exact hx
def aLoadE (C : Ctx) (h : T AObj) (t : TypeId) (x : AVal) : Option AVal := aLoadE0 C h t (reE h x)
theorem aLoadE_ok {C : Ctx} {P : Program} {ρ : Env} (hC : C.Ok P ρ) {B : Nat → Prop} {W w : World} {f : Ren} {h : T AObj} (hr : HRel ρ B W f h w) {t : TypeId} {x : AVal} {x' : Value} {v : AVal} (hx : VRel ρ f x x') (hl : aLoadE C h t x = some v) :
    ∃ v', (Instr.loadAt t x').run P w = .ok v' w ∧ VRel ρ f v v' := aLoadE0_ok hC hr (reE_ok hx) hl
/-! an element of a value -/
def chainL (C : Ctx) (k : IntKind) (e : IE) : List AVal → Nat → Option IE
  | [], _ => none
  | [.int k' x], _ =>
    match kindEq k k' with
    | true => some x
    | false => none
  | .int k' x :: l, j =>
    match kindEq k k', chainL C k e l (j + 1) with
    | true, some y => some (mkSel C.bd false e (.lit (.ofNat j)) x y)
    | _, _ => none
  | _ :: _, _ => none
theorem chainL_ok {C : Ctx} {P : Program} {ρ : Env} (hC : C.Ok P ρ) {k : IntKind} {e : IE} : ∀ (l : List AVal) (j : Nat) (y : IE), chainL C k e l j = some y → ∀ m : Nat, m < l.length → e.ev ρ = (j + m : Nat) →
    ∃ x, l[m]? = some (.int k x) ∧ y.ev ρ = x.ev ρ := by
  intro l
  induction l with
  | nil => intro j y h; simp [chainL] at h
  | cons a l ih =>
    intro j y h m hm he
    unfold chainL at h
    split at h
    · rename_i heq; cases heq
    · rename_i k' x heq
      cases heq
      have : m = 0 := by simp at hm; omega
      subst this
      split at h
      · rename_i hk
        have := kindEq_eq hk
        subst this
        cases h
        exact ⟨_, rfl, rfl⟩
      · cases h
    · rename_i k' x l' hne heq
      cases heq
      split at h
      · rename_i z hk hz
        have := kindEq_eq hk
        subst this
        cases h
        rw [mkSel_ev hC.bd]
        simp only [selI, Bool.false_eq_true, if_false, IE.ev, Int.ofNat_eq_natCast]
        cases m with
        | zero =>
          rw [if_pos (by simpa using he)]
          exact ⟨x, rfl, rfl⟩
        | succ m =>
          rw [if_neg (by omega)]
          obtain ⟨u, q1, q2⟩ := ih _ _ hz m (by simpa using hm) (by omega)
          exact ⟨u, by simpa using q1, q2⟩
      · cases h
    · cases h
def aIndexE (C : Ctx) (t : TypeId) (x ix : AVal) : Option AVal :=
  match ix with
  | .int _ e =>
    match C.und t, x with
    | some (.array len el), .agg cs =>
      match bnd C e (.lit (.ofNat len)), Nat.beq cs.length len, C.und el, C.size el with
      | true, true, some (.int k), some 1 =>
        match chainL C k e cs 0 with
        | some y => some (.int k y)
        | none => none
      | true, true, some .bool, some 1 =>
        match chainLB C e cs 0 with
        | some y => some (.bool (mkEq C.bd y (.lit 1)))
        | none => none
      | _, _, _, _ => none
    | some .string, .strS code len =>
      match bnd C e len with
      | true => some (.int .u8 (mkWrap C.bd .u8 (mkFn 0 code e (.lit 0))))
      | false => none
    | _, _ => none
  | _ => none
theorem aIndexE_ok {C : Ctx} {P : Program} {ρ : Env} (hC : C.Ok P ρ) {f : Ren} {t : TypeId} {x ix : AVal} {x' ix' : Value} {v : AVal} (hx : VRel ρ f x x') (hi : VRel ρ f ix ix') (h : aIndexE C t x ix = some v) (w : World) :
    ∃ v', (Instr.index t x' ix').run P w = .ok v' w ∧ VRel ρ f v v' := by
  unfold aIndexE at h
  split at h
  · rename_i k0 e
    cases hi
    split at h
    · rename_i len el cs hu
      have hu := Ctx.und_ok hC hu
      cases hx; rename_i a' h1 h2
      split at h
      · rename_i k hb hl hk hs
        have hb := bnd_ok hC hb
        have hl := Nat.eq_of_beq_eq_true hl
        have hk := Ctx.und_ok hC hk
        split at h
        · rename_i y hy
          cases h
          have hc : (0 : Int) ≤ e.ev ρ ∧ e.ev ρ < (len : Int) := hb
          obtain ⟨u, q1, q2⟩ := chainL_ok hC cs 0 y hy (e.ev ρ).toNat (by omega) (by omega)
          obtain ⟨u', q3, q4⟩ := LRel.get (⟨h1, h2⟩ : LRel ρ f cs a') q1
          refine ⟨u', ?_, ?_⟩
          · simp only [Instr.index, asIntOf, Sem.run_bind, run_underlying hu, Result.andThen_ok, Sem.run_pure, if_pos hc, Ctx.size_ok hC hs, Nat.mul_one, part, run_isAgg hk, aggB, Bool.false_eq_true, if_false, q3]
          · cases q4
            rw [← q2]
            exact .int k y
        · cases h
      · rename_i hb hl hk hs
        have hb := bnd_ok hC hb
        have hl := Nat.eq_of_beq_eq_true hl
        have hk := Ctx.und_ok hC hk
        split at h
        · rename_i y hy
          cases h
          have hc : (0 : Int) ≤ e.ev ρ ∧ e.ev ρ < (len : Int) := hb
          obtain ⟨u, z, q1, q2, q5⟩ := chainLB_ok hC cs 0 y hy (e.ev ρ).toNat (by omega) (by omega)
          obtain ⟨u', q3, q4⟩ := LRel.get (⟨h1, h2⟩ : LRel ρ f cs a') q1
          refine ⟨u', ?_, ?_⟩
          · simp only [Instr.index, asIntOf, Sem.run_bind, run_underlying hu, Result.andThen_ok, Sem.run_pure, if_pos hc, Ctx.size_ok hC hs, Nat.mul_one, part, run_isAgg hk, aggB, Bool.false_eq_true, if_false, q3]
          · cases q4
            rw [← num_is q2 hC.bd q5]
            exact .bool _
        · cases h
      · cases h
    · rename_i code len hu
      have hu := Ctx.und_ok hC hu
      cases hx; rename_i s hs hl
      split at h
      · rename_i hb
        have hb := bnd_ok hC hb
        cases h
        have hlt : (e.ev ρ).toNat < s.size := by omega
        have hd : s.data[(e.ev ρ).toNat]? = some s[(e.ev ρ).toNat] := by
          rw [Array.getElem?_eq_getElem hlt]
          rfl
        have hb8 := hs _ _ hd
        have hsome : s[(e.ev ρ).toNat]? = some s[(e.ev ρ).toNat] := by simp [hlt]
        refine ⟨.int .u8 s[(e.ev ρ).toNat].toNat, ?_, ?_⟩
        · simp only [Instr.index, asIntOf, Sem.run_bind, run_underlying hu, Result.andThen_ok, Sem.run_pure, if_pos hb.1, hsome]
        · have e1 : (mkWrap C.bd .u8 (mkFn 0 code e (.lit 0))).ev ρ = (s[(e.ev ρ).toNat].toNat : Int) := by
            rw [mkWrap_ev hC.bd, mkFn_ev]
            have : fnI ρ 0 (code.ev ρ) (e.ev ρ) ((IE.lit 0).ev ρ) = rowGet (code.ev ρ) (e.ev ρ) := rfl
            rw [this]
            have e2 : rowGet (code.ev ρ) (e.ev ρ) = (s[(e.ev ρ).toNat].toNat : Int) := by
              rw [← hb8, Int.toNat_of_nonneg hb.1]
            rw [e2]
            have := s[(e.ev ρ).toNat].toNat_lt
            exact wrap_id .u8 _ (by simp [kLo]) (by simp [kHi]; omega)
          rw [← e1]
          exact .int .u8 _
      · cases h
    · cases h
  · cases h

/-! lengths -/
def aLenE (C : Ctx) (t : TypeId) (x : AVal) : Option AVal :=
  match C.und t, x with
  | some .string, .strS _ len => some (.int .i64 len)
  | some (.slice _), .sliceS _ _ len _ _ => some (.int .i64 len)
  | _, _ => none
theorem aLenE_ok {C : Ctx} {P : Program} {ρ : Env} (hC : C.Ok P ρ) {w : World} {f : Ren} {t ty : TypeId} {x : AVal} {x' : Value} {v : AVal} (hx : VRel ρ f x x') (hl : aLenE C t x = some v) (ts : Array TypeId) (xs : Array Value) (h0 : ts[0]? = some t) (h1 : xs[0]? = some x') :
    ∃ v', (Builtin.len_ ts ty xs).run P w = .ok v' w ∧ VRel ρ f v v' := by
  unfold aLenE at hl
  unfold Builtin.len_
  simp only [h0, h1]
  split at hl
  · rename_i code len hu
    have hd := Ctx.und_ok hC hu
    cases hx; rename_i s h3 h2
    cases hl
    refine ⟨.int .i64 s.size, by simp only [Sem.run_bind, run_underlying hd, Result.andThen_ok, Sem.run_pure, goInt], ?_⟩
    rw [← h2]; exact .int _ len
  · rename_i e i st len s nn hu
    have hd := Ctx.und_ok hC hu
    cases hl
    cases hx with
    | sliceS hf h0 hl hc =>
      refine ⟨.int .i64 ((len.ev ρ).toNat : Int), by simp only [Sem.run_bind, run_underlying hd, Result.andThen_ok, Sem.run_pure, goInt], ?_⟩
      rw [Int.toNat_of_nonneg hl]
      exact .int _ len
    | sliceZ hl ha =>
      refine ⟨.int .i64 ((0 : Nat) : Int), by simp only [Sem.run_bind, run_underlying hd, Result.andThen_ok, Sem.run_pure, goInt], ?_⟩
      have : ((0 : Nat) : Int) = len.ev ρ := by rw [hl]; rfl
      rw [this]
      exact .int _ len
  · cases hl

/-! slice expressions -/
def asIE (d : IE) : Option (Option AVal) → Option IE
  | none => some d
  | some (some (.int _ e)) => some e
  | _ => none
def aSliceE (C : Ctx) (t : TypeId) (x : AVal) (lo hi mx : Option (Option AVal)) : Option AVal :=
  match C.und t, x, mx with
  | some (.slice el), .sliceS i st len s nn, none =>
    match asIE (.lit 0) lo, asIE len hi, C.size el with
    | some a, some b, some s' =>
      match Nat.beq s s', settle C.dec (mkLt C.bd a (.lit 0)), settle C.dec (mkLt C.bd b a), settle C.dec (mkLt C.bd len b) with
      | true, some false, some false, some false => some (.sliceS i (mkAdd st a) (mkSub b a) s nn)
      | _, _, _, _ => none
    | _, _, _ => none
  | _, _, _ => none
theorem asIE_ok {ρ : Env} {f : Ren} {d e : IE} {o : Option (Option AVal)} {o' : Option Value} (h : OptRel ρ f o o') (he : asIE d o = some e) : (o' = none ∧ e = d) ∨ ∃ k, o' = some (.int k (e.ev ρ)) := by
  unfold asIE at he
  split at he
  · cases he
    cases o' with
    | none => exact .inl ⟨rfl, rfl⟩
    | some v => cases h
  · cases he
    cases o' with
    | none => cases h
    | some v =>
      have h : VRel ρ f _ v := h
      cases h
      exact .inr ⟨_, rfl⟩
  · cases he
theorem run_sliceBoundI {P : Program} {w : World} {k : IntKind} {n : Int} {y : Nat} {c : BoundsCode} (h0 : 0 ≤ n) (h : n ≤ y) : (Instr.sliceBound (.int k n) y c).run P w = .ok n.toNat w := by
  simp only [Instr.sliceBound, asIntOf, Sem.run_bind, Sem.run_pure, Result.andThen_ok, if_pos (⟨h0, h⟩ : 0 ≤ n ∧ n ≤ (y : Int))]
theorem aSliceE_ok {C : Ctx} {P : Program} {ρ : Env} (hC : C.Ok P ρ) {f : Ren} {t : TypeId} {x : AVal} {x' : Value} {lo hi mx : Option (Option AVal)} {lo' hi' mx' : Option Value} {v : AVal} (hx : VRel ρ f x x')
    (h1 : OptRel ρ f lo lo') (h2 : OptRel ρ f hi hi') (h3 : OptRel ρ f mx mx') (h : aSliceE C t x lo hi mx = some v) (w : World) :
    ∃ v', (Instr.sliceAt t x' lo' hi' mx').run P w = .ok v' w ∧ VRel ρ f v v' := by
  unfold aSliceE at h
  split at h
  · rename_i el i st len s nn hu
    have hu := Ctx.und_ok hC hu
    have hmx : mx' = none := by
      cases mx' with
      | none => rfl
      | some v => cases h3
    subst hmx
    split at h
    · rename_i a b s' ha hb hs
      split at h
      · rename_i hss q1 q2 q3
        have hss := Nat.eq_of_beq_eq_true hss
        subst hss
        have q1 := settle_ok hC.dec _ _ q1
        have q2 := settle_ok hC.dec _ _ q2
        have q3 := settle_ok hC.dec _ _ q3
        rw [mkLt_ev hC.bd] at q1 q2 q3
        have q1 := of_decide_eq_false q1
        have q2 := of_decide_eq_false q2
        have q3 := of_decide_eq_false q3
        simp only [IE.ev] at q1
        cases h
        have main : ∀ (ad : Option Addr) (nn cc : Nat), len.ev ρ = nn → nn ≤ cc → (Instr.sliceAt t (.slice ad nn cc) lo' hi' none).run P w = .ok (.slice (if cc = (a.ev ρ).toNat then ad else ad.map (·.add ((a.ev ρ).toNat * s))) ((b.ev ρ).toNat - (a.ev ρ).toNat) (cc - (a.ev ρ).toNat)) w := by
          intro ad nn cc hnn hcc
          have hbb : ((match hi' with
              | some v => Instr.sliceBound v cc (if true then .sliceAcap else .sliceAlen)
              | none => pure nn) : Sem Nat).run P w = .ok (b.ev ρ).toNat w := by
            rcases asIE_ok h2 hb with ⟨rfl, rfl⟩ | ⟨k, rfl⟩
            · simp [hnn]
            · exact run_sliceBoundI (by omega) (by omega)
          have haa : ((match lo' with
              | some v => Instr.sliceBound v (b.ev ρ).toNat (if (none : Option Value).isSome then .slice3C else .sliceB)
              | none => pure 0) : Sem Nat).run P w = .ok (a.ev ρ).toNat w := by
            rcases asIE_ok h1 ha with ⟨rfl, rfl⟩ | ⟨k, rfl⟩
            · simp [IE.ev]
            · exact run_sliceBoundI (by omega) (by omega)
          have hbd : (Instr.sliceBounds true nn cc lo' hi' none).run P w = .ok ((a.ev ρ).toNat, (b.ev ρ).toNat, cc) w := by
            unfold Instr.sliceBounds
            cases hi' with
            | none =>
              cases lo' with
              | none =>
                simp only [Sem.run_bind, Sem.run_pure, Result.andThen_ok] at hbb haa ⊢
                simp only [Result.ok.injEq, and_true] at hbb haa
                rw [← hbb, ← haa]
              | some l =>
                simp only [Sem.run_bind, Sem.run_pure, Result.andThen_ok] at hbb haa ⊢
                simp only [Result.ok.injEq, and_true] at hbb
                rw [hbb]
                simp only [haa, Result.andThen_ok]
            | some u =>
              cases lo' with
              | none =>
                simp only [Sem.run_bind, Sem.run_pure, Result.andThen_ok] at hbb haa ⊢
                simp only [Result.ok.injEq, and_true] at haa
                simp only [hbb, Result.andThen_ok]
                rw [← haa]
              | some l =>
                simp only [Sem.run_bind, Sem.run_pure, Result.andThen_ok] at hbb haa ⊢
                simp only [hbb, Result.andThen_ok, haa]
          simp only [Instr.sliceAt, Instr.slice, Sem.run_bind, run_underlying hu, Result.andThen_ok, hbd, Ctx.size_ok hC hs, Sem.run_pure]
        have e1 : (mkAdd st a).ev ρ = st.ev ρ + a.ev ρ := mkAdd_ev ρ st a
        have e2 : (mkSub b a).ev ρ = b.ev ρ - a.ev ρ := mkSub_ev ρ b a
        cases hx with
        | sliceS hf h0 hl hc =>
          rename_i L c
          refine ⟨_, main _ _ c (by omega) hc, ?_⟩
          by_cases hca : c = (a.ev ρ).toNat
          · rw [if_pos hca]
            have : (b.ev ρ).toNat - (a.ev ρ).toNat = 0 := by omega
            rw [this]
            exact .sliceZ (by omega) (fun h => by cases h)
          · rw [if_neg hca]
            simp only [Option.map_some, addr_add]
            have e3 : L.base + (st.ev ρ).toNat * s + (a.ev ρ).toNat * s = L.base + ((mkAdd st a).ev ρ).toNat * s := by
              rw [e1, Int.toNat_add h0 (by omega), Nat.add_mul]
              omega
            have e4 : (b.ev ρ).toNat - (a.ev ρ).toNat = ((mkSub b a).ev ρ).toNat := by omega
            rw [e3, e4]
            exact .sliceS hf (by omega) (by omega) (by omega)
        | sliceZ hl hz =>
          rename_i ad c
          refine ⟨_, main _ 0 c (by omega) (Nat.zero_le _), ?_⟩
          have : (b.ev ρ).toNat - (a.ev ρ).toNat = 0 := by omega
          rw [this]
          refine .sliceZ (by omega) (fun hn => ?_)
          have ha0 : (a.ev ρ).toNat = 0 := by omega
          rw [ha0] at hn ⊢
          split at hn
          · exact ⟨by omega, (hz hn).2⟩
          · cases ad with
            | none => exact ⟨by simp [(hz rfl).1], (hz rfl).2⟩
            | some x => simp at hn
      · cases h
    · cases h
  · cases h
/-- The beginning of a growing slice. -/
def aSliceP (C : Ctx) (t : TypeId) (x : AVal) (lo hi mx : Option (Option AVal)) : Option AVal :=
  match C.und t, x, mx with
  | some (.slice el), .sliceA i len s, none =>
    match lo, asIE len hi, C.size el with
    | none, some b, some s' =>
      match Nat.beq s s', settle C.dec (mkLt C.bd b (.lit 0)), settle C.dec (mkLt C.bd len b) with
      | true, some false, some false => some (.sliceA i b s)
      | _, _, _ => none
    | _, _, _ => none
  | _, _, _ => none
theorem aSliceP_ok {C : Ctx} {P : Program} {ρ : Env} (hC : C.Ok P ρ) {f : Ren} {t : TypeId} {x : AVal} {x' : Value} {lo hi mx : Option (Option AVal)} {lo' hi' mx' : Option Value} {v : AVal} (hx : VRel ρ f x x')
    (h1 : OptRel ρ f lo lo') (h2 : OptRel ρ f hi hi') (h3 : OptRel ρ f mx mx') (h : aSliceP C t x lo hi mx = some v) (w : World) :
    ∃ v', (Instr.sliceAt t x' lo' hi' mx').run P w = .ok v' w ∧ VRel ρ f v v' := by
  unfold aSliceP at h
  split at h
  · rename_i el i len s hu
    have hu := Ctx.und_ok hC hu
    have hmx : mx' = none := by
      cases mx' with
      | none => rfl
      | some v => cases h3
    subst hmx
    split at h
    · rename_i b s' hb hs
      have hlo : lo' = none := by
        cases lo' with
        | none => rfl
        | some v => cases h1
      subst hlo
      split at h
      · rename_i hss q1 q2
        have hss := Nat.eq_of_beq_eq_true hss
        subst hss
        have q1 := settle_ok hC.dec _ _ q1
        have q2 := settle_ok hC.dec _ _ q2
        rw [mkLt_ev hC.bd] at q1 q2
        have q1 := of_decide_eq_false q1
        have q2 := of_decide_eq_false q2
        simp only [IE.ev] at q1
        cases h
        have main : ∀ (ad : Option Addr) (nn cc : Nat), len.ev ρ = nn → nn ≤ cc → (Instr.sliceAt t (.slice ad nn cc) none hi' none).run P w = .ok (.slice (if cc = 0 then ad else ad.map (·.add (0 * s))) (b.ev ρ).toNat cc) w := by
          intro ad nn cc hnn hcc
          have hbb : ((match hi' with
              | some v => Instr.sliceBound v cc (if true then .sliceAcap else .sliceAlen)
              | none => pure nn) : Sem Nat).run P w = .ok (b.ev ρ).toNat w := by
            rcases asIE_ok h2 hb with ⟨rfl, rfl⟩ | ⟨k, rfl⟩
            · simp [hnn]
            · exact run_sliceBoundI (by omega) (by omega)
          have hbd : (Instr.sliceBounds true nn cc none hi' none).run P w = .ok (0, (b.ev ρ).toNat, cc) w := by
            unfold Instr.sliceBounds
            cases hi' with
            | none =>
              simp only [Sem.run_bind, Sem.run_pure, Result.andThen_ok] at hbb ⊢
              simp only [Result.ok.injEq, and_true] at hbb
              rw [← hbb]
            | some u =>
              simp only [Sem.run_bind, Sem.run_pure, Result.andThen_ok] at hbb ⊢
              simp only [hbb, Result.andThen_ok]
          simp only [Instr.sliceAt, Instr.slice, Sem.run_bind, run_underlying hu, Result.andThen_ok, hbd, Ctx.size_ok hC hs, Sem.run_pure, Nat.sub_zero]
        cases hx with
        | sliceA hf h0 hc hz =>
          rename_i c L
          refine ⟨_, main _ _ c (by omega) hc, ?_⟩
          have e : (if c = 0 then some (⟨L.blk, L.base, none⟩ : Addr) else (some (⟨L.blk, L.base, none⟩ : Addr)).map (·.add (0 * s))) = some ⟨L.blk, L.base, none⟩ := by
            split
            · rfl
            · simp only [Option.map_some, addr_add, Nat.zero_mul, Nat.add_zero]
          rw [e]
          exact .sliceA hf (by omega) (by omega) hz
        | sliceN hl =>
          rename_i ad
          refine ⟨_, main ad 0 0 hl (Nat.le_refl _), ?_⟩
          have hb0 : b.ev ρ = 0 := by omega
          rw [if_pos rfl, hb0]
          exact .sliceN hb0
      · cases h
    · cases h
  · cases h
/-- The bounds of the symbols, with what is known of them. -/
def bdN (bd : Bd) (dec : Dec) : Bd := fun i =>
  match bd i with
  | some (lo, hi) =>
    match optMax (narrow (.var i) dec).1 lo, optMin (narrow (.var i) dec).2 hi with
    | some a, some b => some (a, b)
    | _, _ => some (lo, hi)
  | none => none
theorem bdN_ok {ρ : Env} {bd : Bd} {dec : Dec} (hρ : ρ.ok bd) (hd : dec.holds ρ) : ρ.ok (bdN bd dec) := by
  intro i lo hi h
  have hw := narrow_ok (ρ := ρ) (.var i) hd
  unfold bdN at h
  split at h
  · rename_i l u hb
    obtain ⟨h1, h2⟩ := hρ i _ _ hb
    split at h
    · rename_i a b ha hb2
      cases h
      exact ⟨optMax_ok hw.1 h1 _ ha, optMin_ok hw.2 h2 _ hb2⟩
    · cases h
      exact ⟨h1, h2⟩
  · cases h
/-- The one number that an expression can be. -/
def oneOf (C : Ctx) (e : IE) : Option Nat :=
  match rng (bdN C.bd C.dec) e with
  | some (.ofNat a, b) =>
    match intEq (.ofNat a) b with
    | true => some a
    | false => none
  | _ => none
theorem oneOf_ok {C : Ctx} {P : Program} {ρ : Env} (hC : C.Ok P ρ) {e : IE} {n : Nat} (h : oneOf C e = some n) : e.ev ρ = n := by
  unfold oneOf at h
  split at h
  · rename_i a b hr
    split at h
    · rename_i hab
      cases h
      have hab := intEq_eq hab
      obtain ⟨h1, h2⟩ := rng_ok (bdN_ok hC.bd hC.dec) _ _ _ hr
      rw [← hab] at h2
      have h1 : (n : Int) ≤ e.ev ρ := h1
      have h2 : e.ev ρ ≤ (n : Int) := h2
      omega
    · cases h
  · cases h
/-- A place that is known. -/
def fixP (C : Ctx) : AVal → AVal
  | .ptrE i e s c =>
    match oneOf C e with
    | some k => .ptr (some (i, k * s + c))
    | none => .ptrE i e s c
  | v => v
theorem fixP_ok {C : Ctx} {P : Program} {ρ : Env} (hC : C.Ok P ρ) {f : Ren} {v : AVal} {v' : Value} (h : VRel ρ f v v') : VRel ρ f (fixP C v) v' := by
  unfold fixP
  split
  · rename_i i e s c
    split
    · rename_i k hk
      have hk := oneOf_ok hC hk
      cases h with
      | ptrE hf h0 =>
        rw [hk, Int.toNat_natCast]
        exact .ptr hf
    · exact h
  · exact h
def aIndexAddrF (C : Ctx) (t : TypeId) (x ix : AVal) : Option AVal :=
  match aIndexAddrE C t x ix with
  | some v => some (fixP C v)
  | none => none
theorem aIndexAddrF_ok {C : Ctx} {P : Program} {ρ : Env} (hC : C.Ok P ρ) {f : Ren} {t : TypeId} {x ix : AVal} {x' ix' : Value} {v : AVal} (hx : VRel ρ f x x') (hi : VRel ρ f ix ix') (h : aIndexAddrF C t x ix = some v) (w : World) :
    ∃ v', (Instr.indexAt t x' ix').run P w = .ok v' w ∧ VRel ρ f v v' := by
  unfold aIndexAddrF at h
  split at h
  · rename_i v0 h0
    cases h
    obtain ⟨v', h1, h2⟩ := aIndexAddrE_ok hC hx hi h0 w
    exact ⟨v', h1, fixP_ok hC h2⟩
  · cases h
end
end Go.Sx
/- Strings of unknown length: joined, compared, cut; bytes as a string. No condition. -/
set_option linter.unusedSimpArgs false
set_option linter.unusedVariables false
namespace Go.Sx
open Go.RowKit (Below)
noncomputable section
/-! digits -/
theorem dig_rest (n j : Nat) : dig n (j + 1) = dig (n / 2 ^ 80) j := by
  unfold dig
  rw [Nat.div_div_eq_div_mul, ← Nat.pow_add, show 80 * (j + 1) = 80 + 80 * j by omega]
theorem mod_eq_of_dig : ∀ (n a b : Nat), (∀ j, j < n → dig a j = dig b j) → a % 2 ^ (80 * n) = b % 2 ^ (80 * n)
  | 0, a, b, _ => by simp [Nat.mod_one]
  | n + 1, a, b, h => by
    have ih := mod_eq_of_dig n (a / 2 ^ 80) (b / 2 ^ 80) fun j hj => by rw [← dig_rest, ← dig_rest]; exact h (j + 1) (by omega)
    have h0 : a % 2 ^ 80 = b % 2 ^ 80 := by
      have := h 0 (by omega)
      simpa [dig] using this
    have e : 80 * (n + 1) = 80 + 80 * n := by omega
    rw [e, Nat.pow_add, Nat.mod_mul, Nat.mod_mul, h0, ih]
theorem rowPut_inj {u v : Nat} (hu : u < 2 ^ 80) (hv : v < 2 ^ 80) (h : rowPut u = rowPut v) : u = v := by
  unfold rowPut at h
  split at h <;> split at h <;> omega
/-- Rows alike in n digits, cut. -/
theorem rowCut_eq {c d : Int} {n : Nat} (h : ∀ j, j < n → rowGet c j = rowGet d j) : rowCut c 0 n = rowCut d 0 n := by
  have e : ∀ x : Int, rowCut x 0 n = ((x.toNat % 2 ^ (80 * n) : Nat) : Int) := fun x => by
    have h1 : (rowCut x ((0 : Nat) : Int) ((n : Nat) : Int)).toNat = _ := rowCut_toNat x 0 n
    have h0 : (0 : Int) ≤ rowCut x ((0 : Nat) : Int) ((n : Nat) : Int) := by unfold rowCut; exact Int.natCast_nonneg _
    show rowCut x ((0 : Nat) : Int) ((n : Nat) : Int) = _
    rw [← Int.toNat_of_nonneg h0, h1]
    simp
  rw [e, e]
  congr 1
  refine mod_eq_of_dig n _ _ fun j hj => ?_
  have := h j hj
  rw [rowGet_dig, rowGet_dig] at this
  exact rowPut_inj (by unfold dig; exact Nat.mod_lt _ (by decide)) (by unfold dig; exact Nat.mod_lt _ (by decide)) this
theorem rowCut_get {c d : Int} {n : Nat} (h : rowCut c 0 n = rowCut d 0 n) (j : Nat) (hj : j < n) : rowGet c j = rowGet d j := by
  have a := rowGet_cut c 0 n j hj
  have b := rowGet_cut d 0 n j hj
  rw [show ((0 : Nat) : Int) = 0 from rfl] at a b
  rw [h, b] at a
  simpa using a.symm
/-! a string as a row -/
def sBuild : List IE → Nat → IE → IE
  | [], _, acc => acc
  | e :: l, j, acc => sBuild l (j + 1) (mkFn 1 acc (.lit (.ofNat j)) e)
def isByteI (v : Int) : Prop := 0 ≤ v ∧ v ≤ 255
theorem sBuild_get {ρ : Env} : ∀ (l : List IE) (j : Nat) (acc : IE), (∀ e ∈ l, isByteI (e.ev ρ)) → ∀ i : Nat, rowGet ((sBuild l j acc).ev ρ) i = (if i < j then rowGet (acc.ev ρ) i else match l[i - j]? with | some e => e.ev ρ | none => rowGet (acc.ev ρ) i)
  | [], j, acc, _, i => by simp [sBuild]
  | e :: l, j, acc, h, i => by
    have he := h e (by simp)
    rw [sBuild, sBuild_get l (j + 1) _ (fun x hx => h x (by simp [hx])) i]
    have hs : rowGet ((mkFn 1 acc (.lit (.ofNat j)) e).ev ρ) i = if i = j then e.ev ρ else rowGet (acc.ev ρ) i := by
      rw [mkFn_ev]
      show rowGet (rowSet (acc.ev ρ) ((j : Nat) : Int) (e.ev ρ)) ((i : Nat) : Int) = _
      exact rowGet_set_of _ _ j i (k := .u8) he.1 he.2
    by_cases h1 : i < j
    · rw [if_pos (by omega), if_pos h1, hs, if_neg (by omega)]
    · rw [if_neg h1]
      by_cases h2 : i = j
      · subst h2
        rw [if_pos (by omega), hs, if_pos rfl]
        simp
      · rw [if_neg (by omega), show i - j = (i - (j + 1)) + 1 by omega, List.getElem?_cons_succ, hs, if_neg h2]
/-- The string's row and length. -/
def toS : AVal → Option (IE × IE)
  | .strS c l => some (c, l)
  | .str l => some (sBuild l 0 (.lit 0), .lit (.ofNat l.length))
  | _ => none
def StrIs (ρ : Env) (c l : IE) (s : ByteArray) : Prop := l.ev ρ = s.size ∧ ∀ (j : Nat) (b : UInt8), s.data[j]? = some b → rowGet (c.ev ρ) j = b.toNat
theorem toS_ok {ρ : Env} {f : Ren} {x : AVal} {x' : Value} {c l : IE} (hx : VRel ρ f x x') (h : toS x = some (c, l)) : ∃ s, x' = .string s ∧ StrIs ρ c l s := by
  unfold toS at h
  split at h
  · cases h
    cases hx
    rename_i s hs hl
    exact ⟨s, rfl, hl, hs⟩
  · cases h
    cases hx
    rename_i m s hs
    have hb : ∀ e ∈ m, isByteI (e.ev ρ) := fun e he => by
      have : e.ev ρ ∈ m.map (·.ev ρ) := List.mem_map_of_mem he
      rw [← hs] at this
      obtain ⟨b, _, hb⟩ := List.mem_map.1 this
      have := b.toNat_lt
      unfold isByteI
      omega
    refine ⟨s, rfl, ?_, fun j b hj => ?_⟩
    · show ((m.length : Nat) : Int) = _
      rw [hs.size]
    · rw [sBuild_get m 0 _ hb j, if_neg (by omega)]
      have h2 : (m.map (·.ev ρ))[j]? = some (b.toNat : Int) := by
        rw [← hs, List.getElem?_map, Array.getElem?_toList, hj]
        rfl
      rw [List.getElem?_map] at h2
      rw [Nat.sub_zero]
      cases hm : m[j]? with
      | none => rw [hm] at h2; cases h2
      | some e => rw [hm] at h2; simpa using h2
  · cases h
theorem StrIs.val {ρ : Env} {f : Ren} {c l : IE} {s : ByteArray} (h : StrIs ρ c l s) : VRel ρ f (.strS c l) (.string s) := .strS h.1 h.2
theorem StrIs.len {ρ : Env} {c l : IE} {s : ByteArray} (h : StrIs ρ c l s) : (l.ev ρ).toNat = s.size := by have := h.1; omega
/-- A number that the expression does not exceed. -/
def topS (C : Ctx) (len : IE) : Option Nat :=
  match rng C.bd len with
  | some (_, h) =>
    match optMin (narrow len C.dec).2 h with
    | some (.ofNat n) => some n
    | _ => none
  | none =>
    match (narrow len C.dec).2 with
    | some (.ofNat n) => some n
    | _ => none
theorem topS_ok {C : Ctx} {P : Program} {ρ : Env} (hC : C.Ok P ρ) {len : IE} {n : Nat} (h : topS C len = some n) : len.ev ρ ≤ n := by
  have hw := narrow_ok (ρ := ρ) len hC.dec
  unfold topS at h
  split at h
  · rename_i lo hi hr
    have hb := (rng_ok hC.bd len lo hi hr).2
    split at h
    · rename_i m hm
      cases h
      exact optMin_ok hw.2 hb _ hm
    · cases h
  · split at h
    · rename_i m hm
      cases h
      exact hw.2 _ hm
    · cases h
/-- The first n digits alone. -/
def sCut (c n : IE) : IE := mkFn 2 c (.lit 0) n
/-- Is it a string whose bytes are listed, or none? -/
def strLen (C : Ctx) (a b : IE) : Option Bool := settle C.dec (mkEq C.bd a b)
def isNil : AVal → Bool
  | .str [] => true
  | _ => false
def aJoin (C : Ctx) (x y : AVal) : Option AVal :=
  match toS x, toS y with
  | some (a, l), some (b, m) =>
    match topS C l, topS C m with
    | some p, some q =>
      match Nat.ble (Nat.add p q) 4611686018427387904 with
      | true =>
        match isNil x, isNil y with
        | true, _ => some (.strS b m)
        | false, true => some (.strS a l)
        | false, false => some (.strS (mkFn 3 (sCut a l) l b) (mkAdd l m))
      | false => none
    | _, _ => none
  | _, _ => none
def aSameS (C : Ctx) (x y : AVal) : Option BE :=
  match toS x, toS y with
  | some (a, l), some (b, m) =>
    match strLen C l m with
    | some true => some (mkEq C.bd (sCut a l) (sCut b l))
    | some false => some (.lit false)
    | none => none
  | _, _ => none
def aBinS (C : Ctx) (op : BinOp) (x y : AVal) : Option AVal :=
  match op with
  | .add => aJoin C x y
  | .eql =>
    match aSameS C x y with
    | some b => some (.bool b)
    | none => none
  | .neq =>
    match aSameS C x y with
    | some b => some (.bool (mkNot b))
    | none => none
  | _ => none
theorem sCut_ev {ρ : Env} {c n : IE} (h : 0 ≤ n.ev ρ) : (sCut c n).ev ρ = rowCut (c.ev ρ) 0 ((n.ev ρ).toNat : Nat) := by
  unfold sCut
  rw [mkFn_ev]
  show rowCut (c.ev ρ) 0 (n.ev ρ) = _
  rw [Int.toNat_of_nonneg h]
theorem StrIs.eq_iff {ρ : Env} {a l b m : IE} {s t : ByteArray} (h : StrIs ρ a l s) (k : StrIs ρ b m t) (hl : l.ev ρ = m.ev ρ) : s = t ↔ (sCut a l).ev ρ = (sCut b l).ev ρ := by
  have hn : 0 ≤ l.ev ρ := by rw [h.1]; omega
  rw [sCut_ev hn, sCut_ev hn, h.len]
  have hst : s.size = t.size := by have := h.1; have := k.1; omega
  constructor
  · intro e
    subst e
    refine rowCut_eq fun j hj => ?_
    have hd : s.data[j]? = some s.data[j] := Array.getElem?_eq_getElem hj
    rw [h.2 j _ hd, k.2 j _ hd]
  · intro e
    have : s.data = t.data := by
      refine Array.ext hst fun i hi hj => ?_
      have e1 := h.2 i _ (Array.getElem?_eq_getElem hi)
      have e2 := k.2 i _ (Array.getElem?_eq_getElem hj)
      have := rowCut_get e i hi
      rw [e1, e2] at this
      exact UInt8.toNat_inj.1 (Int.ofNat_inj.1 this)
    cases s
    cases t
    simp at this
    rw [this]
theorem StrIs.append {ρ : Env} {a l b m : IE} {s t : ByteArray} (h : StrIs ρ a l s) (k : StrIs ρ b m t) : StrIs ρ (mkFn 3 (sCut a l) l b) (mkAdd l m) (s ++ t) := by
  have hn : 0 ≤ l.ev ρ := by rw [h.1]; omega
  refine ⟨?_, fun j u hj => ?_⟩
  · rw [mkAdd_ev, h.1, k.1]
    simp
  · rw [mkFn_ev]
    show rowGet (rowCat ((sCut a l).ev ρ) (l.ev ρ) (b.ev ρ)) j = _
    rw [sCut_ev hn, h.len, h.1]
    rw [ByteArray.data_append, Array.getElem?_append] at hj
    split at hj
    · rename_i hlt
      rw [rowGet_catLo _ _ s.size j hlt]
      have := rowGet_cut (a.ev ρ) 0 s.size j hlt
      rw [show ((0 : Nat) : Int) = 0 from rfl] at this
      rw [this]
      simpa using h.2 j u hj
    · rename_i hge
      have hlow := rowCut_lt (a.ev ρ) 0 s.size
      rw [show (0 : Int) = ((0 : Nat) : Int) from rfl, rowGet_catHi _ _ s.size j hlow (by have : s.data.size = s.size := rfl; omega)]
      exact k.2 _ u hj
theorem isNil_ok {ρ : Env} {x : AVal} {c l : IE} {s : ByteArray} (h : isNil x = true) (ht : toS x = some (c, l)) (hs : StrIs ρ c l s) : s = .empty := by
  unfold isNil at h
  split at h
  · cases ht
    have : s.size = 0 := by have := hs.1; simp [IE.ev] at this; omega
    cases s
    rename_i d
    have : d = #[] := Array.eq_empty_of_size_eq_zero this
    rw [this]; rfl
  · cases h
theorem aSameS_ok {C : Ctx} {P : Program} {ρ : Env} (hC : C.Ok P ρ) {f : Ren} {x y : AVal} {x' y' : Value} {b : BE} (hx : VRel ρ f x x') (hy : VRel ρ f y y') (h : aSameS C x y = some b) : ∃ s t, x' = .string s ∧ y' = .string t ∧ b.ev ρ = decide (s = t) := by
  unfold aSameS at h
  split at h
  · rename_i a l b m h1 h2
    obtain ⟨s, rfl, hs⟩ := toS_ok hx h1
    obtain ⟨t, rfl, ht⟩ := toS_ok hy h2
    refine ⟨s, t, rfl, rfl, ?_⟩
    unfold strLen at h
    split at h
    · rename_i hl
      cases h
      have hl := settle_ok hC.dec _ _ hl
      rw [mkEq_ev hC.bd] at hl
      rw [mkEq_ev hC.bd, Bool.eq_iff_iff, decide_eq_true_iff, decide_eq_true_iff]
      exact (hs.eq_iff ht (of_decide_eq_true hl)).symm
    · rename_i hl
      cases h
      have hl := settle_ok hC.dec _ _ hl
      rw [mkEq_ev hC.bd] at hl
      have hl := of_decide_eq_false hl
      show false = decide (s = t)
      symm
      refine decide_eq_false fun e => hl ?_
      rw [hs.1, ht.1, e]
    · cases h
  · cases h
theorem aBinS_ok {C : Ctx} {P : Program} {ρ : Env} (hC : C.Ok P ρ) {f : Ren} {op : BinOp} {t : TypeId} {x y : AVal} {x' y' : Value} {v : AVal} (X Y : Operand)
    (hx : VRel ρ f x x') (hy : VRel ρ f y y') (h : aBinS C op x y = some v) (w : World) :
    ∃ v', (do eqGuard op t X Y x' y'; binOp op t x' y').run P w = .ok v' w ∧ VRel ρ f v v' := by
  unfold aBinS at h
  split at h
  · unfold aJoin at h
    split at h
    · rename_i a l b m h1 h2
      obtain ⟨s, rfl, hs⟩ := toS_ok hx h1
      obtain ⟨u, rfl, hu⟩ := toS_ok hy h2
      split at h
      · rename_i p q hp hq
        have hp := topS_ok hC hp
        have hq := topS_ok hC hq
        split at h
        · rename_i hle
          have hle : p + q ≤ 4611686018427387904 := Nat.le_of_ble_eq_true hle
          have hsz : ¬ (((s.size + u.size : Nat) : Int) > IntKind.i64.max) := by
            have : IntKind.i64.max = 9223372036854775807 := by decide
            have e1 := hs.1
            have e2 := hu.1
            rw [this]; omega
          have g : (eqGuard .add t X Y (.string s) (.string u)).run P w = .ok () w := rfl
          refine ⟨.string (s ++ u), by simp only [Sem.run_bind, g, Result.andThen_ok, binOp, Op.stringOp, if_neg hsz, Sem.run_pure], ?_⟩
          split at h
          · rename_i hn
            cases h
            rw [isNil_ok hn h1 hs]
            have : ByteArray.empty ++ u = u := by simp
            rw [this]
            exact hu.val
          · rename_i hn
            cases h
            rw [isNil_ok hn h2 hu]
            have : s ++ ByteArray.empty = s := by simp
            rw [this]
            exact hs.val
          · cases h
            exact (hs.append hu).val
        · cases h
      · cases h
    · cases h
  · split at h
    · rename_i b hb
      cases h
      obtain ⟨s, u, rfl, rfl, e⟩ := aSameS_ok hC hx hy hb
      have g : (eqGuard .eql t X Y (.string s) (.string u)).run P w = .ok () w := rfl
      refine ⟨.bool (b.ev ρ), ?_, .bool b⟩
      simp only [Sem.run_bind, g, Result.andThen_ok, binOp, Op.stringOp, Sem.run_pure]
      congr 2
      rw [e, Bool.eq_iff_iff]
      simp [ByteArray.toList_eq, ByteArray.ext_iff, Array.toList_inj]
    · cases h
  · split at h
    · rename_i b hb
      cases h
      obtain ⟨s, u, rfl, rfl, e⟩ := aSameS_ok hC hx hy hb
      have g : (eqGuard .neq t X Y (.string s) (.string u)).run P w = .ok () w := rfl
      refine ⟨.bool (!(b.ev ρ)), ?_, ?_⟩
      · simp only [Sem.run_bind, g, Result.andThen_ok, binOp, Op.stringOp, Sem.run_pure]
        congr 3
        rw [e, Bool.eq_iff_iff]
        simp [ByteArray.toList_eq, ByteArray.ext_iff, Array.toList_inj]
      · have := mkNot_ev ρ b
        rw [← this]
        exact .bool _
    · cases h
  · cases h
/-! parts -/
def sPart (c a n : IE) : IE := match a with
  | .lit (.ofNat 0) => c
  | a => mkFn 2 c a n
def aSliceS (C : Ctx) (t : TypeId) (x : AVal) (lo hi mx : Option (Option AVal)) : Option AVal :=
  match C.und t, toS x, mx with
  | some .string, some (c, len), none =>
    match asIE (.lit 0) lo, asIE len hi with
    | some a, some b =>
      match settle C.dec (mkLt C.bd a (.lit 0)), settle C.dec (mkLt C.bd b a), settle C.dec (mkLt C.bd len b) with
      | some false, some false, some false => some (.strS (sPart c a (mkSub b a)) (mkSub b a))
      | _, _, _ => none
    | _, _ => none
  | _, _, _ => none
theorem aSliceS_ok {C : Ctx} {P : Program} {ρ : Env} (hC : C.Ok P ρ) {f : Ren} {t : TypeId} {x : AVal} {x' : Value} {lo hi mx : Option (Option AVal)} {lo' hi' mx' : Option Value} {v : AVal} (hx : VRel ρ f x x')
    (h1 : OptRel ρ f lo lo') (h2 : OptRel ρ f hi hi') (h3 : OptRel ρ f mx mx') (h : aSliceS C t x lo hi mx = some v) (w : World) :
    ∃ v', (Instr.sliceAt t x' lo' hi' mx').run P w = .ok v' w ∧ VRel ρ f v v' := by
  unfold aSliceS at h
  split at h
  · rename_i c len hu ht
    have hu := Ctx.und_ok hC hu
    obtain ⟨s, rfl, hs⟩ := toS_ok hx ht
    have hmx : mx' = none := by
      cases mx' with
      | none => rfl
      | some v => cases h3
    subst hmx
    split at h
    · rename_i a b ha hb
      split at h
      · rename_i q1 q2 q3
        have q1 := settle_ok hC.dec _ _ q1
        have q2 := settle_ok hC.dec _ _ q2
        have q3 := settle_ok hC.dec _ _ q3
        rw [mkLt_ev hC.bd] at q1 q2 q3
        have q1 := of_decide_eq_false q1
        have q2 := of_decide_eq_false q2
        have q3 := of_decide_eq_false q3
        simp only [IE.ev] at q1
        cases h
        have hl := hs.1
        have hbb : ((match hi' with
            | some v => Instr.sliceBound v s.size (if false then .sliceAcap else .sliceAlen)
            | none => pure s.size) : Sem Nat).run P w = .ok (b.ev ρ).toNat w := by
          rcases asIE_ok h2 hb with ⟨rfl, rfl⟩ | ⟨k, rfl⟩
          · simp [hl]
          · exact run_sliceBoundI (by omega) (by omega)
        have haa : ((match lo' with
            | some v => Instr.sliceBound v (b.ev ρ).toNat (if (none : Option Value).isSome then .slice3C else .sliceB)
            | none => pure 0) : Sem Nat).run P w = .ok (a.ev ρ).toNat w := by
          rcases asIE_ok h1 ha with ⟨rfl, rfl⟩ | ⟨k, rfl⟩
          · simp [IE.ev]
          · exact run_sliceBoundI (by omega) (by omega)
        have hbd : (Instr.sliceBounds false s.size s.size lo' hi' none).run P w = .ok ((a.ev ρ).toNat, (b.ev ρ).toNat, s.size) w := by
          unfold Instr.sliceBounds
          cases hi' with
          | none =>
            cases lo' with
            | none =>
              simp only [Sem.run_bind, Sem.run_pure, Result.andThen_ok] at hbb haa ⊢
              simp only [Result.ok.injEq, and_true] at hbb haa
              rw [← hbb, ← haa]
            | some l =>
              simp only [Sem.run_bind, Sem.run_pure, Result.andThen_ok] at hbb haa ⊢
              simp only [Result.ok.injEq, and_true] at hbb
              rw [hbb]
              simp only [haa, Result.andThen_ok]
          | some u =>
            cases lo' with
            | none =>
              simp only [Sem.run_bind, Sem.run_pure, Result.andThen_ok] at hbb haa ⊢
              simp only [Result.ok.injEq, and_true] at haa
              simp only [hbb, Result.andThen_ok]
              rw [← haa]
            | some l =>
              simp only [Sem.run_bind, Sem.run_pure, Result.andThen_ok] at hbb haa ⊢
              simp only [hbb, Result.andThen_ok, haa]
        have e2 : (mkSub b a).ev ρ = b.ev ρ - a.ev ρ := mkSub_ev ρ b a
        refine ⟨.string (s.extract (a.ev ρ).toNat (b.ev ρ).toNat), by simp only [Instr.sliceAt, Instr.slice, Sem.run_bind, run_underlying hu, Result.andThen_ok, Option.isSome_none, Bool.false_eq_true, if_false, hbd, Sem.run_pure], ?_⟩
        refine .strS ?_ fun j u hj => ?_
        · rw [e2]
          simp
          omega
        · have hj' : s.data[(a.ev ρ).toNat + j]? = some u ∧ j < (b.ev ρ).toNat - (a.ev ρ).toNat := by
            rw [ByteArray.data_extract, Array.getElem?_extract] at hj
            split at hj
            · rename_i hlt
              have : s.data.size = s.size := rfl
              exact ⟨hj, by omega⟩
            · cases hj
          have hc := hs.2 _ _ hj'.1
          unfold sPart
          split
          · have e0 : (IE.lit (.ofNat 0)).ev ρ = 0 := rfl
            rw [e0] at hc
            simpa using hc
          · rw [mkFn_ev]
            show rowGet (rowCut (c.ev ρ) (a.ev ρ) ((mkSub b a).ev ρ)) j = _
            have ea : a.ev ρ = ((a.ev ρ).toNat : Nat) := by omega
            have eb : (mkSub b a).ev ρ = (((b.ev ρ).toNat - (a.ev ρ).toNat : Nat) : Int) := by rw [e2]; omega
            rw [ea, eb, rowGet_cut _ _ _ _ hj'.2]
            exact hc
      · cases h
    · cases h
  · cases h
/-! bytes as a string -/
def isU8 : List IntKind → Bool
  | [k] => kindEq k .u8
  | _ => false
def aConvS (C : Ctx) (h : T AObj) (s d : TypeId) (x : AVal) : Option AVal :=
  match C.und s, C.und d, x with
  | some .string, some .string, .strS c l => some (.strS c l)
  | some (.slice e), some .string, .sliceS i st len sz _ =>
    match C.und e, h.get i with
    | some (.int .u8), some (.arr ks code n _) =>
      match Nat.beq sz 1 && isU8 ks, settle C.dec (mkLt C.bd st (.lit 0)), settle C.dec (mkLt C.bd len (.lit 0)), settle C.dec (mkLt C.bd n (mkAdd st len)) with
      | true, some false, some false, some false => some (.strS (sPart code st len) len)
      | _, _, _, _ => none
    | _, _ => none
  | _, _, _ => none
theorem sPart_get {ρ : Env} {c a n : IE} {k j : Nat} (ha : 0 ≤ a.ev ρ) (hn : n.ev ρ = k) (hj : j < k) : rowGet ((sPart c a n).ev ρ) j = rowGet (c.ev ρ) ((a.ev ρ).toNat + j : Nat) := by
  unfold sPart
  split
  · have e0 : (IE.lit (.ofNat 0)).ev ρ = 0 := rfl
    rw [e0]
    simp
  · rw [mkFn_ev]
    show rowGet (rowCut (c.ev ρ) (a.ev ρ) (n.ev ρ)) j = _
    have ea : a.ev ρ = ((a.ev ρ).toNat : Nat) := by omega
    rw [hn, ea, rowGet_cut _ _ _ _ hj]
    rfl
theorem aConvS_ok {C : Ctx} {P : Program} {ρ : Env} (hC : C.Ok P ρ) {B : Nat → Prop} {W w : World} {f : Ren} {h : T AObj} (hr : HRel ρ B W f h w) {s d : TypeId} {x : AVal} {x' : Value} {v : AVal} (hx : VRel ρ f x x') (hl : aConvS C h s d x = some v) :
    ∃ v', (convert s d x').run P w = .ok v' w ∧ VRel ρ f v v' := by
  unfold aConvS at hl
  split at hl
  · rename_i c l hs hd
    have hs := Ctx.und_ok hC hs
    have hd := Ctx.und_ok hC hd
    cases hx; rename_i st h1 h2
    cases hl
    exact ⟨.string st, by simp only [convert, Sem.run_bind, run_underlying hs, run_underlying hd, Result.andThen_ok, Sem.run_pure], .strS h2 h1⟩
  · rename_i e i st len sz nn hs hd
    have hs := Ctx.und_ok hC hs
    have hd := Ctx.und_ok hC hd
    split at hl
    · rename_i ks code n ow he hg
      have he := Ctx.und_ok hC he
      split at hl
      · rename_i hk q1 q2 q3
        obtain ⟨k1, k2⟩ := Bool.and_eq_true_iff.1 hk
        have k1 := Nat.eq_of_beq_eq_true k1
        subst k1
        have q1 := settle_ok hC.dec _ _ q1
        have q2 := settle_ok hC.dec _ _ q2
        have q3 := settle_ok hC.dec _ _ q3
        rw [mkLt_ev hC.bd] at q1 q2 q3
        have q1 := of_decide_eq_false q1
        have q2 := of_decide_eq_false q2
        have q3 := of_decide_eq_false q3
        simp only [IE.ev] at q1 q2
        rw [mkAdd_ev] at q3
        cases hl
        have hk8 : ks = [.u8] := by
          unfold isU8 at k2
          split at k2
          · rw [kindEq_eq k2]
          · cases k2
        subst hk8
        cases hx with
        | sliceS hf h0 hl2 hc =>
          rename_i L c'
          have ho := hr.obj i L _ hf hg
          obtain ⟨cs, el, fr, g1, g2, g3, g4⟩ := ho
          have cell : ∀ j : Nat, (j : Int) < n.ev ρ → cs[L.base + j]? = some (.int .u8 (rowGet (code.ev ρ) j)) ∧ 0 ≤ rowGet (code.ev ρ) j ∧ rowGet (code.ev ρ) j ≤ 255 := fun j hj => by
            have := g4 j 0 .u8 hj rfl
            simpa [kLo, kHi] using this
          let ns : List Int := (List.range (len.ev ρ).toNat).map fun j => rowGet (code.ev ρ) ((st.ev ρ).toNat + j : Nat)
          have hns : ns.length = (len.ev ρ).toNat := by simp [ns]
          have hget : ∀ (j : Nat) (v : Int), ns[j]? = some v → j < (len.ev ρ).toNat ∧ v = rowGet (code.ev ρ) ((st.ev ρ).toNat + j : Nat) := fun j v hv => by
            obtain ⟨hlt, hv⟩ := List.getElem?_eq_some_iff.1 hv
            rw [hns] at hlt
            refine ⟨hlt, ?_⟩
            rw [← hv]
            simp [ns]
          have byte : ∀ n ∈ ns, 0 ≤ n ∧ n ≤ 255 := fun n hn => by
            obtain ⟨j, hj⟩ := List.getElem?_of_mem hn
            obtain ⟨a, rfl⟩ := hget j n hj
            exact (cell _ (by omega)).2
          have hload : (loadCells ⟨L.blk, L.base + (st.ev ρ).toNat * 1, none⟩ (len.ev ρ).toNat).run P w = .ok (ns.map (Value.int .u8)).toArray w := by
            refine run_loadCells_at (by simp [hns]) fun j v' hj => ?_
            rw [List.getElem?_map, Option.map_eq_some_iff] at hj
            obtain ⟨m, hm, rfl⟩ := hj
            obtain ⟨a, rfl⟩ := hget j m hm
            unfold World.cell?
            simp only [g1, Option.isSome_none, Bool.false_eq_true, if_false]
            have := (cell ((st.ev ρ).toNat + j) (by omega)).1
            rw [← this]
            congr 1
            omega
          have hrun := run_bytesToString (P := P) w _ _ c' ns hload
          refine ⟨_, (run_convert_bytes_string w s d e _ _ _ hs he hd).trans hrun, ?_⟩
          have hdata : (ns.foldl (fun r n => r.push (UInt8.ofNat n.toNat)) ByteArray.empty).data.toList = ns.map (fun n => UInt8.ofNat n.toNat) := by
            rw [foldl_push]
            simp
          have hsz : (ns.foldl (fun r n => r.push (UInt8.ofNat n.toNat)) ByteArray.empty).size = ns.length := by
            have := congrArg List.length hdata
            simpa using this
          refine .strS (by rw [hsz, hns]; omega) fun j b hj => ?_
          have hj : (ns.map (fun n => UInt8.ofNat n.toNat))[j]? = some b := by
            rw [← hdata]
            simpa using hj
          rw [List.getElem?_map, Option.map_eq_some_iff] at hj
          obtain ⟨m, hm, rfl⟩ := hj
          obtain ⟨a, hv⟩ := hget j m hm
          have hb := byte m (List.mem_of_getElem? hm)
          rw [sPart_get (k := (len.ev ρ).toNat) (by omega) (by omega) a, ← hv]
          have e8 : (UInt8.ofNat m.toNat).toNat = m.toNat % 2 ^ 8 := UInt8.toNat_ofNat'
          rw [e8]
          omega
        | sliceZ hl0 ha =>
          rename_i a c'
          have hem : (Conv.bytesToString (.slice a 0 c')).run P w = .ok (.string .empty) w := by
            cases a with
            | none => simp [Conv.bytesToString]
            | some b =>
              refine (run_bytesToString w b 0 c' [] ?_).trans rfl
              simp [loadCells, loadCellsFrom]
          refine ⟨_, (run_convert_bytes_string w s d e _ _ _ hs he hd).trans hem, ?_⟩
          exact .strS (by rw [hl0]; rfl) fun j b hj => by simp at hj
      · cases hl
    · cases hl
  · cases hl
end
end Go.Sx
/- The operations that only compute or read, as one function. No condition. -/
set_option linter.unusedSimpArgs false
set_option linter.unusedVariables false
namespace Go.Sx
open Go.RowKit (Below)
noncomputable section

def evs (aev : Operand → Option AVal) : List Operand → Option (List AVal)
  | [] => some []
  | x :: l =>
    match aev x, evs aev l with
    | some v, some m => some (v :: m)
    | _, _ => none
theorem evs_ok {ρ : Env} {f : Ren} {aev : Operand → Option AVal} {ev : Operand → Value} (he : EvRel ρ f aev ev) : ∀ (l : List Operand) (m : List AVal), evs aev l = some m → LRel ρ f m (l.map ev).toArray := by
  intro l
  induction l with
  | nil => intro m h; simp [evs] at h; subst h; exact LRel.nil
  | cons x l ih =>
    intro m h
    simp only [evs] at h
    split at h
    · rename_i v m' hv hm
      cases h
      exact LRel.cons (he x v hv) (ih _ hm)
    · cases h
theorem evs_arr {ρ : Env} {f : Ren} {aev : Operand → Option AVal} {ev : Operand → Value} (he : EvRel ρ f aev ev) {a : Array Operand} {m : List AVal} (h : evs aev a.toList = some m) : LRel ρ f m (a.map ev) := by
  have := evs_ok he _ _ h
  have e : (a.toList.map ev).toArray = a.map ev := by apply Array.ext'; simp
  rw [e] at this
  exact this

def aLen (C : Ctx) (h : T AObj) (t : TypeId) (x : AVal) : Option AVal :=
  match C.und t, x with
  | some .string, .str l => some (.int .i64 (.lit (.ofNat l.length)))
  | some (.array n _), _ => some (.int .i64 (.lit (.ofNat n)))
  | some (.slice _), .slice _ n _ _ => some (.int .i64 (.lit (.ofNat n)))
  | some (.map _ _), m =>
    match mapEs h m with
    | some es => some (.int .i64 (.lit (.ofNat es.length)))
    | none => none
  | some (.pointer a), _ =>
    match C.und a with
    | some (.array n _) => some (.int .i64 (.lit (.ofNat n)))
    | _ => none
  | _, _ => none
theorem aLen_ok {C : Ctx} {P : Program} {ρ : Env} (hC : C.Ok P ρ) {B : Nat → Prop} {W w : World} {f : Ren} {h : T AObj} (hr : HRel ρ B W f h w) {t ty : TypeId} {x : AVal} {x' : Value} {v : AVal} (hx : VRel ρ f x x') (hl : aLen C h t x = some v) (ts : Array TypeId) (xs : Array Value) (h0 : ts[0]? = some t) (h1 : xs[0]? = some x') :
    ∃ v', (Builtin.len_ ts ty xs).run P w = .ok v' w ∧ VRel ρ f v v' := by
  unfold aLen at hl
  unfold Builtin.len_
  simp only [h0, h1]
  split at hl
  · rename_i l hu
    have hd := Ctx.und_ok hC hu
    cases hx; rename_i s hs
    cases hl
    refine ⟨.int .i64 s.size, by simp only [Sem.run_bind, run_underlying hd, Result.andThen_ok, Sem.run_pure, goInt], ?_⟩
    rw [hs.size]; exact .int _ (.lit _)
  · rename_i n e hu
    have hd := Ctx.und_ok hC hu
    cases hl
    exact ⟨.int .i64 n, by simp only [Sem.run_bind, run_underlying hd, Result.andThen_ok, Sem.run_pure, goInt], .int _ (.lit _)⟩
  · rename_i e a n c g hu
    have hd := Ctx.und_ok hC hu
    cases hl
    refine ⟨.int .i64 n, ?_, .int _ (.lit _)⟩
    cases hx <;> simp only [Sem.run_bind, run_underlying hd, Result.andThen_ok, Sem.run_pure, goInt]
  · rename_i kt et hu
    have hd := Ctx.und_ok hC hu
    split at hl
    · rename_i es hes
      cases hl
      obtain ⟨es', he, hm'⟩ := mapEs_ok (P := P) hr hx hes
      refine ⟨.int .i64 es.length, ?_, .int _ (.lit _)⟩
      rcases hm' with ⟨rfl, rfl⟩ | ⟨b, cl, rfl, hg⟩
      · have : es.length = 0 := by have := he.1; simpa using this.symm
        simp only [Sem.run_bind, run_underlying hd, Result.andThen_ok, Sem.run_pure, goInt, this]
        rfl
      · simp only [Sem.run_bind, run_underlying hd, Result.andThen_ok, Sem.run_pure, goInt, hg]
        have := he.1
        simp at this
        rw [this]
    · cases hl
  · rename_i a hu
    have hd := Ctx.und_ok hC hu
    split at hl
    · rename_i n e ha
      have hda := Ctx.und_ok hC ha
      cases hl
      refine ⟨.int .i64 n, ?_, .int _ (.lit _)⟩
      simp only [Sem.run_bind, run_underlying hd, run_underlying hda, Result.andThen_ok, Sem.run_pure, goInt]
    · cases hl
  · cases hl

def aMin2 (C : Ctx) (big : Bool) : AVal → AVal → Option AVal
  | .int k x, .int l y =>
    match settle C.dec (if big then mkLt C.bd x y else mkLt C.bd y x) with
    | some true => some (.int k y)
    | some false => some (.int k x)
    | none => some (.int k (if big then .sel true x y y x else .sel true y x y x))
  | _, _ => none
def aMinL (C : Ctx) (big : Bool) : AVal → List AVal → Option AVal
  | x, [] => some x
  | x, y :: l =>
    match aMin2 C big x y with
    | none => none
    | some z => aMinL C big z l
theorem aMin_ok {C : Ctx} {P : Program} {ρ : Env} (hC : C.Ok P ρ) {f : Ren} (big : Bool) (w : World) : ∀ (l : List AVal) (x : AVal) (x' : Value) (cs : List Value) (v : AVal), VRel ρ f x x' → LRel ρ f l cs.toArray → aMinL C big x l = some v →
    ∃ v', (cs.foldlM (if big then Builtin.max2 else Builtin.min2) x').run P w = .ok v' w ∧ VRel ρ f v v' := by
  intro l
  induction l with
  | nil =>
    intro x x' cs v hx hl h
    have : cs = [] := by have := hl.1; simpa using this
    subst this
    simp [aMinL] at h; subst h
    exact ⟨x', rfl, hx⟩
  | cons y l ih =>
    intro x x' cs v hx hl h
    cases cs with
    | nil => have := hl.1; simp at this
    | cons y' cs =>
      have hy : VRel ρ f y y' := hl.2 0 y y' (by simp) (by simp)
      have hl' : LRel ρ f l cs.toArray := ⟨by have := hl.1; simp at this ⊢; exact this, fun j a a' ha ha' => hl.2 (j + 1) a a' (by simpa using ha) (by simpa using ha')⟩
      simp only [aMinL] at h
      split at h
      · cases h
      · rename_i z hz
        unfold aMin2 at hz
        split at hz
        · rename_i k a k2 b
          cases hx; cases hy
          have step : ∃ z', ((if big then Builtin.max2 else Builtin.min2) (.int k (a.ev ρ)) (.int k2 (b.ev ρ))).run P w = .ok z' w ∧ VRel ρ f z z' := by
            cases big
            · simp only [Bool.false_eq_true, if_false] at hz ⊢
              split at hz
              · rename_i hs
                have h0 := settle_ok hC.dec _ _ hs
                rw [mkLt_ev hC.bd] at h0
                cases hz
                exact ⟨.int k (b.ev ρ), by simp only [Builtin.min2, if_pos (of_decide_eq_true h0), Sem.run_pure], .int k b⟩
              · rename_i hs
                have h0 := settle_ok hC.dec _ _ hs
                rw [mkLt_ev hC.bd] at h0
                cases hz
                exact ⟨.int k (a.ev ρ), by simp only [Builtin.min2, if_neg (of_decide_eq_false h0), Sem.run_pure], .int k a⟩
              · cases hz
                refine ⟨.int k ((IE.sel true b a b a).ev ρ), ?_, .int k _⟩
                simp only [Builtin.min2, Sem.run_pure]
                rfl
            · simp only [if_true] at hz ⊢
              split at hz
              · rename_i hs
                have h0 := settle_ok hC.dec _ _ hs
                rw [mkLt_ev hC.bd] at h0
                cases hz
                have : b.ev ρ > a.ev ρ := of_decide_eq_true h0
                exact ⟨.int k (b.ev ρ), by simp only [Builtin.max2, if_pos this, Sem.run_pure], .int k b⟩
              · rename_i hs
                have h0 := settle_ok hC.dec _ _ hs
                rw [mkLt_ev hC.bd] at h0
                cases hz
                have : ¬ b.ev ρ > a.ev ρ := of_decide_eq_false h0
                exact ⟨.int k (a.ev ρ), by simp only [Builtin.max2, if_neg this, Sem.run_pure], .int k a⟩
              · cases hz
                refine ⟨.int k ((IE.sel true a b b a).ev ρ), ?_, .int k _⟩
                simp only [Builtin.max2, Sem.run_pure]
                rfl
          obtain ⟨z', hz1, hz2⟩ := step
          obtain ⟨v', h1, h2⟩ := ih z z' cs v hz2 hl' h
          exact ⟨v', by simp only [List.foldlM_cons, Sem.run_bind, hz1, Result.andThen_ok]; exact h1, h2⟩
        · cases hz

def optEv (aev : Operand → Option AVal) : Option Operand → Option (Option AVal)
  | none => none
  | some x => some (aev x)
theorem optEv_ok {ρ : Env} {f : Ren} {aev : Operand → Option AVal} {ev : Operand → Value} (he : EvRel ρ f aev ev) (o : Option Operand) : OptRel ρ f (optEv aev o) (o.map ev) := by
  cases o with
  | none => trivial
  | some x =>
    show OptRel ρ f (some (aev x)) (some (ev x))
    cases h : aev x with
    | none => trivial
    | some v => exact he x v h

def orE (a b : Option AVal) : Option AVal :=
  match a with
  | some v => some v
  | none => b
theorem orE_ok {a b : Option AVal} {v : AVal} (h : orE a b = some v) : a = some v ∨ b = some v := by
  unfold orE at h
  split at h
  · exact .inl h
  · exact .inr h
def rdPick (C : Ctx) (h : T AObj) (aev : Operand → Option AVal) (c : Operand) (a : Operand) (b : Operand) : Option AVal :=
  match aev c with
  | some (.bool t) =>
    match settle C.dec t with
    | some true => aev a
    | some false => aev b
    | none => none
  | _ => none
def rdLoad (C : Ctx) (h : T AObj) (aev : Operand → Option AVal) (t : TypeId) (x : Operand) : Option AVal :=
  match aev x with
  | some v => orE (aLoad C h t v) (aLoadE C h t v)
  | none => none
/-- A method value whose receiver is surely there. -/
def seesNone (C : Ctx) (t : TypeId) (v : AVal) (name : String) : Bool :=
  match C.ty.get t with
  | none => false
  | some i =>
    match i.methods.find? (·.name == name) with
    | none => false
    | some m =>
      match m.path.toList with
      | [] =>
        match m.func with
        | some (_, true) => true
        | some (_, false) =>
          match v, C.und t with
          | .ptr (some _), some (.pointer _) => true
          | _, _ => false
        | none => false
      | [s] =>
        match s.deref, v with
        | true, .ptr (some _) =>
          match m.func, C.und s.struct with
          | some (_, true), some (.struct fields) =>
            match fields[s.index]? with
            | some _ => true
            | none => false
          | _, _ => false
        | _, _ => false
      | _ => false
theorem seesNone_ok {C : Ctx} {P : Program} {ρ : Env} (hC : C.Ok P ρ) {f : Ren} {t : TypeId} {v : AVal} {v' : Value} {name : String} (hx : VRel ρ f v v') (h : seesNone C t v name = true) (n : Nat) (w : World) : (nilAhead (n + 1) t v' name).run P w = .ok (some false) w := by
  unfold seesNone at h
  split at h
  · cases h
  · rename_i i hi
    have hti := hC.ty _ _ hi
    split at h
    · cases h
    · rename_i m hm
      split at h
      · rename_i hp
        split at h
        · rename_i g hf
          simp only [nilAhead, typeInfo, Sem.run_bind, run_program, Result.andThen_ok, hti, Sem.run_pure, hm, hp, followBlind, hf]
        · rename_i g hf
          split at h
          · rename_i a e hu
            have hu := Ctx.und_ok hC hu
            obtain ⟨p, rfl⟩ : ∃ p, v' = .pointer (some p) := by cases hx; exact ⟨_, rfl⟩
            simp only [nilAhead, typeInfo, Sem.run_bind, run_program, Result.andThen_ok, hti, Sem.run_pure, hm, hp, followBlind, hf, run_underlying hu]
          · cases h
        · cases h
      · rename_i s hp
        split at h
        · rename_i a hd
          split at h
          · rename_i g fields hf hu
            have hu := Ctx.und_ok hC hu
            split at h
            · rename_i fd hfd
              obtain ⟨p, rfl⟩ : ∃ p, v' = .pointer (some p) := by cases hx; exact ⟨_, rfl⟩
              simp only [nilAhead, typeInfo, Sem.run_bind, run_program, Result.andThen_ok, hti, Sem.run_pure, hm, hp, followBlind, hf, run_underlying hu, hfd, hd]
            · cases h
          · cases h
        · cases h
      · cases h
def rdNilcheck (C : Ctx) (h : T AObj) (aev : Operand → Option AVal) (x : Operand) : Option AVal :=
  match aev x with
  | some (.ptr (some a)) => some (.ptr (some a))
  | some (.ptrE i e s c) => some (.ptrE i e s c)
  | some (.iface t v) => some (.iface t v)
  | some (.func (.func g) a b) => some (.func (.func g) a b)
  | some (.func (.method name) (.iface t v :: a) b) =>
    match seesNone C t v name with
    | true => some (.func (.method name) (.iface t v :: a) b)
    | false => none
  | _ => none
def rdBinop (C : Ctx) (h : T AObj) (aev : Operand → Option AVal) (op : BinOp) (t : TypeId) (x : Operand) (y : Operand) : Option AVal :=
  match aev x, aev y with
  | some a, some b => orE (aBin C (isC x || isC y) op t a b) (aBinS C op a b)
  | _, _ => none
def rdUnop (C : Ctx) (h : T AObj) (aev : Operand → Option AVal) (op : UnOp) (x : Operand) : Option AVal :=
  match aev x with
  | some a => aUn C op a
  | none => none
/-- A long slice, as one whose bounds are expressions. -/
def AVal.long : AVal → Option AVal
  | .slice (some (i, o)) n c _ =>
    match Nat.ble 256 n && Nat.ble n c with
    | true => some (.sliceS i (.lit (.ofNat o)) (.lit (.ofNat n)) 1 false)
    | false => none
  | _ => none
theorem VRel.long {ρ : Env} {f : Ren} {v u : AVal} {v' : Value} (h : VRel ρ f v v') (hl : v.long = some u) : VRel ρ f u v' := by
  unfold AVal.long at hl
  split at hl
  · rename_i i o n c g
    split at hl
    · rename_i hb
      obtain ⟨h1, h2⟩ := Bool.and_eq_true_iff.1 hb
      have h1 := Nat.le_of_ble_eq_true h1
      have h2 := Nat.le_of_ble_eq_true h2
      cases hl
      have key : ∀ (L : Loc) (c' : Nat), f i = some L → n ≤ c' → VRel ρ f (.sliceS i (.lit (.ofNat o)) (.lit (.ofNat n)) 1 false) (.slice (some ⟨L.blk, L.base + o, none⟩) n c') := fun L c' hh hc => by
        have := VRel.sliceS (ρ := ρ) (f := f) (i := i) (s := 1) (st := .lit (.ofNat o)) (len := .lit (.ofNat n)) (nn := false) (c := c') hh (Int.natCast_nonneg o) (Int.natCast_nonneg n) hc
        have e : L.base + ((IE.lit (.ofNat o)).ev ρ).toNat * 1 = L.base + o := by show L.base + o * 1 = _; rw [Nat.mul_one]
        rw [e] at this
        exact this
      cases h with
      | slice hh => exact key _ _ hh h2
      | sliceG hh q1 q2 q3 => exact key _ _ hh (by omega)
      | sliceE hh q1 q2 => omega
    · cases hl
  · cases hl
def longS (C : Ctx) (h : T AObj) (s d : TypeId) (a : AVal) : Option AVal :=
  match a.long with
  | some b => aConvS C h s d b
  | none => none
def rdConvert (C : Ctx) (h : T AObj) (aev : Operand → Option AVal) (s : TypeId) (d : TypeId) (x : Operand) : Option AVal :=
  match aev x with
  | some a => orE (longS C h s d a) (orE (aConv C h s d a) (aConvS C h s d a.soft))
  | none => none
def rdMakeinterface (C : Ctx) (h : T AObj) (aev : Operand → Option AVal) (t : TypeId) (x : Operand) : Option AVal :=
  match aev x, C.und t with
  | some a, some d =>
    match d with
    | .interface _ => none
    | _ => some (.iface t a)
  | _, _ => none
def rdMakefunc (C : Ctx) (h : T AObj) (aev : Operand → Option AVal) (fn : Fn) (first : Array Operand) (capt : Array Operand) : Option AVal :=
  match evs aev first.toList, evs aev capt.toList with
  | some a, some b => some (.func fn a b)
  | _, _ => none
def rdSlice (C : Ctx) (h : T AObj) (aev : Operand → Option AVal) (t : TypeId) (x : Operand) (lo : Option Operand) (hi : Option Operand) (mx : Option Operand) : Option AVal :=
  match aev x with
  | some a => orE (aSlice C t a (optEv aev lo) (optEv aev hi) (optEv aev mx)) (orE (aSliceP C t a (optEv aev lo) (optEv aev hi) (optEv aev mx)) (orE (aSliceE C t a.soft (optEv aev lo) (optEv aev hi) (optEv aev mx)) (aSliceS C t a (optEv aev lo) (optEv aev hi) (optEv aev mx))))
  | none => none
def rdFieldaddr (C : Ctx) (h : T AObj) (aev : Operand → Option AVal) (t : TypeId) (x : Operand) (n : Nat) : Option AVal :=
  match aev x with
  | some a => orE (aFieldAddr C t a n) (aFieldAddrE C t a n)
  | none => none
def rdField (C : Ctx) (h : T AObj) (aev : Operand → Option AVal) (t : TypeId) (x : Operand) (n : Nat) : Option AVal :=
  match aev x with
  | some a => aField C t a n
  | none => none
def rdIndexaddr (C : Ctx) (h : T AObj) (aev : Operand → Option AVal) (t : TypeId) (x : Operand) (i : Operand) : Option AVal :=
  match aev x, aev i with
  | some a, some b => orE (aIndexAddr C t a b) (aIndexAddrF C t a.soft b)
  | _, _ => none
def rdIndex (C : Ctx) (h : T AObj) (aev : Operand → Option AVal) (t : TypeId) (x : Operand) (i : Operand) : Option AVal :=
  match aev x, aev i with
  | some a, some b => orE (aIndex C t a b) (aIndexE C t a b)
  | _, _ => none
def rdLookup (C : Ctx) (h : T AObj) (aev : Operand → Option AVal) (t : TypeId) (m : Operand) (k : Operand) (ok : Bool) : Option AVal :=
  match aev m, aev k with
  | some a, some b => aLookup C h t a b ok
  | _, _ => none
def rdExtract (C : Ctx) (h : T AObj) (aev : Operand → Option AVal) (x : Operand) (i : Nat) : Option AVal :=
  match aev x with
  | some (.tuple vs) => vs[i]?
  | _ => none
def rdC17 (C : Ctx) (h : T AObj) (aev : Operand → Option AVal) (args : Array Operand) (ts : Array TypeId) : Option AVal :=
  match args.toList, ts[0]? with
  | [x], some t =>
    match aev x with
    | some v => orE (aLen C h t v) (aLenE C t v.soft)
    | none => none
  | _, _ => none
def rdC18 (C : Ctx) (h : T AObj) (aev : Operand → Option AVal) (args : Array Operand) : Option AVal :=
  match evs aev args.toList with
  | some (x :: l) => aMinL C false x l
  | _ => none
def rdC19 (C : Ctx) (h : T AObj) (aev : Operand → Option AVal) (args : Array Operand) : Option AVal :=
  match evs aev args.toList with
  | some (x :: l) => aMinL C true x l
  | _ => none
def rdNext (C : Ctx) (h : T AObj) (aev : Operand → Option AVal) (x : Operand) (str : Bool) : Option AVal :=
  match aev x, str with
  | some (.ptr (some (i, 0))), false =>
    match h.get i with
    | some .it0 => some (.tuple [.bool (.lit false)])
    | _ => none
  | _, _ => none
def aRead (C : Ctx) (h : T AObj) (aev : Operand → Option AVal) : Op → Option AVal
  | .move x => aev x
  | .assign x => aev x
  | .pick c a b => rdPick C h aev c a b
  | .load t x => rdLoad C h aev t x
  | .nilCheck x => rdNilcheck C h aev x
  | .binOp op t x y _ => rdBinop C h aev op t x y
  | .unOp op _ x => rdUnop C h aev op x
  | .convert s d x => rdConvert C h aev s d x
  | .makeInterface t x => rdMakeinterface C h aev t x
  | .makeFunc fn first capt => rdMakefunc C h aev fn first capt
  | .slice t x lo hi mx => rdSlice C h aev t x lo hi mx
  | .fieldAddr t x n => rdFieldaddr C h aev t x n
  | .field t x n => rdField C h aev t x n
  | .indexAddr t x i => rdIndexaddr C h aev t x i
  | .index t x i => rdIndex C h aev t x i
  | .lookup t m k ok => rdLookup C h aev t m k ok
  | .next x str => rdNext C h aev x str
  | .extract x i => rdExtract C h aev x i
  | .call { callee := .builtin .len, args := args, argTypes := ts } => rdC17 C h aev args ts
  | .call { callee := .builtin .min, args := args, argTypes := _ } => rdC18 C h aev args
  | .call { callee := .builtin .max, args := args, argTypes := _ } => rdC19 C h aev args
  | _ => none

theorem VRel.bool_inv {ρ : Env} {f : Ren} {b : BE} {v : Value} (h : VRel ρ f (.bool b) v) : v = .bool (b.ev ρ) := by cases h; rfl

theorem aRead_ok {C : Ctx} {P : Program} {ρ : Env} (hC : C.Ok P ρ) {B : Nat → Prop} {W w : World} {f : Ren} {h : T AObj} (hr : HRel ρ B W f h w) {aev : Operand → Option AVal} {ev : Operand → Value} (he : EvRel ρ f aev ev) {o : Oper} {v : AVal} (hv : aRead C h aev o.op = some v) :
    ∃ v', (execOp ev o).run P w = .ok (.value v') w ∧ VRel ρ f v v' := by
  obtain ⟨dst, op, type, pos, after, guard⟩ := o
  have lift : ∀ {s : Sem Value} {v : AVal}, (∃ v', s.run P w = .ok v' w ∧ VRel ρ f v v') → ∃ v', (do pure (.value (← s)) : Sem Next).run P w = .ok (.value v') w ∧ VRel ρ f v v' := by
    intro s v ⟨v', h1, h2⟩
    exact ⟨v', by simp only [Sem.run_bind, h1, Result.andThen_ok, Sem.run_pure], h2⟩
  unfold aRead at hv
  simp only at hv
  split at hv
  all_goals try unfold rdPick at hv
  all_goals try unfold rdLoad at hv
  all_goals try unfold rdNilcheck at hv
  all_goals try unfold rdBinop at hv
  all_goals try unfold rdUnop at hv
  all_goals try unfold rdConvert at hv
  all_goals try unfold rdMakeinterface at hv
  all_goals try unfold rdMakefunc at hv
  all_goals try unfold rdSlice at hv
  all_goals try unfold rdFieldaddr at hv
  all_goals try unfold rdField at hv
  all_goals try unfold rdIndexaddr at hv
  all_goals try unfold rdIndex at hv
  all_goals try unfold rdLookup at hv
  all_goals try unfold rdExtract at hv
  all_goals try unfold rdNext at hv
  all_goals try unfold rdC17 at hv
  all_goals try unfold rdC18 at hv
  all_goals try unfold rdC19 at hv
  case h_1 => exact ⟨_, rfl, he _ _ hv⟩
  case h_2 => exact ⟨_, rfl, he _ _ hv⟩
  case h_3 c a b =>
    split at hv
    · rename_i t ht
      have hc := (he _ _ ht).bool_inv
      split at hv
      · rename_i hs
        have hb := settle_ok hC.dec _ _ hs
        exact ⟨ev a, by simp only [execOp, hc, hb, Sem.run_bind, asBool, Sem.run_pure, Result.andThen_ok, if_true], he _ _ hv⟩
      · rename_i hs
        have hb := settle_ok hC.dec _ _ hs
        exact ⟨ev b, by simp only [execOp, hc, hb, Sem.run_bind, asBool, Sem.run_pure, Result.andThen_ok, Bool.false_eq_true, if_false], he _ _ hv⟩
      · cases hv
    · cases hv
  case h_4 t x =>
    split at hv
    · rename_i a ha
      rcases orE_ok hv with hv | hv
      · exact lift (aLoad_ok hC hr (he _ _ ha) hv)
      · exact lift (aLoadE_ok hC hr (he _ _ ha) hv)
    · cases hv
  case h_5 x =>
    have hx : ∀ a, aev x = some a → VRel ρ f a (ev x) := he x
    split at hv
    · rename_i a ha
      cases hv
      have := hx _ ha
      refine ⟨ev x, ?_, this⟩
      simp only [execOp]
      generalize ev x = x' at this
      cases this; rfl
    · rename_i i e s c ha
      cases hv
      have := hx _ ha
      refine ⟨ev x, ?_, this⟩
      simp only [execOp]
      generalize ev x = x' at this
      cases this; rfl
    · rename_i t a ha
      cases hv
      have := hx _ ha
      refine ⟨ev x, ?_, this⟩
      simp only [execOp]
      generalize ev x = x' at this
      cases this; rfl
    · rename_i g a b ha
      cases hv
      have := hx _ ha
      refine ⟨ev x, ?_, this⟩
      simp only [execOp]
      generalize ev x = x' at this
      cases this; rfl
    · rename_i name t v a b ha
      split at hv
      · rename_i hs
        cases hv
        have := hx _ ha
        refine ⟨ev x, ?_, this⟩
        simp only [execOp]
        generalize ev x = x' at this
        cases this
        rename_i a' b' h1 h2 h3 h4
        have hsz : 0 < a'.size := by rw [h1]; simp
        have h0 : a'[0]? = some a'[0] := Array.getElem?_eq_getElem hsz
        have hv0 := h2 0 (.iface t v) a'[0] rfl h0
        generalize a'[0] = y at h0 hv0
        cases hv0
        rename_i v' hv'
        have hn : ∀ n, (nilAhead (n + 1) t v' name).run P w = .ok (some false) w := fun n => seesNone_ok hC hv' hs n w
        have hn2 := hn (P.types.size + 99)
        simp only [h0, Sem.run_bind, run_program, Result.andThen_ok]
        rw [show P.types.size + Made.depth = P.types.size + 99 + 1 from rfl, hn2]
        rfl
      · cases hv
    · cases hv
  case h_6 op t x y yt =>
    split at hv
    · rename_i a b ha hb
      rcases orE_ok hv with hv | hv
      · exact lift (aBin_ok hC x y (he _ _ ha) (he _ _ hb) hv w)
      · exact lift (aBinS_ok hC x y (he _ _ ha) (he _ _ hb) hv w)
    · cases hv
  case h_7 op t x =>
    split at hv
    · rename_i a ha; exact lift (aUn_ok hC (he _ _ ha) hv w)
    · cases hv
  case h_8 s d x =>
    split at hv
    · rename_i a ha
      rcases orE_ok hv with hv | hv
      · unfold longS at hv
        split at hv
        · rename_i b hb
          exact lift (aConvS_ok hC hr ((he _ _ ha).long hb) hv)
        · cases hv
      rcases orE_ok hv with hv | hv
      · exact lift (aConv_ok hC hr (he _ _ ha) hv)
      · exact lift (aConvS_ok hC hr (he _ _ ha).soft hv)
    · cases hv
  case h_9 t x =>
    split at hv
    · rename_i a d ha hu
      have hd := Ctx.und_ok hC hu
      split at hv
      · cases hv
      · rename_i hni
        cases hv
        refine lift ⟨.iface t (ev x), ?_, .iface (he _ _ ha)⟩
        simp only [Instr.makeInterface, Sem.run_bind, run_underlying hd, Result.andThen_ok]
        cases d <;> first | rfl | exact absurd rfl (hni _)
    · cases hv
  case h_10 fn first capt =>
    split at hv
    · rename_i a b ha hb
      cases hv
      have h1 := evs_arr he ha
      have h2 := evs_arr he hb
      exact lift ⟨.func fn (first.map ev) (capt.map ev), rfl, .func h1.1 h2.1 h1.2 h2.2⟩
    · cases hv
  case h_11 t x lo hi mx =>
    split at hv
    · rename_i a ha
      rcases orE_ok hv with hv | hv
      · exact lift (aSlice_ok hC (he _ _ ha) (optEv_ok he lo) (optEv_ok he hi) (optEv_ok he mx) hv w)
      rcases orE_ok hv with hv | hv
      · exact lift (aSliceP_ok hC (he _ _ ha) (optEv_ok he lo) (optEv_ok he hi) (optEv_ok he mx) hv w)
      rcases orE_ok hv with hv | hv
      · exact lift (aSliceE_ok hC (he _ _ ha).soft (optEv_ok he lo) (optEv_ok he hi) (optEv_ok he mx) hv w)
      · exact lift (aSliceS_ok hC (he _ _ ha) (optEv_ok he lo) (optEv_ok he hi) (optEv_ok he mx) hv w)
    · cases hv
  case h_12 t x n =>
    split at hv
    · rename_i a ha
      rcases orE_ok hv with hv | hv
      · exact lift (aFieldAddr_ok hC (he _ _ ha) hv w)
      · exact lift (aFieldAddrE_ok hC (he _ _ ha) hv w)
    · cases hv
  case h_13 t x n =>
    split at hv
    · rename_i a ha; exact lift (aField_ok hC (he _ _ ha) hv w)
    · cases hv
  case h_14 t x i =>
    split at hv
    · rename_i a b ha hb
      rcases orE_ok hv with hv | hv
      · exact lift (aIndexAddr_ok hC (he _ _ ha) (he _ _ hb) hv w)
      · exact lift (aIndexAddrF_ok hC (he _ _ ha).soft (he _ _ hb) hv w)
    · cases hv
  case h_15 t x i =>
    split at hv
    · rename_i a b ha hb
      rcases orE_ok hv with hv | hv
      · exact lift (aIndex_ok hC (he _ _ ha) (he _ _ hb) hv w)
      · exact lift (aIndexE_ok hC (he _ _ ha) (he _ _ hb) hv w)
    · cases hv
  case h_16 t m k ok =>
    split at hv
    · rename_i a b ha hb; exact lift (aLookup_ok hC hr (he _ _ ha) (he _ _ hb) hv)
    · cases hv
  case h_17 x str =>
    split at hv
    · rename_i i ha
      split at hv
      · rename_i hi
        cases hv
        have hx := he _ _ ha
        simp only [execOp]
        refine lift ?_
        generalize ev x = x' at hx
        cases hx
        rename_i L hL
        obtain ⟨h0, a, s, t, h1⟩ := hr.obj i L _ hL hi
        refine ⟨.tuple #[.bool false], ?_, .tuple (a' := #[.bool false]) rfl (fun j u u' hu hu' => ?_)⟩
        · simp only [Instr.next, h0, Nat.add_zero, Sem.run_bind, getObj, Sem.run, h1, Result.andThen_ok]
          rfl
        · cases j with
          | zero => simp at hu hu'; subst hu; subst hu'; exact .bool (.lit false)
          | succ j => simp at hu
      · cases hv
    · cases hv
  case h_18 x i =>
    split at hv
    · rename_i vs ha
      have hx := he _ _ ha
      simp only [execOp]
      refine lift ?_
      generalize ev x = x' at hx
      cases hx; rename_i a' h1 h2
      obtain ⟨v', p, q⟩ := LRel.get (l := vs) (a := a') ⟨h1, h2⟩ hv
      exact ⟨v', by simp only [Instr.extract, p, Sem.run_pure], q⟩
    · cases hv
  case h_19 args ts =>
    split at hv
    · rename_i x t hargs ht
      split at hv
      · rename_i a ha
        have hxs : (args.map ev)[0]? = some (ev x) := by
          have : args = #[x] := by apply Array.ext'; simpa using hargs
          subst this; simp
        have hl : ∃ v', (Builtin.len_ ts type (args.map ev)).run P w = .ok v' w ∧ VRel ρ f v v' := by
          rcases orE_ok hv with hv | hv
          · exact aLen_ok hC hr (ty := type) (he _ _ ha) hv ts (args.map ev) ht hxs
          · exact aLenE_ok hC (ty := type) (he _ _ ha).soft hv ts (args.map ev) ht hxs
        obtain ⟨v', p, q⟩ := hl
        exact ⟨v', by simp only [execOp, resolve, Sem.run_bind, Sem.run_pure, Result.andThen_ok, invoke, builtin, p], q⟩
      · cases hv
    · cases hv
  case h_20 args ts =>
    split at hv
    · rename_i x l hargs
      have hl := evs_ok he _ _ hargs
      cases hxs : args.toList.map ev with
      | nil => rw [hxs] at hl; have := hl.1; simp at this
      | cons x' cs =>
        rw [hxs] at hl
        have hx : VRel ρ f x x' := hl.2 0 x x' (by simp) (by simp)
        have hl' : LRel ρ f l cs.toArray := ⟨by have := hl.1; simp at this ⊢; exact this, fun j a a' ha ha' => hl.2 (j + 1) a a' (by simpa using ha) (by simpa using ha')⟩
        obtain ⟨v', p, q⟩ := aMin_ok hC false w l x x' cs v hx hl' hv
        refine ⟨v', ?_, q⟩
        have e : (args.map ev).toList = x' :: cs := by rw [← hxs]; simp
        simp only [execOp, resolve, Sem.run_bind, Sem.run_pure, Result.andThen_ok, invoke, builtin, Builtin.min_, e]
        simp only [Bool.false_eq_true, if_false] at p
        rw [p]; rfl
    · cases hv
  case h_21 args ts =>
    split at hv
    · rename_i x l hargs
      have hl := evs_ok he _ _ hargs
      cases hxs : args.toList.map ev with
      | nil => rw [hxs] at hl; have := hl.1; simp at this
      | cons x' cs =>
        rw [hxs] at hl
        have hx : VRel ρ f x x' := hl.2 0 x x' (by simp) (by simp)
        have hl' : LRel ρ f l cs.toArray := ⟨by have := hl.1; simp at this ⊢; exact this, fun j a a' ha ha' => hl.2 (j + 1) a a' (by simpa using ha) (by simpa using ha')⟩
        obtain ⟨v', p, q⟩ := aMin_ok hC true w l x x' cs v hx hl' hv
        refine ⟨v', ?_, q⟩
        have e : (args.map ev).toList = x' :: cs := by rw [← hxs]; simp
        simp only [execOp, resolve, Sem.run_bind, Sem.run_pure, Result.andThen_ok, invoke, builtin, Builtin.max_, e]
        simp only [if_true] at p
        rw [p]; rfl
    · cases hv
  case h_22 => cases hv
end
end Go.Sx
/- Operations that make a block. No condition. -/
set_option linter.unusedSimpArgs false
set_option linter.unusedVariables false
namespace Go.Sx
open Go.RowKit (Below)
noncomputable section

/-- A list as the cells of a block. -/
def cellsOf (l : List AVal) : T AVal := treeOf l 0 .nil
theorem cellsOf_ok {l : List AVal} {j : Nat} {v : AVal} (h : (cellsOf l).get j = some v) : l[j]? = some v := by
  rcases treeOf_ok _ _ _ _ _ h with ⟨_, h⟩ | h
  · simpa using h
  · (rw [T.get_nil] at h; cases h)

/-- A new block: what it does to the relation. -/
theorem HRel.newG {ρ : Env} {B : Nat → Prop} {W w w' : World} {f : Ren} {h h' : T AObj} (hr : HRel ρ B W f h w) {i : Nat} {L : Loc} {o : AObj} (hf : f i = none) {O : Obj} (hw : w'.heap = w.heap.push O) (hb : w'.os = w.os ∧ w'.tape = w.tape ∧ w'.output = w.output)
    (hL : L.blk = w.heap.size) (ho : ORel ρ (f.put i L) B w' L o) (hone : ∀ b, o.foot ρ w' L b → b = L.blk) (hh : ∀ j x, h'.get j = some x → (j = i ∧ x = o) ∨ (j ≠ i ∧ h.get j = some x)) : HRel ρ B W (f.put i L) h' w' := by
  have old : ∀ k, k < w.heap.size → w'.heap[k]? = w.heap[k]? := fun k hk => by rw [hw, Array.getElem?_push, if_neg (by omega)]
  have hB := hr.bsize
  have hs := hr.below.size
  have hsz : w.heap.size ≤ w'.heap.size := by rw [hw]; simp
  have keep := fun j M ok hj hg => (hr.obj j M ok hj hg).of_foot hsz (fun b hb => old b ((hr.obj j M ok hj hg).foot_lt hb))
  refine ⟨hr.below.trans ⟨hb.1, hb.2.1, hb.2.2, hsz, fun k hk => old k (by have := hB k hk; omega)⟩, hr.bsize, ?_, ?_, ?_⟩
  · intro j M e
    by_cases hj : j = i
    · subst hj; rw [Ren.put_same] at e; cases e; rw [hw, hL]; simp
    · rw [Ren.put_other f L hj] at e
      have := hr.lt j M e
      omega
  · intro a b La Lb oa ob ha hb hga hgb hab hown x hx hx'
    have lt : ∀ j M ok, f j = some M → h.get j = some ok → ok.foot ρ w' M x → x < w.heap.size := fun j M ok hj hg hf => (hr.obj j M ok hj hg).foot_lt ((keep j M ok hj hg).2 x hf)
    rcases hh _ _ hga with ⟨ea, eo⟩ | ⟨hai, hga⟩
    · subst eo
      rw [ea, Ren.put_same] at ha; cases ha
      have := hone x hx
      rcases hh _ _ hgb with ⟨eb, _⟩ | ⟨hbi, hgb⟩
      · exact hab (ea.trans eb.symm)
      · rw [Ren.put_other f L hbi] at hb
        have := lt b Lb ob hb hgb hx'
        omega
    · rw [Ren.put_other f L hai] at ha
      rcases hh _ _ hgb with ⟨eb, eo⟩ | ⟨hbi, hgb⟩
      · subst eo
        rw [eb, Ren.put_same] at hb; cases hb
        have := hone x hx'
        have := lt a La oa ha hga hx
        omega
      · rw [Ren.put_other f L hbi] at hb
        exact hr.apart a b La Lb oa ob ha hb hga hgb hab hown x ((keep a La oa ha hga).2 x hx) ((keep b Lb ob hb hgb).2 x hx')
  · intro j M ok hj hg
    rcases hh _ _ hg with ⟨rfl, rfl⟩ | ⟨hji, hg⟩
    · rw [Ren.put_same] at hj; cases hj; exact ho
    · rw [Ren.put_other f L hji] at hj
      exact (keep j M ok hj hg).1.mono (Ren.le_put L hf)

/-- The step of an operation that makes a block. -/
structure NewStep (P : Program) (ρ : Env) (B : Nat → Prop) (f : Ren) (i : Nat) (w : World) (o : AObj) (v : AVal) (s : Sem Next) : Prop where
  step : ∃ w' L O v', s.run P w = .ok (.value v') w' ∧ w'.heap = w.heap.push O ∧ (w'.os = w.os ∧ w'.tape = w.tape ∧ w'.output = w.output) ∧ L.blk = w.heap.size ∧ ORel ρ (f.put i L) B w' L o ∧ VRel ρ (f.put i L) v v' ∧ ∀ b, o.foot ρ w' L b → b = L.blk

theorem ORel.row {ρ : Env} {f : Ren} {B : Nat → Prop} {w : World} {L : Loc} {l : List AVal} {cs : Array Value} {e : TypeId} (hB : ¬ B L.blk) (hw : w.heap[L.blk]? = some (.cells cs e)) (hL : L.base = 0 ∧ L.sz = cs.size) (hl : LRel ρ f l cs) :
    ORel ρ f B w L (.cells (cellsOf l) e true l.length) := by
  refine ⟨cs, (0, 0), hw, hL.2.symm, fun _ => ⟨hB, fun j _ => by simp⟩, fun j v hj => ?_⟩
  obtain ⟨v', h1, h2⟩ := hl.get (cellsOf_ok hj)
  exact ⟨(List.getElem?_eq_some_iff.1 (cellsOf_ok hj)).1, v', by rw [hL.1, Nat.zero_add]; exact h1, h2⟩

/-! long rows of numbers -/
def litRow (k0 : IntKind) : List AVal → Option (List Int)
  | [] => some []
  | .int k (.lit n) :: l =>
    match kindEq k k0 && (intLe (kLo k0) n && intLe n (kHi k0)) with
    | true =>
      match litRow k0 l with
      | some r => some (n :: r)
      | none => none
    | false => none
  | _ :: _ => none
theorem litRow_ok {k0 : IntKind} : ∀ {l : List AVal} {r : List Int}, litRow k0 l = some r → r.length = l.length ∧ ∀ (j : Nat) (v : AVal), l[j]? = some v → ∃ n, r[j]? = some n ∧ v = .int k0 (.lit n) ∧ kLo k0 ≤ n ∧ n ≤ kHi k0 := by
  intro l
  induction l with
  | nil => intro r h; cases h; exact ⟨rfl, fun j v hj => by simp at hj⟩
  | cons x l ih =>
    intro r h
    unfold litRow at h
    split at h
    · rename_i h0; cases h0
    · rename_i k n l' h0
      cases h0
      split at h
      · rename_i hk
        split at h
        · rename_i r' hr
          cases h
          obtain ⟨h1, h2⟩ := ih hr
          simp only [Bool.and_eq_true, intLe_iff, decide_eq_true_eq] at hk
          have hkk := kindEq_eq hk.1
          subst hkk
          refine ⟨by simp [h1], fun j v hj => ?_⟩
          cases j with
          | zero =>
            have hj : some (AVal.int k (.lit n)) = some v := by simpa using hj
            cases hj
            exact ⟨n, rfl, rfl, hk.2.1, hk.2.2⟩
          | succ j => exact h2 j v (by simpa using hj)
        · cases h
      · cases h
    · cases h
def objOf (l : List AVal) (e : TypeId) : AObj :=
  match Nat.ble 256 l.length with
  | false => .cells (cellsOf l) e true l.length
  | true =>
    match l with
    | .int k (.lit n) :: l' =>
      match litRow k (.int k (.lit n) :: l') with
      | some r => .arr [k] (.lit (.ofNat (rowOf r))) (.lit (.ofNat r.length)) true
      | none => .cells (cellsOf (.int k (.lit n) :: l')) e true (List.length (.int k (.lit n) :: l'))
    | l => .cells (cellsOf l) e true l.length
theorem run_newRow {P : Program} (w : World) (e : TypeId) (cs : Array Value) : (newRow e cs).run P w = .ok ⟨w.heap.size, 0, none⟩ { w with heap := w.heap.push (.cells cs e) } := by
  simp only [newRow, Sem.run_bind, run_newObj, Result.andThen_ok, Sem.run_pure]

/-- A row of cells: a new block. -/
theorem NewStep.row {P : Program} {ρ : Env} {B : Nat → Prop} {f : Ren} {i : Nat} {w : World} {l : List AVal} {cs : Array Value} {e : TypeId} {v : AVal} {s : Sem Next} {v' : Value} (hB : ¬ B w.heap.size) (hf : f i = none) (hl : LRel ρ f l cs)
    (hs : s.run P w = .ok (.value v') { w with heap := w.heap.push (.cells cs e) }) (hv : ∀ L : Loc, L.blk = w.heap.size → L.base = 0 → VRel ρ (f.put i L) v v') :
    NewStep P ρ B f i w (.cells (cellsOf l) e true l.length) v s :=
  ⟨_, ⟨w.heap.size, 0, cs.size⟩, _, v', hs, rfl, ⟨rfl, rfl, rfl⟩, rfl, ORel.row hB (by simp) ⟨rfl, rfl⟩ (hl.mono (Ren.le_put _ hf)), hv _ rfl rfl, fun _ h => h⟩

theorem ORel.rowO {ρ : Env} {f : Ren} {B : Nat → Prop} {w : World} {L : Loc} {l : List AVal} {cs : Array Value} {e : TypeId} (hB : ¬ B L.blk) (hw : w.heap[L.blk]? = some (.cells cs e)) (hL : L.base = 0 ∧ L.sz = cs.size) (hl : LRel ρ f l cs) :
    ORel ρ f B w L (objOf l e) := by
  have base := ORel.row hB hw hL hl
  unfold objOf
  split
  · exact base
  · split
    · rename_i k n l' _
      split
      · rename_i r hr
        obtain ⟨h1, h2⟩ := litRow_ok hr
        refine ⟨cs, e, (0, 0), hw, hL.2.symm, fun _ => ⟨hB, fun j _ => by simp⟩, fun j c k' hj hk => ?_⟩
        have hc : c = 0 := by
          have := (List.getElem?_eq_some_iff.1 hk).1
          simpa using this
        subst hc
        have hk : some k = some k' := hk
        cases hk
        have hj : (j : Int) < (r.length : Nat) := hj
        have hjl : j < r.length := by omega
        have hjl2 : j < (AVal.int k (.lit n) :: l').length := by rw [← h1]; exact hjl
        obtain ⟨v', q1, q2⟩ := hl.get (List.getElem?_eq_getElem hjl2)
        obtain ⟨m, m1, m2, m3, m4⟩ := h2 j _ (List.getElem?_eq_getElem hjl2)
        rw [m2] at q2
        cases q2
        have hin : inRow m := by
          unfold inRow
          cases k <;> simp only [kLo, kHi] at m3 m4 <;> omega
        have e1 : rowGet ((rowOf r : Nat) : Int) j = m := rowGet_of r j m m1 hin
        show cs[L.base + (j * 1 + 0)]? = some (.int k (rowGet ((rowOf r : Nat) : Int) ((j * 1 + 0 : Nat) : Int))) ∧ kLo k ≤ rowGet ((rowOf r : Nat) : Int) ((j * 1 + 0 : Nat) : Int) ∧ rowGet ((rowOf r : Nat) : Int) ((j * 1 + 0 : Nat) : Int) ≤ kHi k
        rw [Nat.mul_one, Nat.add_zero, e1, hL.1, Nat.zero_add]
        exact ⟨q1, m3, m4⟩
      · exact base
    · exact base
theorem objOf_foot {ρ : Env} {w : World} {L : Loc} {l : List AVal} {e : TypeId} : ∀ b, (objOf l e).foot ρ w L b → b = L.blk := by
  intro b h
  unfold objOf at h
  split at h
  · exact h
  · split at h
    · split at h
      · exact h
      · exact h
    · exact h
theorem NewStep.rowO {P : Program} {ρ : Env} {B : Nat → Prop} {f : Ren} {i : Nat} {w : World} {l : List AVal} {cs : Array Value} {e : TypeId} {v : AVal} {s : Sem Next} {v' : Value} (hB : ¬ B w.heap.size) (hf : f i = none) (hl : LRel ρ f l cs)
    (hs : s.run P w = .ok (.value v') { w with heap := w.heap.push (.cells cs e) }) (hv : ∀ L : Loc, L.blk = w.heap.size → L.base = 0 → VRel ρ (f.put i L) v v') :
    NewStep P ρ B f i w (objOf l e) v s :=
  ⟨_, ⟨w.heap.size, 0, cs.size⟩, _, v', hs, rfl, ⟨rfl, rfl, rfl⟩, rfl, ORel.rowO hB (by simp) ⟨rfl, rfl⟩ (hl.mono (Ren.le_put _ hf)), hv _ rfl rfl, objOf_foot⟩

/-! literals of aggregates -/
def splice (cells : List AVal) (off : Nat) (vs : List AVal) : List AVal := cells.take off ++ (vs ++ cells.drop (off + vs.length))
def aFill (place : Nat → Option (Nat × Nat)) : List AVal → List (Nat × AVal) → Option (List AVal)
  | cells, [] => some cells
  | cells, (i, v) :: rest =>
    match place i with
    | none => none
    | some (off, size) =>
      match Nat.beq v.cells.length size, Nat.ble (off + v.cells.length) cells.length with
      | true, true => aFill place (splice cells off v.cells) rest
      | _, _ => none
theorem foldl_set (off : Nat) : ∀ (l : List Value) (k : Nat) (cs : Array Value) (j : Nat), off + k + l.length ≤ cs.size →
    ((l.zipIdx k).foldl (fun cs (p : Value × Nat) => cs.setIfInBounds (off + p.2) p.1) cs)[j]? = if off + k ≤ j ∧ j < off + k + l.length then l[j - (off + k)]? else cs[j]? := by
  intro l
  induction l with
  | nil =>
    intro k cs j h
    rw [if_neg (by simp only [List.length_nil]; omega)]
    simp
  | cons v l ih =>
    intro k cs j h
    simp only [List.length_cons] at h
    rw [List.zipIdx_cons, List.foldl_cons, ih (k + 1) _ j (by simp; omega)]
    simp only [List.length_cons]
    by_cases hj : j = off + k
    · subst hj
      rw [if_neg (by omega), if_pos (by omega)]
      simp [show off + k < cs.size by omega]
    · by_cases hj2 : off + (k + 1) ≤ j ∧ j < off + (k + 1) + l.length
      · rw [if_pos hj2, if_pos (by omega), show j - (off + k) = (j - (off + (k + 1))) + 1 by omega]
        simp
      · rw [if_neg hj2, if_neg (by omega), Array.getElem?_setIfInBounds_ne (by omega)]
theorem foldl_set_size (off : Nat) : ∀ (l : List Value) (k : Nat) (cs : Array Value), ((l.zipIdx k).foldl (fun cs (p : Value × Nat) => cs.setIfInBounds (off + p.2) p.1) cs).size = cs.size := by
  intro l
  induction l with
  | nil => intro k cs; simp
  | cons v l ih => intro k cs; rw [List.zipIdx_cons, List.foldl_cons, ih]; simp
theorem splice_get (cells vs : List AVal) (off j : Nat) (h : off + vs.length ≤ cells.length) : (splice cells off vs)[j]? = if off ≤ j ∧ j < off + vs.length then vs[j - off]? else cells[j]? := by
  unfold splice
  have h1 : (cells.take off).length = off := by simp; omega
  by_cases hj : j < off
  · rw [if_neg (by omega), List.getElem?_append_left (by omega), List.getElem?_take, if_pos hj]
  · rw [List.getElem?_append_right (by omega), h1]
    by_cases hj2 : j < off + vs.length
    · rw [if_pos (by omega), List.getElem?_append_left (by omega)]
    · rw [if_neg (by omega), List.getElem?_append_right (by omega), List.getElem?_drop]
      congr 1; omega
theorem splice_length (cells vs : List AVal) (off : Nat) (h : off + vs.length ≤ cells.length) : (splice cells off vs).length = cells.length := by
  unfold splice; simp; omega
theorem aFill_ok {ρ : Env} {f : Ren} {pl : Nat → Option (Nat × Nat)} : ∀ (ps : List (Nat × AVal)) (ps' : List (Nat × Value)) (cells r : List AVal) (cs : Array Value),
    (ps'.length = ps.length ∧ ∀ (k : Nat) (p : Nat × AVal) (p' : Nat × Value), ps[k]? = some p → ps'[k]? = some p' → p.1 = p'.1 ∧ VRel ρ f p.2 p'.2) → LRel ρ f cells cs → aFill pl cells ps = some r →
    ∃ cs', Instr.fill pl cs ps' = some cs' ∧ LRel ρ f r cs' := by
  intro ps
  induction ps with
  | nil =>
    intro ps' cells r cs hp hc h
    have : ps' = [] := List.eq_nil_of_length_eq_zero hp.1
    subst this
    simp [aFill] at h; subst h
    exact ⟨cs, rfl, hc⟩
  | cons p ps ih =>
    intro ps' cells r cs hp hc h
    cases ps' with
    | nil => have := hp.1; simp at this
    | cons p' ps' =>
      obtain ⟨i, v⟩ := p
      obtain ⟨i', v'⟩ := p'
      obtain ⟨rfl, hv⟩ := hp.2 0 _ _ rfl rfl
      have hp' : ps'.length = ps.length ∧ ∀ (k : Nat) (p : Nat × AVal) (p' : Nat × Value), ps[k]? = some p → ps'[k]? = some p' → p.1 = p'.1 ∧ VRel ρ f p.2 p'.2 :=
        ⟨by have := hp.1; simpa using this, fun k a a' x y => hp.2 (k + 1) a a' (by simpa using x) (by simpa using y)⟩
      simp only [aFill] at h
      split at h
      · cases h
      · rename_i off size hpl
        split at h
        · rename_i h1 h2
          have h1 := Nat.eq_of_beq_eq_true h1
          have h2 := Nat.le_of_ble_eq_true h2
          have hcell := LRel.cells hv
          have hsz : v'.cells.size = v.cells.length := hcell.1
          have hcs := hc.1
          simp only [Instr.fill, hpl]
          rw [if_neg (by simp; omega)]
          refine ih ps' (splice cells off v.cells) r _ hp' ?_ h
          have e : (v'.cells.zipIdx.foldl (fun cs (x : Value × Nat) => match x with | (c, j) => cs.setIfInBounds (off + j) c) cs) = ((v'.cells.toList.zipIdx 0).foldl (fun cs (p : Value × Nat) => cs.setIfInBounds (off + p.2) p.1) cs) := by
            rw [← Array.foldl_toList, Array.toList_zipIdx]
          refine ⟨?_, fun j a a' ha ha' => ?_⟩
          · show (v'.cells.zipIdx.foldl (fun cs (x : Value × Nat) => match x with | (c, j) => cs.setIfInBounds (off + j) c) cs).size = _
            rw [e, foldl_set_size, splice_length _ _ _ h2]
            exact hc.1
          · have ha'' : ((v'.cells.toList.zipIdx 0).foldl (fun cs (p : Value × Nat) => cs.setIfInBounds (off + p.2) p.1) cs)[j]? = some a' := by rw [← e]; exact ha'
            rw [foldl_set off _ 0 cs j (by simp; omega)] at ha''
            rw [splice_get _ _ _ _ h2] at ha
            simp only [Nat.add_zero, Array.length_toList, hsz] at ha''
            split at ha
            · rename_i hjj
              rw [if_pos hjj] at ha''
              exact hcell.2 _ a a' ha (by simpa using ha'')
            · rename_i hjj
              rw [if_neg hjj] at ha''
              exact hc.2 _ a a' ha ha''
        · cases h

def evp (aev : Operand → Option AVal) : List (Nat × Operand) → Option (List (Nat × AVal))
  | [] => some []
  | (i, x) :: l =>
    match aev x, evp aev l with
    | some v, some m => some ((i, v) :: m)
    | _, _ => none
theorem evp_ok {ρ : Env} {f : Ren} {aev : Operand → Option AVal} {ev : Operand → Value} (he : EvRel ρ f aev ev) : ∀ (l : List (Nat × Operand)) (m : List (Nat × AVal)), evp aev l = some m →
    (l.map fun (i, x) => (i, ev x)).length = m.length ∧ ∀ (k : Nat) (p : Nat × AVal) (p' : Nat × Value), m[k]? = some p → (l.map fun (i, x) => (i, ev x))[k]? = some p' → p.1 = p'.1 ∧ VRel ρ f p.2 p'.2 := by
  intro l
  induction l with
  | nil => intro m h; simp [evp] at h; subst h; exact ⟨rfl, by simp⟩
  | cons x l ih =>
    intro m h
    obtain ⟨i, x⟩ := x
    simp only [evp] at h
    split at h
    · rename_i v m' hv hm
      cases h
      obtain ⟨h1, h2⟩ := ih _ hm
      refine ⟨by simpa using h1, fun k p p' hp hp' => ?_⟩
      cases k with
      | zero => simp at hp hp'; subst hp; subst hp'; exact ⟨rfl, he _ _ hv⟩
      | succ k => exact h2 k p p' (by simpa using hp) (by simpa using hp')
    · cases h
def aPlaces (C : Ctx) : List Field → Option (List (Nat × Nat))
  | [] => some []
  | f :: fs =>
    match C.size f.type, aPlaces C fs with
    | some n, some l => some ((f.offset, n) :: l)
    | _, _ => none
theorem aPlaces_ok {C : Ctx} {P : Program} {ρ : Env} (hC : C.Ok P ρ) : ∀ (fs : List Field) (l : List (Nat × Nat)), aPlaces C fs = some l → fs.mapM (fun f => (P.info? f.type).map fun i => (f.offset, i.size)) = some l := by
  intro fs
  induction fs with
  | nil => intro l h; simp [aPlaces] at h; subst h; rfl
  | cons f fs ih =>
    intro l h
    simp only [aPlaces] at h
    split at h
    · rename_i n m hn hm
      cases h
      obtain ⟨i, hi, rfl⟩ := Ctx.info hC hn
      simp [List.mapM_cons, hi, ih _ hm]
    · cases h
def aBuild (C : Ctx) (aev : Operand → Option AVal) (t : TypeId) (parts : List (Nat × Operand)) : Option AVal :=
  match aZero C t, evp aev parts with
  | some z, some ps =>
    match C.und t with
    | some (.array _ e) =>
      match C.size e with
      | none => none
      | some s =>
        match aFill (fun i => some (i * s, s)) z.cells ps with
        | some l => some (.agg l)
        | none => none
    | some (.struct fs) =>
      match aPlaces C fs.toList with
      | none => none
      | some pl =>
        match aFill (fun i => pl[i]?) z.cells ps with
        | some l => some (.agg l)
        | none => none
    | _ => none
  | _, _ => none
theorem aBuild_ok {C : Ctx} {P : Program} {ρ : Env} (hC : C.Ok P ρ) {f : Ren} {aev : Operand → Option AVal} {ev : Operand → Value} (he : EvRel ρ f aev ev) {t : TypeId} {parts : Array (Nat × Operand)} {v : AVal} (h : aBuild C aev t parts.toList = some v) (w : World) :
    ∃ v', (Instr.build t (parts.map fun (i, x) => (i, ev x))).run P w = .ok v' w ∧ VRel ρ f v v' := by
  unfold aBuild at h
  split at h
  · rename_i z ps hz hps
    obtain ⟨z', -, hz2, it, hit, hzz⟩ := aZero_ok hC (f := f) hz w
    have hp := evp_ok he _ _ hps
    have hpl : (parts.map fun (i, x) => (i, ev x)).toList = parts.toList.map fun (i, x) => (i, ev x) := by simp
    have hzc := LRel.cells hz2
    split at h
    · rename_i n e hu
      have hd := Ctx.und_ok hC hu
      split at h
      · cases h
      · rename_i s hs
        obtain ⟨ie, hie, rfl⟩ := Ctx.info hC hs
        split at h
        · rename_i l hf
          cases h
          obtain ⟨cs', h1, h2⟩ := aFill_ok _ _ _ _ _ hp hzc hf
          refine ⟨.agg cs', run_build w t _ cs' ?_, .agg h2.1 h2.2⟩
          unfold Program.built
          rw [hit, hd]
          simp only [hzz, hie, hpl]
          exact h1
        · cases h
    · rename_i fs hu
      have hd := Ctx.und_ok hC hu
      split at h
      · cases h
      · rename_i pl hplc
        have hpm := aPlaces_ok hC _ _ hplc
        split at h
        · rename_i l hf
          cases h
          obtain ⟨cs', h1, h2⟩ := aFill_ok _ _ _ _ _ hp hzc hf
          refine ⟨.agg cs', run_build w t _ cs' ?_, .agg h2.1 h2.2⟩
          unfold Program.built
          rw [hit, hd]
          simp only [hzz, hpm, hpl]
          simpa using h1
        · cases h
    · cases h
  · cases h

/-! zero cells -/
def aReps (z : List AVal) : Nat → List AVal → List AVal
  | 0, acc => acc
  | n + 1, acc => aReps z n (z ++ acc)
theorem aReps_length (z : List AVal) : ∀ (n : Nat) (acc : List AVal), (aReps z n acc).length = n * z.length + acc.length := by
  intro n
  induction n with
  | zero => intro acc; simp [aReps]
  | succ n ih => intro acc; simp only [aReps, ih, List.length_append, Nat.succ_mul]; omega
theorem aReps_get (z : List AVal) : ∀ (n : Nat) (acc : List AVal) (j : Nat), (aReps z n acc)[j]? = if j < n * z.length then z[j % z.length]? else acc[j - n * z.length]? := by
  intro n
  induction n with
  | zero => intro acc j; simp [aReps]
  | succ n ih =>
    intro acc j
    simp only [aReps, ih]
    by_cases h1 : j < n * z.length
    · rw [if_pos h1, if_pos (by rw [Nat.succ_mul]; omega)]
    · rw [if_neg h1]
      by_cases h2 : j < (n + 1) * z.length
      · rw [if_pos h2]
        rw [Nat.succ_mul] at h2
        have hlt : j - n * z.length < z.length := by omega
        rw [List.getElem?_append_left hlt]
        congr 1
        have e := Nat.mul_comm z.length n
        have : j = (j - n * z.length) + z.length * n := by omega
        conv => rhs; rw [this, Nat.add_mul_mod_self_left]
        exact (Nat.mod_eq_of_lt hlt).symm
      · rw [if_neg h2]
        rw [Nat.succ_mul] at h2 ⊢
        rw [List.getElem?_append_right (by omega)]
        congr 1; omega
theorem aReps_rel {ρ : Env} {f : Ren} {z : List AVal} {zs : Array Value} (h : LRel ρ f z zs) (n : Nat) : LRel ρ f (aReps z n []) (madeCells zs (n * zs.size)) := by
  refine ⟨by rw [size_madeCells, aReps_length, h.1]; simp, fun j v v' hv hv' => ?_⟩
  rw [aReps_get] at hv
  split at hv
  · rename_i hj
    have hpos : 0 < zs.size := by
      rw [h.1]
      cases hz : z.length with
      | zero => rw [hz] at hj; simp at hj
      | succ k => omega
    have hm : j % z.length < zs.size := by rw [← h.1]; exact Nat.mod_lt _ hpos
    refine h.2 _ v v' hv ?_
    unfold madeCells at hv'
    rw [Array.getElem?_map, Option.map_eq_some_iff] at hv'
    obtain ⟨a, ha, rfl⟩ := hv'
    have : a = j := by
      have := (Array.getElem?_eq_some_iff.1 ha).2
      simpa using this.symm
    subst this
    rw [← h.1] at hm ⊢
    simp [hm]
  · simp at hv
end
end Go.Sx
/- The operations that make a block, as one function. No condition. -/
set_option linter.unusedSimpArgs false
set_option linter.unusedVariables false
namespace Go.Sx
open Go.RowKit (Below)
noncomputable section

def Ctx.bytes (C : Ctx) (t : TypeId) : Option Nat :=
  match C.ty.get t with
  | none => none
  | some i => some i.bytes
def strCells (l : List IE) : List AVal := l.map (AVal.int .u8)
def nwAlloc (C : Ctx) (aev : Operand → Option AVal) (i : Nat) (e : TypeId) : Option (AObj × AVal) :=
  match aZero C e with
  | some z => some (objOf z.cells e, .ptr (some (i, 0)))
  | none => none
def nwBox (C : Ctx) (aev : Operand → Option AVal) (i : Nat) (e : TypeId) (x : Operand) : Option (AObj × AVal) :=
  match aev x with
  | some v => some (objOf v.cells e, .ptr (some (i, 0)))
  | none => none
def nwBuildslice (C : Ctx) (aev : Operand → Option AVal) (i : Nat) (t : TypeId) (len : Nat) (parts : Array (Nat × Operand)) : Option (AObj × AVal) :=
  match C.und t, evp aev parts.toList with
  | some (.slice e), some ps =>
    match C.size e, aZero C e with
    | some s, some z =>
      match Nat.beq z.cells.length s, Nat.ble (len * s) 16777216 with
      | true, true =>
        match aFill (fun i => some (i * s, s)) (aReps z.cells len []) ps with
        | some l => some (.cells (cellsOf l) e true l.length, .slice (some (i, 0)) len len 0)
        | none => none
      | _, _ => none
    | _, _ => none
  | _, _ => none
def nwMakemap (C : Ctx) (aev : Operand → Option AVal) (i : Nat) (t : TypeId) (r : Option Operand) : Option (AObj × AVal) :=
  match r with
  | none => some (.map [], .map (some i))
  | some x =>
    match C.und t, aev x with
    | some (.map _ _), some (.int _ _) => some (.map [], .map (some i))
    | _, _ => none
def nwMakeslice (C : Ctx) (aev : Operand → Option AVal) (i : Nat) (t : TypeId) (l : Operand) (c : Operand) : Option (AObj × AVal) :=
  match aev l, aev c with
  | some lv, some cv =>
    match asNat C lv, asNat C cv with
    | some l, some c =>
      match C.und t with
      | some (.slice e) =>
        match C.size e, C.bytes e, aZero C e with
        | some s, some b, some z =>
          match Nat.ble l c, Nat.ble (b * c) 281474976710656, Nat.ble c 9223372036854775807, Nat.beq z.cells.length s with
          | true, true, true, true => some (objOf (aReps z.cells c []) e, .slice (some (i, 0)) l c 0)
          | _, _, _, _ => none
        | _, _, _ => none
      | _ => none
    | _, _ => none
  | _, _ => none
def nwConvert (C : Ctx) (aev : Operand → Option AVal) (i : Nat) (s : TypeId) (d : TypeId) (x : Operand) : Option (AObj × AVal) :=
  match C.und s, C.und d, aev x with
  | some .string, some (.slice e), some (.str l) =>
    match C.und e with
    | some (.int .u8) => some (.cells (cellsOf (strCells l)) e true (strCells l).length, .slice (some (i, 0)) l.length l.length 1)
    | _ => none
  | some .string, some (.slice e), some (.strS c l) =>
    match C.und e with
    | some (.int .u8) => some (.arr [.u8] c l true, .sliceA i l 1)
    | _ => none
  | _, _, _ => none
def nwRange (C : Ctx) (aev : Operand → Option AVal) (i : Nat) (t : TypeId) (x : Operand) : Option (AObj × AVal) :=
  match C.und t, aev x with
  | some (.map _ _), some (.map none) => some (.it0, .ptr (some (i, 0)))
  | _, _ => none
def aNew (C : Ctx) (aev : Operand → Option AVal) (i : Nat) : Op → Option (AObj × AVal)
  | .alloc e => nwAlloc C aev i e
  | .box e x => nwBox C aev i e x
  | .buildSlice t len parts => nwBuildslice C aev i t len parts
  | .makeMap t r => nwMakemap C aev i t r
  | .makeSlice t l c => nwMakeslice C aev i t l c
  | .convert s d x => nwConvert C aev i s d x
  | .range t x => nwRange C aev i t x
  | _ => none

theorem LRel.congr_size {ρ : Env} {f : Ren} {l : List AVal} {a : Array Value} (h : LRel ρ f l a) : a.size = l.length := h.1
theorem strCells_rel {ρ : Env} {f : Ren} {l : List IE} {s : ByteArray} (h : SRel ρ l s) : LRel ρ f (strCells l) (s.data.map fun b => .int .u8 b.toNat) := by
  have hs := h.size
  refine ⟨by simpa [strCells] using hs, fun i v v' hv hv' => ?_⟩
  simp only [strCells, List.getElem?_map, Option.map_eq_some_iff] at hv
  obtain ⟨e, he, rfl⟩ := hv
  rw [Array.getElem?_map, Option.map_eq_some_iff] at hv'
  obtain ⟨b, hb, rfl⟩ := hv'
  have h1 : (l.map (·.ev ρ))[i]? = some (e.ev ρ) := by simp [he]
  rw [← h] at h1
  simp only [List.getElem?_map, Option.map_eq_some_iff, Array.getElem?_toList, hb] at h1
  obtain ⟨b', hb', e1⟩ := h1
  cases hb'
  rw [e1]
  exact .int _ e

theorem aNew_ok {C : Ctx} {P : Program} {ρ : Env} (hC : C.Ok P ρ) {B : Nat → Prop} {w : World} {f : Ren} (hB : ¬ B w.heap.size) {aev : Operand → Option AVal} {ev : Operand → Value} (he : EvRel ρ f aev ev) {i : Nat} (hf : f i = none) {o : Oper} {ob : AObj} {v : AVal} (hv : aNew C aev i o.op = some (ob, v)) :
    NewStep P ρ B f i w ob v (execOp ev o) := by
  obtain ⟨dst, op, type, pos, after, guard⟩ := o
  have ptrv : ∀ L : Loc, L.blk = w.heap.size → L.base = 0 → VRel ρ (f.put i L) (.ptr (some (i, 0))) (.pointer (some ⟨w.heap.size, 0, none⟩)) := fun L h1 h2 => by
    have := VRel.ptr (ρ := ρ) (o := 0) (Ren.put_same f i L)
    rw [h1, h2] at this
    exact this
  have slicev : ∀ (n c : Nat) (L : Loc), L.blk = w.heap.size → L.base = 0 → VRel ρ (f.put i L) (.slice (some (i, 0)) n c 0) (.slice (some ⟨w.heap.size, 0, none⟩) n c) := fun n c L h1 h2 => by
    have := VRel.slice (ρ := ρ) (o := 0) (n := n) (c := c) (Ren.put_same f i L)
    rw [h1, h2] at this
    exact this
  unfold aNew at hv
  simp only at hv
  split at hv
  all_goals try unfold nwAlloc at hv
  all_goals try unfold nwBox at hv
  all_goals try unfold nwBuildslice at hv
  all_goals try unfold nwMakemap at hv
  all_goals try unfold nwMakeslice at hv
  all_goals try unfold nwConvert at hv
  all_goals try unfold nwRange at hv
  case h_1 e =>
    split at hv
    · rename_i z hz
      cases hv
      obtain ⟨z', h1, h2, _⟩ := aZero_ok hC (f := f) hz w
      refine NewStep.rowO hB hf (LRel.cells h2) ?_ ptrv
      simp only [execOp, Instr.alloc, Sem.run_bind, h1, Result.andThen_ok, newVar, run_newRow, Sem.run_pure]
    · cases hv
  case h_2 e x =>
    split at hv
    · rename_i a ha
      cases hv
      refine NewStep.rowO hB hf (LRel.cells (he _ _ ha)) ?_ ptrv
      simp only [execOp, Instr.box, Sem.run_bind, Result.andThen_ok, newVar, run_newRow, Sem.run_pure]
    · cases hv
  case h_3 t len parts =>
    split at hv
    · rename_i e ps hu hps
      have hd := Ctx.und_ok hC hu
      split at hv
      · rename_i s z hs hz
        obtain ⟨z', h1, h2, it, hit, hzz⟩ := aZero_ok hC (f := f) hz w
        split at hv
        · rename_i hl hsm
          have hl := Nat.eq_of_beq_eq_true hl
          have hsm := Nat.le_of_ble_eq_true hsm
          split at hv
          · rename_i l hfl
            cases hv
            have hzc := LRel.cells h2
            have hzs : z'.cells.size = s := by rw [hzc.1]; exact hl
            have hr := aReps_rel hzc len
            rw [hzs] at hr
            obtain ⟨cs', q1, q2⟩ := aFill_ok _ _ _ _ _ (evp_ok he _ _ hps) hr hfl
            refine NewStep.row hB hf q2 ?_ (slicev len len)
            have hpl : (parts.map fun (i, x) => (i, ev x)).toList = parts.toList.map fun (i, x) => (i, ev x) := by simp
            by_cases h0 : len * s = 0
            · have e0 : madeCells z'.cells (len * s) = #[] := by rw [h0]; simp [madeCells]
              rw [e0] at q1
              have q1' : Instr.fill (fun i => some (i * s, s)) ((Array.range (len * s)).map ((#[] : Array Value)[· % (#[] : Array Value).size]!)) (parts.toList.map fun (i, x) => (i, ev x)) = some cs' := by
                rw [h0, show Array.range 0 = #[] from by apply Array.ext'; simp, show (Array.map (fun x => (#[] : Array Value)[x % (#[] : Array Value).size]!) #[]) = #[] from by apply Array.ext'; simp]
                exact q1
              simp only [execOp, Instr.buildSlice, Sem.run_bind, run_underlying hd, Result.andThen_ok, Ctx.size_ok hC hs, if_neg (show ¬ len * s > 2 ^ 24 by omega), if_pos h0, Sem.run_pure, hpl, q1', run_newRow]
            · have q1' : Instr.fill (fun i => some (i * s, s)) ((Array.range (len * s)).map (z'.cells[· % z'.cells.size]!)) (parts.toList.map fun (i, x) => (i, ev x)) = some cs' := q1
              simp only [execOp, Instr.buildSlice, Sem.run_bind, run_underlying hd, Result.andThen_ok, Ctx.size_ok hC hs, if_neg (show ¬ len * s > 2 ^ 24 by omega), if_neg h0, h1, Sem.run_pure, hpl, q1', run_newRow]
          · cases hv
        · cases hv
      · cases hv
    · cases hv
  case h_4 t r =>
    have step : ∀ (s : Sem Next), s.run P w = .ok (.value (.map (some w.heap.size))) { w with heap := w.heap.push (.map #[] 0) } → NewStep P ρ B f i w (.map []) (.map (some i)) s := by
      intro s hs
      refine ⟨_, ⟨w.heap.size, 0, 0⟩, _, _, hs, rfl, ⟨rfl, rfl, rfl⟩, rfl, ⟨hB, #[], 0, by simp, rfl, by simp⟩, ?_⟩
      exact ⟨VRel.map (ρ := ρ) (Ren.put_same f i ⟨w.heap.size, 0, 0⟩), fun _ h => h⟩
    split at hv
    · cases hv
      refine step _ ?_
      simp only [execOp, Instr.makeMap, Option.map_none, Sem.run_bind, Sem.run_pure, Result.andThen_ok, run_newObj]
    · rename_i x
      split at hv
      · rename_i k e kk ee hu hx
        have hd := Ctx.und_ok hC hu
        cases hv
        have hxv := he _ _ hx
        refine step _ ?_
        generalize hx' : ev x = x' at hxv
        cases hxv
        simp only [execOp, Instr.makeMap, Option.map_some, hx', Sem.run_bind, run_underlying hd, asInt, asIntOf, Sem.run_pure, Result.andThen_ok, run_newObj]
      · cases hv
  case h_5 t l c =>
    split at hv
    · rename_i lv cv hl hc
      split at hv
      · rename_i l' c' hl' hc'
        obtain ⟨kl, el⟩ := asNat_ok hC (he _ _ hl) hl'
        obtain ⟨kc, ec⟩ := asNat_ok hC (he _ _ hc) hc'
        split at hv
        · rename_i e hu
          have hd := Ctx.und_ok hC hu
          split at hv
          · rename_i s b z hs hb hz
            obtain ⟨z', h1, h2, it, hit, hzz⟩ := aZero_ok hC (f := f) hz w
            split at hv
            · rename_i g1 g2 g3 g4
              have g1 := Nat.le_of_ble_eq_true g1
              have g2 := Nat.le_of_ble_eq_true g2
              have g3 := Nat.le_of_ble_eq_true g3
              have g4 := Nat.eq_of_beq_eq_true g4
              cases hv
              have hzc := LRel.cells h2
              obtain ⟨it2, hit2, hsz⟩ := Ctx.info hC hs
              rw [hit] at hit2
              cases hit2
              have hby : it.bytes = b := by
                unfold Ctx.bytes at hb
                split at hb
                · cases hb
                · rename_i i2 hi2
                  have := hC.ty _ _ hi2
                  rw [hit] at this
                  cases this
                  cases hb; rfl
              have hzs : z'.cells.size = it.size := by rw [hzc.1, hsz]; exact g4
              have hr := aReps_rel hzc c'
              rw [hzs] at hr
              refine NewStep.rowO hB hf hr ?_ (slicev l' c')
              have hb2 : (it.bytes : Int) * (c' : Int) ≤ 281474976710656 := by
                rw [hby, ← Int.natCast_mul]
                exact Int.ofNat_le.2 g2
              have hrun := run_make (P := P) w t e it z' hd hit hzz kl kc l' c' (by omega) (by omega) hb2 (by omega)
              simp only [Int.toNat_natCast] at hrun
              simp only [execOp, el, ec, Sem.run_bind, hrun, Result.andThen_ok, Sem.run_pure]
              rfl
            · cases hv
          · cases hv
        · cases hv
      · cases hv
    · cases hv
  case h_6 s d x =>
    split at hv
    · rename_i e l hs hd hx
      have hs := Ctx.und_ok hC hs
      have hd := Ctx.und_ok hC hd
      split at hv
      · rename_i hu8
        have hu8 := Ctx.und_ok hC hu8
        cases hv
        have hxv := he _ _ hx
        generalize hx' : ev x = x' at hxv
        cases hxv
        rename_i st hst
        have hsz := hst.size
        -- the capacity is drawn
        obtain ⟨cap, hcap, hle⟩ : ∃ cap, (choose (.appendCap st.size 0 e)).run P w = .ok cap { w with drawn := w.drawn + 1 } ∧ st.size ≤ cap := by
          refine ⟨_, by rw [run_choose]; simp only [Question.forced, Bool.false_eq_true, if_false]; rfl, ?_⟩
          simp only [Question.cut]
          omega
        have hrow := strCells_rel (f := f) hst
        refine ⟨{ w with heap := w.heap.push (.cells (st.data.map (fun b => .int .u8 b.toNat) ++ Array.replicate (cap - st.size) (.int .u8 0)) e (cap, cap + 1)), drawn := w.drawn + 1 }, ⟨w.heap.size, 0, cap⟩, .cells (st.data.map (fun b => .int .u8 b.toNat) ++ Array.replicate (cap - st.size) (.int .u8 0)) e (cap, cap + 1), .slice (some ⟨w.heap.size, 0, none⟩) st.size cap, ?_, rfl, ⟨rfl, rfl, rfl⟩, rfl, ?_, ?_⟩
        · have hsize : (st.data.map (fun b : UInt8 => Value.int .u8 b.toNat) ++ Array.replicate (cap - st.size) (Value.int .u8 0)).size = cap := by
            simp only [Array.size_append, Array.size_map, Array.size_replicate]
            have : st.data.size = st.size := rfl
            omega
          simp only [execOp, hx', convert, Sem.run_bind, run_underlying hs, run_underlying hd, run_underlying hu8, Result.andThen_ok, Conv.stringToBytes, hcap, run_newRow, markStringish, run_shape]
          have hshape : (World.shape? { heap := w.heap.push (.cells (st.data.map (fun b : UInt8 => Value.int .u8 b.toNat) ++ Array.replicate (cap - st.size) (Value.int .u8 0)) e), tape := w.tape, drawn := w.drawn + 1, os := w.os, output := w.output } w.heap.size) = some (e, cap) := by
            simp only [World.shape?, Array.getElem?_push_size, hsize]
          rw [hshape]
          simp only [Sem.run_bind, run_freeze, Sem.run_pure, Result.andThen_ok, Result.ok.injEq, true_and]
          simp only [World.freeze, if_neg (by decide : ¬ (1 : Nat) = 0)]
          congr 1
          apply Array.ext_getElem?
          intro k
          rw [Array.getElem?_modify, Array.getElem?_push]
          by_cases hk : k = w.heap.size
          · subst hk; simp
          · rw [if_neg (fun e => hk e.symm), if_neg hk, Array.getElem?_push, if_neg hk]
        · have hsize : (st.data.map (fun b : UInt8 => Value.int .u8 b.toNat) ++ Array.replicate (cap - st.size) (Value.int .u8 0)).size = cap := by
            simp only [Array.size_append, Array.size_map, Array.size_replicate]
            have : st.data.size = st.size := rfl
            omega
          refine ⟨_, (cap, cap + 1), by simp, hsize, fun _ => ⟨hB, fun j hj => by have hj' : j < cap := hj; show ¬ (cap ≤ j ∧ j < cap + 1); omega⟩, fun j u hj => ?_⟩
          obtain ⟨u', h1, h2⟩ := hrow.get (cellsOf_ok hj)
          refine ⟨(List.getElem?_eq_some_iff.1 (cellsOf_ok hj)).1, u', ?_, h2.mono (Ren.le_put _ hf)⟩
          have hlt := (Array.getElem?_eq_some_iff.1 h1).1
          rw [Nat.zero_add, Array.getElem?_append_left hlt]
          exact h1
        · rw [← hsz]
          have := VRel.sliceG (ρ := ρ) (f := f.put i ⟨w.heap.size, 0, cap⟩) (i := i) (o := 0) (n := st.size) (c := st.size) (c' := cap) (g := 0) (Ren.put_same f i _) (Nat.le_refl _) hle (by simp)
          exact ⟨this, fun _ h => h⟩
      · cases hv
    · rename_i e c l hs hd hx
      have hs := Ctx.und_ok hC hs
      have hd := Ctx.und_ok hC hd
      split at hv
      · rename_i hu8
        have hu8 := Ctx.und_ok hC hu8
        cases hv
        have hxv := he _ _ hx
        generalize hx' : ev x = x' at hxv
        cases hxv
        rename_i st hst hsz
        obtain ⟨cap, hcap, hle⟩ : ∃ cap, (choose (.appendCap st.size 0 e)).run P w = .ok cap { w with drawn := w.drawn + 1 } ∧ st.size ≤ cap := by
          refine ⟨_, by rw [run_choose]; simp only [Question.forced, Bool.false_eq_true, if_false]; rfl, ?_⟩
          simp only [Question.cut]
          omega
        have hsize : (st.data.map (fun b : UInt8 => Value.int .u8 b.toNat) ++ Array.replicate (cap - st.size) (Value.int .u8 0)).size = cap := by
          simp only [Array.size_append, Array.size_map, Array.size_replicate]
          have : st.data.size = st.size := rfl
          omega
        refine ⟨{ w with heap := w.heap.push (.cells (st.data.map (fun b => .int .u8 b.toNat) ++ Array.replicate (cap - st.size) (.int .u8 0)) e (cap, cap + 1)), drawn := w.drawn + 1 }, ⟨w.heap.size, 0, cap⟩, .cells (st.data.map (fun b => .int .u8 b.toNat) ++ Array.replicate (cap - st.size) (.int .u8 0)) e (cap, cap + 1), .slice (some ⟨w.heap.size, 0, none⟩) st.size cap, ?_, rfl, ⟨rfl, rfl, rfl⟩, rfl, ?_, ?_⟩
        · simp only [execOp, hx', convert, Sem.run_bind, run_underlying hs, run_underlying hd, run_underlying hu8, Result.andThen_ok, Conv.stringToBytes, hcap, run_newRow, markStringish, run_shape]
          have hshape : (World.shape? { heap := w.heap.push (.cells (st.data.map (fun b : UInt8 => Value.int .u8 b.toNat) ++ Array.replicate (cap - st.size) (Value.int .u8 0)) e), tape := w.tape, drawn := w.drawn + 1, os := w.os, output := w.output } w.heap.size) = some (e, cap) := by
            simp only [World.shape?, Array.getElem?_push_size, hsize]
          rw [hshape]
          simp only [Sem.run_bind, run_freeze, Sem.run_pure, Result.andThen_ok, Result.ok.injEq, true_and]
          simp only [World.freeze, if_neg (by decide : ¬ (1 : Nat) = 0)]
          congr 1
          apply Array.ext_getElem?
          intro k
          rw [Array.getElem?_modify, Array.getElem?_push]
          by_cases hk : k = w.heap.size
          · subst hk; simp
          · rw [if_neg (fun e => hk e.symm), if_neg hk, Array.getElem?_push, if_neg hk]
        · refine ⟨_, e, (cap, cap + 1), by simp, hsize, fun _ => ⟨hB, fun j hj => by have hj' : j < cap := hj; show ¬ (cap ≤ j ∧ j < cap + 1); omega⟩, fun j m k hj hk => ?_⟩
          have hm : m = 0 ∧ k = .u8 := by
            cases m with
            | zero => simp at hk; exact ⟨rfl, hk.symm⟩
            | succ m => simp at hk
          obtain ⟨rfl, rfl⟩ := hm
          have hlt : j < st.size := by rw [hsz] at hj; omega
          have hd8 : st.data[j]? = some st.data[j] := Array.getElem?_eq_getElem hlt
          have hb := hst j _ hd8
          have h8 := (st.data[j]).toNat_lt
          have hb' : rowGet (c.ev ρ) ((j * 1 + 0 : Nat) : Int) = (st.data[j].toNat : Int) := by simpa using hb
          refine ⟨?_, ?_, ?_⟩
          · show (st.data.map (fun b : UInt8 => Value.int .u8 b.toNat) ++ Array.replicate (cap - st.size) (Value.int .u8 0))[0 + (j * 1 + 0)]? = some (.int .u8 (rowGet (c.ev ρ) ((j * 1 + 0 : Nat) : Int)))
            rw [hb', show 0 + (j * 1 + 0) = j by omega, Array.getElem?_append_left (by simpa using hlt)]
            simp [hd8]
          · show kLo .u8 ≤ rowGet (c.ev ρ) ((j * 1 + 0 : Nat) : Int)
            rw [hb']; simp [kLo]
          · show rowGet (c.ev ρ) ((j * 1 + 0 : Nat) : Int) ≤ kHi .u8
            rw [hb']; simp [kHi]; omega
        · have hl0 : (l.ev ρ).toNat = st.size := by omega
          have := VRel.sliceA (ρ := ρ) (f := f.put i ⟨w.heap.size, 0, cap⟩) (i := i) (s := 1) (c := cap) (len := l) (Ren.put_same f i _) (by omega) (by omega) (by simp)
          rw [hl0] at this
          exact ⟨this, fun _ h => h⟩
      · cases hv
    · cases hv
  case h_7 t x =>
    split at hv
    · rename_i k e hu hx
      cases hv
      have hd := Ctx.und_ok hC hu
      have hxv := he _ _ hx
      generalize hx' : ev x = x' at hxv
      cases hxv
      refine ⟨{ w with heap := w.heap.push (.mapIter none 0 #[] 0) }, ⟨w.heap.size, 0, 0⟩, _, .pointer (some ⟨w.heap.size, 0, none⟩), ?_, rfl, ⟨rfl, rfl, rfl⟩, rfl, ⟨rfl, 0, #[], 0, by simp⟩, ptrv ⟨w.heap.size, 0, 0⟩ rfl rfl, fun _ h => h⟩
      simp only [execOp, Instr.range, hx', Sem.run_bind, run_underlying hd, Result.andThen_ok, Sem.run_pure, run_newObj]
    · cases hv
  case h_8 => cases hv
end
end Go.Sx
