/- Operations that only compute or read: on symbolic values, against the model's. No condition. -/
import Derived.Test.YtpoianhfjgjajaaGreatSx5
set_option linter.unusedSimpArgs false
set_option linter.unusedVariables false
namespace Go.Sx
open Go.RowKit (Below)
noncomputable section

def EvRel (ρ : Env) (f : Ren) (aev : Operand → Option AVal) (ev : Operand → Value) : Prop := ∀ x v, aev x = some v → VRel ρ f v (ev x)

/-! constants -/
def absOne : Value → Option AVal
  | .bool b => some (.bool (.lit b))
  | .int k n => some (.int k (.lit n))
  | .string s => some (.str (s.data.toList.map fun b => .lit (.ofNat b.toNat)))
  | .pointer none => some (.ptr none)
  | .slice none 0 0 => some (.slice none 0 0 0)
  | .map none => some (.map none)
  | .nilFunc => some .nilFunc
  | .nilIface => some .nilIface
  | _ => none
def absList : List Value → Option (List AVal)
  | [] => some []
  | v :: l =>
    match absOne v, absList l with
    | some a, some m => some (a :: m)
    | _, _ => none
def absV : Value → Option AVal
  | .agg cs =>
    match absList cs.toList with
    | some l => some (.agg l)
    | none => none
  | .tuple cs =>
    match absList cs.toList with
    | some l => some (.tuple l)
    | none => none
  | v => absOne v
theorem absOne_ok {ρ : Env} {f : Ren} {v : Value} {a : AVal} (h : absOne v = some a) : VRel ρ f a v := by
  unfold absOne at h
  split at h <;> cases h
  · exact .bool (.lit _)
  · exact .int _ (.lit _)
  · exact .str (by simp [SRel, IE.ev, Function.comp_def])
  · exact .nilPtr
  · exact .nilSlice
  · exact .nilMap
  · exact .nilFunc
  · exact .nilIface
theorem absList_ok {ρ : Env} {f : Ren} : ∀ (l : List Value) (m : List AVal), absList l = some m → LRel ρ f m l.toArray := by
  intro l
  induction l with
  | nil => intro m h; simp [absList] at h; subst h; exact LRel.nil
  | cons v l ih =>
    intro m h
    simp only [absList] at h
    split at h
    · rename_i a m' ha hm
      cases h
      exact LRel.cons (absOne_ok ha) (ih _ hm)
    · cases h
theorem absV_ok {ρ : Env} {f : Ren} {v : Value} {a : AVal} (h : absV v = some a) : VRel ρ f a v := by
  unfold absV at h
  split at h
  · rename_i cs
    split at h
    · rename_i l hl
      cases h
      have := absList_ok (ρ := ρ) (f := f) _ _ hl
      exact .agg (by simpa using this.1) (by simpa using this.2)
    · cases h
  · rename_i cs
    split at h
    · rename_i l hl
      cases h
      have := absList_ok (ρ := ρ) (f := f) _ _ hl
      exact .tuple (by simpa using this.1) (by simpa using this.2)
    · cases h
  · exact absOne_ok h

/-- Zero values. -/
def aZero (C : Ctx) (t : TypeId) : Option AVal :=
  match C.ty.get t with
  | none => none
  | some i =>
    match i.zero with
    | none => none
    | some v => absV v
theorem aZero_ok {C : Ctx} {P : Program} {ρ : Env} (hC : C.Ok P ρ) {f : Ren} {t : TypeId} {a : AVal} (h : aZero C t = some a) (w : World) : ∃ v, (zeroValue t).run P w = .ok v w ∧ VRel ρ f a v ∧ (∃ i, P.info? t = some i ∧ i.zero = some v) := by
  unfold aZero at h
  split at h
  · cases h
  · rename_i i hi
    split at h
    · cases h
    · rename_i v hv
      exact ⟨v, by simp [zeroValue, typeInfo, hC.ty _ _ hi, hv], absV_ok h, i, hC.ty _ _ hi, hv⟩

/-! arithmetic -/
/-- A quotient; a number where the bounds leave one alone. -/
def quoR (bd : Bd) (a b : IE) : IE :=
  match b with
  | .lit n =>
    match rng bd a with
    | some (l, h) =>
      match intLe 0 l && (intLe 1 n && intEq (l / n) (h / n)) with
      | true => .lit (l / n)
      | false => mkQuo a (.lit n)
    | none => mkQuo a (.lit n)
  | b => mkQuo a b
theorem quoR_ev {ρ : Env} {bd : Bd} (hρ : ρ.ok bd) (a b : IE) : (quoR bd a b).ev ρ = (a.ev ρ).tdiv (b.ev ρ) := by
  unfold quoR
  split
  · rename_i n
    split
    · rename_i l h hr
      split
      · rename_i hc
        have hc : intLe 0 l = true ∧ intLe 1 n = true ∧ intEq (l / n) (h / n) = true := by
          revert hc
          cases intLe 0 l <;> cases intLe 1 n <;> cases intEq (l / n) (h / n) <;> intro hc <;> first | (cases hc; done) | exact ⟨rfl, rfl, rfl⟩
        obtain ⟨c1, c2, c3⟩ := hc
        rw [intLe_iff] at c1 c2
        have c1 := of_decide_eq_true c1
        have c2 := of_decide_eq_true c2
        have c3 := intEq_eq c3
        obtain ⟨r1, r2⟩ := rng_ok hρ a l h hr
        show l / n = (a.ev ρ).tdiv n
        rw [Int.tdiv_eq_ediv_of_nonneg (by omega)]
        have k1 := Int.ediv_le_ediv (show 0 < n by omega) r1
        have k2 := Int.ediv_le_ediv (show 0 < n by omega) r2
        omega
      · exact mkQuo_ev ρ _ _
    · exact mkQuo_ev ρ _ _
  · exact mkQuo_ev ρ _ _
def aInt (C : Ctx) (op : BinOp) (k : IntKind) (a b : IE) : Option AVal :=
  match op with
  | .add => some (.int k (mkWrap C.bd k (mkAdd a b)))
  | .sub => some (.int k (mkWrap C.bd k (mkSub a b)))
  | .mul => some (.int k (mkWrap C.bd k (mkMul a b)))
  | .quo =>
    match settle C.dec (mkEq C.bd b (.lit 0)) with
    | some false => some (.int k (mkWrap C.bd k (quoR C.bd a b)))
    | _ => none
  | .rem =>
    match settle C.dec (mkEq C.bd b (.lit 0)) with
    | some false => some (.int k (mkRem a b))
    | _ => none
  | .and | .or | .xor | .andNot => some (.int k (mkBits op k a b))
  | .shl | .shr => none
  | .eql => some (.bool (mkEq C.bd a b))
  | .neq => some (.bool (mkNot (mkEq C.bd a b)))
  | .lss => some (.bool (mkLt C.bd a b))
  | .leq => some (.bool (mkNot (mkLt C.bd b a)))
  | .gtr => some (.bool (mkLt C.bd b a))
  | .geq => some (.bool (mkNot (mkLt C.bd a b)))
theorem bitsI_run (op : BinOp) (k : IntKind) (x y : Int) (h : op = .and ∨ op = .or ∨ op = .xor ∨ op = .andNot) : Op.intBits op k x y = pure (.int k (bitsI op k x y)) := by
  rcases h with rfl | rfl | rfl | rfl <;> rfl
theorem aInt_ok {C : Ctx} {P : Program} {ρ : Env} (hC : C.Ok P ρ) {f : Ren} {op : BinOp} {t : TypeId} {k : IntKind} {a b : IE} {v : AVal} (h : aInt C op k a b = some v) (w : World) :
    ∃ v', (binOp op t (.int k (a.ev ρ)) (.int k (b.ev ρ))).run P w = .ok v' w ∧ VRel ρ f v v' := by
  have wr : ∀ e : IE, ∀ n : Int, e.ev ρ = n → VRel ρ f (.int k (mkWrap C.bd k e)) (.int k (k.wrap n)) := fun e n he => by
    rw [← he, ← mkWrap_ev hC.bd]; exact .int k _
  have bw : ∀ e : BE, ∀ b : Bool, e.ev ρ = b → VRel ρ f (.bool e) (.bool b) := fun e b he => by rw [← he]; exact .bool e
  have iw : ∀ e : IE, ∀ n : Int, e.ev ρ = n → VRel ρ f (.int k e) (.int k n) := fun e n he => by rw [← he]; exact .int k e
  cases op <;> simp only [aInt, Option.some.injEq] at h
  case add => subst h; exact ⟨_, by simp only [binOp, ne_eq, not_true_eq_false, if_false, Op.intArith, Sem.run_pure], wr _ _ (mkAdd_ev ρ a b)⟩
  case sub => subst h; exact ⟨_, by simp only [binOp, ne_eq, not_true_eq_false, if_false, Op.intArith, Sem.run_pure], wr _ _ (mkSub_ev ρ a b)⟩
  case mul => subst h; exact ⟨_, by simp only [binOp, ne_eq, not_true_eq_false, if_false, Op.intArith, Sem.run_pure], wr _ _ (mkMul_ev ρ a b)⟩
  case quo =>
    split at h
    · rename_i hs
      have h0 := settle_ok hC.dec _ _ hs
      rw [mkEq_ev hC.bd] at h0
      have h0' : ¬ b.ev ρ = 0 := of_decide_eq_false h0
      cases h
      exact ⟨_, by simp only [binOp, ne_eq, not_true_eq_false, if_false, Op.intDiv, h0', Sem.run_pure], wr _ _ (quoR_ev hC.bd a b)⟩
    · cases h
  case rem =>
    split at h
    · rename_i hs
      have h0 := settle_ok hC.dec _ _ hs
      rw [mkEq_ev hC.bd] at h0
      have h0' : ¬ b.ev ρ = 0 := of_decide_eq_false h0
      cases h
      exact ⟨_, by simp only [binOp, ne_eq, not_true_eq_false, if_false, Op.intDiv, h0', Sem.run_pure], iw _ _ (mkRem_ev ρ a b)⟩
    · cases h
  case and => subst h; exact ⟨_, by simp only [binOp, ne_eq, not_true_eq_false, if_false, bitsI_run .and k _ _ (by simp), Sem.run_pure], iw _ _ (mkBits_ev ρ _ k a b)⟩
  case or => subst h; exact ⟨_, by simp only [binOp, ne_eq, not_true_eq_false, if_false, bitsI_run .or k _ _ (by simp), Sem.run_pure], iw _ _ (mkBits_ev ρ _ k a b)⟩
  case xor => subst h; exact ⟨_, by simp only [binOp, ne_eq, not_true_eq_false, if_false, bitsI_run .xor k _ _ (by simp), Sem.run_pure], iw _ _ (mkBits_ev ρ _ k a b)⟩
  case andNot => subst h; exact ⟨_, by simp only [binOp, ne_eq, not_true_eq_false, if_false, bitsI_run .andNot k _ _ (by simp), Sem.run_pure], iw _ _ (mkBits_ev ρ _ k a b)⟩
  case shl => cases h
  case shr => cases h
  case eql => subst h; exact ⟨.bool (a.ev ρ == b.ev ρ), by simp only [binOp, ne_eq, not_true_eq_false, if_false, Op.intCmp, Sem.run_pure], bw _ _ (by rw [mkEq_ev hC.bd, Bool.eq_iff_iff]; simp)⟩
  case neq => subst h; exact ⟨.bool (a.ev ρ != b.ev ρ), by simp only [binOp, ne_eq, not_true_eq_false, if_false, Op.intCmp, Sem.run_pure], bw _ _ (by rw [mkNot_ev, mkEq_ev hC.bd, Bool.eq_iff_iff]; simp)⟩
  case lss => subst h; exact ⟨_, by simp only [binOp, ne_eq, not_true_eq_false, if_false, Op.intCmp, Sem.run_pure], bw _ _ (mkLt_ev hC.bd a b)⟩
  case leq => subst h; exact ⟨.bool (decide (a.ev ρ ≤ b.ev ρ)), by simp only [binOp, ne_eq, not_true_eq_false, if_false, Op.intCmp, Sem.run_pure], bw _ _ (by rw [mkNot_ev, mkLt_ev hC.bd, Bool.eq_iff_iff]; simp)⟩
  case gtr => subst h; exact ⟨_, by simp only [binOp, ne_eq, not_true_eq_false, if_false, Op.intCmp, Sem.run_pure], bw _ _ (mkLt_ev hC.bd b a)⟩
  case geq => subst h; exact ⟨.bool (decide (a.ev ρ ≥ b.ev ρ)), by simp only [binOp, ne_eq, not_true_eq_false, if_false, Op.intCmp, Sem.run_pure], bw _ _ (by rw [mkNot_ev, mkLt_ev hC.bd, Bool.eq_iff_iff]; simp)⟩

def lenLe {α : Type} : List α → Nat → Bool
  | [], _ => true
  | _ :: _, 0 => false
  | _ :: l, n + 1 => lenLe l n
theorem lenLe_ok {α : Type} : ∀ (l : List α) (n : Nat), lenLe l n = true → l.length ≤ n := by
  intro l
  induction l with
  | nil => intro n _; simp
  | cons a l ih =>
    intro n h
    cases n with
    | zero => cases h
    | succ n => have := ih n h; simp; omega
theorem SRel.size {ρ : Env} {l : List IE} {s : ByteArray} (h : SRel ρ l s) : s.size = l.length := by
  have := congrArg List.length h
  simpa using this
theorem SRel.append {ρ : Env} {l m : List IE} {s t : ByteArray} (h : SRel ρ l s) (h' : SRel ρ m t) : SRel ρ (l ++ m) (s ++ t) := by
  unfold SRel at *
  rw [ByteArray.data_append, Array.toList_append, List.map_append, List.map_append, h, h']

/-- A binary operation. 'cx': is one of the operands a constant? -/
def aBin (C : Ctx) (cx : Bool) (op : BinOp) (t : TypeId) : AVal → AVal → Option AVal
  | .int k a, .int l b =>
    match op with
    | .shl =>
      match settle C.dec (mkLt C.bd b (.lit 0)) with
      | some false => some (.int k (mkShl k a b))
      | _ => none
    | .shr =>
      match settle C.dec (mkLt C.bd b (.lit 0)) with
      | some false => some (.int k (mkShr k a b))
      | _ => none
    | op =>
      match kindEq k l with
      | true => aInt C op k a b
      | false => none
  | .str a, .str b =>
    match op with
    | .add =>
      match lenLe a 4611686018427387904, lenLe b 4611686018427387903 with
      | true, true => some (.str (a ++ b))
      | _, _ => none
    | .eql =>
      match bytesEq C a b with
      | some r => some (.bool (.lit r))
      | none => none
    | .neq =>
      match bytesEq C a b with
      | some r => some (.bool (.lit (!r)))
      | none => none
    | _ => none
  | x, y =>
    match op with
    | .eql =>
      match guardOk C cx t x y with
      | true =>
        match aEqual C 40 t x y with
        | some r => some (.bool (.lit r))
        | none => none
      | false => none
    | .neq =>
      match guardOk C cx t x y with
      | true =>
        match aEqual C 40 t x y with
        | some r => some (.bool (.lit (!r)))
        | none => none
      | false => none
    | _ => none
where
  guardOk (C : Ctx) (cx : Bool) (t : TypeId) : AVal → AVal → Bool
    | .nilIface, .nilIface => cx
    | .agg _, .agg _ => C.plain t
    | .tuple _, _ => false
    | _, .tuple _ => false
    | .strS _ _, _ => false
    | _, .strS _ _ => false
    | _, _ => true
def isC : Operand → Bool
  | .const _ => true
  | _ => false
set_option maxHeartbeats 1000000 in
theorem aBin_ok {C : Ctx} {P : Program} {ρ : Env} (hC : C.Ok P ρ) {f : Ren} {op : BinOp} {t : TypeId} {x y : AVal} {x' y' : Value} {v : AVal} (X Y : Operand)
    (hx : VRel ρ f x x') (hy : VRel ρ f y y') (h : aBin C (isC X || isC Y) op t x y = some v) (w : World) :
    ∃ v', (do eqGuard op t X Y x' y'; binOp op t x' y').run P w = .ok v' w ∧ VRel ρ f v v' := by
  have guardI : ∀ k l a b, (eqGuard op t X Y (.int k a) (.int l b)).run P w = .ok () w := fun k l a b => by
    cases op <;> rfl
  have guardS : ∀ a b, (eqGuard op t X Y (.string a) (.string b)).run P w = .ok () w := fun a b => by
    cases op <;> rfl
  unfold aBin at h
  split at h
  · rename_i k a l b
    cases hx; cases hy
    simp only [Sem.run_bind, guardI, Result.andThen_ok]
    have shift : ∀ (o : BinOp), (settle C.dec (mkLt C.bd b (.lit 0)) = some false) → ¬ b.ev ρ < 0 := fun o hs => by
      have h0 := settle_ok hC.dec _ _ hs
      rw [mkLt_ev hC.bd] at h0
      exact of_decide_eq_false h0
    split at h
    · split at h
      · rename_i hs
        cases h
        have := shift .shl hs
        refine ⟨.int k (shlI k (a.ev ρ) (b.ev ρ)), ?_, by rw [← mkShl_ev]; exact .int k _⟩
        simp only [binOp, Op.shift, if_neg this, Sem.run_pure]
        rfl
      · cases h
    · split at h
      · rename_i hs
        cases h
        have := shift .shr hs
        refine ⟨.int k (shrI k (a.ev ρ) (b.ev ρ)), ?_, by rw [← mkShr_ev]; exact .int k _⟩
        simp only [binOp, Op.shift, if_neg this, Sem.run_pure]
        rfl
      · cases h
    · split at h
      · rename_i hk
        have := kindEq_eq hk
        subst this
        exact aInt_ok hC h w
      · cases h
  · rename_i a b
    cases hx; cases hy; rename_i s1 h1 s2 h2
    simp only [Sem.run_bind, guardS, Result.andThen_ok]
    split at h
    · split at h
      · rename_i la lb
        cases h
        have l1 := lenLe_ok _ _ la
        have l2 := lenLe_ok _ _ lb
        refine ⟨.string (s1 ++ s2), ?_, .str (h1.append h2)⟩
        have hs : ¬ (((s1.size + s2.size : Nat) : Int) > IntKind.i64.max) := by
          rw [h1.size, h2.size]
          have : IntKind.i64.max = 9223372036854775807 := by decide
          rw [this]; omega
        simp only [binOp, Op.stringOp, if_neg hs, Sem.run_pure]
      · cases h
    · split at h
      · rename_i r hr
        cases h
        have := bytesEq_ok hC _ _ _ hr
        refine ⟨.bool r, ?_, .bool (.lit r)⟩
        simp only [binOp, Op.stringOp, Sem.run_pure]
        congr 2
        rw [this, Bool.eq_iff_iff]
        simp [h1.eq_iff h2]
      · cases h
    · split at h
      · rename_i r hr
        cases h
        have := bytesEq_ok hC _ _ _ hr
        refine ⟨.bool (!r), ?_, .bool (.lit (!r))⟩
        simp only [binOp, Op.stringOp, Sem.run_pure]
        congr 3
        rw [this, Bool.eq_iff_iff]
        simp [h1.eq_iff h2]
      · cases h
    · cases h
  · rename_i hni hns
    have guard : aBin.guardOk C (isC X || isC Y) t x y = true → (eqGuard op t X Y x' y').run P w = .ok () w := by
      intro hg
      cases hx <;> cases hy <;> first
        | (exfalso; exact hni _ _ _ _ rfl rfl)
        | (exfalso; exact hns _ _ rfl rfl)
        | (simp [aBin.guardOk] at hg; done)
        | (cases op <;> rfl)
        | (simp only [aBin.guardOk] at hg
           exact run_eqGuard_agg w op t X Y _ _ (hC.plain t hg).2)
        | (simp only [aBin.guardOk, Bool.or_eq_true] at hg
           rcases hg with hg | hg
           · cases X <;> simp [isC] at hg; cases op <;> rfl
           · cases Y <;> simp [isC] at hg; cases op <;> cases X <;> rfl)
    have eqrun : ∀ r, aEqual C 40 t x y = some r → (Op.equal t x' y').run P w = .ok r w := fun r hr => aEqual_ok hC w 40 10000 t x y x' y' r (by omega) hx hy hr
    split at h
    · split at h
      · rename_i hg
        split at h
        · rename_i r hr
          cases h
          refine ⟨.bool r, ?_, .bool (.lit r)⟩
          simp only [Sem.run_bind, guard hg, Result.andThen_ok]
          have := eqrun r hr
          cases hx <;> cases hy <;> first
            | (simp [aBin.guardOk] at hg; done)
            | (exfalso; exact hni _ _ _ _ rfl rfl)
            | (exfalso; exact hns _ _ rfl rfl)
            | (simp only [binOp, Sem.run_bind, this, Result.andThen_ok, Sem.run_pure])
        · cases h
      · cases h
    · split at h
      · rename_i hg
        split at h
        · rename_i r hr
          cases h
          refine ⟨.bool (!r), ?_, .bool (.lit (!r))⟩
          simp only [Sem.run_bind, guard hg, Result.andThen_ok]
          have := eqrun r hr
          cases hx <;> cases hy <;> first
            | (simp [aBin.guardOk] at hg; done)
            | (exfalso; exact hni _ _ _ _ rfl rfl)
            | (exfalso; exact hns _ _ rfl rfl)
            | (simp only [binOp, Sem.run_bind, this, Result.andThen_ok, Sem.run_pure])
        · cases h
      · cases h
    · cases h
end
end Go.Sx
