/- The operations that only compute or read, as one function. No condition. -/
import Derived.Test.YtpoianhfjgjajaaGreatSxE
set_option linter.unusedSimpArgs false
set_option linter.unusedVariables false
namespace Go.Sx
open Go.RowKit (Below)
noncomputable section

def evs (aev : Operand → Option AVal) : List Operand → Option (List AVal)
  | [] => some []
  | x :: l =>
    match aev x, evs aev l with
    | some v, some m => some (v :: m)
    | _, _ => none
theorem evs_ok {ρ : Env} {f : Ren} {aev : Operand → Option AVal} {ev : Operand → Value} (he : EvRel ρ f aev ev) : ∀ (l : List Operand) (m : List AVal), evs aev l = some m → LRel ρ f m (l.map ev).toArray := by
  intro l
  induction l with
  | nil => intro m h; simp [evs] at h; subst h; exact LRel.nil
  | cons x l ih =>
    intro m h
    simp only [evs] at h
    split at h
    · rename_i v m' hv hm
      cases h
      exact LRel.cons (he x v hv) (ih _ hm)
    · cases h
theorem evs_arr {ρ : Env} {f : Ren} {aev : Operand → Option AVal} {ev : Operand → Value} (he : EvRel ρ f aev ev) {a : Array Operand} {m : List AVal} (h : evs aev a.toList = some m) : LRel ρ f m (a.map ev) := by
  have := evs_ok he _ _ h
  have e : (a.toList.map ev).toArray = a.map ev := by apply Array.ext'; simp
  rw [e] at this
  exact this

def aLen (C : Ctx) (h : T AObj) (t : TypeId) (x : AVal) : Option AVal :=
  match C.und t, x with
  | some .string, .str l => some (.int .i64 (.lit (.ofNat l.length)))
  | some (.array n _), _ => some (.int .i64 (.lit (.ofNat n)))
  | some (.slice _), .slice _ n _ _ => some (.int .i64 (.lit (.ofNat n)))
  | some (.map _ _), m =>
    match mapEs h m with
    | some es => some (.int .i64 (.lit (.ofNat es.length)))
    | none => none
  | some (.pointer a), _ =>
    match C.und a with
    | some (.array n _) => some (.int .i64 (.lit (.ofNat n)))
    | _ => none
  | _, _ => none
theorem aLen_ok {C : Ctx} {P : Program} {ρ : Env} (hC : C.Ok P ρ) {B : Nat → Prop} {W w : World} {f : Ren} {h : T AObj} (hr : HRel ρ B W f h w) {t ty : TypeId} {x : AVal} {x' : Value} {v : AVal} (hx : VRel ρ f x x') (hl : aLen C h t x = some v) (ts : Array TypeId) (xs : Array Value) (h0 : ts[0]? = some t) (h1 : xs[0]? = some x') :
    ∃ v', (Builtin.len_ ts ty xs).run P w = .ok v' w ∧ VRel ρ f v v' := by
  unfold aLen at hl
  unfold Builtin.len_
  simp only [h0, h1]
  split at hl
  · rename_i l hu
    have hd := Ctx.und_ok hC hu
    cases hx; rename_i s hs
    cases hl
    refine ⟨.int .i64 s.size, by simp only [Sem.run_bind, run_underlying hd, Result.andThen_ok, Sem.run_pure, goInt], ?_⟩
    rw [hs.size]; exact .int _ (.lit _)
  · rename_i n e hu
    have hd := Ctx.und_ok hC hu
    cases hl
    exact ⟨.int .i64 n, by simp only [Sem.run_bind, run_underlying hd, Result.andThen_ok, Sem.run_pure, goInt], .int _ (.lit _)⟩
  · rename_i e a n c g hu
    have hd := Ctx.und_ok hC hu
    cases hl
    refine ⟨.int .i64 n, ?_, .int _ (.lit _)⟩
    cases hx <;> simp only [Sem.run_bind, run_underlying hd, Result.andThen_ok, Sem.run_pure, goInt]
  · rename_i kt et hu
    have hd := Ctx.und_ok hC hu
    split at hl
    · rename_i es hes
      cases hl
      obtain ⟨es', he, hm'⟩ := mapEs_ok (P := P) hr hx hes
      refine ⟨.int .i64 es.length, ?_, .int _ (.lit _)⟩
      rcases hm' with ⟨rfl, rfl⟩ | ⟨b, cl, rfl, hg⟩
      · have : es.length = 0 := by have := he.1; simpa using this.symm
        simp only [Sem.run_bind, run_underlying hd, Result.andThen_ok, Sem.run_pure, goInt, this]
        rfl
      · simp only [Sem.run_bind, run_underlying hd, Result.andThen_ok, Sem.run_pure, goInt, hg]
        have := he.1
        simp at this
        rw [this]
    · cases hl
  · rename_i a hu
    have hd := Ctx.und_ok hC hu
    split at hl
    · rename_i n e ha
      have hda := Ctx.und_ok hC ha
      cases hl
      refine ⟨.int .i64 n, ?_, .int _ (.lit _)⟩
      simp only [Sem.run_bind, run_underlying hd, run_underlying hda, Result.andThen_ok, Sem.run_pure, goInt]
    · cases hl
  · cases hl

def aMin2 (C : Ctx) (big : Bool) : AVal → AVal → Option AVal
  | .int k x, .int l y =>
    match settle C.dec (if big then mkLt C.bd x y else mkLt C.bd y x) with
    | some true => some (.int k y)
    | some false => some (.int k x)
    | none => none
  | _, _ => none
def aMinL (C : Ctx) (big : Bool) : AVal → List AVal → Option AVal
  | x, [] => some x
  | x, y :: l =>
    match aMin2 C big x y with
    | none => none
    | some z => aMinL C big z l
theorem aMin_ok {C : Ctx} {P : Program} {ρ : Env} (hC : C.Ok P ρ) {f : Ren} (big : Bool) (w : World) : ∀ (l : List AVal) (x : AVal) (x' : Value) (cs : List Value) (v : AVal), VRel ρ f x x' → LRel ρ f l cs.toArray → aMinL C big x l = some v →
    ∃ v', (cs.foldlM (if big then Builtin.max2 else Builtin.min2) x').run P w = .ok v' w ∧ VRel ρ f v v' := by
  intro l
  induction l with
  | nil =>
    intro x x' cs v hx hl h
    have : cs = [] := by have := hl.1; simpa using this
    subst this
    simp [aMinL] at h; subst h
    exact ⟨x', rfl, hx⟩
  | cons y l ih =>
    intro x x' cs v hx hl h
    cases cs with
    | nil => have := hl.1; simp at this
    | cons y' cs =>
      have hy : VRel ρ f y y' := hl.2 0 y y' (by simp) (by simp)
      have hl' : LRel ρ f l cs.toArray := ⟨by have := hl.1; simp at this ⊢; exact this, fun j a a' ha ha' => hl.2 (j + 1) a a' (by simpa using ha) (by simpa using ha')⟩
      simp only [aMinL] at h
      split at h
      · cases h
      · rename_i z hz
        unfold aMin2 at hz
        split at hz
        · rename_i k a k2 b
          cases hx; cases hy
          have step : ∃ z', ((if big then Builtin.max2 else Builtin.min2) (.int k (a.ev ρ)) (.int k2 (b.ev ρ))).run P w = .ok z' w ∧ VRel ρ f z z' := by
            cases big
            · simp only [Bool.false_eq_true, if_false] at hz ⊢
              split at hz
              · rename_i hs
                have h0 := settle_ok hC.dec _ _ hs
                rw [mkLt_ev hC.bd] at h0
                cases hz
                exact ⟨.int k (b.ev ρ), by simp only [Builtin.min2, if_pos (of_decide_eq_true h0), Sem.run_pure], .int k b⟩
              · rename_i hs
                have h0 := settle_ok hC.dec _ _ hs
                rw [mkLt_ev hC.bd] at h0
                cases hz
                exact ⟨.int k (a.ev ρ), by simp only [Builtin.min2, if_neg (of_decide_eq_false h0), Sem.run_pure], .int k a⟩
              · cases hz
            · simp only [if_true] at hz ⊢
              split at hz
              · rename_i hs
                have h0 := settle_ok hC.dec _ _ hs
                rw [mkLt_ev hC.bd] at h0
                cases hz
                have : b.ev ρ > a.ev ρ := of_decide_eq_true h0
                exact ⟨.int k (b.ev ρ), by simp only [Builtin.max2, if_pos this, Sem.run_pure], .int k b⟩
              · rename_i hs
                have h0 := settle_ok hC.dec _ _ hs
                rw [mkLt_ev hC.bd] at h0
                cases hz
                have : ¬ b.ev ρ > a.ev ρ := of_decide_eq_false h0
                exact ⟨.int k (a.ev ρ), by simp only [Builtin.max2, if_neg this, Sem.run_pure], .int k a⟩
              · cases hz
          obtain ⟨z', hz1, hz2⟩ := step
          obtain ⟨v', h1, h2⟩ := ih z z' cs v hz2 hl' h
          exact ⟨v', by simp only [List.foldlM_cons, Sem.run_bind, hz1, Result.andThen_ok]; exact h1, h2⟩
        · cases hz

def optEv (aev : Operand → Option AVal) : Option Operand → Option (Option AVal)
  | none => none
  | some x => some (aev x)
theorem optEv_ok {ρ : Env} {f : Ren} {aev : Operand → Option AVal} {ev : Operand → Value} (he : EvRel ρ f aev ev) (o : Option Operand) : OptRel ρ f (optEv aev o) (o.map ev) := by
  cases o with
  | none => trivial
  | some x =>
    show OptRel ρ f (some (aev x)) (some (ev x))
    cases h : aev x with
    | none => trivial
    | some v => exact he x v h

def orE (a b : Option AVal) : Option AVal :=
  match a with
  | some v => some v
  | none => b
theorem orE_ok {a b : Option AVal} {v : AVal} (h : orE a b = some v) : a = some v ∨ b = some v := by
  unfold orE at h
  split at h
  · exact .inl h
  · exact .inr h
def rdPick (C : Ctx) (h : T AObj) (aev : Operand → Option AVal) (c : Operand) (a : Operand) (b : Operand) : Option AVal :=
  match aev c with
  | some (.bool t) =>
    match settle C.dec t with
    | some true => aev a
    | some false => aev b
    | none => none
  | _ => none
def rdLoad (C : Ctx) (h : T AObj) (aev : Operand → Option AVal) (t : TypeId) (x : Operand) : Option AVal :=
  match aev x with
  | some v => orE (aLoad C h t v) (aLoadE C h t v)
  | none => none
/-- A method value whose receiver is surely there. -/
def seesNone (C : Ctx) (t : TypeId) (v : AVal) (name : String) : Bool :=
  match C.ty.get t with
  | none => false
  | some i =>
    match i.methods.find? (·.name == name) with
    | none => false
    | some m =>
      match m.path.toList with
      | [] =>
        match m.func with
        | some (_, true) => true
        | some (_, false) =>
          match v, C.und t with
          | .ptr (some _), some (.pointer _) => true
          | _, _ => false
        | none => false
      | _ => false
theorem seesNone_ok {C : Ctx} {P : Program} {ρ : Env} (hC : C.Ok P ρ) {f : Ren} {t : TypeId} {v : AVal} {v' : Value} {name : String} (hx : VRel ρ f v v') (h : seesNone C t v name = true) (n : Nat) (w : World) : (nilAhead (n + 1) t v' name).run P w = .ok (some false) w := by
  unfold seesNone at h
  split at h
  · cases h
  · rename_i i hi
    have hti := hC.ty _ _ hi
    split at h
    · cases h
    · rename_i m hm
      split at h
      · rename_i hp
        split at h
        · rename_i g hf
          simp only [nilAhead, typeInfo, Sem.run_bind, run_program, Result.andThen_ok, hti, Sem.run_pure, hm, hp, followBlind, hf]
        · rename_i g hf
          split at h
          · rename_i a e hu
            have hu := Ctx.und_ok hC hu
            obtain ⟨p, rfl⟩ : ∃ p, v' = .pointer (some p) := by cases hx; exact ⟨_, rfl⟩
            simp only [nilAhead, typeInfo, Sem.run_bind, run_program, Result.andThen_ok, hti, Sem.run_pure, hm, hp, followBlind, hf, run_underlying hu]
          · cases h
        · cases h
      · cases h
def rdNilcheck (C : Ctx) (h : T AObj) (aev : Operand → Option AVal) (x : Operand) : Option AVal :=
  match aev x with
  | some (.ptr (some a)) => some (.ptr (some a))
  | some (.ptrE i e s c) => some (.ptrE i e s c)
  | some (.iface t v) => some (.iface t v)
  | some (.func (.func g) a b) => some (.func (.func g) a b)
  | some (.func (.method name) (.iface t v :: a) b) =>
    match seesNone C t v name with
    | true => some (.func (.method name) (.iface t v :: a) b)
    | false => none
  | _ => none
def rdBinop (C : Ctx) (h : T AObj) (aev : Operand → Option AVal) (op : BinOp) (t : TypeId) (x : Operand) (y : Operand) : Option AVal :=
  match aev x, aev y with
  | some a, some b => aBin C (isC x || isC y) op t a b
  | _, _ => none
def rdUnop (C : Ctx) (h : T AObj) (aev : Operand → Option AVal) (op : UnOp) (x : Operand) : Option AVal :=
  match aev x with
  | some a => aUn C op a
  | none => none
def rdConvert (C : Ctx) (h : T AObj) (aev : Operand → Option AVal) (s : TypeId) (d : TypeId) (x : Operand) : Option AVal :=
  match aev x with
  | some a => aConv C h s d a
  | none => none
def rdMakeinterface (C : Ctx) (h : T AObj) (aev : Operand → Option AVal) (t : TypeId) (x : Operand) : Option AVal :=
  match aev x, C.und t with
  | some a, some d =>
    match d with
    | .interface _ => none
    | _ => some (.iface t a)
  | _, _ => none
def rdMakefunc (C : Ctx) (h : T AObj) (aev : Operand → Option AVal) (fn : Fn) (first : Array Operand) (capt : Array Operand) : Option AVal :=
  match evs aev first.toList, evs aev capt.toList with
  | some a, some b => some (.func fn a b)
  | _, _ => none
def rdSlice (C : Ctx) (h : T AObj) (aev : Operand → Option AVal) (t : TypeId) (x : Operand) (lo : Option Operand) (hi : Option Operand) (mx : Option Operand) : Option AVal :=
  match aev x with
  | some a => orE (aSlice C t a (optEv aev lo) (optEv aev hi) (optEv aev mx)) (orE (aSliceP C t a (optEv aev lo) (optEv aev hi) (optEv aev mx)) (aSliceE C t a.soft (optEv aev lo) (optEv aev hi) (optEv aev mx)))
  | none => none
def rdFieldaddr (C : Ctx) (h : T AObj) (aev : Operand → Option AVal) (t : TypeId) (x : Operand) (n : Nat) : Option AVal :=
  match aev x with
  | some a => orE (aFieldAddr C t a n) (aFieldAddrE C t a n)
  | none => none
def rdField (C : Ctx) (h : T AObj) (aev : Operand → Option AVal) (t : TypeId) (x : Operand) (n : Nat) : Option AVal :=
  match aev x with
  | some a => aField C t a n
  | none => none
def rdIndexaddr (C : Ctx) (h : T AObj) (aev : Operand → Option AVal) (t : TypeId) (x : Operand) (i : Operand) : Option AVal :=
  match aev x, aev i with
  | some a, some b => orE (aIndexAddr C t a b) (aIndexAddrF C t a.soft b)
  | _, _ => none
def rdIndex (C : Ctx) (h : T AObj) (aev : Operand → Option AVal) (t : TypeId) (x : Operand) (i : Operand) : Option AVal :=
  match aev x, aev i with
  | some a, some b => orE (aIndex C t a b) (aIndexE C t a b)
  | _, _ => none
def rdLookup (C : Ctx) (h : T AObj) (aev : Operand → Option AVal) (t : TypeId) (m : Operand) (k : Operand) (ok : Bool) : Option AVal :=
  match aev m, aev k with
  | some a, some b => aLookup C h t a b ok
  | _, _ => none
def rdExtract (C : Ctx) (h : T AObj) (aev : Operand → Option AVal) (x : Operand) (i : Nat) : Option AVal :=
  match aev x with
  | some (.tuple vs) => vs[i]?
  | _ => none
def rdC17 (C : Ctx) (h : T AObj) (aev : Operand → Option AVal) (args : Array Operand) (ts : Array TypeId) : Option AVal :=
  match args.toList, ts[0]? with
  | [x], some t =>
    match aev x with
    | some v => orE (aLen C h t v) (aLenE C t v.soft)
    | none => none
  | _, _ => none
def rdC18 (C : Ctx) (h : T AObj) (aev : Operand → Option AVal) (args : Array Operand) : Option AVal :=
  match evs aev args.toList with
  | some (x :: l) => aMinL C false x l
  | _ => none
def rdC19 (C : Ctx) (h : T AObj) (aev : Operand → Option AVal) (args : Array Operand) : Option AVal :=
  match evs aev args.toList with
  | some (x :: l) => aMinL C true x l
  | _ => none
def rdNext (C : Ctx) (h : T AObj) (aev : Operand → Option AVal) (x : Operand) (str : Bool) : Option AVal :=
  match aev x, str with
  | some (.ptr (some (i, 0))), false =>
    match h.get i with
    | some .it0 => some (.tuple [.bool (.lit false)])
    | _ => none
  | _, _ => none
def aRead (C : Ctx) (h : T AObj) (aev : Operand → Option AVal) : Op → Option AVal
  | .move x => aev x
  | .assign x => aev x
  | .pick c a b => rdPick C h aev c a b
  | .load t x => rdLoad C h aev t x
  | .nilCheck x => rdNilcheck C h aev x
  | .binOp op t x y _ => rdBinop C h aev op t x y
  | .unOp op _ x => rdUnop C h aev op x
  | .convert s d x => rdConvert C h aev s d x
  | .makeInterface t x => rdMakeinterface C h aev t x
  | .makeFunc fn first capt => rdMakefunc C h aev fn first capt
  | .slice t x lo hi mx => rdSlice C h aev t x lo hi mx
  | .fieldAddr t x n => rdFieldaddr C h aev t x n
  | .field t x n => rdField C h aev t x n
  | .indexAddr t x i => rdIndexaddr C h aev t x i
  | .index t x i => rdIndex C h aev t x i
  | .lookup t m k ok => rdLookup C h aev t m k ok
  | .next x str => rdNext C h aev x str
  | .extract x i => rdExtract C h aev x i
  | .call { callee := .builtin .len, args := args, argTypes := ts } => rdC17 C h aev args ts
  | .call { callee := .builtin .min, args := args, argTypes := _ } => rdC18 C h aev args
  | .call { callee := .builtin .max, args := args, argTypes := _ } => rdC19 C h aev args
  | _ => none

theorem VRel.bool_inv {ρ : Env} {f : Ren} {b : BE} {v : Value} (h : VRel ρ f (.bool b) v) : v = .bool (b.ev ρ) := by cases h; rfl

theorem aRead_ok {C : Ctx} {P : Program} {ρ : Env} (hC : C.Ok P ρ) {B : Nat → Prop} {W w : World} {f : Ren} {h : T AObj} (hr : HRel ρ B W f h w) {aev : Operand → Option AVal} {ev : Operand → Value} (he : EvRel ρ f aev ev) {o : Oper} {v : AVal} (hv : aRead C h aev o.op = some v) :
    ∃ v', (execOp ev o).run P w = .ok (.value v') w ∧ VRel ρ f v v' := by
  obtain ⟨dst, op, type, pos, after, guard⟩ := o
  have lift : ∀ {s : Sem Value} {v : AVal}, (∃ v', s.run P w = .ok v' w ∧ VRel ρ f v v') → ∃ v', (do pure (.value (← s)) : Sem Next).run P w = .ok (.value v') w ∧ VRel ρ f v v' := by
    intro s v ⟨v', h1, h2⟩
    exact ⟨v', by simp only [Sem.run_bind, h1, Result.andThen_ok, Sem.run_pure], h2⟩
  unfold aRead at hv
  simp only at hv
  split at hv
  all_goals try unfold rdPick at hv
  all_goals try unfold rdLoad at hv
  all_goals try unfold rdNilcheck at hv
  all_goals try unfold rdBinop at hv
  all_goals try unfold rdUnop at hv
  all_goals try unfold rdConvert at hv
  all_goals try unfold rdMakeinterface at hv
  all_goals try unfold rdMakefunc at hv
  all_goals try unfold rdSlice at hv
  all_goals try unfold rdFieldaddr at hv
  all_goals try unfold rdField at hv
  all_goals try unfold rdIndexaddr at hv
  all_goals try unfold rdIndex at hv
  all_goals try unfold rdLookup at hv
  all_goals try unfold rdExtract at hv
  all_goals try unfold rdNext at hv
  all_goals try unfold rdC17 at hv
  all_goals try unfold rdC18 at hv
  all_goals try unfold rdC19 at hv
  case h_1 => exact ⟨_, rfl, he _ _ hv⟩
  case h_2 => exact ⟨_, rfl, he _ _ hv⟩
  case h_3 c a b =>
    split at hv
    · rename_i t ht
      have hc := (he _ _ ht).bool_inv
      split at hv
      · rename_i hs
        have hb := settle_ok hC.dec _ _ hs
        exact ⟨ev a, by simp only [execOp, hc, hb, Sem.run_bind, asBool, Sem.run_pure, Result.andThen_ok, if_true], he _ _ hv⟩
      · rename_i hs
        have hb := settle_ok hC.dec _ _ hs
        exact ⟨ev b, by simp only [execOp, hc, hb, Sem.run_bind, asBool, Sem.run_pure, Result.andThen_ok, Bool.false_eq_true, if_false], he _ _ hv⟩
      · cases hv
    · cases hv
  case h_4 t x =>
    split at hv
    · rename_i a ha
      rcases orE_ok hv with hv | hv
      · exact lift (aLoad_ok hC hr (he _ _ ha) hv)
      · exact lift (aLoadE_ok hC hr (he _ _ ha) hv)
    · cases hv
  case h_5 x =>
    have hx : ∀ a, aev x = some a → VRel ρ f a (ev x) := he x
    split at hv
    · rename_i a ha
      cases hv
      have := hx _ ha
      refine ⟨ev x, ?_, this⟩
      simp only [execOp]
      generalize ev x = x' at this
      cases this; rfl
    · rename_i i e s c ha
      cases hv
      have := hx _ ha
      refine ⟨ev x, ?_, this⟩
      simp only [execOp]
      generalize ev x = x' at this
      cases this; rfl
    · rename_i t a ha
      cases hv
      have := hx _ ha
      refine ⟨ev x, ?_, this⟩
      simp only [execOp]
      generalize ev x = x' at this
      cases this; rfl
    · rename_i g a b ha
      cases hv
      have := hx _ ha
      refine ⟨ev x, ?_, this⟩
      simp only [execOp]
      generalize ev x = x' at this
      cases this; rfl
    · rename_i name t v a b ha
      split at hv
      · rename_i hs
        cases hv
        have := hx _ ha
        refine ⟨ev x, ?_, this⟩
        simp only [execOp]
        generalize ev x = x' at this
        cases this
        rename_i a' b' h1 h2 h3 h4
        have hsz : 0 < a'.size := by rw [h1]; simp
        have h0 : a'[0]? = some a'[0] := Array.getElem?_eq_getElem hsz
        have hv0 := h2 0 (.iface t v) a'[0] rfl h0
        generalize a'[0] = y at h0 hv0
        cases hv0
        rename_i v' hv'
        have hn : ∀ n, (nilAhead (n + 1) t v' name).run P w = .ok (some false) w := fun n => seesNone_ok hC hv' hs n w
        have hn2 := hn (P.types.size + 99)
        simp only [h0, Sem.run_bind, run_program, Result.andThen_ok]
        rw [show P.types.size + Made.depth = P.types.size + 99 + 1 from rfl, hn2]
        rfl
      · cases hv
    · cases hv
  case h_6 op t x y yt =>
    split at hv
    · rename_i a b ha hb; exact lift (aBin_ok hC x y (he _ _ ha) (he _ _ hb) hv w)
    · cases hv
  case h_7 op t x =>
    split at hv
    · rename_i a ha; exact lift (aUn_ok hC (he _ _ ha) hv w)
    · cases hv
  case h_8 s d x =>
    split at hv
    · rename_i a ha; exact lift (aConv_ok hC hr (he _ _ ha) hv)
    · cases hv
  case h_9 t x =>
    split at hv
    · rename_i a d ha hu
      have hd := Ctx.und_ok hC hu
      split at hv
      · cases hv
      · rename_i hni
        cases hv
        refine lift ⟨.iface t (ev x), ?_, .iface (he _ _ ha)⟩
        simp only [Instr.makeInterface, Sem.run_bind, run_underlying hd, Result.andThen_ok]
        cases d <;> first | rfl | exact absurd rfl (hni _)
    · cases hv
  case h_10 fn first capt =>
    split at hv
    · rename_i a b ha hb
      cases hv
      have h1 := evs_arr he ha
      have h2 := evs_arr he hb
      exact lift ⟨.func fn (first.map ev) (capt.map ev), rfl, .func h1.1 h2.1 h1.2 h2.2⟩
    · cases hv
  case h_11 t x lo hi mx =>
    split at hv
    · rename_i a ha
      rcases orE_ok hv with hv | hv
      · exact lift (aSlice_ok hC (he _ _ ha) (optEv_ok he lo) (optEv_ok he hi) (optEv_ok he mx) hv w)
      rcases orE_ok hv with hv | hv
      · exact lift (aSliceP_ok hC (he _ _ ha) (optEv_ok he lo) (optEv_ok he hi) (optEv_ok he mx) hv w)
      · exact lift (aSliceE_ok hC (he _ _ ha).soft (optEv_ok he lo) (optEv_ok he hi) (optEv_ok he mx) hv w)
    · cases hv
  case h_12 t x n =>
    split at hv
    · rename_i a ha
      rcases orE_ok hv with hv | hv
      · exact lift (aFieldAddr_ok hC (he _ _ ha) hv w)
      · exact lift (aFieldAddrE_ok hC (he _ _ ha) hv w)
    · cases hv
  case h_13 t x n =>
    split at hv
    · rename_i a ha; exact lift (aField_ok hC (he _ _ ha) hv w)
    · cases hv
  case h_14 t x i =>
    split at hv
    · rename_i a b ha hb
      rcases orE_ok hv with hv | hv
      · exact lift (aIndexAddr_ok hC (he _ _ ha) (he _ _ hb) hv w)
      · exact lift (aIndexAddrF_ok hC (he _ _ ha).soft (he _ _ hb) hv w)
    · cases hv
  case h_15 t x i =>
    split at hv
    · rename_i a b ha hb
      rcases orE_ok hv with hv | hv
      · exact lift (aIndex_ok hC (he _ _ ha) (he _ _ hb) hv w)
      · exact lift (aIndexE_ok hC (he _ _ ha) (he _ _ hb) hv w)
    · cases hv
  case h_16 t m k ok =>
    split at hv
    · rename_i a b ha hb; exact lift (aLookup_ok hC hr (he _ _ ha) (he _ _ hb) hv)
    · cases hv
  case h_17 x str =>
    split at hv
    · rename_i i ha
      split at hv
      · rename_i hi
        cases hv
        have hx := he _ _ ha
        simp only [execOp]
        refine lift ?_
        generalize ev x = x' at hx
        cases hx
        rename_i L hL
        obtain ⟨h0, a, s, t, h1⟩ := hr.obj i L _ hL hi
        refine ⟨.tuple #[.bool false], ?_, .tuple (a' := #[.bool false]) rfl (fun j u u' hu hu' => ?_)⟩
        · simp only [Instr.next, h0, Nat.add_zero, Sem.run_bind, getObj, Sem.run, h1, Result.andThen_ok]
          rfl
        · cases j with
          | zero => simp at hu hu'; subst hu; subst hu'; exact .bool (.lit false)
          | succ j => simp at hu
      · cases hv
    · cases hv
  case h_18 x i =>
    split at hv
    · rename_i vs ha
      have hx := he _ _ ha
      simp only [execOp]
      refine lift ?_
      generalize ev x = x' at hx
      cases hx; rename_i a' h1 h2
      obtain ⟨v', p, q⟩ := LRel.get (l := vs) (a := a') ⟨h1, h2⟩ hv
      exact ⟨v', by simp only [Instr.extract, p, Sem.run_pure], q⟩
    · cases hv
  case h_19 args ts =>
    split at hv
    · rename_i x t hargs ht
      split at hv
      · rename_i a ha
        have hxs : (args.map ev)[0]? = some (ev x) := by
          have : args = #[x] := by apply Array.ext'; simpa using hargs
          subst this; simp
        have hl : ∃ v', (Builtin.len_ ts type (args.map ev)).run P w = .ok v' w ∧ VRel ρ f v v' := by
          rcases orE_ok hv with hv | hv
          · exact aLen_ok hC hr (ty := type) (he _ _ ha) hv ts (args.map ev) ht hxs
          · exact aLenE_ok hC (ty := type) (he _ _ ha).soft hv ts (args.map ev) ht hxs
        obtain ⟨v', p, q⟩ := hl
        exact ⟨v', by simp only [execOp, resolve, Sem.run_bind, Sem.run_pure, Result.andThen_ok, invoke, builtin, p], q⟩
      · cases hv
    · cases hv
  case h_20 args ts =>
    split at hv
    · rename_i x l hargs
      have hl := evs_ok he _ _ hargs
      cases hxs : args.toList.map ev with
      | nil => rw [hxs] at hl; have := hl.1; simp at this
      | cons x' cs =>
        rw [hxs] at hl
        have hx : VRel ρ f x x' := hl.2 0 x x' (by simp) (by simp)
        have hl' : LRel ρ f l cs.toArray := ⟨by have := hl.1; simp at this ⊢; exact this, fun j a a' ha ha' => hl.2 (j + 1) a a' (by simpa using ha) (by simpa using ha')⟩
        obtain ⟨v', p, q⟩ := aMin_ok hC false w l x x' cs v hx hl' hv
        refine ⟨v', ?_, q⟩
        have e : (args.map ev).toList = x' :: cs := by rw [← hxs]; simp
        simp only [execOp, resolve, Sem.run_bind, Sem.run_pure, Result.andThen_ok, invoke, builtin, Builtin.min_, e]
        simp only [Bool.false_eq_true, if_false] at p
        rw [p]; rfl
    · cases hv
  case h_21 args ts =>
    split at hv
    · rename_i x l hargs
      have hl := evs_ok he _ _ hargs
      cases hxs : args.toList.map ev with
      | nil => rw [hxs] at hl; have := hl.1; simp at this
      | cons x' cs =>
        rw [hxs] at hl
        have hx : VRel ρ f x x' := hl.2 0 x x' (by simp) (by simp)
        have hl' : LRel ρ f l cs.toArray := ⟨by have := hl.1; simp at this ⊢; exact this, fun j a a' ha ha' => hl.2 (j + 1) a a' (by simpa using ha) (by simpa using ha')⟩
        obtain ⟨v', p, q⟩ := aMin_ok hC true w l x x' cs v hx hl' hv
        refine ⟨v', ?_, q⟩
        have e : (args.map ev).toList = x' :: cs := by rw [← hxs]; simp
        simp only [execOp, resolve, Sem.run_bind, Sem.run_pure, Result.andThen_ok, invoke, builtin, Builtin.max_, e]
        simp only [if_true] at p
        rw [p]; rfl
    · cases hv
  case h_22 => cases hv
end
end Go.Sx
