/- Operations that only compute or read (the others of them). No condition. -/
import Derived.Test.YtpoianhfjgjajaaGreatSx6
set_option linter.unusedSimpArgs false
set_option linter.unusedVariables false
namespace Go.Sx
open Go.RowKit (Below)
noncomputable section

def aUn (C : Ctx) (op : UnOp) : AVal → Option AVal
  | .int k e =>
    match op with
    | .neg => some (.int k (mkWrap C.bd k (mkSub (.lit 0) e)))
    | .xor => some (.int k (mkBits .xor k (.lit (if k.signed then -1 else kHi k)) e))
    | _ => none
  | .bool b =>
    match op with
    | .not => some (.bool (mkNot b))
    | _ => none
  | _ => none
theorem kMax_eq (k : IntKind) : k.max = kHi k := by cases k <;> decide
theorem aUn_ok {C : Ctx} {P : Program} {ρ : Env} (hC : C.Ok P ρ) {f : Ren} {op : UnOp} {x : AVal} {x' : Value} {v : AVal} (hx : VRel ρ f x x') (h : aUn C op x = some v) (w : World) :
    ∃ v', (Op.unary op x').run P w = .ok v' w ∧ VRel ρ f v v' := by
  unfold aUn at h
  split at h
  · rename_i k e
    cases hx
    split at h
    · cases h
      refine ⟨.int k (k.wrap (0 - e.ev ρ)), by simp only [Op.unary, Op.intArith, Sem.run_pure], ?_⟩
      rw [show k.wrap (0 - e.ev ρ) = (mkWrap C.bd k (mkSub (.lit 0) e)).ev ρ by rw [mkWrap_ev hC.bd, mkSub_ev]; rfl]
      exact .int k _
    · cases h
      refine ⟨.int k (bitsI .xor k (if k.signed then -1 else k.max) (e.ev ρ)), ?_, ?_⟩
      · simp only [Op.unary, bitsI_run .xor k _ _ (by simp), Sem.run_pure]
      · rw [show bitsI .xor k (if k.signed then -1 else k.max) (e.ev ρ) = (mkBits .xor k (.lit (if k.signed then -1 else kHi k)) e).ev ρ by rw [mkBits_ev, kMax_eq]; rfl]
        exact .int k _
    · cases h
  · rename_i b
    cases hx
    split at h
    · cases h
      refine ⟨.bool (!(b.ev ρ)), by simp only [Op.unary, Sem.run_pure], ?_⟩
      rw [← mkNot_ev]
      exact .bool _
    · cases h
  · cases h

/-! numbers known -/
def asNat (C : Ctx) (v : AVal) : Option Nat :=
  match v with
  | .int _ e =>
    match asLit C.dec e with
    | some (.ofNat n) => some n
    | _ => none
  | _ => none
theorem asNat_ok {C : Ctx} {P : Program} {ρ : Env} (hC : C.Ok P ρ) {f : Ren} {v : AVal} {v' : Value} {n : Nat} (hv : VRel ρ f v v') (h : asNat C v = some n) : ∃ k, v' = .int k n := by
  unfold asNat at h
  split at h
  · rename_i k e
    cases hv
    split at h
    · rename_i m hm
      cases h
      exact ⟨k, by rw [asLit_ok hC.dec hm]; rfl⟩
    · cases h
  · cases h

/-! places -/
def aFieldAddr (C : Ctx) (s : TypeId) (x : AVal) (fld : Nat) : Option AVal :=
  match x, C.und s with
  | .ptr (some (i, o)), some (.struct fs) =>
    match fs[fld]? with
    | none => none
    | some fd =>
      match C.size fd.type with
      | some (_ + 1) => some (.ptr (some (i, o + fd.offset)))
      | _ => none
  | _, _ => none
theorem addr_add (b o n : Nat) : (⟨b, o, none⟩ : Addr).add n = ⟨b, o + n, none⟩ := by
  unfold Addr.add; split
  · rename_i e; subst e; rfl
  · rfl
theorem aFieldAddr_ok {C : Ctx} {P : Program} {ρ : Env} (hC : C.Ok P ρ) {f : Ren} {s : TypeId} {x : AVal} {x' : Value} {fld : Nat} {v : AVal} (hx : VRel ρ f x x') (h : aFieldAddr C s x fld = some v) (w : World) :
    ∃ v', (Instr.fieldAt s x' fld).run P w = .ok v' w ∧ VRel ρ f v v' := by
  unfold aFieldAddr at h
  split at h
  · rename_i i o fs hu
    have hu := Ctx.und_ok hC hu
    cases hx; rename_i L hf
    split at h
    · cases h
    · rename_i fd hfd
      split at h
      · rename_i n hn
        cases h
        refine ⟨.pointer (some ⟨L.blk, L.base + (o + fd.offset), none⟩), ?_, .ptr hf⟩
        simp only [Instr.fieldAt, Sem.run_bind, run_underlying hu, Result.andThen_ok, hfd, Instr.sureAddr, Sem.run_pure, fieldPlace, Ctx.size_ok hC hn, Nat.succ_ne_zero, if_false, addr_add, Nat.add_assoc]
      · cases h
  · cases h
def aField (C : Ctx) (t : TypeId) (x : AVal) (fld : Nat) : Option AVal :=
  match x, C.und t with
  | .agg cs, some (.struct fs) =>
    match fs[fld]? with
    | none => none
    | some fd => aPart C fd.type cs fd.offset
  | _, _ => none
theorem aField_ok {C : Ctx} {P : Program} {ρ : Env} (hC : C.Ok P ρ) {f : Ren} {s : TypeId} {x : AVal} {x' : Value} {fld : Nat} {v : AVal} (hx : VRel ρ f x x') (h : aField C s x fld = some v) (w : World) :
    ∃ v', (Instr.field s x' fld).run P w = .ok v' w ∧ VRel ρ f v v' := by
  unfold aField at h
  split at h
  · rename_i cs fs hu
    have hu := Ctx.und_ok hC hu
    cases hx; rename_i a' h1 h2
    split at h
    · cases h
    · rename_i fd hfd
      obtain ⟨v', p, q⟩ := aPart_ok hC (⟨h1, h2⟩ : LRel ρ f cs a') h w
      exact ⟨v', by simp only [Instr.field, Sem.run_bind, run_underlying hu, Result.andThen_ok, hfd, asAgg, Sem.run_pure, p], q⟩
  · cases h
def aIndexAddr (C : Ctx) (t : TypeId) (x ix : AVal) : Option AVal :=
  match asNat C ix with
  | none => none
  | some n =>
    match C.und t, x with
    | some (.array len e), .ptr (some (i, o)) =>
      match Nat.ble (n + 1) len, C.size e with
      | true, some s => some (.ptr (some (i, o + n * s)))
      | _, _ => none
    | some (.slice e), .slice (some (i, o)) len _ _ =>
      match Nat.ble (n + 1) len, C.size e with
      | true, some s => some (.ptr (some (i, o + n * s)))
      | _, _ => none
    | _, _ => none
theorem aIndexAddr_ok {C : Ctx} {P : Program} {ρ : Env} (hC : C.Ok P ρ) {f : Ren} {t : TypeId} {x ix : AVal} {x' ix' : Value} {v : AVal} (hx : VRel ρ f x x') (hi : VRel ρ f ix ix') (h : aIndexAddr C t x ix = some v) (w : World) :
    ∃ v', (Instr.indexAt t x' ix').run P w = .ok v' w ∧ VRel ρ f v v' := by
  unfold aIndexAddr at h
  split at h
  · cases h
  · rename_i n hn
    obtain ⟨k, rfl⟩ := asNat_ok hC hi hn
    split at h
    · rename_i len e i o hu
      have hu := Ctx.und_ok hC hu
      cases hx; rename_i L hf
      split at h
      · rename_i s hlt hs
        have hlt' : n < len := Nat.le_of_ble_eq_true hlt
        cases h
        refine ⟨.pointer (some ⟨L.blk, L.base + (o + n * s), none⟩), ?_, .ptr hf⟩
        have hc : (0 : Int) ≤ (n : Int) ∧ (n : Int) < (len : Int) := by omega
        simp only [Instr.indexAt, asIntOf, Sem.run_bind, run_underlying hu, Result.andThen_ok, Instr.sureAddr, Sem.run_pure, if_pos hc, Ctx.size_ok hC hs, addr_add, Int.toNat_natCast, Nat.add_assoc]
      · cases h
    · rename_i e i o len c g hu
      have hu := Ctx.und_ok hC hu
      split at h
      · rename_i s hlt hs
        have hlt' : n < len := Nat.le_of_ble_eq_true hlt
        cases h
        have hc : (0 : Int) ≤ (n : Int) ∧ (n : Int) < (len : Int) := by omega
        cases hx with
        | slice hf =>
          rename_i L
          refine ⟨.pointer (some ⟨L.blk, L.base + (o + n * s), none⟩), ?_, .ptr hf⟩
          simp only [Instr.indexAt, asIntOf, Sem.run_bind, run_underlying hu, Result.andThen_ok, Instr.sureAddr, Sem.run_pure, if_pos hc, Ctx.size_ok hC hs, addr_add, Int.toNat_natCast, Nat.add_assoc]
        | sliceG hf hn hc' hs' =>
          rename_i L
          refine ⟨.pointer (some ⟨L.blk, L.base + (o + n * s), none⟩), ?_, .ptr hf⟩
          simp only [Instr.indexAt, asIntOf, Sem.run_bind, run_underlying hu, Result.andThen_ok, Instr.sureAddr, Sem.run_pure, if_pos hc, Ctx.size_ok hC hs, addr_add, Int.toNat_natCast, Nat.add_assoc]
        | sliceE hf hg hs' => omega
      · cases h
    · cases h
def aIndex (C : Ctx) (t : TypeId) (x ix : AVal) : Option AVal :=
  match asNat C ix with
  | none => none
  | some n =>
    match C.und t, x with
    | some (.array len e), .agg cs =>
      match Nat.ble (n + 1) len, C.size e with
      | true, some s => aPart C e cs (n * s)
      | _, _ => none
    | some .string, .str l =>
      match l[n]? with
      | some e => some (.int .u8 e)
      | none => none
    | _, _ => none
theorem SRel.get {ρ : Env} {l : List IE} {s : ByteArray} (h : SRel ρ l s) {n : Nat} {e : IE} (he : l[n]? = some e) : ∃ b : UInt8, s[n]? = some b ∧ e.ev ρ = b.toNat := by
  have h1 : (l.map (·.ev ρ))[n]? = some (e.ev ρ) := by simp [he]
  rw [← h] at h1
  simp only [List.getElem?_map, Option.map_eq_some_iff] at h1
  obtain ⟨b, hb, hb'⟩ := h1
  refine ⟨b, ?_, hb'.symm⟩
  have hlt : n < s.size := by
    have := (List.getElem?_eq_some_iff.1 hb).1
    simpa using this
  have : s.data[n]? = some b := by simpa using hb
  rw [← this]
  simp only [getElem?_def]
  rfl
theorem aIndex_ok {C : Ctx} {P : Program} {ρ : Env} (hC : C.Ok P ρ) {f : Ren} {t : TypeId} {x ix : AVal} {x' ix' : Value} {v : AVal} (hx : VRel ρ f x x') (hi : VRel ρ f ix ix') (h : aIndex C t x ix = some v) (w : World) :
    ∃ v', (Instr.index t x' ix').run P w = .ok v' w ∧ VRel ρ f v v' := by
  unfold aIndex at h
  split at h
  · cases h
  · rename_i n hn
    obtain ⟨k, rfl⟩ := asNat_ok hC hi hn
    split at h
    · rename_i len e cs hu
      have hu := Ctx.und_ok hC hu
      cases hx; rename_i a' h1 h2
      split at h
      · rename_i s hlt hs
        have hlt' : n < len := Nat.le_of_ble_eq_true hlt
        obtain ⟨v', p, q⟩ := aPart_ok hC (⟨h1, h2⟩ : LRel ρ f cs a') h w
        have hc : (0 : Int) ≤ (n : Int) ∧ (n : Int) < (len : Int) := by omega
        exact ⟨v', by simp only [Instr.index, asIntOf, Sem.run_bind, run_underlying hu, Result.andThen_ok, Sem.run_pure, if_pos hc, Ctx.size_ok hC hs, Int.toNat_natCast, p], q⟩
      · cases h
    · rename_i l hu
      have hu := Ctx.und_ok hC hu
      cases hx; rename_i s hs
      split at h
      · rename_i e he
        cases h
        obtain ⟨b, hb, hb'⟩ := hs.get he
        refine ⟨.int .u8 b.toNat, ?_, by rw [← hb']; exact .int _ e⟩
        simp only [Instr.index, asIntOf, Sem.run_bind, run_underlying hu, Result.andThen_ok, Sem.run_pure, if_pos (Int.natCast_nonneg n), Int.toNat_natCast, hb]
      · cases h
    · cases h

/-! slice expressions -/
/-- An optional bound: 0 to m. -/
def aBound (C : Ctx) (m : Nat) (dflt : Nat) : Option (Option AVal) → Option Nat
  | none => some dflt
  | some none => none
  | some (some v) =>
    match asNat C v with
    | none => none
    | some n =>
      match Nat.ble n m with
      | true => some n
      | false => none
def OptRel (ρ : Env) (f : Ren) : Option (Option AVal) → Option Value → Prop
  | none, none => True
  | some (some v), some v' => VRel ρ f v v'
  | some none, some _ => True
  | _, _ => False
theorem run_sliceBound {P : Program} {w : World} {k : IntKind} {n y : Nat} {c : BoundsCode} (h : n ≤ y) : (Instr.sliceBound (.int k n) y c).run P w = .ok n w := by
  have hc : (0 : Int) ≤ (n : Int) ∧ (n : Int) ≤ (y : Int) := by omega
  simp only [Instr.sliceBound, asIntOf, Sem.run_bind, Sem.run_pure, Result.andThen_ok, if_pos hc, Int.toNat_natCast]
/-- The three bounds of a slice expression: of length 'len', at most 'cap' long. -/
def aBounds (C : Ctx) (len cap : Nat) (lo hi mx : Option (Option AVal)) : Option (Nat × Nat × Option Nat) :=
  match mx with
  | none =>
    match aBound C cap len hi with
    | none => none
    | some h =>
      match aBound C h 0 lo with
      | none => none
      | some l => some (l, h, none)
  | some _ =>
    match aBound C cap cap mx with
    | none => none
    | some m =>
      match hi with
      | none => none
      | some _ =>
        match aBound C m len hi with
        | none => none
        | some h =>
          match aBound C h 0 lo with
          | none => none
          | some l => some (l, h, some m)
theorem aBound_ok {C : Ctx} {P : Program} {ρ : Env} (hC : C.Ok P ρ) {f : Ren} {m d n : Nat} {b : Option (Option AVal)} {b' : Option Value} (hb : OptRel ρ f b b') (h : aBound C m d b = some n) :
    (b' = none ∧ b = none ∧ n = d) ∨ (∃ k, b' = some (.int k n) ∧ n ≤ m) := by
  cases b with
  | none =>
    cases b' with
    | none => simp [aBound] at h; exact .inl ⟨rfl, rfl, h.symm⟩
    | some v => cases hb
  | some b =>
    cases b with
    | none => simp [aBound] at h
    | some v =>
      cases b' with
      | none => cases hb
      | some v' =>
        simp only [aBound] at h
        split at h
        · cases h
        · rename_i k hk
          obtain ⟨kk, rfl⟩ := asNat_ok hC hb hk
          split at h
          · rename_i hle
            cases h
            exact .inr ⟨kk, rfl, Nat.le_of_ble_eq_true hle⟩
          · cases h
theorem aBounds_ok {C : Ctx} {P : Program} {ρ : Env} (hC : C.Ok P ρ) {f : Ren} {isS : Bool} {len cap cap' : Nat} {lo hi mx : Option (Option AVal)} {lo' hi' mx' : Option Value} (h1 : OptRel ρ f lo lo') (h2 : OptRel ρ f hi hi') (h3 : OptRel ρ f mx mx')
    {l h : Nat} {m : Option Nat} (hcap : cap ≤ cap') (hlen : len ≤ cap) (hh : aBounds C len cap lo hi mx = some (l, h, m)) (w : World) :
    (Instr.sliceBounds isS len cap' lo' hi' mx').run P w = .ok (l, h, m.getD cap') w ∧ l ≤ h ∧ h ≤ cap ∧ (∀ x, m = some x → h ≤ x ∧ x ≤ cap) := by
  unfold aBounds at hh
  split at hh
  · cases mx' with
    | some _ => cases h3
    | none =>
      split at hh
      · cases hh
      · rename_i hv hhv
        split at hh
        · cases hh
        · rename_i lv hlv
          cases hh
          rcases aBound_ok hC h2 hhv with ⟨rfl, _, rfl⟩ | ⟨kh, rfl, hle⟩
          · rcases aBound_ok hC h1 hlv with ⟨rfl, _, rfl⟩ | ⟨kl, rfl, hle'⟩
            · exact ⟨by simp [Instr.sliceBounds], by omega, by omega, by simp⟩
            · exact ⟨by simp [Instr.sliceBounds, run_sliceBound hle'], by omega, by omega, by simp⟩
          · have hle2 : h ≤ cap' := by omega
            rcases aBound_ok hC h1 hlv with ⟨rfl, _, rfl⟩ | ⟨kl, rfl, hle'⟩
            · exact ⟨by simp [Instr.sliceBounds, run_sliceBound hle2], by omega, by omega, by simp⟩
            · exact ⟨by simp [Instr.sliceBounds, run_sliceBound hle', run_sliceBound hle2], by omega, by omega, by simp⟩
  · rename_i mv
    split at hh
    · cases hh
    · rename_i mm hmm
      split at hh
      · cases hh
      · rename_i hiv
        split at hh
        · cases hh
        · rename_i hv hhv
          split at hh
          · cases hh
          · rename_i lv hlv
            cases hh
            rcases aBound_ok hC h3 hmm with ⟨_, h0, _⟩ | ⟨km, rfl, hmle⟩
            · cases h0
            rcases aBound_ok hC h2 hhv with ⟨_, h0, _⟩ | ⟨kh, rfl, hle⟩
            · cases h0
            have hmle2 : mm ≤ cap' := by omega
            rcases aBound_ok hC h1 hlv with ⟨rfl, _, rfl⟩ | ⟨kl, rfl, hle'⟩
            · exact ⟨by simp [Instr.sliceBounds, run_sliceBound hle, run_sliceBound hmle2], by omega, by omega, by intro x hx; cases hx; exact ⟨hle, hmle⟩⟩
            · exact ⟨by simp [Instr.sliceBounds, run_sliceBound hle, run_sliceBound hle', run_sliceBound hmle2], by omega, by omega, by intro x hx; cases hx; exact ⟨hle, hmle⟩⟩
def aSlice (C : Ctx) (t : TypeId) (x : AVal) (lo hi mx : Option (Option AVal)) : Option AVal :=
  match C.und t, x with
  | some .string, .str l =>
    match mx with
    | some _ => none
    | none =>
      let n := l.length
      match aBounds C n n lo hi none with
      | some (a, b, _) => some (.str ((l.drop a).take (b - a)))
      | none => none
  | some (.array n e), .ptr (some (i, o)) =>
    match C.size e, aBounds C n n lo hi mx with
    | some s, some (a, b, m) =>
      let m := m.getD n
      some (.slice (some (i, if m = a then o else o + a * s)) (b - a) (m - a) 0)
    | _, _ => none
  | some (.slice e), .slice none 0 0 0 =>
    match C.size e, aBounds C 0 0 lo hi mx with
    | some _, some _ => some (.slice none 0 0 0)
    | _, _ => none
  | some (.slice e), .slice (some (i, o)) n c g =>
    match Nat.ble n c, C.size e, aBounds C n c lo hi mx with
    | true, some s, some (a, b, m) =>
      match g with
      | 0 =>
        let m := m.getD c
        match Nat.beq c 0 with
        | true => some (.slice (some (i, o)) 0 0 0)
        | false => some (.slice (some (i, if m = a then o else o + a * s)) (b - a) (m - a) 0)
      | g + 1 =>
        match Nat.beq s (g + 1), m with
        | true, some 0 => some (.slice (some (i, o)) 0 0 0)
        | true, none =>
          match Nat.beq a 0 with
          | true => some (.slice (some (i, o)) b c (g + 1))
          | false => some (.slice (some (i, o + a * s)) (b - a) (c - a) (g + 1))
        | _, _ => none
    | _, _, _ => none
  | _, _ => none
theorem drop_take_map {α β : Type} (g : α → β) (l : List α) (a n : Nat) : ((l.drop a).take n).map g = ((l.map g).drop a).take n := by
  simp [List.map_take, List.map_drop]
theorem SRel.extract {ρ : Env} {l : List IE} {s : ByteArray} (h : SRel ρ l s) (a b : Nat) : SRel ρ ((l.drop a).take (b - a)) (s.extract a b) := by
  unfold SRel at *
  rw [drop_take_map, ← h, ← drop_take_map]
  congr 1
  simp [ByteArray.data_extract, List.extract_eq_take_drop]
theorem aSlice_ok {C : Ctx} {P : Program} {ρ : Env} (hC : C.Ok P ρ) {f : Ren} {t : TypeId} {x : AVal} {x' : Value} {lo hi mx : Option (Option AVal)} {lo' hi' mx' : Option Value} {v : AVal} (hx : VRel ρ f x x')
    (h1 : OptRel ρ f lo lo') (h2 : OptRel ρ f hi hi') (h3 : OptRel ρ f mx mx') (h : aSlice C t x lo hi mx = some v) (w : World) :
    ∃ v', (Instr.sliceAt t x' lo' hi' mx').run P w = .ok v' w ∧ VRel ρ f v v' := by
  unfold aSlice at h
  split at h
  · rename_i l hu
    have hu := Ctx.und_ok hC hu
    cases hx; rename_i s hs
    split at h
    · cases h
    · cases mx' with
      | some _ => cases h3
      | none =>
        simp only at h
        split at h
        · rename_i a b m hb
          cases h
          rw [← hs.size] at hb
          obtain ⟨hr, _⟩ := aBounds_ok hC (isS := false) h1 h2 (show OptRel ρ f none none from trivial) (Nat.le_refl _) (Nat.le_refl _) hb w
          refine ⟨.string (s.extract a b), ?_, .str (hs.extract a b)⟩
          simp only [Instr.sliceAt, Instr.slice, Sem.run_bind, run_underlying hu, Result.andThen_ok, Option.isSome_none, Bool.false_eq_true, if_false, hr, Sem.run_pure]
        · cases h
  · rename_i n e i o hu
    have hu := Ctx.und_ok hC hu
    cases hx; rename_i L hf
    split at h
    · rename_i s a b m hs hb
      cases h
      obtain ⟨hr, _⟩ := aBounds_ok hC (isS := false) h1 h2 h3 (Nat.le_refl _) (Nat.le_refl _) hb w
      refine ⟨.slice (some ⟨L.blk, L.base + (if m.getD n = a then o else o + a * s), none⟩) (b - a) (m.getD n - a), ?_, .slice hf⟩
      simp only [Instr.sliceAt, Sem.run_bind, run_underlying hu, Result.andThen_ok, Instr.sureAddr, Sem.run_pure, hr, Ctx.size_ok hC hs]
      congr 3
      split
      · rfl
      · rw [addr_add, Nat.add_assoc]
    · cases h
  · rename_i e hu
    have hu := Ctx.und_ok hC hu
    cases hx
    split at h
    · rename_i s bb hs hb
      cases h
      obtain ⟨a, b, m⟩ := bb
      obtain ⟨hr, q1, q2, q3⟩ := aBounds_ok hC (isS := true) h1 h2 h3 (Nat.le_refl _) (Nat.le_refl _) hb w
      have hb0 : b = 0 := by omega
      have ha0 : a = 0 := by omega
      have hm : m.getD 0 = 0 := by
        cases m with
        | none => rfl
        | some x => have := q3 x rfl; simp; omega
      subst hb0; subst ha0
      rw [hm] at hr
      refine ⟨.slice none 0 0, ?_, .nilSlice⟩
      simp only [Instr.sliceAt, Instr.slice, Sem.run_bind, run_underlying hu, Result.andThen_ok, hr, Ctx.size_ok hC hs, Sem.run_pure, if_true, Nat.sub_self]
    · cases h
  · rename_i e i o n c g hu
    have hu := Ctx.und_ok hC hu
    split at h
    · rename_i s a b m hnc hs hb
      replace hnc := Nat.le_of_ble_eq_true hnc
      have run : ∀ (ad : Addr) (nn cc : Nat), nn = n → c ≤ cc → (Instr.sliceAt t (.slice (some ad) nn cc) lo' hi' mx').run P w = .ok (.slice (if m.getD cc = a then some ad else some (ad.add (a * s))) (b - a) (m.getD cc - a)) w := by
        intro ad nn cc hnn hcc
        subst hnn
        obtain ⟨hr, q⟩ := aBounds_ok hC (isS := true) h1 h2 h3 hcc hnc hb w
        simp only [Instr.sliceAt, Instr.slice, Sem.run_bind, run_underlying hu, Result.andThen_ok, hr, Ctx.size_ok hC hs, Sem.run_pure, Option.map_some]
      obtain ⟨-, q1, q2, q3⟩ := aBounds_ok hC (isS := true) h1 h2 h3 (Nat.le_refl c) hnc hb w
      split at h
      · -- exact
        simp only at h
        have hm : m.getD c ≤ c ∧ b ≤ m.getD c := by
          cases m with
          | none => simp; omega
          | some x => have := q3 x rfl; simp; omega
        split at h
        · rename_i hc0
          replace hc0 := Nat.eq_of_beq_eq_true hc0
          cases h
          have e1 : m.getD c = 0 := by omega
          have e2 : a = 0 := by omega
          have e3 : b = 0 := by omega
          cases hx with
          | slice hf =>
            rename_i L
            refine ⟨_, run _ _ _ rfl (Nat.le_refl _), ?_⟩
            rw [e1, e2, e3, if_pos rfl]
            exact .slice hf
          | sliceE hf hg hss =>
            rename_i o' c' L
            obtain rfl := hg rfl
            refine ⟨_, run _ _ _ rfl (Nat.zero_le _), ?_⟩
            rw [e1, e2, e3, if_pos rfl]
            exact .sliceE hf (fun _ => rfl) hss
        · rename_i hc0
          have hc0 : c ≠ 0 := by intro e; simp [e] at hc0
          cases h
          cases hx with
          | slice hf =>
            rename_i L
            refine ⟨_, run _ _ _ rfl (Nat.le_refl _), ?_⟩
            have e : (if m.getD c = a then some (⟨L.blk, L.base + o, none⟩ : Addr) else some ((⟨L.blk, L.base + o, none⟩ : Addr).add (a * s))) = some ⟨L.blk, L.base + (if m.getD c = a then o else o + a * s), none⟩ := by
              split
              · rfl
              · rw [addr_add, Nat.add_assoc]
            rw [e]
            exact .slice hf
          | sliceE hf hg hss => exact absurd rfl hc0
      · rename_i g
        split at h
        · rename_i hsg
          have hsg := Nat.eq_of_beq_eq_true hsg
          have e := q3 0 rfl
          have e2 : a = 0 := by omega
          have e3 : b = 0 := by omega
          cases h
          cases hx with
          | sliceG hf hn hcc hss =>
            rename_i c' L
            refine ⟨_, run _ _ _ rfl hcc, ?_⟩
            rw [e2, e3]
            simp only [Option.getD_some, if_true, Nat.sub_self]
            exact .slice hf
          | sliceE hf hg hss =>
            rename_i o' c' L
            refine ⟨_, run _ _ _ rfl (Nat.zero_le _), ?_⟩
            rw [e2, e3]
            simp only [Option.getD_some, if_true, Nat.sub_self]
            exact .sliceE hf (fun _ => rfl) (by omega)
        · rename_i hsg
          have hsg := Nat.eq_of_beq_eq_true hsg
          split at h
          · rename_i ha0
            have ha0 := Nat.eq_of_beq_eq_true ha0
            subst ha0
            cases h
            cases hx with
            | sliceG hf hn hcc hss =>
              rename_i c' L
              refine ⟨_, run _ _ _ rfl hcc, ?_⟩
              have e : (if (none : Option Nat).getD c' = 0 then some (⟨L.blk, L.base + o, none⟩ : Addr) else some ((⟨L.blk, L.base + o, none⟩ : Addr).add (0 * s))) = some ⟨L.blk, L.base + o, none⟩ := by
                split
                · rfl
                · rw [addr_add]; simp
              rw [e]
              simp only [Option.getD_none, Nat.sub_zero]
              exact .sliceG hf q2 hcc hss
            | sliceE hf hg hss =>
              rename_i o' c' L
              have hb0 : b = 0 := by omega
              subst hb0
              refine ⟨_, run _ _ _ rfl (Nat.zero_le _), ?_⟩
              have e : (if (none : Option Nat).getD c' = 0 then some (⟨L.blk, o', none⟩ : Addr) else some ((⟨L.blk, o', none⟩ : Addr).add (0 * s))) = some ⟨L.blk, o', none⟩ := by
                split
                · rfl
                · rw [addr_add]; simp
              rw [e]
              simp only [Option.getD_none, Nat.sub_zero]
              exact .sliceE hf hg hss
          · rename_i ha0
            have ha0 : a ≠ 0 := by intro e; simp [e] at ha0
            cases h
            cases hx with
            | sliceG hf hn hcc hss =>
              rename_i c' L
              refine ⟨_, run _ _ _ rfl hcc, ?_⟩
              simp only [Option.getD_none]
              by_cases hca : c' = a
              · rw [if_pos hca]
                have e1 : b - a = 0 := by omega
                have e2 : c - a = 0 := by omega
                have e3 : c' - a = 0 := by omega
                rw [e1, e2, e3]
                exact .sliceE hf (fun h => by cases h) (by simp; have := Nat.zero_le (c' * (g + 1)); omega)
              · rw [if_neg hca, addr_add, Nat.add_assoc]
                refine .sliceG hf (by omega) (by omega) ?_
                have hle : a ≤ c' := by omega
                obtain ⟨k, rfl⟩ := Nat.exists_eq_add_of_le hle
                rw [hsg, Nat.add_sub_cancel_left]
                rw [Nat.add_mul] at hss
                omega
            | sliceE hf hg hss => omega
        · cases h
    · cases h
  · cases h
end
end Go.Sx
