/- All operations that only compute or read. No condition. -/
import Derived.Test.YtpoianhfjgjajaaGreatSx7
import Derived.Laws.BytesString
set_option linter.unusedSimpArgs false
set_option linter.unusedVariables false
namespace Go.Sx
open Go.RowKit (Below)
noncomputable section

def aLoad (C : Ctx) (h : T AObj) (t : TypeId) : AVal → Option AVal
  | .ptr (some (i, o)) =>
    match C.und t with
    | none => none
    | some d =>
      match aggB d with
      | true =>
        match C.size t with
        | none => none
        | some n =>
          match aGetN h i o n with
          | some l => some (.agg l)
          | none => none
      | false => aGet h i o
  | _ => none
theorem aLoad_ok {C : Ctx} {P : Program} {ρ : Env} (hC : C.Ok P ρ) {B : Nat → Prop} {W w : World} {f : Ren} {h : T AObj} (hr : HRel ρ B W f h w) {t : TypeId} {x : AVal} {x' : Value} {v : AVal} (hx : VRel ρ f x x') (hl : aLoad C h t x = some v) :
    ∃ v', (Instr.loadAt t x').run P w = .ok v' w ∧ VRel ρ f v v' := by
  unfold aLoad at hl
  split at hl
  · rename_i i o
    cases hx; rename_i L hf
    split at hl
    · cases hl
    · rename_i d hd
      have hu := Ctx.und_ok hC hd
      split at hl
      · rename_i ha
        split at hl
        · cases hl
        · rename_i n hn
          split at hl
          · rename_i l hg
            cases hl
            obtain ⟨cs, h1, h2, h3⟩ := aGetN_ok hr hf n o l hg
            have := run_loadCells_at (P := P) h2 h3
            exact ⟨.agg cs.toArray, by simp only [Instr.loadAt, Instr.sureAddr, Sem.run_bind, Sem.run_pure, Result.andThen_ok, loadVar, run_isAgg hu, ha, if_true, Ctx.size_ok hC hn, this], .agg h1.1 h1.2⟩
          · cases hl
      · rename_i ha
        obtain ⟨v', h1, h2⟩ := aGet_ok hr hf hl
        exact ⟨v', by simp only [Instr.loadAt, Instr.sureAddr, Sem.run_bind, Sem.run_pure, Result.andThen_ok, loadVar, run_isAgg hu, ha, Bool.false_eq_true, if_false, run_load, h1], h2⟩
  · cases hl

/-! conversions that make no memory -/
def allBytes (C : Ctx) : List AVal → Option (List IE)
  | [] => some []
  | .int .u8 e :: l =>
    match fits .u8 (rng C.bd e), allBytes C l with
    | true, some m => some (e :: m)
    | _, _ => none
  | _ :: _ => none
theorem allBytes_ok {C : Ctx} {P : Program} {ρ : Env} (hC : C.Ok P ρ) {f : Ren} : ∀ (l : List AVal) (m : List IE) (cs : List Value), allBytes C l = some m → LRel ρ f l cs.toArray →
    ∃ bs : List UInt8, cs = bs.map (fun b => .int .u8 b.toNat) ∧ bs.map (fun b => (b.toNat : Int)) = m.map (·.ev ρ) := by
  intro l
  induction l with
  | nil =>
    intro m cs h hl
    simp [allBytes] at h; subst h
    have : cs = [] := by have := hl.1; simpa using this
    exact ⟨[], by simp [this], rfl⟩
  | cons a l ih =>
    intro m cs h hl
    cases cs with
    | nil => have := hl.1; simp at this
    | cons c cs =>
      have ha : VRel ρ f a c := hl.2 0 a c (by simp) (by simp)
      have hl' : LRel ρ f l cs.toArray := ⟨by have := hl.1; simp at this ⊢; exact this, fun j x x' hx hx' => hl.2 (j + 1) x x' (by simpa using hx) (by simpa using hx')⟩
      unfold allBytes at h
      split at h
      · cases ‹_ = []›
      · rename_i e l' heq
        cases heq
        split at h
        · rename_i m' hf hm
          cases h
          cases ha
          obtain ⟨bs, h1, h2⟩ := ih _ _ hm hl'
          unfold fits at hf
          split at hf
          · rename_i lo hi hrng
            simp [intLe_iff, kLo, kHi] at hf
            have hb := rng_ok hC.bd e _ _ hrng
            have hn : ((UInt8.ofNat (e.ev ρ).toNat).toNat : Int) = e.ev ρ := by
              rw [UInt8.toNat_ofNat']
              omega
            refine ⟨UInt8.ofNat (e.ev ρ).toNat :: bs, ?_, ?_⟩
            · rw [List.map_cons, ← h1, hn]
            · rw [List.map_cons, List.map_cons, h2, hn]
          · cases hf
        · cases h
      · cases h
def aConv (C : Ctx) (h : T AObj) (s d : TypeId) (x : AVal) : Option AVal :=
  match C.und s, C.und d, x with
  | some _, some (.int k), .int _ e => some (.int k (mkWrap C.bd k e))
  | some .string, some .string, .str l => some (.str l)
  | some (.slice e), some .string, .slice a n _ _ =>
    match C.und e with
    | some (.int .u8) =>
      match a with
      | none => some (.str [])
      | some (i, o) =>
        match aGetN h i o n with
        | none => none
        | some l =>
          match allBytes C l with
          | some m => some (.str m)
          | none => none
    | _ => none
  | some (.slice e), some .string, .sliceA i (.lit (.ofNat n)) 1 =>
    match C.und e with
    | some (.int .u8) =>
      match aGetN h i 0 n with
      | none => none
      | some l =>
        match allBytes C l with
        | some m => some (.str m)
        | none => none
    | _ => none
  | _, _, _ => none
theorem foldl_push (ns : List Int) : ∀ (s : ByteArray), (ns.foldl (fun r n => r.push (UInt8.ofNat n.toNat)) s).data.toList = s.data.toList ++ ns.map (fun n => UInt8.ofNat n.toNat) := by
  induction ns with
  | nil => intro s; simp
  | cons n ns ih => intro s; simp [ih, ByteArray.data_push]
theorem SRel.of_ints {ρ : Env} {m : List IE} {bs : List UInt8} (h : bs.map (fun b => (b.toNat : Int)) = m.map (·.ev ρ)) :
    SRel ρ m ((m.map (·.ev ρ)).foldl (fun r n => r.push (UInt8.ofNat n.toNat)) ByteArray.empty) := by
  unfold SRel
  rw [foldl_push, ← h]
  simp [Function.comp_def]
theorem aConv_ok {C : Ctx} {P : Program} {ρ : Env} (hC : C.Ok P ρ) {B : Nat → Prop} {W w : World} {f : Ren} {h : T AObj} (hr : HRel ρ B W f h w) {s d : TypeId} {x : AVal} {x' : Value} {v : AVal} (hx : VRel ρ f x x') (hl : aConv C h s d x = some v) :
    ∃ v', (convert s d x').run P w = .ok v' w ∧ VRel ρ f v v' := by
  unfold aConv at hl
  split at hl
  · rename_i u k l e hs hd
    have hs := Ctx.und_ok hC hs
    have hd := Ctx.und_ok hC hd
    cases hx; cases hl
    refine ⟨.int k (k.wrap (e.ev ρ)), ?_, by rw [← mkWrap_ev hC.bd]; exact .int k _⟩
    simp only [convert, Sem.run_bind, run_underlying hs, run_underlying hd, Result.andThen_ok, Conv.intToInt, Sem.run_pure]
  · rename_i l hs hd
    have hs := Ctx.und_ok hC hs
    have hd := Ctx.und_ok hC hd
    cases hx; rename_i st hst
    cases hl
    exact ⟨.string st, by simp only [convert, Sem.run_bind, run_underlying hs, run_underlying hd, Result.andThen_ok, Sem.run_pure], .str hst⟩
  · rename_i e a n c g hs hd
    have hs := Ctx.und_ok hC hs
    have hd := Ctx.und_ok hC hd
    split at hl
    · rename_i he
      have he := Ctx.und_ok hC he
      split at hl
      · cases hl
        cases hx
        refine ⟨.string .empty, ?_, .str rfl⟩
        rw [run_convert_bytes_string w s d e _ _ _ hs he hd]
        simp [Conv.bytesToString]
      · rename_i i o
        split at hl
        · cases hl
        · rename_i l hg
          split at hl
          · rename_i m hm
            cases hl
            have main : ∀ (L : Loc), f i = some L → ∀ c', ∃ v', (convert s d (.slice (some ⟨L.blk, L.base + o, none⟩) n c')).run P w = .ok v' w ∧ VRel ρ f (.str m) v' := by
              intro L hf c'
              obtain ⟨cs, h1, h2, h3⟩ := aGetN_ok hr hf n o l hg
              obtain ⟨bs, h4, h5⟩ := allBytes_ok hC l m cs hm h1
              have hrun := run_loadCells_at (P := P) h2 h3
              refine ⟨_, ?_, .str (SRel.of_ints h5)⟩
              rw [run_convert_bytes_string w s d e _ _ _ hs he hd]
              refine run_bytesToString w _ _ _ _ ?_
              rw [hrun, h4, ← h5, List.map_map]
              rfl
            cases hx with
            | slice hf => exact main _ hf _
            | sliceG hf _ _ _ => exact main _ hf _
            | sliceE hf hg' hs' =>
              rename_i o' c' L
              simp [aGetN] at hg
              subst hg
              simp [allBytes] at hm
              subst hm
              refine ⟨.string .empty, ?_, .str rfl⟩
              rw [run_convert_bytes_string w s d e _ _ _ hs he hd]
              refine (run_bytesToString w _ 0 c' [] ?_).trans rfl
              simp [loadCells, loadCellsFrom]
          · cases hl
    · cases hl
  · rename_i e i n hs hd
    have hs := Ctx.und_ok hC hs
    have hd := Ctx.und_ok hC hd
    split at hl
    · rename_i he
      have he := Ctx.und_ok hC he
      split at hl
      · cases hl
      · rename_i l hg
        split at hl
        · rename_i m hm
          cases hl
          cases hx with
          | sliceA hf h0 hc hz =>
            rename_i c' L
            obtain ⟨cs, h1, h2, h3⟩ := aGetN_ok hr hf n 0 l hg
            obtain ⟨bs, h4, h5⟩ := allBytes_ok hC l m cs hm h1
            have hrun := run_loadCells_at (P := P) h2 h3
            refine ⟨_, ?_, .str (SRel.of_ints h5)⟩
            rw [run_convert_bytes_string w s d e _ _ _ hs he hd]
            refine run_bytesToString w _ _ _ _ ?_
            have e0 : ((IE.lit (Int.ofNat n)).ev ρ).toNat = n := rfl
            rw [e0]
            rw [Nat.add_zero] at hrun
            rw [hrun, h4, ← h5, List.map_map]
            rfl
          | sliceN hl0 =>
            rename_i a
            have hn : n = 0 := by
              have : ((n : Nat) : Int) = 0 := hl0
              omega
            subst hn
            simp [aGetN] at hg
            subst hg
            simp [allBytes] at hm
            subst hm
            refine ⟨.string .empty, ?_, .str rfl⟩
            rw [run_convert_bytes_string w s d e _ _ _ hs he hd]
            cases a with
            | none => simp [Conv.bytesToString]
            | some b =>
              refine (run_bytesToString w b 0 0 [] ?_).trans rfl
              exact run_loadCells_list w b [] (fun j v hv => by simp at hv)
        · cases hl
    · cases hl
  · cases hl

/-! look-ups -/
def keyEq (C : Ctx) (a b : AVal) : Option Bool :=
  match a, b with
  | .int k x, .int l y =>
    match kindEq k l with
    | true => settle C.dec (mkEq C.bd x y)
    | false => none
  | .str x, .str y => bytesEq C x y
  | _, _ => none
def fitD : AVal → TypeDesc → Bool
  | .int _ _, .int _ => true
  | .str _, .string => true
  | _, _ => false
def aFind (C : Ctx) (k : AVal) : List (AVal × AVal) → Nat → Option (Option (Nat × AVal))
  | [], _ => some none
  | e :: es, i =>
    match keyEq C k e.1 with
    | some true => some (some (i, e.2))
    | some false => aFind C k es (i + 1)
    | none => none
/-- Entries, one by one. -/
def EsRel (ρ : Env) (f : Ren) (es : List (AVal × AVal)) (es' : List MapEntry) : Prop :=
  es'.length = es.length ∧ ∀ (i : Nat) (e : AVal × AVal) (e' : MapEntry), es[i]? = some e → es'[i]? = some e' → VRel ρ f e.1 e'.key ∧ VRel ρ f e.2 e'.val
theorem keyEq_ok {C : Ctx} {P : Program} {ρ : Env} (hC : C.Ok P ρ) {f : Ren} {a b : AVal} {a' b' : Value} {r : Bool} (ha : VRel ρ f a a') (hb : VRel ρ f b b') (h : keyEq C a b = some r) {d : TypeDesc} (hf : fitD a d = true) : Instr.sameNow d a' b' = some r := by
  unfold keyEq at h
  split at h
  · rename_i k x l y
    split at h
    · rename_i hk
      have := kindEq_eq hk
      subst this
      cases ha; cases hb
      have hs := settle_ok hC.dec _ _ h
      rw [mkEq_ev hC.bd] at hs
      cases d <;> simp [fitD] at hf
      simp only [Instr.sameNow, if_true]
      rw [← hs]
      congr 1
    · cases h
  · rename_i x y
    cases ha; cases hb; rename_i s1 h1 s2 h2
    cases d <;> simp [fitD] at hf
    simp only [Instr.sameNow, beq_toListBytes, bytesEq_ok hC _ _ _ h]
    congr 1
    rw [Bool.eq_iff_iff]
    simp [h1.eq_iff h2]
  · cases h
def keyFits (C : Ctx) (t : TypeId) (k : AVal) : Bool :=
  match C.und t with
  | some d => fitD k d
  | none => false
theorem sameBits_of_now {d : TypeDesc} {a b : Value} (h : Instr.sameNow d a b = some true) : Instr.sameBits 10000 b a = true := by
  unfold Instr.sameNow at h
  split at h
  · split at h
    · rename_i hk
      simp at h
      simp [Instr.sameBits, hk, h]
    · cases h
  · rename_i a b
    have e : (a == b) = true := by simpa using h
    rw [beq_toListBytes] at e
    have e' : b.toList = a.toList := (by simpa using e : a.toList = b.toList).symm
    simp only [Instr.sameBits, beq_toListBytes, e', beq_self_eq_true]
  · simp at h
    simp [Instr.sameBits, h]
  · cases h
theorem checkKey_plain {P : Program} {t : TypeId} {k' : Value} {d : TypeDesc} (hd : P.underlying t = some d) (hk : (match d, k' with | .int _, .int _ _ => true | .string, .string _ => true | _, _ => false) = true) (n : Nat) (e : Bool) (w : World) :
    (Instr.checkKey e (n + 1) t k').run P w = .ok () w := by
  unfold Instr.checkKey
  simp only [Sem.run_bind, run_underlying hd, Result.andThen_ok]
  cases d <;> cases k' <;> simp at hk <;> rfl
theorem findNow_ok {C : Ctx} {P : Program} {ρ : Env} (hC : C.Ok P ρ) {f : Ren} {k : AVal} {k' : Value} (hk : VRel ρ f k k') {d : TypeDesc} (hf : fitD k d = true) {r : Option (Nat × AVal)} :
    ∀ (es : List (AVal × AVal)) (es' : List MapEntry) (j : Nat), EsRel ρ f es es' → aFind C k es j = some r →
      (r = none ∧ Instr.findNow d k' es' j = some none) ∨ ∃ i v v' e', r = some (j + i, v) ∧ Instr.findNow d k' es' j = some (some (j + i, v')) ∧ VRel ρ f v v' ∧ es'[i]? = some e' ∧ e'.val = v' ∧ Instr.sameNow d k' e'.key = some true := by
  intro es
  induction es with
  | nil =>
    intro es' j he h
    have : es' = [] := List.eq_nil_of_length_eq_zero he.1
    subst this
    simp [aFind] at h
    exact .inl ⟨h.symm, rfl⟩
  | cons e es ih =>
    intro es' j he h
    cases es' with
    | nil => have := he.1; simp at this
    | cons e' es' =>
      have h0 := he.2 0 e e' (by simp) (by simp)
      have he' : EsRel ρ f es es' := ⟨by have := he.1; simpa using this, fun i a a' x y => he.2 (i + 1) a a' (by simpa using x) (by simpa using y)⟩
      simp only [aFind] at h
      split at h
      · rename_i hq
        cases h
        have hsn := keyEq_ok hC hk h0.1 hq hf
        exact .inr ⟨0, e.2, e'.val, e', rfl, by simp [Instr.findNow, hsn], h0.2, by simp, rfl, hsn⟩
      · rename_i hq
        have hsn := keyEq_ok hC hk h0.1 hq hf
        rcases ih es' (j + 1) he' h with ⟨r1, r2⟩ | ⟨i, v, v', e'', r1, r2, r3, r4, r5, r6⟩
        · exact .inl ⟨r1, by simp [Instr.findNow, hsn, r2]⟩
        · refine .inr ⟨i + 1, v, v', e'', by rw [r1]; congr 2; omega, ?_, r3, by simpa using r4, r5, r6⟩
          simp only [Instr.findNow, hsn, r2]
          congr 3; omega
      · cases h
theorem aFind_ok {C : Ctx} {P : Program} {ρ : Env} (hC : C.Ok P ρ) {f : Ren} {t : TypeId} {k : AVal} {k' : Value} (hk : VRel ρ f k k') (ht : keyFits C t k = true) (w : World) {es : List (AVal × AVal)} {es' : List MapEntry} (he : EsRel ρ f es es')
    {r : Option (Nat × AVal)} (h : aFind C k es 0 = some r) :
    (∀ e, (Instr.checkKey e 10000 t k').run P w = .ok () w) ∧
    ((r = none ∧ (Instr.findKey t k' es').run P w = .ok none w) ∨ ∃ i v v' e', r = some (i, v) ∧ (Instr.findKey t k' es').run P w = .ok (some (i, v')) w ∧ VRel ρ f v v' ∧ es'[i]? = some e' ∧ e'.val = v' ∧ Instr.sameBits 10000 e'.key k' = true) := by
  unfold keyFits at ht
  split at ht
  · rename_i d hu
    have hd := Ctx.und_ok hC hu
    refine ⟨fun e => ?_, ?_⟩
    · exact checkKey_plain hd (by cases hk <;> cases d <;> simp [fitD] at ht <;> rfl) 9999 e w
    · rcases findNow_ok hC hk ht es es' 0 he h with ⟨r1, r2⟩ | ⟨i, v, v', e'', r1, r2, r3, r4, r5, r6⟩
      · exact .inl ⟨r1, by simp only [Instr.findKey, Sem.run_bind, run_underlying hd, Result.andThen_ok, r2, Sem.run_pure]⟩
      · exact .inr ⟨i, v, v', e'', by simpa using r1, by simp only [Instr.findKey, Sem.run_bind, run_underlying hd, Result.andThen_ok, r2, Sem.run_pure, Nat.zero_add], r3, r4, r5, sameBits_of_now r6⟩
  · cases ht
def mapEs (h : T AObj) : AVal → Option (List (AVal × AVal))
  | .map none => some []
  | .map (some r) =>
    match h.get r with
    | some (.map es) => some es
    | _ => none
  | _ => none
def lookRes (C : Ctx) (elem : TypeId) (ok : Bool) : Option (Nat × AVal) → Option AVal
  | some (_, v) => some (if ok then .tuple [v, .bool (.lit true)] else v)
  | none =>
    match aZero C elem with
    | some z => some (if ok then .tuple [z, .bool (.lit false)] else z)
    | none => none
def aLookup (C : Ctx) (h : T AObj) (t : TypeId) (m k : AVal) (ok : Bool) : Option AVal :=
  match C.und t with
  | some (.map key elem) =>
    match mapEs h m with
    | none => none
    | some es =>
      match keyFits C key k with
      | false => none
      | true =>
        match aFind C k es 0 with
        | some r => lookRes C elem ok r
        | none => none
  | _ => none
theorem pair_ok {ρ : Env} {f : Ren} {v : AVal} {v' : Value} (h : VRel ρ f v v') (b : Bool) : VRel ρ f (.tuple [v, .bool (.lit b)]) (.tuple #[v', .bool b]) := by
  have := LRel.cons h (LRel.cons (.bool (.lit b)) LRel.nil)
  exact .tuple this.1 this.2
theorem mapEs_ok {P : Program} {ρ : Env} {B : Nat → Prop} {W w : World} {f : Ren} {h : T AObj} (hr : HRel ρ B W f h w) {m : AVal} {m' : Value} {es : List (AVal × AVal)} (hm : VRel ρ f m m') (hes : mapEs h m = some es) :
    ∃ es' : Array MapEntry, EsRel ρ f es es'.toList ∧ ((m' = .map none ∧ es' = #[]) ∨ ∃ b cl, m' = .map (some b) ∧ (getObj b).run P w = .ok (.map es' cl) w) := by
  unfold mapEs at hes
  split at hes
  · cases hm; cases hes
    exact ⟨#[], ⟨rfl, by simp⟩, .inl ⟨rfl, rfl⟩⟩
  · rename_i r
    cases hm; rename_i L hf
    split at hes
    · rename_i es1 he
      cases hes
      obtain ⟨_, es', cl, q1, q2, q3⟩ := hr.obj _ L _ hf he
      exact ⟨es', ⟨by simpa using q2, by simpa using q3⟩, .inr ⟨L.blk, cl, rfl, by simp only [getObj, Sem.run, q1]⟩⟩
    · cases hes
  · cases hes
theorem aLookup_ok {C : Ctx} {P : Program} {ρ : Env} (hC : C.Ok P ρ) {B : Nat → Prop} {W w : World} {f : Ren} {h : T AObj} (hr : HRel ρ B W f h w) {t : TypeId} {m k : AVal} {m' k' : Value} {ok : Bool} {v : AVal} (hm : VRel ρ f m m') (hk : VRel ρ f k k') (hl : aLookup C h t m k ok = some v) :
    ∃ v', (Instr.lookup t m' k' ok).run P w = .ok v' w ∧ VRel ρ f v v' := by
  unfold aLookup at hl
  split at hl
  · rename_i key elem hu
    have hd := Ctx.und_ok hC hu
    split at hl
    · cases hl
    · rename_i es hes
      split at hl
      · cases hl
      · rename_i hkf
        split at hl
        · rename_i r hf
          obtain ⟨es', he, hm'⟩ := mapEs_ok (P := P) hr hm hes
          obtain ⟨h1, h2⟩ := aFind_ok hC hk hkf w he hf
          have run : ∀ (q : Value × Bool) (u : Option (Nat × Value)), (Instr.findKey key k' es'.toList).run P w = .ok u w → (match u with
              | some (_, v) => Result.ok (v, true) w
              | none => ((zeroValue elem).run P w).andThen fun z w' => .ok (z, false) w') = .ok q w →
              (Instr.lookup t m' k' ok).run P w = .ok (if ok then .tuple #[q.1, .bool q.2] else q.1) w := by
            intro q u hu1 hu2
            rcases hm' with ⟨rfl, rfl⟩ | ⟨b, cl, rfl, hg⟩
            · unfold Instr.lookup
              simp only [Sem.run_bind, run_underlying hd, Result.andThen_ok, Sem.run_pure, h1, hu1]
              cases u with
              | none =>
                simp only at hu2
                cases hz : (zeroValue elem).run P w with
                | ok z w1 => rw [hz] at hu2; simp only [Result.andThen_ok, Result.ok.injEq] at hu2; obtain ⟨rfl, rfl⟩ := hu2; simp only [Sem.run_bind, hz, Result.andThen_ok, Sem.run_pure]
                | halt x w1 => rw [hz] at hu2; simp at hu2
              | some p => simp only [Result.ok.injEq, and_true] at hu2; subst hu2; rfl
            · unfold Instr.lookup
              simp only [Sem.run_bind, run_underlying hd, Result.andThen_ok, Sem.run_pure, hg, h1, hu1]
              cases u with
              | none =>
                simp only at hu2
                cases hz : (zeroValue elem).run P w with
                | ok z w1 => rw [hz] at hu2; simp only [Result.andThen_ok, Result.ok.injEq] at hu2; obtain ⟨rfl, rfl⟩ := hu2; simp only [Sem.run_bind, hz, Result.andThen_ok, Sem.run_pure]
                | halt x w1 => rw [hz] at hu2; simp at hu2
              | some p => simp only [Result.ok.injEq, and_true] at hu2; subst hu2; rfl
          unfold lookRes at hl
          split at hl
          · rename_i i u
            cases hl
            rcases h2 with ⟨h2, _⟩ | ⟨i', u', v', e', h2, h3, h4, _⟩
            · cases h2
            · cases h2
              refine ⟨_, run (v', true) _ h3 rfl, ?_⟩
              cases ok
              · exact h4
              · exact pair_ok h4 true
          · split at hl
            · rename_i z hz
              cases hl
              obtain ⟨z', hz1, hz2, _⟩ := aZero_ok hC (f := f) hz w
              rcases h2 with ⟨_, h3⟩ | ⟨i', u', v', e', h2, _⟩
              · refine ⟨_, run (z', false) _ h3 (by simp only [hz1, Result.andThen_ok]), ?_⟩
                cases ok
                · exact hz2
                · exact pair_ok hz2 false
              · cases h2
            · cases hl
        · cases hl
  · cases hl
end
end Go.Sx
