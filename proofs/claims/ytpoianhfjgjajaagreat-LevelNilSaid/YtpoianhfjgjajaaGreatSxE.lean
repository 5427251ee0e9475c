/- Places and rows at an index that is not known as a number. No condition. -/
import Derived.Test.YtpoianhfjgjajaaGreatSxB
set_option linter.unusedSimpArgs false
set_option linter.unusedVariables false
namespace Go.Sx
open Go.RowKit (Below)
noncomputable section

/-- Is it an index below n? -/
def bnd (C : Ctx) (e n : IE) : Bool :=
  match settle C.dec (mkLt C.bd e (.lit 0)) with
  | some false =>
    match settle C.dec (mkLt C.bd e n) with
    | some true => true
    | _ => false
  | _ => false
theorem bnd_ok {C : Ctx} {P : Program} {ρ : Env} (hC : C.Ok P ρ) {e n : IE} (h : bnd C e n = true) : 0 ≤ e.ev ρ ∧ e.ev ρ < n.ev ρ := by
  unfold bnd at h
  split at h
  · rename_i h1
    split at h
    · rename_i h2
      have a := settle_ok hC.dec _ _ h1
      have b := settle_ok hC.dec _ _ h2
      rw [mkLt_ev hC.bd] at a b
      have a := of_decide_eq_false a
      have b := of_decide_eq_true b
      simp only [IE.ev] at a
      omega
    · cases h
  · cases h
theorem mkMul_lit (ρ : Env) (a : IE) (n : Nat) : (mkMul a (.lit (.ofNat n))).ev ρ = a.ev ρ * n := by
  rw [mkMul_ev]
  rfl

/-! places -/
def aIndexAddrE (C : Ctx) (t : TypeId) (x ix : AVal) : Option AVal :=
  match ix with
  | .int _ e =>
    match C.und t, x with
    | some (.array len el), .ptr (some (i, o)) =>
      match bnd C e (.lit (.ofNat len)), C.size el with
      | true, some s => some (.ptrE i e s o)
      | _, _ => none
    | some (.slice el), .slice (some (i, o)) len _ _ =>
      match bnd C e (.lit (.ofNat len)), C.size el with
      | true, some s => some (.ptrE i e s o)
      | _, _ => none
    | some (.slice el), .sliceS i st len s _ =>
      match bnd C e len, C.size el with
      | true, some s' =>
        match Nat.beq s s' with
        | true => some (.ptrE i (mkAdd st e) s 0)
        | false => none
      | _, _ => none
    | some (.array len el), .ptrE i d s c =>
      match asLit C.dec e, C.size el with
      | some (.ofNat n), some s' =>
        match Nat.ble (n + 1) len with
        | true => some (.ptrE i d s (c + n * s'))
        | false => none
      | _, _ => none
    | _, _ => none
  | _ => none
theorem aIndexAddrE_ok {C : Ctx} {P : Program} {ρ : Env} (hC : C.Ok P ρ) {f : Ren} {t : TypeId} {x ix : AVal} {x' ix' : Value} {v : AVal} (hx : VRel ρ f x x') (hi : VRel ρ f ix ix') (h : aIndexAddrE C t x ix = some v) (w : World) :
    ∃ v', (Instr.indexAt t x' ix').run P w = .ok v' w ∧ VRel ρ f v v' := by
  unfold aIndexAddrE at h
  split at h
  · rename_i k e
    cases hi
    split at h
    · rename_i len el i o hu
      have hu := Ctx.und_ok hC hu
      cases hx; rename_i L hf
      split at h
      · rename_i s hb hs
        have hb := bnd_ok hC hb
        cases h
        refine ⟨.pointer (some ⟨L.blk, L.base + ((e.ev ρ).toNat * s + o), none⟩), ?_, .ptrE hf hb.1⟩
        have hc : (0 : Int) ≤ e.ev ρ ∧ e.ev ρ < (len : Int) := hb
        simp only [Instr.indexAt, asIntOf, Sem.run_bind, run_underlying hu, Result.andThen_ok, Instr.sureAddr, Sem.run_pure, if_pos hc, Ctx.size_ok hC hs, addr_add]
        congr 4
        omega
      · cases h
    · rename_i el i o len c g hu
      have hu := Ctx.und_ok hC hu
      split at h
      · rename_i s hb hs
        have hb := bnd_ok hC hb
        cases h
        have hc : (0 : Int) ≤ e.ev ρ ∧ e.ev ρ < (len : Int) := hb
        cases hx with
        | slice hf =>
          rename_i L
          refine ⟨.pointer (some ⟨L.blk, L.base + ((e.ev ρ).toNat * s + o), none⟩), ?_, .ptrE hf hb.1⟩
          simp only [Instr.indexAt, asIntOf, Sem.run_bind, run_underlying hu, Result.andThen_ok, Instr.sureAddr, Sem.run_pure, if_pos hc, Ctx.size_ok hC hs, addr_add]
          congr 4
          omega
        | sliceG hf hn hc' hs' =>
          rename_i L
          refine ⟨.pointer (some ⟨L.blk, L.base + ((e.ev ρ).toNat * s + o), none⟩), ?_, .ptrE hf hb.1⟩
          simp only [Instr.indexAt, asIntOf, Sem.run_bind, run_underlying hu, Result.andThen_ok, Instr.sureAddr, Sem.run_pure, if_pos hc, Ctx.size_ok hC hs, addr_add]
          congr 4
          omega
        | sliceE hf hg hs' => simp at hc; omega
      · cases h
    · rename_i el i st len s nn hu
      have hu := Ctx.und_ok hC hu
      split at h
      · rename_i s' hb hs
        have hb := bnd_ok hC hb
        split at h
        · rename_i hss
          have := Nat.eq_of_beq_eq_true hss
          subst this
          cases h
          cases hx with
          | sliceS hf h0 hl hc =>
            rename_i L c
            have hc : (0 : Int) ≤ e.ev ρ ∧ e.ev ρ < ((len.ev ρ).toNat : Int) := by omega
            have e1 : (mkAdd st e).ev ρ = st.ev ρ + e.ev ρ := mkAdd_ev ρ st e
            refine ⟨.pointer (some ⟨L.blk, L.base + (((mkAdd st e).ev ρ).toNat * s + 0), none⟩), ?_, .ptrE hf (by omega)⟩
            simp only [Instr.indexAt, asIntOf, Sem.run_bind, run_underlying hu, Result.andThen_ok, Instr.sureAddr, Sem.run_pure, if_pos hc, Ctx.size_ok hC hs, addr_add]
            congr 4
            rw [e1, Int.toNat_add h0 hc.1, Nat.add_mul]
            omega
          | sliceZ hl ha => omega
        · cases h
      · cases h
    · rename_i len el i d s c hu
      have hu := Ctx.und_ok hC hu
      cases hx; rename_i L hf h0
      split at h
      · rename_i n s' hn hs
        have hn : e.ev ρ = (n : Int) := asLit_ok hC.dec hn
        split at h
        · rename_i hle
          have hle := Nat.le_of_ble_eq_true hle
          cases h
          refine ⟨.pointer (some ⟨L.blk, L.base + ((d.ev ρ).toNat * s + (c + n * s')), none⟩), ?_, .ptrE hf h0⟩
          have hc : (0 : Int) ≤ (n : Int) ∧ (n : Int) < (len : Int) := by omega
          simp only [Instr.indexAt, asIntOf, Sem.run_bind, run_underlying hu, Result.andThen_ok, Instr.sureAddr, Sem.run_pure, hn, if_pos hc, Ctx.size_ok hC hs, addr_add, Int.toNat_natCast, Nat.add_assoc]
        · cases h
      · cases h
    · cases h
  · cases h
def aFieldAddrE (C : Ctx) (t : TypeId) (x : AVal) (fld : Nat) : Option AVal :=
  match x, C.und t with
  | .ptrE i e s c, some (.struct fs) =>
    match fs[fld]? with
    | none => none
    | some fd =>
      match C.size fd.type with
      | some (_ + 1) => some (.ptrE i e s (c + fd.offset))
      | _ => none
  | _, _ => none
theorem aFieldAddrE_ok {C : Ctx} {P : Program} {ρ : Env} (hC : C.Ok P ρ) {f : Ren} {s : TypeId} {x : AVal} {x' : Value} {fld : Nat} {v : AVal} (hx : VRel ρ f x x') (h : aFieldAddrE C s x fld = some v) (w : World) :
    ∃ v', (Instr.fieldAt s x' fld).run P w = .ok v' w ∧ VRel ρ f v v' := by
  unfold aFieldAddrE at h
  split at h
  · rename_i i e s c fs hu
    have hu := Ctx.und_ok hC hu
    cases hx; rename_i L hf h0
    split at h
    · cases h
    · rename_i fd hfd
      split at h
      · rename_i n hn
        cases h
        refine ⟨.pointer (some ⟨L.blk, L.base + ((e.ev ρ).toNat * s + (c + fd.offset)), none⟩), ?_, .ptrE hf h0⟩
        simp only [Instr.fieldAt, Sem.run_bind, run_underlying hu, Result.andThen_ok, hfd, Instr.sureAddr, Sem.run_pure, fieldPlace, Ctx.size_ok hC hn, Nat.succ_ne_zero, if_false, addr_add, Nat.add_assoc]
      · cases h
  · cases h

/-! cells -/
def idxR (C : Ctx) (e : IE) : Option (Nat × Nat) :=
  match (match rng C.bd e with
    | some (l, h) => (optMax (narrow e C.dec).1 l, optMin (narrow e C.dec).2 h)
    | none => narrow e C.dec) with
  | (some (.ofNat a), some (.ofNat b)) =>
    match Nat.ble a b, Nat.ble (b - a) 300 with
    | true, true => some (a, b)
    | _, _ => none
  | _ => none
theorem idxR_ok {C : Ctx} {P : Program} {ρ : Env} (hC : C.Ok P ρ) {e : IE} {a b : Nat} (h : idxR C e = some (a, b)) : a ≤ (e.ev ρ).toNat ∧ (e.ev ρ).toNat ≤ b ∧ a ≤ b ∧ 0 ≤ e.ev ρ := by
  have hn := narrow_ok e hC.dec
  unfold idxR at h
  have key : within (match rng C.bd e with
    | some (l, h) => (optMax (narrow e C.dec).1 l, optMin (narrow e C.dec).2 h)
    | none => narrow e C.dec) (e.ev ρ) := by
    split
    · rename_i l hh hr
      have := rng_ok hC.bd e _ _ hr
      exact ⟨optMax_ok hn.1 this.1, optMin_ok hn.2 this.2⟩
    · exact hn
  split at h
  · rename_i x y hx
    rw [hx] at key
    split at h
    · rename_i h1 h2
      have h1 := Nat.le_of_ble_eq_true h1
      cases h
      have k1 := key.1 _ rfl
      have k2 := key.2 _ rfl
      simp only [Int.ofNat_eq_natCast] at k1 k2
      omega
    · cases h
  · cases h
def chain (C : Ctx) (c0 : T AVal) (k : IntKind) (e : IE) (s c : Nat) : Nat → Nat → Option IE
  | 0, j =>
    match c0.get (j * s + c) with
    | some (.int k' x) =>
      match kindEq k k' with
      | true => some x
      | false => none
    | _ => none
  | n + 1, j =>
    match c0.get (j * s + c) with
    | some (.int k' x) =>
      match kindEq k k', chain C c0 k e s c n (j + 1) with
      | true, some y => some (mkSel C.bd false e (.lit (.ofNat j)) x y)
      | _, _ => none
    | _ => none
theorem chain_ok {C : Ctx} {P : Program} {ρ : Env} (hC : C.Ok P ρ) {c0 : T AVal} {k : IntKind} {e : IE} {s c : Nat} : ∀ (n j : Nat) (y : IE), chain C c0 k e s c n j = some y → ∀ m : Nat, j ≤ m → m ≤ j + n → e.ev ρ = m →
    ∃ x, c0.get (m * s + c) = some (.int k x) ∧ y.ev ρ = x.ev ρ := by
  intro n
  induction n with
  | zero =>
    intro j y h m h1 h2 hm
    have : m = j := by omega
    subst this
    simp only [chain] at h
    split at h
    · rename_i k' x hx
      split at h
      · rename_i hk
        have := kindEq_eq hk
        subst this
        cases h
        exact ⟨_, hx, rfl⟩
      · cases h
    · cases h
  | succ n ih =>
    intro j y h m h1 h2 hm
    simp only [chain] at h
    split at h
    · rename_i k' x hx
      split at h
      · rename_i z hk hz
        have hkk := kindEq_eq hk
        subst hkk
        cases h
        rw [mkSel_ev hC.bd]
        simp only [selI, Bool.false_eq_true, if_false, IE.ev, Int.ofNat_eq_natCast]
        by_cases hj : m = j
        · subst hj
          rw [if_pos hm]
          exact ⟨x, hx, rfl⟩
        · rw [if_neg (by omega)]
          exact ih _ _ hz m (by omega) (by omega) hm
      · cases h
    · cases h
/-! cells that are digits of a row, one behind the other -/
def digAt (k : IntKind) : AVal → Option (IE × Nat)
  | .int k1 (.wrap k2 (.fn c x (.lit (.ofNat i)) _)) =>
    match Nat.beq c 0 && (kindEq k k1 && kindEq k k2) with
    | true => some (x, i)
    | false => none
  | _ => none
theorem digAt_ok {ρ : Env} {k : IntKind} {v : AVal} {x : IE} {i : Nat} (h : digAt k v = some (x, i)) : ∃ y, v = .int k y ∧ y.ev ρ = k.wrap (rowGet (x.ev ρ) i) := by
  unfold digAt at h
  split at h
  · rename_i k1 k2 c y j z
    split at h
    · rename_i hc
      cases h
      cases h0 : Nat.beq c 0
      · rw [h0] at hc; cases hc
      · rw [h0] at hc
        cases h1 : kindEq k k1
        · rw [h1] at hc; cases hc
        · rw [h1] at hc
          have e1 := kindEq_eq h1
          have e2 := kindEq_eq (show kindEq k k2 = true from hc)
          have e0 := Nat.eq_of_beq_eq_true h0
          subst e0; subst e1; subst e2
          exact ⟨_, rfl, rfl⟩
    · cases h
  · cases h
def digRun (c0 : T AVal) (k : IntKind) (x : IE) (s c : Nat) : Nat → Nat → Nat → Bool
  | 0, _, _ => true
  | n + 1, j, d =>
    match c0.get (j * s + c) with
    | some v =>
      match digAt k v with
      | some (y, i) =>
        match Nat.beq i d with
        | true =>
          match x.eq y with
          | true => digRun c0 k x s c n (j + 1) (d + 1)
          | false => false
        | false => false
      | none => false
    | none => false
theorem digRun_ok {ρ : Env} {c0 : T AVal} {k : IntKind} {x : IE} {s c : Nat} : ∀ (n j d : Nat), digRun c0 k x s c n j d = true → ∀ m : Nat, j ≤ m → m < j + n → ∃ y, c0.get (m * s + c) = some (.int k y) ∧ y.ev ρ = k.wrap (rowGet (x.ev ρ) (d + (m - j) : Nat)) := by
  intro n
  induction n with
  | zero => intro j d _ m h1 h2; omega
  | succ n ih =>
    intro j d h m h1 h2
    unfold digRun at h
    split at h
    · rename_i v hv
      split at h
      · rename_i y i hy
        split at h
        · rename_i hi
          split at h
          · rename_i hx
            have hi := Nat.eq_of_beq_eq_true hi
            have hx := IE.eq_eq hx
            subst hi; subst hx
            obtain ⟨z, q1, q2⟩ := digAt_ok (ρ := ρ) hy
            by_cases hj : m = j
            · subst hj
              exact ⟨z, by rw [hv, q1], by rw [q2, Nat.sub_self, Nat.add_zero]⟩
            · obtain ⟨z', a1, a2⟩ := ih _ _ h m (by omega) (by omega)
              refine ⟨z', a1, ?_⟩
              rw [a2, show i + 1 + (m - (j + 1)) = i + (m - j) by omega]
          · cases h
        · cases h
      · cases h
    · cases h
def digRow (c0 : T AVal) (k : IntKind) (e : IE) (s c n j : Nat) : Option IE :=
  match Nat.ble 3 n with
  | true =>
    match c0.get (j * s + c) with
    | some v =>
      match digAt k v with
      | some (x, d) =>
        match Nat.ble j d with
        | true =>
          match digRun c0 k x s c (n + 1) j d with
          | true => some (.wrap k (mkFn 0 x (mkAdd e (.lit (.ofNat (d - j)))) (.lit 0)))
          | false => none
        | false => none
      | none => none
    | none => none
  | false => none
theorem digRow_ok {ρ : Env} {c0 : T AVal} {k : IntKind} {e : IE} {s c n j : Nat} {y : IE} (h : digRow c0 k e s c n j = some y) (m : Nat) (h1 : j ≤ m) (h2 : m ≤ j + n) (hm : e.ev ρ = m) : ∃ x, c0.get (m * s + c) = some (.int k x) ∧ y.ev ρ = x.ev ρ := by
  unfold digRow at h
  split at h
  · split at h
    · split at h
      · rename_i x d _
        split at h
        · rename_i hjd
          split at h
          · rename_i hr
            cases h
            have hjd := Nat.le_of_ble_eq_true hjd
            obtain ⟨z, a1, a2⟩ := digRun_ok (ρ := ρ) _ _ _ hr m h1 (by omega)
            refine ⟨z, a1, ?_⟩
            rw [a2]
            show k.wrap ((mkFn 0 x (mkAdd e (.lit (.ofNat (d - j)))) (.lit 0)).ev ρ) = _
            rw [mkFn_ev, mkAdd_ev, hm]
            show k.wrap (rowGet (x.ev ρ) ((m : Int) + ((d - j : Nat) : Int))) = _
            rw [show ((m : Int) + ((d - j : Nat) : Int)) = ((d + (m - j) : Nat) : Int) by omega]
          · cases h
        · cases h
      · cases h
    · cases h
  · cases h
def chainD (C : Ctx) (c0 : T AVal) (k : IntKind) (e : IE) (s c : Nat) : Nat → Nat → Option IE
  | 0, j => chain C c0 k e s c 0 j
  | n + 1, j =>
    match digRow c0 k e s c (n + 1) j with
    | some y => some y
    | none =>
      match c0.get (j * s + c) with
      | some (.int k' x) =>
        match kindEq k k', chainD C c0 k e s c n (j + 1) with
        | true, some y => some (mkSel C.bd false e (.lit (.ofNat j)) x y)
        | _, _ => none
      | _ => none
theorem chainD_ok {C : Ctx} {P : Program} {ρ : Env} (hC : C.Ok P ρ) {c0 : T AVal} {k : IntKind} {e : IE} {s c : Nat} : ∀ (n j : Nat) (y : IE), chainD C c0 k e s c n j = some y → ∀ m : Nat, j ≤ m → m ≤ j + n → e.ev ρ = m →
    ∃ x, c0.get (m * s + c) = some (.int k x) ∧ y.ev ρ = x.ev ρ := by
  intro n
  induction n with
  | zero => intro j y h m h1 h2 hm; exact chain_ok hC 0 j y h m h1 h2 hm
  | succ n ih =>
    intro j y h m h1 h2 hm
    unfold chainD at h
    split at h
    · rename_i y' hy
      cases h
      exact digRow_ok hy m h1 h2 hm
    · split at h
      · rename_i k' x hx
        split at h
        · rename_i z hk hz
          have hkk := kindEq_eq hk
          subst hkk
          cases h
          rw [mkSel_ev hC.bd]
          simp only [selI, Bool.false_eq_true, if_false, IE.ev, Int.ofNat_eq_natCast]
          by_cases hj : m = j
          · subst hj
            rw [if_pos hm]
            exact ⟨x, hx, rfl⟩
          · rw [if_neg (by omega)]
            exact ih _ _ hz m (by omega) (by omega) hm
        · cases h
      · cases h
def loadE1 (C : Ctx) (h : T AObj) (i : Nat) (e : IE) (s c : Nat) : Option AVal :=
  match h.get i with
  | some (.arr ks code n _) =>
    match Nat.beq s ks.length, bnd C e n with
    | true, true =>
      match ks[c]? with
      | some k => some (.int k (mkWrap C.bd k (mkFn 0 code (mkAdd (mkMul e (.lit (.ofNat s))) (.lit (.ofNat c))) (.lit 0))))
      | none => none
    | _, _ => none
  | some (.cells c0 _ _ _) =>
    match idxR C e with
    | some (a, b) =>
      match c0.get (a * s + c) with
      | some (.int k _) =>
        match chainD C c0 k e s c (b - a) a with
        | some y => some (.int k y)
        | none => none
      | some (.bool _) =>
        match chainB C c0 e s c (b - a) a with
        | some y => some (.bool (mkEq C.bd y (.lit 1)))
        | none => none
      | _ => none
    | none => none
  | some (.win idx s' c0 _ _) =>
    match Nat.beq s s', e.eq idx with
    | true, true => c0.get c
    | _, _ => none
  | some (.col s' c' k code m d n) =>
    match Nat.beq s s' && Nat.beq c c', bnd C e n with
    | true, true => some (.int k (mkWrap C.bd k (mkFn 0 code (mkAdd (mkMul e (.lit (.ofNat m))) (.lit (.ofNat d))) (.lit 0))))
    | _, _ => none
  | _ => none
theorem pos_ev {ρ : Env} {e : IE} {s c : Nat} (h0 : 0 ≤ e.ev ρ) : (mkAdd (mkMul e (.lit (.ofNat s))) (.lit (.ofNat c))).ev ρ = ((e.ev ρ).toNat * s + c : Nat) := by
  rw [mkAdd_ev, mkMul_lit]
  obtain ⟨m, hm⟩ := Int.eq_ofNat_of_zero_le h0
  rw [hm]
  simp [IE.ev]
theorem loadE1_ok {C : Ctx} {P : Program} {ρ : Env} (hC : C.Ok P ρ) {B : Nat → Prop} {W w : World} {f : Ren} {h : T AObj} (hr : HRel ρ B W f h w) {i : Nat} {L : Loc} (hf : f i = some L) {e : IE} {s c : Nat} (h0 : 0 ≤ e.ev ρ) {v : AVal} (hv : loadE1 C h i e s c = some v) :
    ∃ v', w.cell? ⟨L.blk, L.base + ((e.ev ρ).toNat * s + c), none⟩ = some v' ∧ VRel ρ f v v' := by
  unfold loadE1 at hv
  split at hv
  · rename_i ks code n own hg
    obtain ⟨cs, el, fr, h1, h2, h3, h4⟩ := hr.obj i L _ hf hg
    split at hv
    · rename_i hs hb
      have hs := Nat.eq_of_beq_eq_true hs
      have hb := bnd_ok hC hb
      split at hv
      · rename_i k hk
        cases hv
        obtain ⟨q1, q2, q3⟩ := h4 (e.ev ρ).toNat c k (by omega) hk
        subst hs
        refine ⟨.int k (rowGet (code.ev ρ) ((e.ev ρ).toNat * ks.length + c : Nat)), by simp only [World.cell?, h1, q1]; rfl, ?_⟩
        have e1 : (mkWrap C.bd k (mkFn 0 code (mkAdd (mkMul e (.lit (.ofNat ks.length))) (.lit (.ofNat c))) (.lit 0))).ev ρ = rowGet (code.ev ρ) ((e.ev ρ).toNat * ks.length + c : Nat) := by
          rw [mkWrap_ev hC.bd, mkFn_ev, pos_ev h0]
          exact wrap_id k _ q2 q3
        rw [← e1]
        exact .int k _
      · cases hv
    · cases hv
  · rename_i c0 el own top hg
    obtain ⟨cs, fr, h1, h2, h3, h4⟩ := hr.obj i L _ hf hg
    split at hv
    · rename_i a b hi
      obtain ⟨r1, r2, r3, r4⟩ := idxR_ok hC hi
      split at hv
      · rename_i k x0 hx0
        split at hv
        · rename_i y hy
          cases hv
          obtain ⟨x, q1, q2⟩ := chainD_ok hC _ _ _ hy (e.ev ρ).toNat r1 (by omega) (by omega)
          obtain ⟨_, v', p1, p2⟩ := h4 _ _ q1
          refine ⟨v', by simp [World.cell?, h1, p1], ?_⟩
          cases p2
          rw [← q2]
          exact .int k y
        · cases hv
      · rename_i x0 hx0
        split at hv
        · rename_i y hy
          cases hv
          obtain ⟨x, z, q1, q2, q3⟩ := chainB_ok hC _ _ _ hy (e.ev ρ).toNat r1 (by omega) (by omega)
          obtain ⟨_, v', p1, p2⟩ := h4 _ _ q1
          refine ⟨v', by simp [World.cell?, h1, p1], ?_⟩
          cases p2
          rw [← num_is q2 hC.bd q3]
          exact .bool _
        · cases hv
      · cases hv
    · cases hv
  · rename_i idx s' c0 el own hg
    obtain ⟨cs, fr, h1, h2, h3, _, h4⟩ := hr.obj i L _ hf hg
    split at hv
    · rename_i hs he
      have hs := Nat.eq_of_beq_eq_true hs
      have he := IE.eq_eq he
      subst hs he
      obtain ⟨v', p1, p2⟩ := h4 _ _ hv
      exact ⟨v', by simp [World.cell?, h1, p1], p2⟩
    · cases hv
  · rename_i s' c' k code m d n hg
    obtain ⟨cs, el, fr, h1, h4⟩ := hr.obj i L _ hf hg
    split at hv
    · rename_i hs hb
      cases hv
      have hs : Nat.beq s s' = true ∧ Nat.beq c c' = true := by simpa only [Bool.and_eq_true] using hs
      have hs1 := Nat.eq_of_beq_eq_true hs.1
      have hs2 := Nat.eq_of_beq_eq_true hs.2
      subst hs1 hs2
      have hb := bnd_ok hC hb
      obtain ⟨q1, q2, q3⟩ := h4 (e.ev ρ).toNat (by omega)
      refine ⟨.int k (rowGet (code.ev ρ) ((e.ev ρ).toNat * m + d : Nat)), by simp only [World.cell?, h1, q1]; rfl, ?_⟩
      have e1 : (mkWrap C.bd k (mkFn 0 code (mkAdd (mkMul e (.lit (.ofNat m))) (.lit (.ofNat d))) (.lit 0))).ev ρ = rowGet (code.ev ρ) ((e.ev ρ).toNat * m + d : Nat) := by
        rw [mkWrap_ev hC.bd, mkFn_ev, pos_ev h0]
        exact wrap_id k _ q2 q3
      rw [← e1]
      exact .int k _
    · cases hv
  · cases hv
def loadEN (C : Ctx) (h : T AObj) (i : Nat) (e : IE) (s : Nat) : Nat → Nat → Option (List AVal)
  | 0, _ => some []
  | n + 1, c =>
    match loadE1 C h i e s c with
    | none => none
    | some v =>
      match loadEN C h i e s n (c + 1) with
      | none => none
      | some l => some (v :: l)
theorem loadEN_ok {C : Ctx} {P : Program} {ρ : Env} (hC : C.Ok P ρ) {B : Nat → Prop} {W w : World} {f : Ren} {h : T AObj} (hr : HRel ρ B W f h w) {i : Nat} {L : Loc} (hf : f i = some L) {e : IE} {s : Nat} (h0 : 0 ≤ e.ev ρ) :
    ∀ (n c : Nat) (l : List AVal), loadEN C h i e s n c = some l → ∃ cs : List Value, LRel ρ f l cs.toArray ∧ cs.length = n ∧ ∀ j v', cs[j]? = some v' → w.cell? ⟨L.blk, L.base + ((e.ev ρ).toNat * s + c) + j, none⟩ = some v' := by
  intro n
  induction n with
  | zero => intro c l hl; simp [loadEN] at hl; subst hl; exact ⟨[], LRel.nil, rfl, by simp⟩
  | succ n ih =>
    intro c l hl
    simp only [loadEN] at hl
    split at hl
    · cases hl
    · rename_i v hv
      split at hl
      · cases hl
      · rename_i l' hl'
        cases hl
        obtain ⟨v', h1, h2⟩ := loadE1_ok hC hr hf h0 hv
        obtain ⟨cs, h3, h4, h5⟩ := ih _ _ hl'
        refine ⟨v' :: cs, LRel.cons h2 h3, by simp [h4], fun j u hj => ?_⟩
        cases j with
        | zero => simp at hj; subst hj; simpa using h1
        | succ j =>
          have := h5 j u (by simpa using hj)
          rw [show L.base + ((e.ev ρ).toNat * s + c) + (j + 1) = L.base + ((e.ev ρ).toNat * s + (c + 1)) + j by omega]
          exact this
def aLoadE (C : Ctx) (h : T AObj) (t : TypeId) : AVal → Option AVal
  | .ptrE i e s c =>
    match C.und t with
    | none => none
    | some d =>
      match aggB d with
      | true =>
        match C.size t with
        | none => none
        | some n =>
          match loadEN C h i e s n c with
          | some l => some (.agg l)
          | none => none
      | false => loadE1 C h i e s c
  | _ => none
theorem aLoadE_ok {C : Ctx} {P : Program} {ρ : Env} (hC : C.Ok P ρ) {B : Nat → Prop} {W w : World} {f : Ren} {h : T AObj} (hr : HRel ρ B W f h w) {t : TypeId} {x : AVal} {x' : Value} {v : AVal} (hx : VRel ρ f x x') (hl : aLoadE C h t x = some v) :
    ∃ v', (Instr.loadAt t x').run P w = .ok v' w ∧ VRel ρ f v v' := by
  unfold aLoadE at hl
  split at hl
  · rename_i i e s c
    cases hx; rename_i L hf h0
    split at hl
    · cases hl
    · rename_i d hd
      have hu := Ctx.und_ok hC hd
      split at hl
      · rename_i ha
        split at hl
        · cases hl
        · rename_i n hn
          split at hl
          · rename_i l hg
            cases hl
            obtain ⟨cs, h1, h2, h3⟩ := loadEN_ok hC hr hf h0 n c l hg
            have := run_loadCells_at (P := P) h2 h3
            exact ⟨.agg cs.toArray, by simp only [Instr.loadAt, Instr.sureAddr, Sem.run_bind, Sem.run_pure, Result.andThen_ok, loadVar, run_isAgg hu, ha, if_true, Ctx.size_ok hC hn, this], .agg h1.1 h1.2⟩
          · cases hl
      · rename_i ha
        obtain ⟨v', h1, h2⟩ := loadE1_ok hC hr hf h0 hl
        exact ⟨v', by simp only [Instr.loadAt, Instr.sureAddr, Sem.run_bind, Sem.run_pure, Result.andThen_ok, loadVar, run_isAgg hu, ha, Bool.false_eq_true, if_false, run_load, h1], h2⟩
  · cases hl

/-! an element of a value -/
def chainL (C : Ctx) (k : IntKind) (e : IE) : List AVal → Nat → Option IE
  | [], _ => none
  | [.int k' x], _ =>
    match kindEq k k' with
    | true => some x
    | false => none
  | .int k' x :: l, j =>
    match kindEq k k', chainL C k e l (j + 1) with
    | true, some y => some (mkSel C.bd false e (.lit (.ofNat j)) x y)
    | _, _ => none
  | _ :: _, _ => none
theorem chainL_ok {C : Ctx} {P : Program} {ρ : Env} (hC : C.Ok P ρ) {k : IntKind} {e : IE} : ∀ (l : List AVal) (j : Nat) (y : IE), chainL C k e l j = some y → ∀ m : Nat, m < l.length → e.ev ρ = (j + m : Nat) →
    ∃ x, l[m]? = some (.int k x) ∧ y.ev ρ = x.ev ρ := by
  intro l
  induction l with
  | nil => intro j y h; simp [chainL] at h
  | cons a l ih =>
    intro j y h m hm he
    unfold chainL at h
    split at h
    · rename_i heq; cases heq
    · rename_i k' x heq
      cases heq
      have : m = 0 := by simp at hm; omega
      subst this
      split at h
      · rename_i hk
        have := kindEq_eq hk
        subst this
        cases h
        exact ⟨_, rfl, rfl⟩
      · cases h
    · rename_i k' x l' hne heq
      cases heq
      split at h
      · rename_i z hk hz
        have := kindEq_eq hk
        subst this
        cases h
        rw [mkSel_ev hC.bd]
        simp only [selI, Bool.false_eq_true, if_false, IE.ev, Int.ofNat_eq_natCast]
        cases m with
        | zero =>
          rw [if_pos (by simpa using he)]
          exact ⟨x, rfl, rfl⟩
        | succ m =>
          rw [if_neg (by omega)]
          obtain ⟨u, q1, q2⟩ := ih _ _ hz m (by simpa using hm) (by omega)
          exact ⟨u, by simpa using q1, q2⟩
      · cases h
    · cases h
def aIndexE (C : Ctx) (t : TypeId) (x ix : AVal) : Option AVal :=
  match ix with
  | .int _ e =>
    match C.und t, x with
    | some (.array len el), .agg cs =>
      match bnd C e (.lit (.ofNat len)), Nat.beq cs.length len, C.und el, C.size el with
      | true, true, some (.int k), some 1 =>
        match chainL C k e cs 0 with
        | some y => some (.int k y)
        | none => none
      | true, true, some .bool, some 1 =>
        match chainLB C e cs 0 with
        | some y => some (.bool (mkEq C.bd y (.lit 1)))
        | none => none
      | _, _, _, _ => none
    | some .string, .strS code len =>
      match bnd C e len with
      | true => some (.int .u8 (mkWrap C.bd .u8 (mkFn 0 code e (.lit 0))))
      | false => none
    | _, _ => none
  | _ => none
theorem aIndexE_ok {C : Ctx} {P : Program} {ρ : Env} (hC : C.Ok P ρ) {f : Ren} {t : TypeId} {x ix : AVal} {x' ix' : Value} {v : AVal} (hx : VRel ρ f x x') (hi : VRel ρ f ix ix') (h : aIndexE C t x ix = some v) (w : World) :
    ∃ v', (Instr.index t x' ix').run P w = .ok v' w ∧ VRel ρ f v v' := by
  unfold aIndexE at h
  split at h
  · rename_i k0 e
    cases hi
    split at h
    · rename_i len el cs hu
      have hu := Ctx.und_ok hC hu
      cases hx; rename_i a' h1 h2
      split at h
      · rename_i k hb hl hk hs
        have hb := bnd_ok hC hb
        have hl := Nat.eq_of_beq_eq_true hl
        have hk := Ctx.und_ok hC hk
        split at h
        · rename_i y hy
          cases h
          have hc : (0 : Int) ≤ e.ev ρ ∧ e.ev ρ < (len : Int) := hb
          obtain ⟨u, q1, q2⟩ := chainL_ok hC cs 0 y hy (e.ev ρ).toNat (by omega) (by omega)
          obtain ⟨u', q3, q4⟩ := LRel.get (⟨h1, h2⟩ : LRel ρ f cs a') q1
          refine ⟨u', ?_, ?_⟩
          · simp only [Instr.index, asIntOf, Sem.run_bind, run_underlying hu, Result.andThen_ok, Sem.run_pure, if_pos hc, Ctx.size_ok hC hs, Nat.mul_one, part, run_isAgg hk, aggB, Bool.false_eq_true, if_false, q3]
          · cases q4
            rw [← q2]
            exact .int k y
        · cases h
      · rename_i hb hl hk hs
        have hb := bnd_ok hC hb
        have hl := Nat.eq_of_beq_eq_true hl
        have hk := Ctx.und_ok hC hk
        split at h
        · rename_i y hy
          cases h
          have hc : (0 : Int) ≤ e.ev ρ ∧ e.ev ρ < (len : Int) := hb
          obtain ⟨u, z, q1, q2, q5⟩ := chainLB_ok hC cs 0 y hy (e.ev ρ).toNat (by omega) (by omega)
          obtain ⟨u', q3, q4⟩ := LRel.get (⟨h1, h2⟩ : LRel ρ f cs a') q1
          refine ⟨u', ?_, ?_⟩
          · simp only [Instr.index, asIntOf, Sem.run_bind, run_underlying hu, Result.andThen_ok, Sem.run_pure, if_pos hc, Ctx.size_ok hC hs, Nat.mul_one, part, run_isAgg hk, aggB, Bool.false_eq_true, if_false, q3]
          · cases q4
            rw [← num_is q2 hC.bd q5]
            exact .bool _
        · cases h
      · cases h
    · rename_i code len hu
      have hu := Ctx.und_ok hC hu
      cases hx; rename_i s hs hl
      split at h
      · rename_i hb
        have hb := bnd_ok hC hb
        cases h
        have hlt : (e.ev ρ).toNat < s.size := by omega
        have hd : s.data[(e.ev ρ).toNat]? = some s[(e.ev ρ).toNat] := by
          rw [Array.getElem?_eq_getElem hlt]
          rfl
        have hb8 := hs _ _ hd
        have hsome : s[(e.ev ρ).toNat]? = some s[(e.ev ρ).toNat] := by simp [hlt]
        refine ⟨.int .u8 s[(e.ev ρ).toNat].toNat, ?_, ?_⟩
        · simp only [Instr.index, asIntOf, Sem.run_bind, run_underlying hu, Result.andThen_ok, Sem.run_pure, if_pos hb.1, hsome]
        · have e1 : (mkWrap C.bd .u8 (mkFn 0 code e (.lit 0))).ev ρ = (s[(e.ev ρ).toNat].toNat : Int) := by
            rw [mkWrap_ev hC.bd, mkFn_ev]
            have : fnI ρ 0 (code.ev ρ) (e.ev ρ) ((IE.lit 0).ev ρ) = rowGet (code.ev ρ) (e.ev ρ) := rfl
            rw [this]
            have e2 : rowGet (code.ev ρ) (e.ev ρ) = (s[(e.ev ρ).toNat].toNat : Int) := by
              rw [← hb8, Int.toNat_of_nonneg hb.1]
            rw [e2]
            have := s[(e.ev ρ).toNat].toNat_lt
            exact wrap_id .u8 _ (by simp [kLo]) (by simp [kHi]; omega)
          rw [← e1]
          exact .int .u8 _
      · cases h
    · cases h
  · cases h

/-! lengths -/
def aLenE (C : Ctx) (t : TypeId) (x : AVal) : Option AVal :=
  match C.und t, x with
  | some .string, .strS _ len => some (.int .i64 len)
  | some (.slice _), .sliceS _ _ len _ _ => some (.int .i64 len)
  | _, _ => none
theorem aLenE_ok {C : Ctx} {P : Program} {ρ : Env} (hC : C.Ok P ρ) {w : World} {f : Ren} {t ty : TypeId} {x : AVal} {x' : Value} {v : AVal} (hx : VRel ρ f x x') (hl : aLenE C t x = some v) (ts : Array TypeId) (xs : Array Value) (h0 : ts[0]? = some t) (h1 : xs[0]? = some x') :
    ∃ v', (Builtin.len_ ts ty xs).run P w = .ok v' w ∧ VRel ρ f v v' := by
  unfold aLenE at hl
  unfold Builtin.len_
  simp only [h0, h1]
  split at hl
  · rename_i code len hu
    have hd := Ctx.und_ok hC hu
    cases hx; rename_i s h3 h2
    cases hl
    refine ⟨.int .i64 s.size, by simp only [Sem.run_bind, run_underlying hd, Result.andThen_ok, Sem.run_pure, goInt], ?_⟩
    rw [← h2]; exact .int _ len
  · rename_i e i st len s nn hu
    have hd := Ctx.und_ok hC hu
    cases hl
    cases hx with
    | sliceS hf h0 hl hc =>
      refine ⟨.int .i64 ((len.ev ρ).toNat : Int), by simp only [Sem.run_bind, run_underlying hd, Result.andThen_ok, Sem.run_pure, goInt], ?_⟩
      rw [Int.toNat_of_nonneg hl]
      exact .int _ len
    | sliceZ hl ha =>
      refine ⟨.int .i64 ((0 : Nat) : Int), by simp only [Sem.run_bind, run_underlying hd, Result.andThen_ok, Sem.run_pure, goInt], ?_⟩
      have : ((0 : Nat) : Int) = len.ev ρ := by rw [hl]; rfl
      rw [this]
      exact .int _ len
  · cases hl

/-! slice expressions -/
def asIE (d : IE) : Option (Option AVal) → Option IE
  | none => some d
  | some (some (.int _ e)) => some e
  | _ => none
def aSliceE (C : Ctx) (t : TypeId) (x : AVal) (lo hi mx : Option (Option AVal)) : Option AVal :=
  match C.und t, x, mx with
  | some (.slice el), .sliceS i st len s nn, none =>
    match asIE (.lit 0) lo, asIE len hi, C.size el with
    | some a, some b, some s' =>
      match Nat.beq s s', settle C.dec (mkLt C.bd a (.lit 0)), settle C.dec (mkLt C.bd b a), settle C.dec (mkLt C.bd len b) with
      | true, some false, some false, some false => some (.sliceS i (mkAdd st a) (mkSub b a) s nn)
      | _, _, _, _ => none
    | _, _, _ => none
  | _, _, _ => none
theorem asIE_ok {ρ : Env} {f : Ren} {d e : IE} {o : Option (Option AVal)} {o' : Option Value} (h : OptRel ρ f o o') (he : asIE d o = some e) : (o' = none ∧ e = d) ∨ ∃ k, o' = some (.int k (e.ev ρ)) := by
  unfold asIE at he
  split at he
  · cases he
    cases o' with
    | none => exact .inl ⟨rfl, rfl⟩
    | some v => cases h
  · cases he
    cases o' with
    | none => cases h
    | some v =>
      have h : VRel ρ f _ v := h
      cases h
      exact .inr ⟨_, rfl⟩
  · cases he
theorem run_sliceBoundI {P : Program} {w : World} {k : IntKind} {n : Int} {y : Nat} {c : BoundsCode} (h0 : 0 ≤ n) (h : n ≤ y) : (Instr.sliceBound (.int k n) y c).run P w = .ok n.toNat w := by
  simp only [Instr.sliceBound, asIntOf, Sem.run_bind, Sem.run_pure, Result.andThen_ok, if_pos (⟨h0, h⟩ : 0 ≤ n ∧ n ≤ (y : Int))]
theorem aSliceE_ok {C : Ctx} {P : Program} {ρ : Env} (hC : C.Ok P ρ) {f : Ren} {t : TypeId} {x : AVal} {x' : Value} {lo hi mx : Option (Option AVal)} {lo' hi' mx' : Option Value} {v : AVal} (hx : VRel ρ f x x')
    (h1 : OptRel ρ f lo lo') (h2 : OptRel ρ f hi hi') (h3 : OptRel ρ f mx mx') (h : aSliceE C t x lo hi mx = some v) (w : World) :
    ∃ v', (Instr.sliceAt t x' lo' hi' mx').run P w = .ok v' w ∧ VRel ρ f v v' := by
  unfold aSliceE at h
  split at h
  · rename_i el i st len s nn hu
    have hu := Ctx.und_ok hC hu
    have hmx : mx' = none := by
      cases mx' with
      | none => rfl
      | some v => cases h3
    subst hmx
    split at h
    · rename_i a b s' ha hb hs
      split at h
      · rename_i hss q1 q2 q3
        have hss := Nat.eq_of_beq_eq_true hss
        subst hss
        have q1 := settle_ok hC.dec _ _ q1
        have q2 := settle_ok hC.dec _ _ q2
        have q3 := settle_ok hC.dec _ _ q3
        rw [mkLt_ev hC.bd] at q1 q2 q3
        have q1 := of_decide_eq_false q1
        have q2 := of_decide_eq_false q2
        have q3 := of_decide_eq_false q3
        simp only [IE.ev] at q1
        cases h
        have main : ∀ (ad : Option Addr) (nn cc : Nat), len.ev ρ = nn → nn ≤ cc → (Instr.sliceAt t (.slice ad nn cc) lo' hi' none).run P w = .ok (.slice (if cc = (a.ev ρ).toNat then ad else ad.map (·.add ((a.ev ρ).toNat * s))) ((b.ev ρ).toNat - (a.ev ρ).toNat) (cc - (a.ev ρ).toNat)) w := by
          intro ad nn cc hnn hcc
          have hbb : ((match hi' with
              | some v => Instr.sliceBound v cc (if true then .sliceAcap else .sliceAlen)
              | none => pure nn) : Sem Nat).run P w = .ok (b.ev ρ).toNat w := by
            rcases asIE_ok h2 hb with ⟨rfl, rfl⟩ | ⟨k, rfl⟩
            · simp [hnn]
            · exact run_sliceBoundI (by omega) (by omega)
          have haa : ((match lo' with
              | some v => Instr.sliceBound v (b.ev ρ).toNat (if (none : Option Value).isSome then .slice3C else .sliceB)
              | none => pure 0) : Sem Nat).run P w = .ok (a.ev ρ).toNat w := by
            rcases asIE_ok h1 ha with ⟨rfl, rfl⟩ | ⟨k, rfl⟩
            · simp [IE.ev]
            · exact run_sliceBoundI (by omega) (by omega)
          have hbd : (Instr.sliceBounds true nn cc lo' hi' none).run P w = .ok ((a.ev ρ).toNat, (b.ev ρ).toNat, cc) w := by
            unfold Instr.sliceBounds
            cases hi' with
            | none =>
              cases lo' with
              | none =>
                simp only [Sem.run_bind, Sem.run_pure, Result.andThen_ok] at hbb haa ⊢
                simp only [Result.ok.injEq, and_true] at hbb haa
                rw [← hbb, ← haa]
              | some l =>
                simp only [Sem.run_bind, Sem.run_pure, Result.andThen_ok] at hbb haa ⊢
                simp only [Result.ok.injEq, and_true] at hbb
                rw [hbb]
                simp only [haa, Result.andThen_ok]
            | some u =>
              cases lo' with
              | none =>
                simp only [Sem.run_bind, Sem.run_pure, Result.andThen_ok] at hbb haa ⊢
                simp only [Result.ok.injEq, and_true] at haa
                simp only [hbb, Result.andThen_ok]
                rw [← haa]
              | some l =>
                simp only [Sem.run_bind, Sem.run_pure, Result.andThen_ok] at hbb haa ⊢
                simp only [hbb, Result.andThen_ok, haa]
          simp only [Instr.sliceAt, Instr.slice, Sem.run_bind, run_underlying hu, Result.andThen_ok, hbd, Ctx.size_ok hC hs, Sem.run_pure]
        have e1 : (mkAdd st a).ev ρ = st.ev ρ + a.ev ρ := mkAdd_ev ρ st a
        have e2 : (mkSub b a).ev ρ = b.ev ρ - a.ev ρ := mkSub_ev ρ b a
        cases hx with
        | sliceS hf h0 hl hc =>
          rename_i L c
          refine ⟨_, main _ _ c (by omega) hc, ?_⟩
          by_cases hca : c = (a.ev ρ).toNat
          · rw [if_pos hca]
            have : (b.ev ρ).toNat - (a.ev ρ).toNat = 0 := by omega
            rw [this]
            exact .sliceZ (by omega) (fun h => by cases h)
          · rw [if_neg hca]
            simp only [Option.map_some, addr_add]
            have e3 : L.base + (st.ev ρ).toNat * s + (a.ev ρ).toNat * s = L.base + ((mkAdd st a).ev ρ).toNat * s := by
              rw [e1, Int.toNat_add h0 (by omega), Nat.add_mul]
              omega
            have e4 : (b.ev ρ).toNat - (a.ev ρ).toNat = ((mkSub b a).ev ρ).toNat := by omega
            rw [e3, e4]
            exact .sliceS hf (by omega) (by omega) (by omega)
        | sliceZ hl hz =>
          rename_i ad c
          refine ⟨_, main _ 0 c (by omega) (Nat.zero_le _), ?_⟩
          have : (b.ev ρ).toNat - (a.ev ρ).toNat = 0 := by omega
          rw [this]
          refine .sliceZ (by omega) (fun hn => ?_)
          have ha0 : (a.ev ρ).toNat = 0 := by omega
          rw [ha0] at hn ⊢
          split at hn
          · exact ⟨by omega, (hz hn).2⟩
          · cases ad with
            | none => exact ⟨by simp [(hz rfl).1], (hz rfl).2⟩
            | some x => simp at hn
      · cases h
    · cases h
  · cases h
/-- The beginning of a growing slice. -/
def aSliceP (C : Ctx) (t : TypeId) (x : AVal) (lo hi mx : Option (Option AVal)) : Option AVal :=
  match C.und t, x, mx with
  | some (.slice el), .sliceA i len s, none =>
    match lo, asIE len hi, C.size el with
    | none, some b, some s' =>
      match Nat.beq s s', settle C.dec (mkLt C.bd b (.lit 0)), settle C.dec (mkLt C.bd len b) with
      | true, some false, some false => some (.sliceA i b s)
      | _, _, _ => none
    | _, _, _ => none
  | _, _, _ => none
theorem aSliceP_ok {C : Ctx} {P : Program} {ρ : Env} (hC : C.Ok P ρ) {f : Ren} {t : TypeId} {x : AVal} {x' : Value} {lo hi mx : Option (Option AVal)} {lo' hi' mx' : Option Value} {v : AVal} (hx : VRel ρ f x x')
    (h1 : OptRel ρ f lo lo') (h2 : OptRel ρ f hi hi') (h3 : OptRel ρ f mx mx') (h : aSliceP C t x lo hi mx = some v) (w : World) :
    ∃ v', (Instr.sliceAt t x' lo' hi' mx').run P w = .ok v' w ∧ VRel ρ f v v' := by
  unfold aSliceP at h
  split at h
  · rename_i el i len s hu
    have hu := Ctx.und_ok hC hu
    have hmx : mx' = none := by
      cases mx' with
      | none => rfl
      | some v => cases h3
    subst hmx
    split at h
    · rename_i b s' hb hs
      have hlo : lo' = none := by
        cases lo' with
        | none => rfl
        | some v => cases h1
      subst hlo
      split at h
      · rename_i hss q1 q2
        have hss := Nat.eq_of_beq_eq_true hss
        subst hss
        have q1 := settle_ok hC.dec _ _ q1
        have q2 := settle_ok hC.dec _ _ q2
        rw [mkLt_ev hC.bd] at q1 q2
        have q1 := of_decide_eq_false q1
        have q2 := of_decide_eq_false q2
        simp only [IE.ev] at q1
        cases h
        have main : ∀ (ad : Option Addr) (nn cc : Nat), len.ev ρ = nn → nn ≤ cc → (Instr.sliceAt t (.slice ad nn cc) none hi' none).run P w = .ok (.slice (if cc = 0 then ad else ad.map (·.add (0 * s))) (b.ev ρ).toNat cc) w := by
          intro ad nn cc hnn hcc
          have hbb : ((match hi' with
              | some v => Instr.sliceBound v cc (if true then .sliceAcap else .sliceAlen)
              | none => pure nn) : Sem Nat).run P w = .ok (b.ev ρ).toNat w := by
            rcases asIE_ok h2 hb with ⟨rfl, rfl⟩ | ⟨k, rfl⟩
            · simp [hnn]
            · exact run_sliceBoundI (by omega) (by omega)
          have hbd : (Instr.sliceBounds true nn cc none hi' none).run P w = .ok (0, (b.ev ρ).toNat, cc) w := by
            unfold Instr.sliceBounds
            cases hi' with
            | none =>
              simp only [Sem.run_bind, Sem.run_pure, Result.andThen_ok] at hbb ⊢
              simp only [Result.ok.injEq, and_true] at hbb
              rw [← hbb]
            | some u =>
              simp only [Sem.run_bind, Sem.run_pure, Result.andThen_ok] at hbb ⊢
              simp only [hbb, Result.andThen_ok]
          simp only [Instr.sliceAt, Instr.slice, Sem.run_bind, run_underlying hu, Result.andThen_ok, hbd, Ctx.size_ok hC hs, Sem.run_pure, Nat.sub_zero]
        cases hx with
        | sliceA hf h0 hc hz =>
          rename_i c L
          refine ⟨_, main _ _ c (by omega) hc, ?_⟩
          have e : (if c = 0 then some (⟨L.blk, L.base, none⟩ : Addr) else (some (⟨L.blk, L.base, none⟩ : Addr)).map (·.add (0 * s))) = some ⟨L.blk, L.base, none⟩ := by
            split
            · rfl
            · simp only [Option.map_some, addr_add, Nat.zero_mul, Nat.add_zero]
          rw [e]
          exact .sliceA hf (by omega) (by omega) hz
        | sliceN hl =>
          rename_i ad
          refine ⟨_, main ad 0 0 hl (Nat.le_refl _), ?_⟩
          have hb0 : b.ev ρ = 0 := by omega
          rw [if_pos rfl, hb0]
          exact .sliceN hb0
      · cases h
    · cases h
  · cases h
/-- The bounds of the symbols, with what is known of them. -/
def bdN (bd : Bd) (dec : Dec) : Bd := fun i =>
  match bd i with
  | some (lo, hi) =>
    match optMax (narrow (.var i) dec).1 lo, optMin (narrow (.var i) dec).2 hi with
    | some a, some b => some (a, b)
    | _, _ => some (lo, hi)
  | none => none
theorem bdN_ok {ρ : Env} {bd : Bd} {dec : Dec} (hρ : ρ.ok bd) (hd : dec.holds ρ) : ρ.ok (bdN bd dec) := by
  intro i lo hi h
  have hw := narrow_ok (ρ := ρ) (.var i) hd
  unfold bdN at h
  split at h
  · rename_i l u hb
    obtain ⟨h1, h2⟩ := hρ i _ _ hb
    split at h
    · rename_i a b ha hb2
      cases h
      exact ⟨optMax_ok hw.1 h1 _ ha, optMin_ok hw.2 h2 _ hb2⟩
    · cases h
      exact ⟨h1, h2⟩
  · cases h
/-- The one number that an expression can be. -/
def oneOf (C : Ctx) (e : IE) : Option Nat :=
  match rng (bdN C.bd C.dec) e with
  | some (.ofNat a, b) =>
    match intEq (.ofNat a) b with
    | true => some a
    | false => none
  | _ => none
theorem oneOf_ok {C : Ctx} {P : Program} {ρ : Env} (hC : C.Ok P ρ) {e : IE} {n : Nat} (h : oneOf C e = some n) : e.ev ρ = n := by
  unfold oneOf at h
  split at h
  · rename_i a b hr
    split at h
    · rename_i hab
      cases h
      have hab := intEq_eq hab
      obtain ⟨h1, h2⟩ := rng_ok (bdN_ok hC.bd hC.dec) _ _ _ hr
      rw [← hab] at h2
      have h1 : (n : Int) ≤ e.ev ρ := h1
      have h2 : e.ev ρ ≤ (n : Int) := h2
      omega
    · cases h
  · cases h
/-- A place that is known. -/
def fixP (C : Ctx) : AVal → AVal
  | .ptrE i e s c =>
    match oneOf C e with
    | some k => .ptr (some (i, k * s + c))
    | none => .ptrE i e s c
  | v => v
theorem fixP_ok {C : Ctx} {P : Program} {ρ : Env} (hC : C.Ok P ρ) {f : Ren} {v : AVal} {v' : Value} (h : VRel ρ f v v') : VRel ρ f (fixP C v) v' := by
  unfold fixP
  split
  · rename_i i e s c
    split
    · rename_i k hk
      have hk := oneOf_ok hC hk
      cases h with
      | ptrE hf h0 =>
        rw [hk, Int.toNat_natCast]
        exact .ptr hf
    · exact h
  · exact h
def aIndexAddrF (C : Ctx) (t : TypeId) (x ix : AVal) : Option AVal :=
  match aIndexAddrE C t x ix with
  | some v => some (fixP C v)
  | none => none
theorem aIndexAddrF_ok {C : Ctx} {P : Program} {ρ : Env} (hC : C.Ok P ρ) {f : Ren} {t : TypeId} {x ix : AVal} {x' ix' : Value} {v : AVal} (hx : VRel ρ f x x') (hi : VRel ρ f ix ix') (h : aIndexAddrF C t x ix = some v) (w : World) :
    ∃ v', (Instr.indexAt t x' ix').run P w = .ok v' w ∧ VRel ρ f v v' := by
  unfold aIndexAddrF at h
  split at h
  · rename_i v0 h0
    cases h
    obtain ⟨v', h1, h2⟩ := aIndexAddrE_ok hC hx hi h0 w
    exact ⟨v', h1, fixP_ok hC h2⟩
  · cases h
end
end Go.Sx
