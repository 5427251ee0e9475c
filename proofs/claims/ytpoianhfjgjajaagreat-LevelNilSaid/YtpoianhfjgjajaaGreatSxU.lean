/- Runs whose outcomes are trees. No condition. -/
import Derived.Test.YtpoianhfjgjajaaGreatSxV
set_option linter.unusedSimpArgs false
set_option linter.unusedVariables false
namespace Go.Sx
open Go.RowKit (Below)
noncomputable section

/-! one run of a piece of code, from a state to a state -/
def Goes (P : Program) (ρ : Env) (B : Nat → Prop) (W : World) (n : Nat) (c : Code) (s : ASt) (e : AExit) (s' : ASt) : Prop := s.nx ≤ s'.nx ∧
    ∀ N f a w Q, s'.nx ≤ N → StRel ρ B W n N f s a w →
      (∀ f' a' w', f.le f' → Outside f f' s.nx s'.nx → StRel ρ B W n N f' s' a' w' → Q e.to a' w') → c.wp P Q a w
section
variable {P : Program} {ρ : Env} {B : Nat → Prop} {W : World} {n : Nat}
theorem Goes.of {c : Code} {g : ACode} (h : CodeOk P ρ B W n c g) {s s' : ASt} {e : AExit} (hs : g s = some (e, s')) : Goes P ρ B W n c s e s' := h s e s' hs
theorem Goes.here {c : Code} {s : ASt} {e : AExit} (h : ∀ Q a w, Q e.to a w → c.wp P Q a w) : Goes P ρ B W n c s e s :=
  ⟨Nat.le_refl _, fun N f a w Q hN hr hq => h Q a w (hq f a w (Ren.le_refl f) (fun _ _ => rfl) hr)⟩
theorem Goes.cov {c : Code} {s s1 s2 : ASt} {e : AExit} (h : Goes P ρ B W n c s e s1) (hc : SCov ρ s1 s2) : Goes P ρ B W n c s e s2 := by
  refine ⟨Nat.le_trans h.1 hc.nx, fun N f a w Q hN hr hq => h.2 N f a w Q (Nat.le_trans hc.nx hN) hr fun f' a' w' l o r => hq f' a' w' l (fun j hj => o j ?_) (hc.st r)⟩
  have := hc.nx
  omega
theorem Goes.seq {x y : Code} {s s1 s2 : ASt} {e : AExit} (h : Goes P ρ B W n x s .normal s1) (k : Goes P ρ B W n y s1 e s2) : Goes P ρ B W n (.seq x y) s e s2 := by
  refine ⟨Nat.le_trans h.1 k.1, fun N f a w Q hN hr hq => wp_seq (h.2 N f a w _ (Nat.le_trans k.1 hN) hr fun f1 a1 w1 l1 o1 r1 => ?_)⟩
  exact k.2 N f1 a1 w1 Q hN r1 fun f2 a2 w2 l2 o2 r2 => hq f2 a2 w2 (Ren.le_trans l1 l2) (o1.trans o2 h.1 k.1) r2
theorem Goes.seq_out {x y : Code} {s s1 : ASt} {e : AExit} (he : e ≠ .normal) (h : Goes P ρ B W n x s e s1) : Goes P ρ B W n (.seq x y) s e s1 := by
  refine ⟨h.1, fun N f a w Q hN hr hq => wp_seq (h.2 N f a w _ hN hr fun f1 a1 w1 l1 o1 r1 => ?_)⟩
  have := hq f1 a1 w1 l1 o1 r1
  cases e with
  | normal => exact absurd rfl he
  | exit i => exact this
  | ret => exact this
theorem Goes.cond {x y : Code} {c : Operand} {s s1 : ASt} {e : AExit} {v : Bool} (ht : ∀ N f (a : Act) w, StRel ρ B W n N f s a w → a.eval c = .bool v) (h : Goes P ρ B W n (pickV v x y) s e s1) : Goes P ρ B W n (.cond c x y) s e s1 := by
  refine ⟨h.1, fun N f a w Q hN hr hq => ?_⟩
  cases v
  · exact wp_cond_false (ht N f a w hr) (h.2 N f a w Q hN hr hq)
  · exact wp_cond_true (ht N f a w hr) (h.2 N f a w Q hN hr hq)
theorem Goes.block_normal {c : Code} {id : Nat} {s s1 : ASt} (h : Goes P ρ B W n c s .normal s1) : Goes P ρ B W n (.block id c) s .normal s1 :=
  ⟨h.1, fun N f a w Q hN hr hq => wp_block (h.2 N f a w _ hN hr fun f1 a1 w1 l1 o1 r1 => hq f1 a1 w1 l1 o1 r1)⟩
theorem Goes.block_ret {c : Code} {id : Nat} {s s1 : ASt} (h : Goes P ρ B W n c s .ret s1) : Goes P ρ B W n (.block id c) s .ret s1 :=
  ⟨h.1, fun N f a w Q hN hr hq => wp_block (h.2 N f a w _ hN hr fun f1 a1 w1 l1 o1 r1 => hq f1 a1 w1 l1 o1 r1)⟩
theorem Goes.block_here {c : Code} {id : Nat} {s s1 : ASt} (h : Goes P ρ B W n c s (.exit id) s1) : Goes P ρ B W n (.block id c) s .normal s1 :=
  ⟨h.1, fun N f a w Q hN hr hq => wp_block (h.2 N f a w _ hN hr fun f1 a1 w1 l1 o1 r1 => by
    show Exit.inBlock id Q (.exit id) a1 w1
    simp only [Exit.inBlock, if_true]
    exact hq f1 a1 w1 l1 o1 r1)⟩
theorem Goes.block_out {c : Code} {id i : Nat} (hi : i ≠ id) {s s1 : ASt} (h : Goes P ρ B W n c s (.exit i) s1) : Goes P ρ B W n (.block id c) s (.exit i) s1 :=
  ⟨h.1, fun N f a w Q hN hr hq => wp_block (h.2 N f a w _ hN hr fun f1 a1 w1 l1 o1 r1 => by
    show Exit.inBlock id Q (.exit i) a1 w1
    simp only [Exit.inBlock, hi, if_false]
    exact hq f1 a1 w1 l1 o1 r1)⟩
theorem Goes.scope {c : Code} {s s1 : ASt} {e : AExit} (h : Goes P ρ B W n c s e s1) : Goes P ρ B W n (.scope c) s e s1 :=
  ⟨h.1, fun N f a w Q hN hr hq => wp_scope_straight (h.2 N f a w _ hN hr fun f1 a1 w1 l1 o1 r1 => by
      have := hq f1 a1 w1 l1 o1 r1
      cases e <;> exact this)⟩
/-- Rounds of a loop. -/
def GoesR (P : Program) (ρ : Env) (B : Nat → Prop) (W : World) (n : Nat) (c : Code) (L : Nat) (s : ASt) (e : AExit) (s' : ASt) : Prop := s.nx ≤ s'.nx ∧
    ∀ N f a w Q, s'.nx ≤ N → StRel ρ B W n N f s a w → (∀ f' a' w', f.le f' → Outside f f' s.nx s'.nx → StRel ρ B W n N f' s' a' w' → Q e.to a' w') → Code.rounds P c Q L a w
theorem GoesR.more {c : Code} {L : Nat} {s s1 s2 : ASt} {e : AExit} (h : Goes P ρ B W n c s .normal s1) (k : GoesR P ρ B W n c L s1 e s2) : GoesR P ρ B W n c (L + 1) s e s2 := by
  refine ⟨Nat.le_trans h.1 k.1, fun N f a w Q hN hr hq => h.2 N f a w _ (Nat.le_trans k.1 hN) hr fun f1 a1 w1 l1 o1 r1 => ?_⟩
  exact k.2 N f1 a1 w1 Q hN r1 fun f2 a2 w2 l2 o2 r2 => hq f2 a2 w2 (Ren.le_trans l1 l2) (o1.trans o2 h.1 k.1) r2
theorem GoesR.out {c : Code} {L : Nat} {s s1 : ASt} {e : AExit} (he : e ≠ .normal) (h : Goes P ρ B W n c s e s1) : GoesR P ρ B W n c (L + 1) s e s1 := by
  refine ⟨h.1, fun N f a w Q hN hr hq => h.2 N f a w _ hN hr fun f1 a1 w1 l1 o1 r1 => ?_⟩
  have := hq f1 a1 w1 l1 o1 r1
  cases e with
  | normal => exact absurd rfl he
  | exit i => exact this
  | ret => exact this
theorem Goes.loop {c : Code} {L : Nat} {s s1 : ASt} {e : AExit} (h : GoesR P ρ B W n c L s e s1) : Goes P ρ B W n (.loop c) s e s1 :=
  ⟨h.1, fun N f a w Q hN hr hq => wp_loop_rounds L (h.2 N f a w Q hN hr hq)⟩
end

/-! trees of outcomes -/
/-- Why a run has stopped (for looking alone). -/
inductive Why where
  | num (n : Nat)
  | op (n : Nat) (o : Oper) (dec : Dec) (tm : T AVal) (hp : T AObj)
  | fn (n : Nat) (g : FuncId) (args : List AVal)
  | ops (l : List Oper) (dec : Dec) (tm : T AVal) (hp : T AObj)
inductive Out where
  | bad (w : Why)
  | leaf (e : AExit) (s : ASt)
  | split (b : BE) (y n : Out)
def Out.pick (ρ : Env) : Out → Option (AExit × ASt)
  | .bad _ => none
  | .leaf e s => some (e, s)
  | .split b y n => pickV (b.ev ρ) (y.pick ρ) (n.pick ρ)
/-- A test parts the run. -/
def Out.part : BE → Dec → (Dec → Out) → (Dec → Out) → Out
  | .not t, dec, y, n => Out.part t dec n y
  | t, dec, y, n => .split t (y ((t, true) :: dec)) (n ((t, false) :: dec))
theorem decCons {ρ : Env} {dec : Dec} (h : dec.holds ρ) {t : BE} {v : Bool} (ht : t.ev ρ = v) : Dec.holds ρ ((t, v) :: dec) := by
  intro p hp
  rcases List.mem_cons.1 hp with rfl | hp
  · exact ht
  · exact h p hp
theorem Out.part_pick {ρ : Env} {dec : Dec} (h : dec.holds ρ) : ∀ (t : BE) (y n : Dec → Out), ∃ dec' : Dec, dec'.holds ρ ∧ (Out.part t dec y n).pick ρ = ((pickV (t.ev ρ) y n) dec').pick ρ := by
  intro t
  have base : ∀ (t : BE) (y n : Dec → Out), ∃ dec' : Dec, dec'.holds ρ ∧ (Out.split t (y ((t, true) :: dec)) (n ((t, false) :: dec))).pick ρ = ((pickV (t.ev ρ) y n) dec').pick ρ := by
    intro t y n
    cases ht : t.ev ρ
    · exact ⟨_, decCons h ht, by simp only [Out.pick, ht, pickV]⟩
    · exact ⟨_, decCons h ht, by simp only [Out.pick, ht, pickV]⟩
  induction t with
  | not t ih =>
    intro y n
    obtain ⟨d, h1, h2⟩ := ih n y
    refine ⟨d, h1, ?_⟩
    show (Out.part t dec n y).pick ρ = _
    rw [h2]
    simp only [BE.ev]
    cases t.ev ρ <;> rfl
  | lit b => exact base _
  | var i => exact base _
  | eq a b => exact base _
  | lt a b => exact base _
def Out.bind : Out → Dec → (Dec → AExit → ASt → Out) → Out
  | .bad w, _, _ => .bad w
  | .leaf e s, dec, k => k dec e s
  | .split b y n, dec, k => .split b (y.bind ((b, true) :: dec) k) (n.bind ((b, false) :: dec) k)
theorem Out.bind_pick {ρ : Env} {k : Dec → AExit → ASt → Out} {r : AExit × ASt} : ∀ {o : Out} {dec : Dec}, dec.holds ρ → (o.bind dec k).pick ρ = some r → ∃ e s dec', Dec.holds ρ dec' ∧ o.pick ρ = some (e, s) ∧ (k dec' e s).pick ρ = some r := by
  intro o
  induction o with
  | bad w => intro dec _ h; cases h
  | leaf e s => intro dec hd h; exact ⟨e, s, dec, hd, rfl, h⟩
  | split b y n ihy ihn =>
    intro dec hd h
    simp only [Out.bind, Out.pick] at h ⊢
    cases hb : b.ev ρ
    · rw [hb] at h
      exact ihn (decCons hd hb) h
    · rw [hb] at h
      exact ihy (decCons hd hb) h
/-- Parts that end alike, joined. -/
def Out.merge : Out → Out
  | .bad w => .bad w
  | .leaf e s => .leaf e s
  | .split b y n =>
    match Out.merge y with
    | .leaf e s =>
      match Out.merge n with
      | .leaf e' s' =>
        match exitSame e e' with
        | true => .leaf e (ASt.mrg b s s')
        | false => .split b (.leaf e s) (.leaf e' s')
      | .bad w => .split b (.leaf e s) (.bad w)
      | .split c p q => .split b (.leaf e s) (.split c p q)
    | .bad w => .split b (.bad w) (Out.merge n)
    | .split c p q => .split b (.split c p q) (Out.merge n)
theorem Out.merge_pick {ρ : Env} : ∀ {o : Out} {e : AExit} {s : ASt}, o.merge.pick ρ = some (e, s) → ∃ s', o.pick ρ = some (e, s') ∧ SCov ρ s' s := by
  intro o
  induction o with
  | bad w => intro e s h; cases h
  | leaf e s => intro e' s' h; cases h; exact ⟨s, rfl, SCov.refl ρ s⟩
  | split b y n ihy ihn =>
    intro e s h
    have plain : (Out.split b y.merge n.merge).pick ρ = some (e, s) → ∃ s', (Out.split b y n).pick ρ = some (e, s') ∧ SCov ρ s' s := by
      intro h
      simp only [Out.pick] at h ⊢
      cases hb : b.ev ρ
      · rw [hb] at h
        exact ihn h
      · rw [hb] at h
        exact ihy h
    simp only [Out.merge] at h
    split at h
    · rename_i e1 s1 h1
      split at h
      · rename_i e2 s2 h2
        split at h
        · rename_i he
          have he := exitSame_eq he
          subst he
          cases h
          obtain ⟨p, p1, p2⟩ := ihy (e := e) (s := s1) (by rw [h1]; rfl)
          obtain ⟨q, q1, q2⟩ := ihn (e := e) (s := s2) (by rw [h2]; rfl)
          refine ⟨pickV (b.ev ρ) p q, ?_, SCov.trans ?_ (ASt.mrg_ok rfl s1 s2)⟩
          · simp only [Out.pick]
            cases b.ev ρ <;> first | exact p1 | exact q1
          · cases b.ev ρ <;> first | exact p2 | exact q2
        · exact plain (by rw [h1, h2]; exact h)
      · rename_i h2
        exact plain (by rw [h1, h2]; exact h)
      · rename_i h2
        exact plain (by rw [h1, h2]; exact h)
    · rename_i h1
      exact plain (by rw [h1]; exact h)
    · rename_i h1
      exact plain (by rw [h1]; exact h)

/-! joining where only some slots may differ -/
def dsts : Code → List Nat
  | .region _ ops _ => ops.toList.filterMap (·.dst)
  | .seq a b => dsts a ++ dsts b
  | .cond _ a b => dsts a ++ dsts b
  | .block _ c => dsts c
  | .loop c => dsts c
  | .scope c => dsts c
  | _ => []
def nub : List Nat → T Unit → List Nat
  | [], _ => []
  | k :: l, t =>
    match t.get k with
    | some _ => nub l t
    | none => k :: nub l (t.set k ())
theorem nub_mem {k : Nat} : ∀ (l : List Nat) (t : T Unit), k ∈ l → k ∈ nub l t ∨ t.get k = some () := by
  intro l
  induction l with
  | nil => intro t h; cases h
  | cons x l ih =>
    intro t h
    unfold nub
    split
    · rename_i u hu
      rcases List.mem_cons.1 h with rfl | h
      · exact .inr hu
      · exact ih t h
    · rcases List.mem_cons.1 h with rfl | h
      · exact .inl (List.mem_cons_self ..)
      · rcases ih _ h with h1 | h1
        · exact .inl (List.mem_cons_of_mem _ h1)
        · rcases T.get_set h1 with ⟨rfl, _⟩ | ⟨_, h1⟩
          · exact .inl (List.mem_cons_self ..)
          · exact .inr h1
def dstsN (c : Code) : List Nat := nub (dsts c) .nil
theorem dstsN_mem {c : Code} {k : Nat} (h : k ∈ dsts c) : k ∈ dstsN c := by
  rcases nub_mem _ .nil h with h | h
  · exact h
  · rw [T.get_nil] at h; cases h
def allBelow : List Nat → Bool
  | [] => true
  | k :: l =>
    match Nat.blt k 1000000 with
    | true => allBelow l
    | false => false
theorem allBelow_ok : ∀ {l : List Nat}, allBelow l = true → ∀ k ∈ l, k < 1000000 := by
  intro l
  induction l with
  | nil => intro _ k hk; cases hk
  | cons x l ih =>
    intro h k hk
    unfold allBelow at h
    split at h
    · rename_i hx
      rcases List.mem_cons.1 hk with rfl | hk
      · simpa [Nat.blt_eq] using hx
      · exact ih h k hk
    · cases h
def noneIn (hs : Nat → Bool) : List Code → Bool
  | [] => true
  | b :: l =>
    match hs (Code.key b) with
    | true => false
    | false => noneIn hs l
theorem noneIn_ok {hs : Nat → Bool} : ∀ {l : List Code}, noneIn hs l = true ↔ ∀ b ∈ l, hs (Code.key b) = false := by
  intro l
  induction l with
  | nil => exact ⟨fun _ b hb => (by cases hb), fun _ => rfl⟩
  | cons x l ih =>
    unfold noneIn
    cases hx : hs (Code.key x)
    · exact ih.trans ⟨fun h b hb => (List.mem_cons.1 hb).elim (fun e => by rw [e]; exact hx) (h b), fun h b hb => h b (List.mem_cons_of_mem _ hb)⟩
    · exact ⟨fun h => (by cases h), fun h => by have := h x (List.mem_cons_self ..); rw [hx] at this; cases this⟩
/-- Are its slots low, and are none of its loops known beforehand? -/
def okDs (hs : Nat → Bool) (c : Code) : Bool :=
  match allBelow (dsts c) with
  | true => noneIn hs (loopsOf c)
  | false => false
/-- All but these slots are as they were. -/
def TKept (D : List Nat) (t t' : T AVal) : Prop := ∀ k, k ∉ D → ∀ v, t.get k = some v → t'.get k = some v
theorem TKept.refl (D : List Nat) (t : T AVal) : TKept D t t := fun _ _ _ h => h
theorem TKept.trans {D : List Nat} {a b c : T AVal} (h : TKept D a b) (k : TKept D b c) : TKept D a c := fun i hi v hv => k i hi v (h i hi v hv)
theorem TKept.mono {D D' : List Nat} {a b : T AVal} (h : TKept D a b) (hD : ∀ k, k ∈ D → k ∈ D') : TKept D' a b := fun i hi v hv => h i (fun hm => hi (hD i hm)) v hv
def mrgD (b : BE) (p q : T AVal) : List Nat → T AVal → T AVal
  | [], t => t
  | k :: l, t => mrgD b p q l (match p.get k with
    | some x =>
      match q.get k with
      | some y =>
        match AVal.mrgF b x y with
        | some z => t.set k z
        | none => t.del k
      | none => t.del k
    | none =>
      match t.get k with
      | some _ => t.del k
      | none => t)
theorem mrgD_get {b : BE} {p q : T AVal} : ∀ (D : List Nat) (t : T AVal) (k : Nat) (z : AVal), (mrgD b p q D t).get k = some z → (∃ x y, p.get k = some x ∧ q.get k = some y ∧ AVal.mrgF b x y = some z) ∨ (k ∉ D ∧ t.get k = some z) := by
  intro D
  induction D with
  | nil => intro t k z h; exact .inr ⟨by simp, h⟩
  | cons i D ih =>
    intro t k z h
    unfold mrgD at h
    rcases ih _ k z h with h | ⟨hn, h⟩
    · exact .inl h
    · have put : ∀ {P : Prop}, (k ≠ i ∧ t.get k = some z → P) → (∃ x y, p.get k = some x ∧ q.get k = some y ∧ AVal.mrgF b x y = some z) ∨ (k ≠ i ∧ t.get k = some z) → (∃ x y, p.get k = some x ∧ q.get k = some y ∧ AVal.mrgF b x y = some z) ∨ P := fun hP h => h.imp id hP
      refine put (fun h => (⟨by simp [h.1, hn], h.2⟩ : k ∉ i :: D ∧ t.get k = some z)) ?_
      split at h
      · rename_i x hx
        split at h
        · rename_i y hy
          split at h
          · rename_i w hw
            rcases T.get_set h with ⟨rfl, rfl⟩ | h
            · exact .inl ⟨x, y, hx, hy, hw⟩
            · exact .inr h
          · exact .inr (T.get_del h)
        · exact .inr (T.get_del h)
      · split at h
        · exact .inr (T.get_del h)
        · rename_i ht
          refine .inr ⟨?_, h⟩
          intro e
          rw [e] at h
          rw [ht] at h
          cases h
theorem T.del_ne {α : Type} {t : T α} {k j : Nat} (hk : k < 4611686018427387904) (hj : j ≠ k) : (t.del k).get j = t.get j := by
  have h : (2 : Nat) ^ 64 = 18446744073709551616 := by decide
  have e := T.getS_setFS_ne (none : Option α) 64 t k j (by omega) hj
  rw [← T.setF_eq, ← T.get_eq, ← T.get_eq] at e
  exact e
theorem mrgD_kept {b : BE} {p q : T AVal} : ∀ (D : List Nat) (t : T AVal), (∀ k ∈ D, k < 1000000) → TKept D t (mrgD b p q D t) := by
  intro D
  induction D with
  | nil => intro t _; exact TKept.refl _ _
  | cons i D ih =>
    intro t hD k hk v hv
    unfold mrgD
    have hki : k ≠ i := fun e => hk (e ▸ List.mem_cons_self ..)
    have hi := hD i (List.mem_cons_self ..)
    refine ih _ (fun k hk => hD k (List.mem_cons_of_mem _ hk)) k (fun h => hk (List.mem_cons_of_mem _ h)) v ?_
    split
    · split
      · split
        · rw [T.get_set_ne (by omega) hki]; exact hv
        · rw [T.del_ne (by omega) hki]; exact hv
      · rw [T.del_ne (by omega) hki]; exact hv
    · split
      · rw [T.del_ne (by omega) hki]; exact hv
      · exact hv
def ASt.mrgD (b : BE) (base : T AVal) (D : List Nat) (s t : ASt) : ASt :=
  ⟨Go.Sx.mrgD b s.tm t.tm D base, T.mrg (AObj.mrg b) s.hp t.hp, match Nat.ble s.nx t.nx with | true => t.nx | false => s.nx⟩
def Out.mergeD (base : T AVal) (D : List Nat) : Out → Out
  | .bad w => .bad w
  | .leaf e s => .leaf e s
  | .split b y n =>
    match Out.mergeD base D y with
    | .leaf e s =>
      match Out.mergeD base D n with
      | .leaf e' s' =>
        match exitSame e e' with
        | true => .leaf e (ASt.mrgD b base D s s')
        | false => .split b (.leaf e s) (.leaf e' s')
      | .bad w => .split b (.leaf e s) (.bad w)
      | .split c p q => .split b (.leaf e s) (.split c p q)
    | .bad w => .split b (.bad w) (Out.mergeD base D n)
    | .split c p q => .split b (.split c p q) (Out.mergeD base D n)
theorem Out.mergeD_pick {ρ : Env} {base : T AVal} {D : List Nat} (hD : ∀ k ∈ D, k < 1000000) : ∀ {o : Out}, (∀ e s, o.pick ρ = some (e, s) → TKept D base s.tm) → ∀ {e : AExit} {s : ASt}, (o.mergeD base D).pick ρ = some (e, s) → ∃ s', o.pick ρ = some (e, s') ∧ SCov ρ s' s ∧ TKept D base s.tm := by
  intro o
  induction o with
  | bad w => intro _ e s h; cases h
  | leaf e s => intro hk e' s' h; cases h; exact ⟨s, rfl, SCov.refl ρ s, hk _ _ rfl⟩
  | split b y n ihy ihn =>
    intro hk e s h
    have hky : b.ev ρ = true → ∀ e s, y.pick ρ = some (e, s) → TKept D base s.tm := fun hb e s h => hk e s (by simp only [Out.pick, hb, pickV]; exact h)
    have hkn : b.ev ρ = false → ∀ e s, n.pick ρ = some (e, s) → TKept D base s.tm := fun hb e s h => hk e s (by simp only [Out.pick, hb, pickV]; exact h)
    have plain : (Out.split b (y.mergeD base D) (n.mergeD base D)).pick ρ = some (e, s) → ∃ s', (Out.split b y n).pick ρ = some (e, s') ∧ SCov ρ s' s ∧ TKept D base s.tm := by
      intro h
      simp only [Out.pick] at h ⊢
      cases hb : b.ev ρ
      · rw [hb] at h
        exact ihn (hkn hb) h
      · rw [hb] at h
        exact ihy (hky hb) h
    simp only [Out.mergeD] at h
    split at h
    · rename_i e1 s1 h1
      split at h
      · rename_i e2 s2 h2
        split at h
        · rename_i he
          have he := exitSame_eq he
          subst he
          cases h
          have join : ∀ p, (Out.split b y n).pick ρ = some (e, p) → SCov ρ p (pickV (b.ev ρ) s1 s2) → SCov ρ p (ASt.mrgD b base D s1 s2) := by
            intro p hp hc
            have full := SCov.trans hc (ASt.mrg_ok rfl s1 s2)
            refine ⟨fun k z hz => ?_, full.hp, full.nx⟩
            rcases mrgD_get D base k z hz with ⟨x, y', g1, g2, g3⟩ | ⟨hkD, hz⟩
            · have hx : (pickV (b.ev ρ) s1 s2).tm.get k = some (pickV (b.ev ρ) x y') := by cases b.ev ρ <;> first | exact g1 | exact g2
              obtain ⟨u, h6, h7⟩ := hc.tm k _ hx
              exact ⟨u, h6, fun f w hw => AVal.mrg_ok x y' z _ f w (by rw [← AVal.mrgF_eq]; exact g3) rfl (h7 f w hw)⟩
            · exact ⟨z, hk e p hp k hkD z hz, fun _ _ h => h⟩
          cases hb : b.ev ρ
          · obtain ⟨q, q1, q2, _⟩ := ihn (hkn hb) (e := e) (s := s2) (by rw [h2]; rfl)
            have hp : (Out.split b y n).pick ρ = some (e, q) := by simp only [Out.pick, hb, pickV]; exact q1
            exact ⟨q, hp, join q hp (by rw [hb]; exact q2), mrgD_kept D base hD⟩
          · obtain ⟨p, p1, p2, _⟩ := ihy (hky hb) (e := e) (s := s1) (by rw [h1]; rfl)
            have hp : (Out.split b y n).pick ρ = some (e, p) := by simp only [Out.pick, hb, pickV]; exact p1
            exact ⟨p, hp, join p hp (by rw [hb]; exact p2), mrgD_kept D base hD⟩
        · exact plain (by rw [h1, h2]; exact h)
      · rename_i h2
        exact plain (by rw [h1, h2]; exact h)
      · rename_i h2
        exact plain (by rw [h1, h2]; exact h)
    · rename_i h1
      exact plain (by rw [h1]; exact h)
    · rename_i h1
      exact plain (by rw [h1]; exact h)
def Out.mergeO (ok : Bool) (base : T AVal) (D : List Nat) (o : Out) : Out :=
  match ok with
  | true => o.mergeD base D
  | false => o.merge

/-! code -/
abbrev OCode := Dec → ASt → Out
/-- An outcome noted, of the test without its negations. -/
def decPut : BE → Bool → Dec → Dec
  | .not t, v, d => decPut t (!v) d
  | t, v, d => (t, v) :: d
theorem decPut_ok {ρ : Env} : ∀ {t : BE} {v : Bool} {d : Dec}, t.ev ρ = v → d.holds ρ → (decPut t v d).holds ρ := by
  intro t
  induction t with
  | not t ih =>
    intro v d h hd
    refine ih ?_ hd
    have : (!(t.ev ρ)) = v := h
    rw [← this, Bool.not_not]
  | _ => intro v d h hd; exact decCons hd h
def oSeq (x y : OCode) : OCode := fun dec s => (x dec s).bind dec fun dec' e s' =>
  match e with
  | .normal => y dec' s'
  | .exit i => .leaf (.exit i) s'
  | .ret => .leaf .ret s'
def oCond (bd : Bd) (c : Operand) (x y : OCode) : OCode := fun dec s =>
  match aev s.tm c with
  | some (.bool t) =>
    match settle dec t with
    | some true => x dec s
    | some false => y dec s
    | none =>
      match prove bd 40 dec t with
      | some true => x (decPut t true dec) s
      | some false => y (decPut t false dec) s
      | none => Out.part t (facts bd t dec) (fun d => x d s) (fun d => y d s)
  | _ => .bad (.num 101)
def oBlock (ok : Bool) (D : List Nat) (id : Nat) (x : OCode) : OCode := fun dec s => Out.mergeO ok s.tm D ((x dec s).bind dec fun _ e s' =>
  match e with
  | .exit i =>
    match Nat.beq i id with
    | true => .leaf .normal s'
    | false => .leaf (.exit i) s'
  | .normal => .leaf .normal s'
  | .ret => .leaf .ret s')
def oRounds (ok : Bool) (D : List Nat) (x : OCode) : Nat → OCode
  | 0, _, _ => .bad (.num 102)
  | L + 1, dec, s => (Out.mergeO ok s.tm D (x dec s)).bind dec fun dec' e s' =>
    match e with
    | .normal => oRounds ok D x L dec' s'
    | .exit i => .leaf (.exit i) s'
    | .ret => .leaf .ret s'
def outOf : Option (AExit × ASt) → Out
  | some (e, s) => .leaf e s
  | none => .bad (.num 103)
/-- A known comparison as something that is not negative. -/
def factE : BE → Bool → Option IE
  | .lt c d, true => some (.sub (.sub d c) (.lit 1))
  | .lt c d, false => some (.sub c d)
  | _, _ => none
theorem factE_ok {ρ : Env} {b : BE} {v : Bool} {e : IE} (h : factE b v = some e) (hv : b.ev ρ = v) : 0 ≤ e.ev ρ := by
  unfold factE at h
  split at h
  · rename_i c d
    cases h
    have hv : decide (c.ev ρ < d.ev ρ) = true := hv
    have hv := of_decide_eq_true hv
    show 0 ≤ d.ev ρ - c.ev ρ - 1
    omega
  · rename_i c d
    cases h
    have hv : decide (c.ev ρ < d.ev ρ) = false := hv
    have hv := of_decide_eq_false hv
    show 0 ≤ c.ev ρ - d.ev ρ
    omega
  · cases h
def lts : Dec → List IE
  | [] => []
  | (b, v) :: l =>
    match factE b v with
    | some e => e :: lts l
    | none => lts l
theorem lts_ok {ρ : Env} : ∀ {l : Dec}, l.holds ρ → ∀ e ∈ lts l, 0 ≤ e.ev ρ := by
  intro l
  induction l with
  | nil => intro _ e he; cases he
  | cons p l ih =>
    obtain ⟨b, v⟩ := p
    intro hd e he
    have hl : Dec.holds ρ l := fun p hp => hd p (List.mem_cons_of_mem _ hp)
    unfold lts at he
    split at he
    · rename_i x hx
      rcases List.mem_cons.1 he with rfl | he
      · exact factE_ok hx (hd _ (List.mem_cons_self ..))
      · exact ih hl e he
    · exact ih hl e he
def pairGe (bd : Bd) (g : IE) : List IE → Bool
  | [] => false
  | f :: l =>
    match l.any fun x => geK bd g (.add f x) 0 with
    | true => true
    | false => pairGe bd g l
theorem pairGe_ok {ρ : Env} {bd : Bd} (hρ : ρ.ok bd) {g : IE} : ∀ {l : List IE}, (∀ e ∈ l, 0 ≤ e.ev ρ) → pairGe bd g l = true → 0 ≤ g.ev ρ := by
  intro l
  induction l with
  | nil => intro _ h; cases h
  | cons f l ih =>
    intro hl h
    unfold pairGe at h
    split at h
    · rename_i hx
      obtain ⟨x, h1, h2⟩ := List.any_eq_true.1 hx
      have q1 := hl f (List.mem_cons_self ..)
      have q2 := hl x (List.mem_cons_of_mem _ h1)
      have q3 := geK_ok hρ h2
      have e : (IE.add f x).ev ρ = f.ev ρ + x.ev ρ := rfl
      rw [e] at q3
      omega
    · exact ih (fun e he => hl e (List.mem_cons_of_mem _ he)) h
/-- What two comparisons tell of a third. -/
def relate2 (bd : Bd) (a b : IE) (dec : Dec) : Option Bool :=
  match Nat.ble (lts dec).length 10 with
  | true =>
    match pairGe bd (.sub (.sub b a) (.lit 1)) (lts dec) with
    | true => some true
    | false =>
      match pairGe bd (.sub a b) (lts dec) with
      | true => some false
      | false => none
  | false => none
theorem relate2_ok {ρ : Env} {bd : Bd} (hρ : ρ.ok bd) {a b : IE} {u : Bool} {dec : Dec} (hd : dec.holds ρ) (h : relate2 bd a b dec = some u) : (BE.lt a b).ev ρ = u := by
  unfold relate2 at h
  split at h
  · split at h
    · rename_i h1
      cases h
      have q : 0 ≤ b.ev ρ - a.ev ρ - 1 := pairGe_ok hρ (lts_ok hd) h1
      exact decide_eq_true (by omega)
    · split at h
      · rename_i h1
        cases h
        have q : 0 ≤ a.ev ρ - b.ev ρ := pairGe_ok hρ (lts_ok hd) h1
        exact decide_eq_false (by omega)
      · cases h
  · cases h
/-- As prove; a comparison also by the comparisons that are known. -/
def proveR (bd : Bd) (k : Nat) (dec : Dec) (b : BE) : Option Bool :=
  match prove bd k dec b with
  | some v => some v
  | none =>
    match b with
    | .lt x y =>
      match relate bd x y dec with
      | some v => some v
      | none => relate2 bd x y dec
    | _ => none
theorem proveR_ok {ρ : Env} {bd : Bd} (hρ : ρ.ok bd) (k : Nat) (dec : Dec) (b : BE) (v : Bool) (hd : dec.holds ρ) (h : proveR bd k dec b = some v) : b.ev ρ = v := by
  unfold proveR at h
  split at h
  · rename_i u hu
    cases h
    exact prove_ok hρ k dec b _ hd hu
  · split at h
    · split at h
      · rename_i u hu
        cases h
        exact relate_ok hρ dec hd hu
      · exact relate2_ok hρ hd h
    · cases h
/-- What can be shown of some tests: are there any, what is known then, the first that stays open. -/
structure Learnt where
  any : Bool
  dec : Dec
  left : Option BE
def learn (bd : Bd) (dec : Dec) : List BE → Learnt
  | [] => ⟨false, dec, none⟩
  | t :: l =>
    match settle dec t with
    | some _ => learn bd dec l
    | none =>
      match proveR bd 40 dec t with
      | some v =>
        match learn bd dec l with
        | ⟨_, d, q⟩ => ⟨true, decPut t v d, q⟩
      | none =>
        match learn bd dec l with
        | ⟨a, d, _⟩ => ⟨a, d, some t⟩
theorem learn_ok {ρ : Env} {bd : Bd} (hρ : ρ.ok bd) {dec : Dec} (hd : dec.holds ρ) : ∀ (l : List BE), (learn bd dec l).dec.holds ρ := by
  intro l
  induction l with
  | nil => exact hd
  | cons t l ih =>
    unfold learn
    split
    · exact ih
    · split
      · rename_i v hv
        exact decPut_ok (proveR_ok hρ 40 dec t v hd hv) ih
      · exact ih
/-- What a guard asks. -/
def askGuard (tm : T AVal) (all : List Oper) : Option (Nat × Bool) → List BE
  | none => []
  | some (j, _) =>
    match slotAt all j with
    | some d =>
      match tm.get d with
      | some (.bool t) => [t]
      | _ => []
    | none => []
mutual
/-- What the equality of two values asks. -/
def askEq (bd : Bd) : AVal → AVal → List BE
  | .int _ x, .int _ y => [mkEq bd x y]
  | .bool x, .bool y => [x, y]
  | .agg l, .agg m => askEqs bd l m
  | _, _ => []
def askEqs (bd : Bd) : List AVal → List AVal → List BE
  | x :: l, y :: m => askEq bd x y ++ askEqs bd l m
  | _, _ => []
end
/-- A region; what it could not decide may be asked for, and parts the run. -/
def oRegion (bd : Bd) (run : Dec → ASt → Option (AExit × ASt)) (ask : Dec → ASt → List BE) (why : Dec → ASt → Why) : Nat → OCode
  | 0, dec, s => outOf (run dec s)
  | k + 1, dec, s =>
    match run dec s with
    | some r => .leaf r.1 r.2
    | none =>
      match learn bd dec (ask dec s) with
      | ⟨true, d, _⟩ => oRegion bd run ask why k d s
      | ⟨false, _, some t⟩ => Out.part t (facts bd t dec) (fun d => oRegion bd run ask why k d s) (fun d => oRegion bd run ask why k d s)
      | ⟨false, _, none⟩ => .bad (why dec s)
/-- A tree of outcomes for a call. -/
abbrev OTree := Dec → FuncId → List AVal → T AObj → Nat → Out
/-- A call whose outcomes are a tree. -/
def oEnter (C : Ctx) (tr : OTree) (dec : Dec) (o : Oper) (tm : T AVal) (hp : T AObj) (nx : Nat) (k : Dec → T AVal → T AObj → Nat → Out) : Out :=
  match o.op with
  | .call c =>
    match aCallee (C.with dec) hp (aev tm) c with
    | some (g, args) =>
      match C.fn.get g with
      | some fn =>
        match goodFn fn with
        | true => (tr dec g args hp nx).bind dec fun d _ s =>
          match s.tm.get 0 with
          | some v => k d (aPut tm o.dst (some v)) s.hp s.nx
          | none => .bad (.num 105)
        | false => .bad (.op 106 o dec tm hp)
      | none => .bad (.op 107 o dec tm hp)
    | none => .bad (.op 108 o dec tm hp)
  | _ => .bad (.op 109 o dec tm hp)
/-- An operation; what it could not decide may be asked for, and parts the run. -/
def oStep1 (C : Ctx) (call : Dec → ACall) (tr : OTree) (askg : T AVal → Option (Nat × Bool) → List BE) (asko : Dec → Oper → T AVal → T AObj → Nat → List BE) (n : Nat) (all : List Oper) (o : Oper) (k : Dec → T AVal → T AObj → Nat → Out) : Nat → Dec → T AVal → T AObj → Nat → Out
  | 0, _, _, _, _ => .bad (.num 110)
  | f + 1, dec, tm, hp, nx =>
    match okDst n o.dst with
    | false => .bad (.num 111)
    | true =>
      match aWanted (C.with dec) tm all o.guard with
      | some false => k dec (aPut tm o.dst none) hp nx
      | some true =>
        match aStep (C.with dec) (call dec) hp nx (aev tm) o.op with
        | some (r, hp', nx') => k dec (aPut tm o.dst r) hp' nx'
        | none =>
          match learn C.bd dec (asko dec o tm hp nx) with
          | ⟨true, d, _⟩ => oStep1 C call tr askg asko n all o k f d tm hp nx
          | ⟨false, _, some t⟩ => Out.part t (facts C.bd t dec) (fun d => oStep1 C call tr askg asko n all o k f d tm hp nx) (fun d => oStep1 C call tr askg asko n all o k f d tm hp nx)
          | ⟨false, _, none⟩ => oEnter C tr dec o tm hp nx k
      | none =>
        match learn C.bd dec (askg tm o.guard) with
        | ⟨true, d, _⟩ => oStep1 C call tr askg asko n all o k f d tm hp nx
        | ⟨false, _, some t⟩ => Out.part t (facts C.bd t dec) (fun d => oStep1 C call tr askg asko n all o k f d tm hp nx) (fun d => oStep1 C call tr askg asko n all o k f d tm hp nx)
        | ⟨false, _, none⟩ => .bad (.op 112 o dec tm hp)
def oOps (C : Ctx) (call : Dec → ACall) (tr : OTree) (askg : T AVal → Option (Nat × Bool) → List BE) (asko : Dec → Oper → T AVal → T AObj → Nat → List BE) (n : Nat) (all : List Oper) : List Oper → Dec → T AVal → T AObj → Nat → Out
  | [] => fun _ tm hp nx => .leaf .normal ⟨tm, hp, nx⟩
  | o :: l => oStep1 C call tr askg asko n all o (oOps C call tr askg asko n all l) 60
def oMerged (b ok : Bool) (D : List Nat) (base : T AVal) (o : Out) : Out := match b with | true => Out.mergeO ok base D o | false => o
/-- A loop: by what is known of it, or round by round. -/
def oLoop (bd : Bd) (lp : Dec → ASt → Option (AExit × ASt)) (ask : Dec → ASt → List BE) (rounds : OCode) : Nat → OCode
  | 0, dec, s => rounds dec s
  | k + 1, dec, s =>
    match lp dec s with
    | some r => .leaf r.1 r.2
    | none =>
      match learn bd dec (ask dec s) with
      | ⟨true, d, _⟩ => oLoop bd lp ask rounds k d s
      | ⟨false, _, some t⟩ => Out.part t (facts bd t dec) (fun d => oLoop bd lp ask rounds k d s) (fun d => oLoop bd lp ask rounds k d s)
      | ⟨false, _, none⟩ => rounds dec s
/-- One round, then what follows. -/
def oNext (ok : Bool) (D : List Nat) (x next : OCode) : OCode := fun dec s => (Out.mergeO ok s.tm D (x dec s)).bind dec fun dec' e s' =>
  match e with
  | .normal => next dec' s'
  | .exit i => .leaf (.exit i) s'
  | .ret => .leaf .ret s'
/-- A loop of which something is known: before each round it is asked for. -/
def oLoopR (bd : Bd) (lp : Dec → ASt → Option (AExit × ASt)) (ask : Dec → ASt → List BE) (ok : Bool) (D : List Nat) (x : OCode) : Nat → OCode
  | 0 => fun _ _ => .bad (.num 102)
  | L + 1 => oLoop bd lp ask (oNext ok D x (oLoopR bd lp ask ok D x L)) 20
/-- What is known of a function's loops beforehand, and what they ask. -/
structure Lps where
  has : Nat → Bool := fun _ => false
  run : Nat → Nat → Dec → ASt → Option (AExit × ASt) := fun _ _ _ _ => none
  ask : Nat → Dec → ASt → List BE := fun _ _ _ => []
def oLoopH (h : Bool) (known rounds : OCode) : OCode := match h with | true => known | false => rounds
def oCode (C : Ctx) (call call1 : Dec → ACall) (tr : OTree) (ask : Dec → List Oper → ASt → List BE) (asko : Dec → Oper → T AVal → T AObj → Nat → List BE) (lps : Lps) (n L : Nat) (pol : Nat → Bool) (c : Code) : OCode :=
  Code.rec (motive := fun _ => OCode)
    (fun _ s => .leaf .normal s)
    (fun _ ops draw =>
      match draw with
      | true => oRegion C.bd (fun dec s => aRegion (C.with dec) (call dec) (aDraw (C.with dec)) n ops.toList true s) (fun dec s => ask dec ops.toList s) (fun dec s => .ops ops.toList dec s.tm s.hp) 8
      | false => fun dec s => oOps C call1 tr (fun tm g => askGuard tm ops.toList g) asko n ops.toList ops.toList dec s.tm s.hp s.nx)
    (fun _ _ x y => oSeq x y)
    (fun c a b x y dec s => oMerged (pol (Code.key (.cond c a b))) (okDs lps.has (.cond c a b)) (dstsN (.cond c a b)) s.tm (oCond C.bd c x y dec s))
    (fun id c x => oBlock (okDs lps.has c) (dstsN c) id x)
    (fun c x => oLoopH (lps.has (Code.key c)) (oLoopR C.bd (lps.run n (Code.key c)) (lps.ask (Code.key c)) (okDs lps.has c) (dstsN c) x L) (oRounds (okDs lps.has c) (dstsN c) x L))
    (fun _ _ _ _ _ _ _ _ => .bad (.num 113))
    (fun id _ s => .leaf (.exit id) s)
    (fun _ x => x)
    (fun _ _ s => .leaf .normal s)
    (fun _ _ _ => .bad (.num 114))
    (fun _ s => .leaf .ret s)
    (fun _ _ _ => .bad (.num 115)) c
section
variable {P : Program} {ρ : Env} {B : Nat → Prop} {W : World} {n : Nat} {hs : Nat → Bool}
def Low (hs : Nat → Bool) (c : Code) : Prop := (∀ k ∈ dsts c, k < 1000000) ∧ ∀ b ∈ loopsOf c, hs (Code.key b) = false
theorem okDs_ok {c : Code} (h : okDs hs c = true) : Low hs c := by
  unfold okDs at h
  split at h
  · rename_i h1
    exact ⟨allBelow_ok h1, noneIn_ok.1 h⟩
  · cases h
def LpsOk (P : Program) (ρ : Env) (B : Nat → Prop) (W : World) (n : Nat) (lps : Lps) (c : Code) : Prop :=
  ∀ b ∈ loopsOf c, ∀ dec, Dec.holds ρ dec → ∀ s e s', lps.run n (Code.key b) dec s = some (e, s') → ∃ m, GoesR P ρ B W n b m s e s'
def OOk (P : Program) (ρ : Env) (B : Nat → Prop) (W : World) (n : Nat) (hs : Nat → Bool) (c : Code) (x : OCode) : Prop :=
  ∀ dec, Dec.holds ρ dec → ∀ s e s', (x dec s).pick ρ = some (e, s') → Goes P ρ B W n c s e s' ∧ (Low hs c → TKept (dsts c) s.tm s'.tm)
theorem dstsN_of {c : Code} {k : Nat} (h : k ∈ dstsN c) : k ∈ dsts c := by
  have key : ∀ (l : List Nat) (t : T Unit), k ∈ nub l t → k ∈ l := by
    intro l
    induction l with
    | nil => intro t h; cases h
    | cons x l ih =>
      intro t h
      unfold nub at h
      split at h
      · exact List.mem_cons_of_mem _ (ih t h)
      · rcases List.mem_cons.1 h with rfl | h
        · exact List.mem_cons_self ..
        · exact List.mem_cons_of_mem _ (ih _ h)
  exact key _ _ h
theorem TKept.toN {c : Code} {a b : T AVal} (h : TKept (dsts c) a b) : TKept (dstsN c) a b := h.mono fun k hk => dstsN_mem hk
theorem TKept.ofN {c : Code} {a b : T AVal} (h : TKept (dstsN c) a b) : TKept (dsts c) a b := h.mono fun k hk => dstsN_of hk
theorem mergeO_ok {c : Code} {o : Out} {s : ASt} (hk : ∀ e s', o.pick ρ = some (e, s') → Goes P ρ B W n c s e s' ∧ (Low hs c → TKept (dsts c) s.tm s'.tm)) {e : AExit} {s' : ASt} (h : (Out.mergeO (okDs hs c) s.tm (dstsN c) o).pick ρ = some (e, s')) : Goes P ρ B W n c s e s' ∧ (Low hs c → TKept (dsts c) s.tm s'.tm) := by
  unfold Out.mergeO at h
  split at h
  · rename_i hok
    have hlow : Low hs c := okDs_ok hok
    obtain ⟨s1, h1, h2, h3⟩ := Out.mergeD_pick (base := s.tm) (D := dstsN c) (fun k hk => hlow.1 k (dstsN_of hk)) (fun e s' h => ((hk e s' h).2 hlow).toN) h
    exact ⟨(hk e s1 h1).1.cov h2, fun _ => h3.ofN⟩
  · rename_i hok
    obtain ⟨s1, h1, h2⟩ := Out.merge_pick h
    refine ⟨(hk e s1 h1).1.cov h2, fun hl => ?_⟩
    have : allBelow (dsts c) = true := by
      have key : ∀ l : List Nat, (∀ k ∈ l, k < 1000000) → allBelow l = true := by
        intro l
        induction l with
        | nil => intro _; rfl
        | cons x l ih =>
          intro h
          unfold allBelow
          have hx : Nat.blt x 1000000 = true := by simpa [Nat.blt_eq] using h x (List.mem_cons_self ..)
          rw [hx]
          exact ih fun k hk => h k (List.mem_cons_of_mem _ hk)
      exact key _ hl.1
    unfold okDs at hok
    rw [this] at hok
    simp only at hok
    rw [noneIn_ok.2 hl.2] at hok
    cases hok
theorem aOps_kept {C : Ctx} {call : ACall} {n : Nat} {all : List Oper} {D : List Nat} (hD : ∀ k ∈ D, k < 1000000) : ∀ (l : List Oper) (tm : T AVal) (hp : T AObj) (nx : Nat) (s : ASt), (∀ k ∈ l.filterMap (·.dst), k ∈ D) → aOps C call n all l tm hp nx = some s → TKept D tm s.tm := by
  intro l
  induction l with
  | nil => intro tm hp nx s _ h; cases h; exact TKept.refl _ _
  | cons o l ih =>
    intro tm hp nx s hl h
    have hl' : ∀ k ∈ l.filterMap (·.dst), k ∈ D := fun k hk => hl k (by
      rw [List.filterMap_cons]
      split
      · exact hk
      · exact List.mem_cons_of_mem _ hk)
    have put : ∀ r, TKept D tm (aPut tm o.dst r) := by
      intro r k hk v hv
      unfold aPut
      split
      · exact hv
      · rename_i d hd
        have hdD : d ∈ D := hl d (by rw [List.filterMap_cons, hd]; exact List.mem_cons_self ..)
        have hlt := hD d hdD
        have hne : k ≠ d := fun e => hk (by rw [e]; exact hdD)
        rw [T.get_set_ne (by omega) hne]
        exact hv
    unfold aOps at h
    split at h
    · cases h
    · split at h
      · cases h
      · exact (put _).trans (ih _ _ _ _ hl' h)
      · split at h
        · exact (put _).trans (ih _ _ _ _ hl' h)
        · cases h
theorem finTm_kept {vt : T AVal} {D : List Nat} (hD : ∀ k ∈ D, k < 1000000) : ∀ (l : List Oper) (i : Nat) (tm tm' : T AVal), (∀ k ∈ l.filterMap (·.dst), k ∈ D) → finTm vt l i tm = some tm' → TKept D tm tm' := by
  intro l
  induction l with
  | nil => intro i tm tm' _ h; cases h; exact TKept.refl _ _
  | cons o l ih =>
    intro i tm tm' hl h
    have hl' : ∀ k ∈ l.filterMap (·.dst), k ∈ D := fun k hk => hl k (by
      rw [List.filterMap_cons]
      split
      · exact hk
      · exact List.mem_cons_of_mem _ hk)
    unfold finTm at h
    split at h
    · exact ih _ _ _ hl' h
    · rename_i d hd
      split at h
      · refine TKept.trans ?_ (ih _ _ _ hl' h)
        intro k hk v hv
        have hdD : d ∈ D := hl d (by rw [List.filterMap_cons, hd]; exact List.mem_cons_self ..)
        have hlt := hD d hdD
        have hne : k ≠ d := fun e => hk (by rw [e]; exact hdD)
        rw [T.get_set_ne (by omega) hne]
        exact hv
      · cases h
theorem aDraw_kept {C : Ctx} {call : ACall} {n : Nat} {ops : List Oper} {s s' : ASt} {D : List Nat} (hD : ∀ k ∈ D, k < 1000000) (hl : ∀ k ∈ ops.filterMap (·.dst), k ∈ D) (h : aDraw C call n ops s = some s') : TKept D s.tm s'.tm := by
  unfold aDraw at h
  split at h
  · cases h
  · split at h
    · split at h
      · split at h
        · rename_i tm htm
          cases h
          exact finTm_kept hD _ _ _ _ hl htm
        · cases h
      · cases h
    · cases h
theorem aRegion_kept {C : Ctx} {call : ACall} {n id : Nat} {ops : Array Oper} {draw : Bool} {s s' : ASt} {e : AExit} (hl : Low hs (.region id ops draw)) (h : aRegion C call (aDraw C) n ops.toList draw s = some (e, s')) : TKept (dsts (.region id ops draw)) s.tm s'.tm := by
  unfold aRegion at h
  split at h
  · split at h
    · rename_i s1 h1
      cases h
      exact aOps_kept hl.1 _ _ _ _ _ (fun k hk => hk) h1
    · cases h
  · split at h
    · rename_i s1 h1
      cases h
      exact aDraw_kept hl.1 (fun k hk => hk) h1
    · cases h
/-- One outcome of a call. -/
def CallGoes (P : Program) (ρ : Env) (B : Nat → Prop) (W : World) (g : FuncId) (args : List AVal) (h : T AObj) (nx : Nat) (s : ASt) : Prop := nx ≤ s.nx ∧
  ∀ f w args', HRel ρ B W f h w → LRel ρ f args args' → Fresh f nx s.nx →
    Calls P g args' w fun e w' => ∃ v' f', e = .returned v' ∧ f.le f' ∧ Outside f f' nx s.nx ∧ HRel ρ B W f' s.hp w' ∧ ∀ v, s.tm.get 0 = some v → VRel ρ f' v v'
def TreeOk (P : Program) (ρ : Env) (tr : OTree) : Prop := ∀ B W dec, Dec.holds ρ dec → ∀ g args h nx e s, (tr dec g args h nx).pick ρ = some (e, s) → CallGoes P ρ B W g args h nx s
/-- A tree's outcome, as that of a call. -/
def pickCall (ρ : Env) (tr : OTree) (dec : Dec) : ACall := fun g args h nx =>
  match (tr dec g args h nx).pick ρ with
  | some (_, s) =>
    match s.tm.get 0 with
    | some v => some (v, s.hp, s.nx)
    | none => none
  | none => none
theorem pickCall_ok {tr : OTree} (htr : TreeOk P ρ tr) {dec : Dec} (hd : dec.holds ρ) : CallOk P ρ B W (pickCall ρ tr dec) := by
  intro g args h nx v h' nx' hc
  unfold pickCall at hc
  split at hc
  · rename_i e s hs
    split at hc
    · rename_i v0 hv0
      cases hc
      have q := htr B W dec hd g args h nx e s hs
      exact ⟨q.1, fun f w args' hr ha hf => (q.2 f w args' hr ha hf).mono fun e w' ⟨v', f', a1, a2, a3, a4, a5⟩ => ⟨v', f', a1, a2, a3, a4, a5 _ hv0⟩⟩
    · cases hc
  · cases hc
theorem oEnter_inv {C : Ctx} {tr : OTree} {dec : Dec} (hd : dec.holds ρ) {o : Oper} {tm : T AVal} {hp : T AObj} {nx : Nat} {k : Dec → T AVal → T AObj → Nat → Out} {r : AExit × ASt} {call : ACall} (hn : aStep (C.with dec) call hp nx (aev tm) o.op = none) (h : (oEnter C tr dec o tm hp nx k).pick ρ = some r) :
    ∃ d u hp' nx', Dec.holds ρ d ∧ aStep (C.with dec) (pickCall ρ tr dec) hp nx (aev tm) o.op = some (u, hp', nx') ∧ (k d (aPut tm o.dst u) hp' nx').pick ρ = some r := by
  unfold oEnter at h
  split at h
  · rename_i c hop
    rw [hop] at hn ⊢
    split at h
    · rename_i g args hca
      split at h
      · rename_i fn hfn
        split at h
        · rename_i hgood
          obtain ⟨e, s, d, hd', h1, h2⟩ := Out.bind_pick hd h
          split at h2
          · rename_i v hv
            refine ⟨d, some v, s.hp, s.nx, hd', ?_, h2⟩
            have hca' : aCallee (C.with dec) hp (aev tm) c = some (g, args) := hca
            have hfn' : (C.with dec).fn.get g = some fn := hfn
            unfold aStep at hn ⊢
            split at hn
            · cases hn
            · split at hn
              · cases hn
              · split at hn
                · cases hn
                · simp only [hca', hfn', hgood]
                  unfold pickCall
                  rw [h1]
                  simp only [hv]
          · cases h2
        · cases h
      · cases h
    · cases h
  · cases h
theorem oStep1_inv {C : Ctx} (hCb : ρ.ok C.bd) {call : Dec → ACall} (hcall : ∀ dec, Dec.holds ρ dec → CallOk P ρ B W (call dec)) {tr : OTree} (htr : TreeOk P ρ tr) {askg : T AVal → Option (Nat × Bool) → List BE} {asko : Dec → Oper → T AVal → T AObj → Nat → List BE} {n : Nat} {all : List Oper} {o : Oper} {k : Dec → T AVal → T AObj → Nat → Out} {r : AExit × ASt} : ∀ (f : Nat) (dec : Dec) (tm : T AVal) (hp : T AObj) (nx : Nat), Dec.holds ρ dec → (oStep1 C call tr askg asko n all o k f dec tm hp nx).pick ρ = some r →
    ∃ d, Dec.holds ρ d ∧ okDst n o.dst = true ∧ ((aWanted (C.with d) tm all o.guard = some false ∧ (k d (aPut tm o.dst none) hp nx).pick ρ = some r) ∨
      (aWanted (C.with d) tm all o.guard = some true ∧ ∃ d' call' u hp' nx', Dec.holds ρ d' ∧ CallOk P ρ B W call' ∧ aStep (C.with d) call' hp nx (aev tm) o.op = some (u, hp', nx') ∧ (k d' (aPut tm o.dst u) hp' nx').pick ρ = some r)) := by
  intro f
  induction f with
  | zero => intro dec tm hp nx hd h; cases h
  | succ f ih =>
    intro dec tm hp nx hd h
    unfold oStep1 at h
    split at h
    · cases h
    · rename_i hok
      split at h
      · rename_i hw
        exact ⟨dec, hd, hok, .inl ⟨hw, h⟩⟩
      · rename_i hw
        split at h
        · rename_i u hp' nx' hst
          exact ⟨dec, hd, hok, .inr ⟨hw, dec, call dec, u, hp', nx', hd, hcall dec hd, hst, h⟩⟩
        · rename_i hst
          have hl := learn_ok hCb hd (asko dec o tm hp nx)
          split at h
          · rename_i d q hq
            rw [hq] at hl
            exact ih d tm hp nx hl h
          · rename_i t _
            obtain ⟨d, h1, h2⟩ := Out.part_pick (facts_ok hCb t hd) t (fun d => oStep1 C call tr askg asko n all o k f d tm hp nx) (fun d => oStep1 C call tr askg asko n all o k f d tm hp nx)
            rw [h2] at h
            cases ht : t.ev ρ
            · rw [ht] at h; exact ih d tm hp nx h1 h
            · rw [ht] at h; exact ih d tm hp nx h1 h
          · obtain ⟨d, u, hp', nx', hd', h1, h2⟩ := oEnter_inv hd hst h
            exact ⟨dec, hd, hok, .inr ⟨hw, d, _, u, hp', nx', hd', pickCall_ok htr hd, h1, h2⟩⟩
      · have hl := learn_ok hCb hd (askg tm o.guard)
        split at h
        · rename_i d q hq
          rw [hq] at hl
          exact ih d tm hp nx hl h
        · rename_i t _
          obtain ⟨d, h1, h2⟩ := Out.part_pick (facts_ok hCb t hd) t (fun d => oStep1 C call tr askg asko n all o k f d tm hp nx) (fun d => oStep1 C call tr askg asko n all o k f d tm hp nx)
          rw [h2] at h
          cases ht : t.ev ρ
          · rw [ht] at h; exact ih d tm hp nx h1 h
          · rw [ht] at h; exact ih d tm hp nx h1 h
        · cases h
theorem oOps_nx {C : Ctx} (hCb : ρ.ok C.bd) {call : Dec → ACall} (hcall : ∀ dec, Dec.holds ρ dec → CallOk P ρ B W (call dec)) {tr : OTree} (htr : TreeOk P ρ tr) {askg : T AVal → Option (Nat × Bool) → List BE} {asko : Dec → Oper → T AVal → T AObj → Nat → List BE} {all : List Oper} : ∀ (l : List Oper) (dec : Dec) (tm : T AVal) (hp : T AObj) (nx : Nat) (e : AExit) (s : ASt), Dec.holds ρ dec → (oOps C call tr askg asko n all l dec tm hp nx).pick ρ = some (e, s) → e = .normal ∧ nx ≤ s.nx := by
  intro l
  induction l with
  | nil => intro dec tm hp nx e s hd h; cases h; exact ⟨rfl, Nat.le_refl _⟩
  | cons o l ih =>
    intro dec tm hp nx e s hd h
    obtain ⟨d, hd', _, ⟨_, h⟩ | ⟨_, d1, call', u, hp', nx', hd1, hc', hst, h⟩⟩ := oStep1_inv hCb hcall htr 60 dec tm hp nx hd h
    · exact ih _ _ _ _ _ _ hd' h
    · have q := ih _ _ _ _ _ _ hd1 h
      exact ⟨q.1, Nat.le_trans (aStep_nx hc' hst) q.2⟩
theorem oOps_ok {C : Ctx} (hC : C.Ok P ρ) {call : Dec → ACall} (hcall : ∀ dec, Dec.holds ρ dec → CallOk P ρ B W (call dec)) {tr : OTree} (htr : TreeOk P ρ tr) {askg : T AVal → Option (Nat × Bool) → List BE} {asko : Dec → Oper → T AVal → T AObj → Nat → List BE} {N : Nat} {ops : Array Oper} {Q : Exit → Act → World → Prop} {e' : AExit} {s' : ASt} (hN : s'.nx ≤ N) {f₀ : Ren} {n₀ : Nat}
    (hQ : ∀ f' a' w', f₀.le f' → Outside f₀ f' n₀ s'.nx → StRel ρ B W n N f' s' a' w' → Q .normal a' w') :
    ∀ (l : List Oper) (k : Nat), ops.toList.drop k = l → ∀ (dec : Dec) (tm : T AVal) (hp : T AObj) (nx : Nat) (f : Ren) (a : Act) (w : World), Dec.holds ρ dec → (oOps C call tr askg asko n ops.toList l dec tm hp nx).pick ρ = some (e', s') → n₀ ≤ nx → f₀.le f → Outside f₀ f n₀ nx → StRel ρ B W n N f ⟨tm, hp, nx⟩ a w →
      wpOps P ops Q (List.range' k (ops.size - k)) a w := by
  intro l
  induction l with
  | nil =>
    intro k hk dec tm hp nx f a w hd h hn hle hout hs
    have : ops.size - k = 0 := by
      have := congrArg List.length hk
      simpa using this
    rw [this]
    cases h
    exact hQ f a w hle hout hs
  | cons o l ih =>
    intro k hk dec tm hp nx f a w hd h hn hle hout hs
    have hlen : ops.size - k = l.length + 1 := by
      have := congrArg List.length hk
      simpa using this
    have ho : ops[k]? = some o := by
      have : (ops.toList.drop k)[0]? = some o := by rw [hk]; rfl
      simpa using this
    have hk' : ops.toList.drop (k + 1) = l := by
      rw [← List.drop_drop, hk]
      rfl
    rw [hlen, List.range'_succ]
    have hl : l.length = ops.size - (k + 1) := by omega
    rw [hl]
    unfold wpOps
    simp only [ho]
    obtain ⟨d, hd', hok, ⟨hw, h⟩ | ⟨hw, d1, call', u, hp', nx', hd1, hc', hst, h⟩⟩ := oStep1_inv hC.bd hcall htr 60 dec tm hp nx hd h
    · have hok' : okDst a.tmps.size o.dst = true := by rw [hs.size]; exact hok
      rw [aWanted_ok (hC.with hd') hs.tm hw]
      simp only [Bool.false_eq_true, if_false]
      exact ih (k + 1) hk' d _ _ _ f _ _ hd' h hn hle hout ⟨by rw [Act.put_size]; exact hs.size, hs.tm.put hok' (r := none) VRel.undef, by rw [Act.put_defers']; exact hs.defers, hs.heap, hs.fresh⟩
    · have hok' : okDst a.tmps.size o.dst = true := by rw [hs.size]; exact hok
      rw [aWanted_ok (hC.with hd') hs.tm hw]
      simp only [if_true]
      have hnx := aStep_nx hc' hst
      have hnx' := (oOps_nx hC.bd hcall htr l d1 _ _ _ _ _ hd1 h).2
      refine .inl (aStep_ok (hC.with hd') hc' hs.heap hst (hs.fresh.sub (Nat.le_refl _) (by omega)) hs.tm.ev fun f' w' v' h1 h2 h3 h4 => ?_)
      exact ih (k + 1) hk' d1 _ _ _ f' _ _ hd1 h (Nat.le_trans hn hnx) (Ren.le_trans hle h1) (hout.trans h2 hn hnx) ⟨by rw [Act.put_size]; exact hs.size, (hs.tm.mono h1).put hok' h4, by rw [Act.put_defers']; exact hs.defers, h3, hs.fresh.step h2 hnx⟩
theorem oOps_kept {C : Ctx} (hCb : ρ.ok C.bd) {call : Dec → ACall} (hcall : ∀ dec, Dec.holds ρ dec → CallOk P ρ B W (call dec)) {tr : OTree} (htr : TreeOk P ρ tr) {askg : T AVal → Option (Nat × Bool) → List BE} {asko : Dec → Oper → T AVal → T AObj → Nat → List BE} {all : List Oper} {D : List Nat} (hD : ∀ k ∈ D, k < 1000000) : ∀ (l : List Oper) (dec : Dec) (tm : T AVal) (hp : T AObj) (nx : Nat) (e : AExit) (s : ASt), (∀ k ∈ l.filterMap (·.dst), k ∈ D) → Dec.holds ρ dec → (oOps C call tr askg asko n all l dec tm hp nx).pick ρ = some (e, s) → TKept D tm s.tm := by
  intro l
  induction l with
  | nil => intro dec tm hp nx e s _ hd h; cases h; exact TKept.refl _ _
  | cons o l ih =>
    intro dec tm hp nx e s hl hd h
    have hl' : ∀ k ∈ l.filterMap (·.dst), k ∈ D := fun k hk => hl k (by
      rw [List.filterMap_cons]
      split
      · exact hk
      · exact List.mem_cons_of_mem _ hk)
    have put : ∀ r, TKept D tm (aPut tm o.dst r) := by
      intro r k hk v hv
      unfold aPut
      split
      · exact hv
      · rename_i d hd
        have hdD : d ∈ D := hl d (by rw [List.filterMap_cons, hd]; exact List.mem_cons_self ..)
        have hlt := hD d hdD
        have hne : k ≠ d := fun e => hk (by rw [e]; exact hdD)
        rw [T.get_set_ne (by omega) hne]
        exact hv
    obtain ⟨d, hd', _, ⟨_, h⟩ | ⟨_, d1, call', u, hp', nx', hd1, hc', hst, h⟩⟩ := oStep1_inv hCb hcall htr 60 dec tm hp nx hd h
    · exact (put _).trans (ih _ _ _ _ _ _ hl' hd' h)
    · exact (put _).trans (ih _ _ _ _ _ _ hl' hd1 h)
theorem OOk.ops {C : Ctx} (hC : C.Ok P ρ) {call : Dec → ACall} (hcall : ∀ dec, Dec.holds ρ dec → CallOk P ρ B W (call dec)) {tr : OTree} (htr : TreeOk P ρ tr) (askg : T AVal → Option (Nat × Bool) → List BE) (asko : Dec → Oper → T AVal → T AObj → Nat → List BE) (id : Nat) (ops : Array Oper) : OOk P ρ B W n hs (.region id ops false) (fun dec s => oOps C call tr askg asko n ops.toList ops.toList dec s.tm s.hp s.nx) := by
  intro dec hd s e s' h
  obtain ⟨he, hnx⟩ := oOps_nx hC.bd hcall htr _ _ _ _ _ _ _ hd h
  subst he
  refine ⟨⟨hnx, fun N f a w Q hN hr hq => wp_region ?_⟩, fun hl => oOps_kept hC.bd hcall htr hl.1 _ _ _ _ _ _ _ (fun k hk => hk) hd h⟩
  have := oOps_ok hC hcall htr (n := n) (ops := ops) hN (f₀ := f) (n₀ := s.nx) hq ops.toList 0 rfl dec s.tm s.hp s.nx f a w hd h (Nat.le_refl _) (Ren.le_refl f) (fun _ _ => rfl) hr
  rw [List.range_eq_range']
  exact this
theorem oRegion_ok {bd : Bd} (hρ : ρ.ok bd) {c : Code} {run : Dec → ASt → Option (AExit × ASt)} (h : ∀ dec, Dec.holds ρ dec → ∀ s e s', run dec s = some (e, s') → Goes P ρ B W n c s e s' ∧ (Low hs c → TKept (dsts c) s.tm s'.tm)) (ask : Dec → ASt → List BE) (why : Dec → ASt → Why) : ∀ k, OOk P ρ B W n hs c (oRegion bd run ask why k) := by
  intro k
  induction k with
  | zero =>
    intro dec hd s e s' hs
    unfold oRegion outOf at hs
    split at hs
    · rename_i e1 s1 h1
      cases hs
      exact h dec hd _ _ _ h1
    · cases hs
  | succ k ih =>
    intro dec hd s e s' hs
    unfold oRegion at hs
    split at hs
    · rename_i r h1
      cases hs
      exact h dec hd _ _ _ h1
    · have hl := learn_ok hρ hd (ask dec s)
      split at hs
      · rename_i d q hq
        rw [hq] at hl
        exact ih d hl s e s' hs
      · rename_i t _
        obtain ⟨d, h1, h2⟩ := Out.part_pick (facts_ok hρ t hd) t (fun d => oRegion bd run ask why k d s) (fun d => oRegion bd run ask why k d s)
        rw [h2] at hs
        cases ht : t.ev ρ
        · rw [ht] at hs
          exact ih d h1 s e s' hs
        · rw [ht] at hs
          exact ih d h1 s e s' hs
      · cases hs
theorem OOk.seq {a b : Code} {x y : OCode} (hx : OOk P ρ B W n hs a x) (hy : OOk P ρ B W n hs b y) : OOk P ρ B W n hs (.seq a b) (oSeq x y) := by
  intro dec hd s e s' h
  obtain ⟨e1, s1, d1, hd1, h1, h2⟩ := Out.bind_pick hd h
  have q1 := hx dec hd s e1 s1 h1
  have la : Low hs (.seq a b) → Low hs a := fun hl => ⟨fun k hk => hl.1 k (List.mem_append.2 (.inl hk)), fun b hb => hl.2 b (List.mem_append.2 (.inl hb))⟩
  have lb : Low hs (.seq a b) → Low hs b := fun hl => ⟨fun k hk => hl.1 k (List.mem_append.2 (.inr hk)), fun b hb => hl.2 b (List.mem_append.2 (.inr hb))⟩
  have ka : ∀ {u v}, TKept (dsts a) u v → TKept (dsts (.seq a b)) u v := fun h => h.mono fun k hk => List.mem_append.2 (.inl hk)
  have kb : ∀ {u v}, TKept (dsts b) u v → TKept (dsts (.seq a b)) u v := fun h => h.mono fun k hk => List.mem_append.2 (.inr hk)
  cases e1 with
  | normal =>
    have q2 := hy d1 hd1 s1 e s' h2
    exact ⟨q1.1.seq q2.1, fun hl => (ka (q1.2 (la hl))).trans (kb (q2.2 (lb hl)))⟩
  | exit i => cases h2; exact ⟨q1.1.seq_out (by intro h; cases h), fun hl => ka (q1.2 (la hl))⟩
  | ret => cases h2; exact ⟨q1.1.seq_out (by intro h; cases h), fun hl => ka (q1.2 (la hl))⟩
theorem OOk.cond {bd : Bd} (hρ : ρ.ok bd) {a b : Code} {c : Operand} {x y : OCode} (hx : OOk P ρ B W n hs a x) (hy : OOk P ρ B W n hs b y) : OOk P ρ B W n hs (.cond c a b) (oCond bd c x y) := by
  intro dec hd s e s' h
  have ka : (Goes P ρ B W n a s e s' ∧ (Low hs a → TKept (dsts a) s.tm s'.tm)) → Low hs (.cond c a b) → TKept (dsts (.cond c a b)) s.tm s'.tm := fun h hl => (h.2 ⟨fun k hk => hl.1 k (List.mem_append.2 (.inl hk)), fun b hb => hl.2 b (List.mem_append.2 (.inl hb))⟩).mono fun k hk => List.mem_append.2 (.inl hk)
  have kb : (Goes P ρ B W n b s e s' ∧ (Low hs b → TKept (dsts b) s.tm s'.tm)) → Low hs (.cond c a b) → TKept (dsts (.cond c a b)) s.tm s'.tm := fun h hl => (h.2 ⟨fun k hk => hl.1 k (List.mem_append.2 (.inr hk)), fun b hb => hl.2 b (List.mem_append.2 (.inr hb))⟩).mono fun k hk => List.mem_append.2 (.inr hk)
  unfold oCond at h
  split at h
  · rename_i t ht
    have key : ∀ N f (a : Act) w, StRel ρ B W n N f s a w → a.eval c = .bool (t.ev ρ) := by
      intro N f a w hr
      have hev := hr.tm.ev _ _ ht
      generalize a.eval c = z at hev
      cases hev
      rfl
    have yes : t.ev ρ = true → (Goes P ρ B W n a s e s' ∧ (Low hs a → TKept (dsts a) s.tm s'.tm)) → Goes P ρ B W n (.cond c a b) s e s' ∧ (Low hs (.cond c a b) → TKept (dsts (.cond c a b)) s.tm s'.tm) := fun hv q => ⟨Goes.cond key (by rw [hv]; exact q.1), ka q⟩
    have no : t.ev ρ = false → (Goes P ρ B W n b s e s' ∧ (Low hs b → TKept (dsts b) s.tm s'.tm)) → Goes P ρ B W n (.cond c a b) s e s' ∧ (Low hs (.cond c a b) → TKept (dsts (.cond c a b)) s.tm s'.tm) := fun hv q => ⟨Goes.cond key (by rw [hv]; exact q.1), kb q⟩
    split at h
    · rename_i hv
      exact yes (settle_ok hd t _ hv) (hx dec hd s e s' h)
    · rename_i hv
      exact no (settle_ok hd t _ hv) (hy dec hd s e s' h)
    · split at h
      · rename_i hv
        have hv := prove_ok hρ 40 dec t _ hd hv
        exact yes hv (hx _ (decPut_ok hv hd) s e s' h)
      · rename_i hv
        have hv := prove_ok hρ 40 dec t _ hd hv
        exact no hv (hy _ (decPut_ok hv hd) s e s' h)
      · obtain ⟨d, h1, h2⟩ := Out.part_pick (facts_ok hρ t hd) t (fun d => x d s) (fun d => y d s)
        rw [h2] at h
        cases ht : t.ev ρ
        · rw [ht] at h
          exact no ht (hy d h1 s e s' h)
        · rw [ht] at h
          exact yes ht (hx d h1 s e s' h)
  · cases h
theorem OOk.block {c : Code} {id : Nat} {x : OCode} (hx : OOk P ρ B W n hs c x) : OOk P ρ B W n hs (.block id c) (oBlock (okDs hs c) (dstsN c) id x) := by
  intro dec hd s e s' h
  refine mergeO_ok (c := .block id c) (fun e s' h => ?_) h
  obtain ⟨e1, s1, d1, hd1, h1, h2⟩ := Out.bind_pick hd h
  have q1 := hx dec hd s e1 s1 h1
  cases e1 with
  | normal => cases h2; exact ⟨q1.1.block_normal, q1.2⟩
  | exit i =>
    simp only at h2
    split at h2
    · rename_i hi
      cases h2
      rw [Nat.eq_of_beq_eq_true hi] at q1
      exact ⟨q1.1.block_here, q1.2⟩
    · rename_i hi
      cases h2
      exact ⟨q1.1.block_out (Nat.ne_of_beq_eq_false hi), q1.2⟩
  | ret => cases h2; exact ⟨q1.1.block_ret, q1.2⟩
theorem oRounds_ok {c : Code} {x : OCode} (hx : OOk P ρ B W n hs c x) : ∀ (L : Nat) dec, Dec.holds ρ dec → ∀ s e s', (oRounds (okDs hs c) (dstsN c) x L dec s).pick ρ = some (e, s') → GoesR P ρ B W n c L s e s' ∧ (Low hs c → TKept (dsts c) s.tm s'.tm) := by
  intro L
  induction L with
  | zero => intro dec hd s e s' h; cases h
  | succ L ih =>
    intro dec hd s e s' h
    unfold oRounds at h
    obtain ⟨e1, s1, d1, hd1, h1, h2⟩ := Out.bind_pick hd h
    have q1 := mergeO_ok (c := c) (fun e s' h => hx dec hd s e s' h) h1
    cases e1 with
    | normal =>
      have q2 := ih d1 hd1 s1 e s' h2
      exact ⟨GoesR.more q1.1 q2.1, fun hl => (q1.2 hl).trans (q2.2 hl)⟩
    | exit i => cases h2; exact ⟨GoesR.out (by intro h; cases h) q1.1, q1.2⟩
    | ret => cases h2; exact ⟨GoesR.out (by intro h; cases h) q1.1, q1.2⟩
/-- A loop's rounds and what follows them. -/
def LOk (P : Program) (ρ : Env) (B : Nat → Prop) (W : World) (n : Nat) (hs : Nat → Bool) (c : Code) (x : OCode) : Prop :=
  ∀ dec, Dec.holds ρ dec → ∀ s e s', (x dec s).pick ρ = some (e, s') → (∃ m, GoesR P ρ B W n c m s e s') ∧ (Low hs (.loop c) → TKept (dsts c) s.tm s'.tm)
theorem Low.body {hs : Nat → Bool} {c : Code} (h : Low hs (.loop c)) : Low hs c := ⟨h.1, fun b hb => h.2 b (List.mem_cons_of_mem _ hb)⟩
theorem oLoop_ok {bd : Bd} (hρ : ρ.ok bd) {c : Code} {lp : Dec → ASt → Option (AExit × ASt)} (h : ∀ dec, Dec.holds ρ dec → ∀ s e s', lp dec s = some (e, s') → ∃ m, GoesR P ρ B W n c m s e s') (hlow : ¬ Low hs (.loop c)) (ask : Dec → ASt → List BE) {rounds : OCode} (hr : LOk P ρ B W n hs c rounds) : ∀ k, LOk P ρ B W n hs c (oLoop bd lp ask rounds k) := by
  intro k
  induction k with
  | zero => exact hr
  | succ k ih =>
    intro dec hd s e s' hs'
    unfold oLoop at hs'
    split at hs'
    · rename_i r h1
      cases hs'
      exact ⟨h dec hd _ _ _ h1, fun hl => absurd hl hlow⟩
    · have hl := learn_ok hρ hd (ask dec s)
      split at hs'
      · rename_i d q hq
        rw [hq] at hl
        exact ih d hl s e s' hs'
      · rename_i t _
        obtain ⟨d, h1, h2⟩ := Out.part_pick (facts_ok hρ t hd) t (fun d => oLoop bd lp ask rounds k d s) (fun d => oLoop bd lp ask rounds k d s)
        rw [h2] at hs'
        cases ht : t.ev ρ
        · rw [ht] at hs'
          exact ih d h1 s e s' hs'
        · rw [ht] at hs'
          exact ih d h1 s e s' hs'
      · exact hr dec hd s e s' hs'
theorem oNext_ok {c : Code} {x next : OCode} (hx : OOk P ρ B W n hs c x) (hn : LOk P ρ B W n hs c next) : LOk P ρ B W n hs c (oNext (okDs hs c) (dstsN c) x next) := by
  intro dec hd s e s' h
  unfold oNext at h
  obtain ⟨e1, s1, d1, hd1, h1, h2⟩ := Out.bind_pick hd h
  have q1 := mergeO_ok (c := c) (fun e s' h => hx dec hd s e s' h) h1
  cases e1 with
  | normal =>
    obtain ⟨⟨m, q2⟩, q3⟩ := hn d1 hd1 s1 e s' h2
    exact ⟨⟨m + 1, GoesR.more q1.1 q2⟩, fun hl => (q1.2 hl.body).trans (q3 hl)⟩
  | exit i => cases h2; exact ⟨⟨1, GoesR.out (L := 0) (by intro h; cases h) q1.1⟩, fun hl => q1.2 hl.body⟩
  | ret => cases h2; exact ⟨⟨1, GoesR.out (L := 0) (by intro h; cases h) q1.1⟩, fun hl => q1.2 hl.body⟩
theorem oLoopR_ok {bd : Bd} (hρ : ρ.ok bd) {c : Code} {lp : Dec → ASt → Option (AExit × ASt)} (h : ∀ dec, Dec.holds ρ dec → ∀ s e s', lp dec s = some (e, s') → ∃ m, GoesR P ρ B W n c m s e s') (hlow : ¬ Low hs (.loop c)) (ask : Dec → ASt → List BE) {x : OCode} (hx : OOk P ρ B W n hs c x) : ∀ L, LOk P ρ B W n hs c (oLoopR bd lp ask (okDs hs c) (dstsN c) x L) := by
  intro L
  induction L with
  | zero => intro dec hd s e s' h; cases h
  | succ L ih => exact oLoop_ok hρ h hlow ask (oNext_ok hx ih) 20
theorem oCode_ok {C : Ctx} (hC : C.Ok P ρ) {call call1 : Dec → ACall} (hcall : ∀ dec, Dec.holds ρ dec → CallOk P ρ B W (call dec)) (hcall1 : ∀ dec, Dec.holds ρ dec → CallOk P ρ B W (call1 dec)) {tr : OTree} (htr : TreeOk P ρ tr) {ask : Dec → List Oper → ASt → List BE} {asko : Dec → Oper → T AVal → T AObj → Nat → List BE} {lps : Lps} (L : Nat) (pol : Nat → Bool) (c : Code) (hlps : LpsOk P ρ B W n lps c) : OOk P ρ B W n lps.has c (oCode C call call1 tr ask asko lps n L pol c) := by
  induction c with
  | skip => intro dec hd s e s' h; cases h; exact ⟨Goes.here (e := .normal) fun Q a w h => wp_skip h, fun _ => TKept.refl _ _⟩
  | region id ops draw =>
    cases draw with
    | true => exact oRegion_ok hC.bd (fun dec hd s e s' h => ⟨Goes.of (CodeOk.region (hC.with hd) (hcall dec hd) (aDraw_ok (hC.with hd)) id ops true) h, fun hl => aRegion_kept hl h⟩) _ _ 8
    | false => exact OOk.ops hC hcall1 htr _ _ id ops
  | seq a b ha hb => exact OOk.seq (ha fun x hx => hlps x (List.mem_append.2 (.inl hx))) (hb fun x hx => hlps x (List.mem_append.2 (.inr hx)))
  | cond c a b ha hb =>
    have q := OOk.cond hC.bd (c := c) (ha fun x hx => hlps x (List.mem_append.2 (.inl hx))) (hb fun x hx => hlps x (List.mem_append.2 (.inr hx)))
    intro dec hd s e s' h
    have h : (oMerged (pol (Code.key (.cond c a b))) (okDs lps.has (.cond c a b)) (dstsN (.cond c a b)) s.tm (oCond C.bd c (oCode C call call1 tr ask asko lps n L pol a) (oCode C call call1 tr ask asko lps n L pol b) dec s)).pick ρ = some (e, s') := h
    unfold oMerged at h
    split at h
    · exact mergeO_ok (c := .cond c a b) (fun e s' h => q dec hd s e s' h) h
    · exact q dec hd s e s' h
  | block id c hc => exact OOk.block (hc hlps)
  | loop c hc =>
    intro dec hd s e s' h
    have hb : OOk P ρ B W n lps.has c (oCode C call call1 tr ask asko lps n L pol c) := hc fun x hx => hlps x (List.mem_cons_of_mem _ hx)
    have h : (oLoopH (lps.has (Code.key c)) (oLoopR C.bd (lps.run n (Code.key c)) (lps.ask (Code.key c)) (okDs lps.has c) (dstsN c) (oCode C call call1 tr ask asko lps n L pol c) L) (oRounds (okDs lps.has c) (dstsN c) (oCode C call call1 tr ask asko lps n L pol c) L) dec s).pick ρ = some (e, s') := h
    cases hk : lps.has (Code.key c)
    · rw [hk] at h
      have q := oRounds_ok hb L dec hd s e s' h
      exact ⟨Goes.loop q.1, fun hl => q.2 hl.body⟩
    · rw [hk] at h
      obtain ⟨⟨m, q1⟩, q2⟩ := oLoopR_ok hC.bd (hlps c (List.mem_cons_self ..)) (fun hl => by rw [hl.2 c (List.mem_cons_self ..)] at hk; cases hk) _ hb L dec hd s e s' h
      exact ⟨Goes.loop q1, q2⟩
  | rangeFunc => intro dec hd s e s' h; cases h
  | exit id => intro dec hd s e s' h; cases h; exact ⟨Goes.here (e := .exit id) fun Q a w h => wp_exit h, fun _ => TKept.refl _ _⟩
  | scope c hc => intro dec hd s e s' h; exact ⟨(hc hlps dec hd s e s' h).1.scope, (hc hlps dec hd s e s' h).2⟩
  | label => intro dec hd s e s' h; cases h; exact ⟨Goes.here (e := .normal) fun Q a w h => wp_label h, fun _ => TKept.refl _ _⟩
  | goto => intro dec hd s e s' h; cases h
  | ret => intro dec hd s e s' h; cases h; exact ⟨Goes.here (e := .ret) fun Q a w h => wp_ret h, fun _ => TKept.refl _ _⟩
  | refuse => intro dec hd s e s' h; cases h
end

/-- Parts joined where the result stays known. -/
def Out.mergeR : Out → Out
  | .bad w => .bad w
  | .leaf e s => .leaf e s
  | .split b y n =>
    match Out.mergeR y with
    | .leaf e s =>
      match Out.mergeR n with
      | .leaf e' s' =>
        match exitSame e e' with
        | true =>
          match ASt.mrg b s s' with
          | t =>
            match t.tm.get 0 with
            | some _ => .leaf e t
            | none => .split b (.leaf e s) (.leaf e' s')
        | false => .split b (.leaf e s) (.leaf e' s')
      | .bad w => .split b (.leaf e s) (.bad w)
      | .split c p q => .split b (.leaf e s) (.split c p q)
    | .bad w => .split b (.bad w) (Out.mergeR n)
    | .split c p q => .split b (.split c p q) (Out.mergeR n)
theorem Out.mergeR_pick {ρ : Env} : ∀ {o : Out} {e : AExit} {s : ASt}, o.mergeR.pick ρ = some (e, s) → ∃ s', o.pick ρ = some (e, s') ∧ SCov ρ s' s := by
  intro o
  induction o with
  | bad w => intro e s h; cases h
  | leaf e s => intro e' s' h; cases h; exact ⟨s, rfl, SCov.refl ρ s⟩
  | split b y n ihy ihn =>
    intro e s h
    have plain : (Out.split b y.mergeR n.mergeR).pick ρ = some (e, s) → ∃ s', (Out.split b y n).pick ρ = some (e, s') ∧ SCov ρ s' s := by
      intro h
      simp only [Out.pick] at h ⊢
      cases hb : b.ev ρ
      · rw [hb] at h
        exact ihn h
      · rw [hb] at h
        exact ihy h
    simp only [Out.mergeR] at h
    split at h
    · rename_i e1 s1 h1
      split at h
      · rename_i e2 s2 h2
        split at h
        · rename_i he
          split at h
          · have he := exitSame_eq he
            subst he
            cases h
            obtain ⟨p, p1, p2⟩ := ihy (e := e) (s := s1) (by rw [h1]; rfl)
            obtain ⟨q, q1, q2⟩ := ihn (e := e) (s := s2) (by rw [h2]; rfl)
            refine ⟨pickV (b.ev ρ) p q, ?_, SCov.trans ?_ (ASt.mrg_ok rfl s1 s2)⟩
            · simp only [Out.pick]
              cases b.ev ρ <;> first | exact p1 | exact q1
            · cases b.ev ρ <;> first | exact p2 | exact q2
          · exact plain (by rw [h1, h2]; exact h)
        · exact plain (by rw [h1, h2]; exact h)
      · rename_i h2
        exact plain (by rw [h1, h2]; exact h)
      · rename_i h2
        exact plain (by rw [h1, h2]; exact h)
    · rename_i h1
      exact plain (by rw [h1]; exact h)
    · rename_i h1
      exact plain (by rw [h1]; exact h)
/-- The same, where it is wanted. -/
def Out.mergeB (keep : Bool) (o : Out) : Out :=
  match keep with
  | true => o
  | false => o.mergeR
theorem Out.mergeB_pick {ρ : Env} {k : Bool} {o : Out} {e : AExit} {s : ASt} (h : (o.mergeB k).pick ρ = some (e, s)) : ∃ s', o.pick ρ = some (e, s') ∧ SCov ρ s' s := by
  unfold Out.mergeB at h
  split at h
  · exact ⟨s, h, SCov.refl ρ s⟩
  · exact Out.mergeR_pick h
/-! calls -/
def oLeave (C : Ctx) (fn : Func) : Dec → AExit → ASt → Out := fun dec e s =>
  match e with
  | .exit _ => .bad (.num 116)
  | _ =>
    match aRess (C.with dec) s.tm s.hp fn.results.toList with
    | some vs => .leaf .ret ⟨T.nil.set 0 (aResult vs), s.hp, s.nx⟩
    | none => .bad (.num 117)
/-- A function's body run, its outcomes with the results in slot 0. -/
def oBody (C : Ctx) (call call1 : Dec → ACall) (tr : OTree) (ask : Dec → List Oper → ASt → List BE) (asko : Dec → Oper → T AVal → T AObj → Nat → List BE) (lps : FuncId → Lps) (L : Nat) (pol : FuncId → Nat → Bool) (g : FuncId) (fn : Func) (c : Code) (dec : Dec) (args : List AVal) (h : T AObj) (nx : Nat) : Out :=
  (oCode C call call1 tr ask asko (lps g) (args.length + (fn.ntmps - args.length)) L (pol g) c dec ⟨treeOf args 0 .nil, h, nx⟩).bind dec (oLeave C fn)
/-- Does it name no block? -/
def AVal.free (v : AVal) : Bool :=
  match v.within (fun _ => false) with
  | true => (v.rep IE.var id).same v
  | false => false
/-- What is known of functions beforehand, and what a call of them asks. -/
structure Sm where
  call : Dec → ACall
  ask : Dec → FuncId → List AVal → T AObj → List BE
  lps : FuncId → Lps := fun _ => {}
structure SmOk (P : Program) (ρ : Env) (sm : Sm) : Prop where
  call : ∀ dec, Dec.holds ρ dec → ∀ B W, CallOk P ρ B W (sm.call dec)
  lps : ∀ g fn c, P.funcs[g]? = some fn → fn.body = some c → ∀ B W n, LpsOk P ρ B W n (sm.lps g) c
def Sm.of (c : ACall) : Sm := { call := fun _ => c, ask := fun _ _ _ _ => [] }
def callOf (sm : Sm) (pure : FuncId → Bool) (tr : OTree) : Dec → ACall := fun dec g args h nx =>
  match sm.call dec g args h nx with
  | some r => some r
  | none =>
    match pure g with
    | true =>
      match tr dec g args .nil nx with
      | .leaf _ s =>
        match s.tm.get 0 with
        | some v =>
          match v.free with
          | true => some (v, h, s.nx)
          | false => none
        | none => none
      | _ => none
    | false =>
      match tr dec g args h nx with
      | .leaf _ s =>
        match s.tm.get 0 with
        | some v => some (v, s.hp, s.nx)
        | none => none
      | _ => none
def Out.top : Out → List BE
  | .split b _ _ => [b]
  | _ => []
/-- What an operation asks that stopped. -/
def askOp (C : Ctx) (ca : FuncId → List AVal → T AObj → List BE) (tr : FuncId → List AVal → T AObj → Nat → Out) (o : Oper) (tm : T AVal) (hp : T AObj) (nx : Nat) : List BE :=
  match o.op with
  | .call c =>
    match aCallee C hp (aev tm) c with
    | some (g, args) =>
      match ca g args hp with
      | [] => (tr g args hp nx).top
      | l => l
    | none => []
  | .binOp _ _ x y _ =>
    match aev tm x, aev tm y with
    | some x, some y => askEq C.bd x y
    | _, _ => []
  | _ => []
def askOps (C : Ctx) (call : ACall) (ca : FuncId → List AVal → T AObj → List BE) (tr : FuncId → List AVal → T AObj → Nat → Out) (all : List Oper) : List Oper → T AVal → T AObj → Nat → List BE
  | [], _, _, _ => []
  | o :: rest, tm, hp, nx =>
    match aWanted C tm all o.guard with
    | none => askGuard tm all o.guard
    | some false => askOps C call ca tr all rest (aPut tm o.dst none) hp nx
    | some true =>
      match aStep C call hp nx (aev tm) o.op with
      | some (r, hp', nx') => askOps C call ca tr all rest (aPut tm o.dst r) hp' nx'
      | none => askOp C ca tr o tm hp nx
def askOne (C : Ctx) (sm : Sm) : Dec → Oper → T AVal → T AObj → Nat → List BE := fun dec o tm hp nx => askOp (C.with dec) (sm.ask dec) (fun _ _ _ _ => .bad (.num 1)) o tm hp nx
def askOf (C : Ctx) (sm : Sm) (pure : FuncId → Bool) (tr : OTree) : Dec → List Oper → ASt → List BE := fun dec ops s => askOps (C.with dec) (callOf sm pure tr dec) (sm.ask dec) (fun g args h nx => tr dec g args (match pure g with | true => .nil | false => h) nx) ops ops s.tm s.hp s.nx
def Out.mapS (f : ASt → Option ASt) : Out → Out
  | .bad w => .bad w
  | .leaf e s =>
    match f s with
    | some t => .leaf e t
    | none => .bad (.num 118)
  | .split b y n => .split b (y.mapS f) (n.mapS f)
theorem Out.mapS_pick {ρ : Env} {f : ASt → Option ASt} : ∀ {o : Out} {e : AExit} {t : ASt}, (o.mapS f).pick ρ = some (e, t) → ∃ s, o.pick ρ = some (e, s) ∧ f s = some t := by
  intro o
  induction o with
  | bad w => intro e t h; cases h
  | leaf e s =>
    intro e' t h
    unfold Out.mapS at h
    split at h
    · rename_i t' ht
      cases h
      exact ⟨s, rfl, ht⟩
    · cases h
  | split b y n ihy ihn =>
    intro e t h
    simp only [Out.mapS, Out.pick] at h ⊢
    cases hb : b.ev ρ
    · rw [hb] at h; exact ihn h
    · rw [hb] at h; exact ihy h
/-- Functions that touch no memory: run with none. -/
def pureTree (pure : FuncId → Bool) (tr : OTree) : OTree := fun dec g args h nx =>
  match pure g with
  | true => (tr dec g args .nil nx).mapS fun s =>
    match s.tm.get 0 with
    | some v =>
      match v.free with
      | true => some ⟨T.nil.set 0 v, h, s.nx⟩
      | false => none
    | none => none
  | false => tr dec g args h nx
def oTree (C : Ctx) (sm : Sm) (L : Nat) (pol : FuncId → Nat → Bool) (pure : FuncId → Bool) : Nat → OTree
  | 0, _, g, args, _, _ => .bad (.fn 119 g args)
  | d + 1, dec, g, args, h, nx =>
    match C.fn.get g with
    | none => .bad (.fn 120 g args)
    | some fn =>
      match fn.body with
      | none => .bad (.fn 121 g args)
      | some c => (oBody C (callOf sm pure (oTree C sm L pol pure d)) sm.call (pureTree pure (oTree C sm L pol pure d)) (askOf C sm pure (oTree C sm L pol pure d)) (askOne C sm) sm.lps L pol g fn c dec args h nx).mergeB (pol g 1000000)
theorem CallGoes.cov {P : Program} {ρ : Env} {B : Nat → Prop} {W : World} {g : FuncId} {args : List AVal} {h : T AObj} {nx : Nat} {s t : ASt} (k : CallGoes P ρ B W g args h nx s) (hc : SCov ρ s t) : CallGoes P ρ B W g args h nx t := by
  have hnx := hc.nx
  refine ⟨Nat.le_trans k.1 hnx, fun f w args' hr ha hf => (k.2 f w args' hr ha (fun j h1 h2 => hf j h1 (by omega))).mono fun e w' ⟨v', f', h1, h2, h3, h4, h5⟩ => ⟨v', f', h1, h2, fun j hj => h3 j (by omega), hc.heap h4, fun v hv => ?_⟩⟩
  obtain ⟨u, h6, h7⟩ := hc.tm 0 v hv
  exact h7 f' v' (h5 u h6)
theorem oBody_ok {C : Ctx} {P : Program} {ρ : Env} (hC : C.Ok P ρ) {B : Nat → Prop} {W : World} {call call1 : Dec → ACall} (hcall : ∀ dec, Dec.holds ρ dec → CallOk P ρ B W (call dec)) (hcall1 : ∀ dec, Dec.holds ρ dec → CallOk P ρ B W (call1 dec)) {tr : OTree} (htr : TreeOk P ρ tr) {ask : Dec → List Oper → ASt → List BE} {asko : Dec → Oper → T AVal → T AObj → Nat → List BE} {lps : FuncId → Lps} {L : Nat} {pol : FuncId → Nat → Bool} {g : FuncId} {fn : Func} {c : Code}
    (hfn : C.fn.get g = some fn) (hb : fn.body = some c) (hlps : ∀ n, LpsOk P ρ B W n (lps g) c) {dec : Dec} (hd : dec.holds ρ) {args : List AVal} {h : T AObj} {nx : Nat} {e : AExit} {s : ASt} (hs : (oBody C call call1 tr ask asko lps L pol g fn c dec args h nx).pick ρ = some (e, s)) : CallGoes P ρ B W g args h nx s := by
  obtain ⟨e1, s1, d1, hd1, h1, h2⟩ := Out.bind_pick hd hs
  have q := (oCode_ok (n := args.length + (fn.ntmps - args.length)) (ask := ask) (asko := asko) hC hcall hcall1 htr L (pol g) c (hlps _) dec hd _ _ _ h1).1
  have key : e1 = .normal ∨ e1 = .ret → ∀ vs, aRess (C.with d1) s1.tm s1.hp fn.results.toList = some vs → s = ⟨T.nil.set 0 (aResult vs), s1.hp, s1.nx⟩ → CallGoes P ρ B W g args h nx s := by
    intro he vs hvs hs
    subst hs
    refine ⟨q.1, fun f w args' hr ha hf => calls_of_wp (hC.fn _ _ hfn) hb (q.2 s1.nx f _ w _ (Nat.le_refl _) ⟨?_, ?_, rfl, hr, hf⟩ fun f' a' w' l1 o1 r1 => ?_)⟩
    · simp [ha.1]
    · intro j v hj
      rcases treeOf_ok _ _ _ _ _ hj with ⟨_, hj⟩ | hj
      · obtain ⟨v', h1, h2⟩ := ha.get (by simpa using hj)
        have : (args' ++ Array.replicate (fn.ntmps - args'.size) Go.undef).getD j Go.undef = v' := by
          rw [Array.getD_eq_getD_getElem?, Array.getElem?_append_left (Array.getElem?_eq_some_iff.1 h1).1, h1]
          rfl
        rw [this]
        exact h2
      · (rw [T.get_nil] at hj; cases hj)
    · obtain ⟨us, h1, h2⟩ := aRess_ok (P := P) (hC.with hd1) r1.heap r1.tm _ _ hvs
      have hpost : a'.defers = [] ∧ ∃ v, (results fn a'.tmps).run P w' = .ok v w' ∧ ∃ v' f'', (Ending.returned v) = .returned v' ∧ f.le f'' ∧ Outside f f'' nx s1.nx ∧ HRel ρ B W f'' s1.hp w' ∧ ∀ v, (T.nil.set 0 (aResult vs)).get 0 = some v → VRel ρ f'' v v' :=
        ⟨r1.defers, _, run_results h1, _, f', rfl, l1, o1, r1.heap, fun v hv => by
          rcases T.get_set hv with ⟨_, rfl⟩ | ⟨h0, _⟩
          · exact aResult_ok h2
          · exact absurd rfl h0⟩
      rcases he with rfl | rfl
      · exact hpost
      · exact hpost
  unfold oLeave at h2
  split at h2
  · cases h2
  · rename_i hne
    have he : e1 = .normal ∨ e1 = .ret := by
      cases e1 with
      | normal => exact .inl rfl
      | ret => exact .inr rfl
      | exit i => exact absurd rfl (hne i)
    split at h2
    · rename_i vs hvs
      cases h2
      exact key he vs hvs rfl
    · cases h2
theorem VRel.freed {ρ : Env} {f f' : Ren} {v : AVal} {u : Value} (hf : v.free = true) (h : VRel ρ f' v u) : VRel ρ f v u := by
  unfold AVal.free at hf
  split at hf
  · rename_i hw
    have e := AVal.same_eq hf
    have h1 : VRel ρ f' (v.rep IE.var id) u := by rw [e]; exact h
    have h2 := VRel.sub_of (σ := IE.var) (π := id) (d := fun _ => false) v u hw h1
    exact VRel.mono (fun i L hi => by simp [Ren.via] at hi) h2
  · cases hf
theorem CallGoes.purely {P : Program} {ρ : Env} {g : FuncId} {args : List AVal} {nx : Nat} {s : ASt} (q1 : ∀ B W, CallGoes P ρ B W g args .nil nx s) {v : AVal} (hv : s.tm.get 0 = some v) (hfree : v.free = true) (h : T AObj) (B : Nat → Prop) (W : World) : CallGoes P ρ B W g args h nx ⟨T.nil.set 0 v, h, s.nx⟩ := by
  refine ⟨(q1 B W).1, fun f w args' hr ha hf => ?_⟩
  have hr0 : HRel ρ (· < w.heap.size) w f (.nil : T AObj) w := ⟨Kept.refl _ _, fun b hb => hb, hr.lt, fun i j Li Lj oi oj hi hj gi => (by rw [T.get_nil] at gi; cases gi), fun i L o hi gi => (by rw [T.get_nil] at gi; cases gi)⟩
  refine ((q1 (· < w.heap.size) w).2 f w args' hr0 ha hf).mono fun e w' ⟨v', f', a1, a2, a3, a4, a5⟩ => ⟨v', f, a1, Ren.le_refl f, fun _ _ => rfl, ?_, fun u hu => ?_⟩
  · refine hr.of_same (hr.below.trans (a4.below.mono fun b hb => Nat.lt_of_lt_of_le (hr.bsize b hb) hr.below.size)) a4.below.size fun i L o hi ho b hb => a4.below.block b ((hr.obj i L o hi ho).foot_lt hb)
  · have hu : (T.nil.set 0 v).get 0 = some u := hu
    rcases T.get_set hu with ⟨_, rfl⟩ | ⟨h0, _⟩
    · exact (a5 _ hv).freed hfree
    · exact absurd rfl h0
theorem pureTree_ok {P : Program} {ρ : Env} {pure : FuncId → Bool} {tr : OTree} (htr : TreeOk P ρ tr) : TreeOk P ρ (pureTree pure tr) := by
  intro B W dec hd g args h nx e s hs
  unfold pureTree at hs
  split at hs
  · obtain ⟨s0, h1, h2⟩ := Out.mapS_pick hs
    split at h2
    · rename_i v hv
      split at h2
      · rename_i hfree
        cases h2
        exact CallGoes.purely (fun B W => htr B W dec hd g args .nil nx e s0 h1) hv hfree h B W
      · cases h2
    · cases h2
  · exact htr B W dec hd g args h nx e s hs
theorem callOf_ok {P : Program} {ρ : Env} {B : Nat → Prop} {W : World} {sm : Sm} (hsm : SmOk P ρ sm) {pure : FuncId → Bool} {tr : OTree} (htr : TreeOk P ρ tr) : ∀ dec, Dec.holds ρ dec → CallOk P ρ B W (callOf sm pure tr dec) := by
  intro dec hd g args h nx v h' nx' hc
  unfold callOf at hc
  split at hc
  · rename_i r hr
    cases hc
    exact hsm.call dec hd B W _ _ _ _ _ _ _ hr
  split at hc
  · split at hc
    · rename_i e s hs
      split at hc
      · rename_i v0 hv0
        split at hc
        · rename_i hfree
          cases hc
          have q1 := fun B W => htr B W dec hd g args .nil nx e s (by rw [hs]; rfl)
          refine ⟨(q1 B W).1, fun f w args' hr ha hf => ?_⟩
          have hr0 : HRel ρ (· < w.heap.size) w f (.nil : T AObj) w := ⟨Kept.refl _ _, fun b hb => hb, hr.lt, fun i j Li Lj oi oj hi hj gi => (by rw [T.get_nil] at gi; cases gi), fun i L o hi gi => (by rw [T.get_nil] at gi; cases gi)⟩
          refine ((q1 (· < w.heap.size) w).2 f w args' hr0 ha hf).mono fun e w' ⟨v', f', a1, a2, a3, a4, a5⟩ => ⟨v', f, a1, Ren.le_refl f, fun _ _ => rfl, ?_, (a5 _ hv0).freed hfree⟩
          refine hr.of_same (hr.below.trans (a4.below.mono fun b hb => Nat.lt_of_lt_of_le (hr.bsize b hb) hr.below.size)) a4.below.size fun i L o hi ho b hb => a4.below.block b ((hr.obj i L o hi ho).foot_lt hb)
        · cases hc
      · cases hc
    · cases hc
  · split at hc
    · rename_i e s hs
      split at hc
      · rename_i v0 hv0
        cases hc
        have q := htr B W dec hd g args h nx e s (by rw [hs]; rfl)
        exact ⟨q.1, fun f w args' hr ha hf => (q.2 f w args' hr ha hf).mono fun e w' ⟨v', f', a1, a2, a3, a4, a5⟩ => ⟨v', f', a1, a2, a3, a4, a5 _ hv0⟩⟩
      · cases hc
    · cases hc
theorem oTree_ok {C : Ctx} {P : Program} {ρ : Env} (hC : C.Ok P ρ) {sm : Sm} (hsm : SmOk P ρ sm) (L : Nat) (pol : FuncId → Nat → Bool) (pure : FuncId → Bool) : ∀ d, TreeOk P ρ (oTree C sm L pol pure d) := by
  intro d
  induction d with
  | zero => intro B W dec hd g args h nx e s hc; cases hc
  | succ d ih =>
    intro B W dec hd g args h nx e s hc
    unfold oTree at hc
    split at hc
    · cases hc
    · rename_i fn hfn
      split at hc
      · cases hc
      · rename_i c hb
        obtain ⟨s0, h1, h2⟩ := Out.mergeB_pick hc
        exact (oBody_ok hC (callOf_ok hsm ih) (fun dec hd => hsm.call dec hd B W) (pureTree_ok ih) hfn hb (fun n => hsm.lps g fn c (hC.fn _ _ hfn) hb B W n) hd h1).cov h2

/-- Every outcome is as p wants it. -/
def Out.all (p : Dec → AExit → ASt → Bool) : Out → Dec → Bool
  | .bad _, _ => false
  | .leaf e s, dec => p dec e s
  | .split b y n, dec =>
    match Out.all p y ((b, true) :: dec) with
    | true => Out.all p n ((b, false) :: dec)
    | false => false
theorem Out.all_pick {ρ : Env} {p : Dec → AExit → ASt → Bool} : ∀ {o : Out} {dec : Dec}, dec.holds ρ → o.all p dec = true → ∃ e s dec', Dec.holds ρ dec' ∧ o.pick ρ = some (e, s) ∧ p dec' e s = true := by
  intro o
  induction o with
  | bad w => intro dec _ h; cases h
  | leaf e s => intro dec hd h; exact ⟨e, s, dec, hd, rfl, h⟩
  | split b y n ihy ihn =>
    intro dec hd h
    simp only [Out.all] at h
    split at h
    · rename_i h1
      simp only [Out.pick]
      cases hb : b.ev ρ
      · exact ihn (decCons hd hb) h
      · exact ihy (decCons hd hb) h1
    · cases h
def leafTrue (bd : Bd) (dec : Dec) (e : AExit) (s : ASt) : Bool :=
  match s.tm.get 0 with
  | some (.bool b) =>
    match prove bd 40 dec b with
    | some true => true
    | _ => false
  | _ => false
/-- A law's body run: every outcome returns true. -/
def oSays (C : Ctx) (sm : Sm) (L d : Nat) (pol : FuncId → Nat → Bool) (pure : FuncId → Bool) (g : FuncId) (args : List AVal) (h : T AObj) (nx : Nat) (dec : Dec) : Bool :=
  match C.fn.get g with
  | none => false
  | some fn =>
    match fn.body with
    | none => false
    | some c => (oBody C (callOf sm pure (oTree C sm L pol pure d)) sm.call (pureTree pure (oTree C sm L pol pure d)) (askOf C sm pure (oTree C sm L pol pure d)) (askOne C sm) sm.lps L pol g fn c dec args h nx).all (leafTrue C.bd) dec
theorem oSays_ok {C : Ctx} {P : Program} {ρ : Env} (hC : C.Ok P ρ) {sm : Sm} (hsm : SmOk P ρ sm) {L d : Nat} {pol : FuncId → Nat → Bool} {pure : FuncId → Bool} {g : FuncId} {args : List AVal} {h : T AObj} {nx : Nat} {dec : Dec} (hd : dec.holds ρ) (hrun : oSays C sm L d pol pure g args h nx dec = true) {args' : Array Value} {W : World} {f : Ren}
    (hr : HRel ρ (· < W.heap.size) W f h W) (ha : LRel ρ f args args') (hn : ∀ j, nx ≤ j → f j = none) : Calls P g args' W fun e w' => e = .returned (.bool true) ∧ Below W.heap.size W w' := by
  unfold oSays at hrun
  split at hrun
  · cases hrun
  · rename_i fn hfn
    split at hrun
    · cases hrun
    · rename_i c hb
      obtain ⟨e, s, dec', hd', h1, h2⟩ := Out.all_pick hd hrun
      have q := oBody_ok (B := (· < W.heap.size)) (W := W) hC (callOf_ok hsm (oTree_ok hC hsm L pol pure d)) (fun dec hd => hsm.call dec hd _ _) (pureTree_ok (oTree_ok hC hsm L pol pure d)) hfn hb (fun n => hsm.lps g fn c (hC.fn _ _ hfn) hb _ _ n) hd h1
      unfold leafTrue at h2
      split at h2
      · rename_i b hb
        split at h2
        · rename_i hv
          refine (q.2 f W args' hr ha (fun j h1 _ => hn j h1)).mono fun e w' ⟨v', f', a1, a2, a3, a4, a5⟩ => ?_
          refine ⟨?_, a4.below.below⟩
          have := a5 _ hb
          rw [a1]
          cases this
          rw [prove_ok hC.bd 40 dec' b _ hd' hv]
        · cases h2
      · cases h2
end
end Go.Sx
