/- Contracts parted by a test; outcomes shown by cases. No condition. -/
import Derived.Test.YtpoianhfjgjajaaGreatSxQ
namespace Go.Sx
set_option linter.unusedVariables false
noncomputable section
section
variable {P : Program} {G : Nat → Int → Int → Int → Int} {GH : Nat → Ghost} {c : Con} {K : Know}
theorem Con.leavesQ (facts : Dec) (hf : ∀ ρ : Env, ρ.std G GH → ρ.ok (bdL c.bds) → c.pre.holds ρ → facts.holds ρ) (q : Dec → IE → IE → Bool)
    (hq : ∀ ρ : Env, ρ.std G GH → ρ.ok (bdL c.bds) → c.pre.holds ρ → ∀ (dec : Dec) (a b : IE), dec.holds ρ → q dec a b = true → a.ev ρ = b.ev ρ) {o : Out} (h : o.all (c.leaf q) (facts ++ c.pre) = true) : c.Leaves G GH o := by
  intro ρ h1 h2 h3
  obtain ⟨e, s, dec', hd', p1, p2⟩ := Out.all_pick (holds_app (hf ρ h1 h2 h3) h3) h
  unfold Con.leaf at p2
  split at p2
  · rename_i l hl
    exact ⟨e, s, _, l, p1, hl, prsAll_ok (fun a b hab => hq ρ h1 h2 h3 dec' a b hd' hab) p2⟩
  · cases p2
/-- Equal by cases, or as stated beforehand. -/
def qX (bd : Bd) (k : Nat) (obs : List (Dec × IE × IE)) (dec : Dec) (a b : IE) : Bool :=
  match qP bd k dec a b with
  | true => true
  | false => qN bd obs dec a b
theorem qX_ok {ρ : Env} {bd : Bd} (hρ : ρ.ok bd) {k : Nat} {dec : Dec} (hd : dec.holds ρ) {obs : List (Dec × IE × IE)} (ho : obsOk ρ obs) {a b : IE} (h : qX bd k obs dec a b = true) : a.ev ρ = b.ev ρ := by
  unfold qX at h
  split at h
  · rename_i h1
    exact qP_ok hρ hd h1
  · exact qN_ok hρ hd ho h
theorem Con.leavesX (facts : Dec) (hf : ∀ ρ : Env, ρ.std G GH → ρ.ok (bdL c.bds) → c.pre.holds ρ → facts.holds ρ) (k : Nat) (obs : List (Dec × IE × IE)) (ho : ∀ ρ : Env, ρ.std G GH → ρ.ok (bdL c.bds) → c.pre.holds ρ → obsOk ρ obs) {o : Out} (h : o.all (c.leaf (qX (bdL c.bds) k obs)) (facts ++ c.pre) = true) : c.Leaves G GH o :=
  Con.leavesQ facts hf _ (fun ρ h1 h2 h3 _ _ _ hd hab => qX_ok h2 hd (ho ρ h1 h2 h3) hab) h
/-- A run whose outcomes are shown by cases. -/
theorem Con.of_treeP (mixed : P.follows .mixedOrders = true) (hK : K.Ok P G GH) (L : Nat) (pol : FuncId → Nat → Bool) (pure : FuncId → Bool) (d k : Nat) (h : (c.tree P K L pol pure d []).all (c.leaf (qP (bdL c.bds) k)) c.pre = true) : c.Ok P G GH :=
  Con.ok_of mixed hK (facts := []) (fun ρ _ _ _ p hp => by cases hp) (Con.leavesQ [] (fun ρ _ _ _ p hp => by cases hp) _ (fun ρ h1 h2 h3 dec a b hd hab => qP_ok h2 hd hab) h)
theorem Con.split {b : BE} (h1 : Con.Ok P G GH { c with pre := (b, true) :: c.pre }) (h0 : Con.Ok P G GH { c with pre := (b, false) :: c.pre }) : c.Ok P G GH := by
  intro ρ q1 q2 q3
  cases hb : b.ev ρ
  · exact h0 ρ q1 q2 (decCons q3 hb)
  · exact h1 ρ q1 q2 (decCons q3 hb)
/-- The same said of a result in other words. -/
theorem Con.reres {r : AVal} {q : Prs} (hc : c.Ok P G GH) (hq : r.pairs c.res = some q) (he : ∀ ρ : Env, ρ.std G GH → ρ.ok (bdL c.bds) → c.pre.holds ρ → q.hold ρ) : Con.Ok P G GH { c with res := r } := by
  intro ρ h1 h2 h3 B W f w args' hr ha hn
  refine callR_mono P c.g _ _ _ _ (hc ρ h1 h2 h3 B W f w args' hr ha hn) fun v' w' ⟨f', a1, a2, a3, a4⟩ => ⟨f', a1, a2, a3, ?_⟩
  exact AVal.pairs_ok a4 hq (he ρ h1 h2 h3)
/-- A loop, shown in each of several cases. -/
theorem LCon.ok_each {c : LCon} (mixed : P.follows .mixedOrders = true) (hK : K.Ok P G GH) (hwf : c.con.wf = true) (hsl : c.sl.length = c.con.args.length) {ι : Type} (fac : ι → Dec) (L : Nat) (pol : FuncId → Nat → Bool) (pure : FuncId → Bool) (d k : Nat) (μ : IE)
    (hx : ∀ ρ : Env, ρ.std G GH → ρ.ok (bdL c.con.bds) → c.con.pre.holds ρ → ∃ i, (fac i).holds ρ ∧ (c.tree P K L pol pure d (fac i) μ).all (c.con.leaf (qP (bdL c.con.bds) k)) (fac i ++ c.con.pre) = true) : c.Ok P G GH := by
  intro fn cd b hfn hb hm hk
  have key : ∀ m, ∀ ρ : Env, ρ.std G GH → ρ.ok (bdL c.con.bds) → c.con.pre.holds ρ → (μ.ev ρ).toNat < m → c.con.OkAt (roundsR P b c m) ρ := by
    intro m
    induction m with
    | zero => intro ρ _ _ _ h; omega
    | succ m ih =>
      intro ρ h1 h2 h3 hlt
      obtain ⟨i, hi, h⟩ := hx ρ h1 h2 h3
      obtain ⟨e, s, dec', hd', p1, p2⟩ := Out.all_pick (holds_app hi h3) h
      unfold Con.leaf at p2
      split at p2
      · rename_i l hl
        exact Con.at_ends (roundsR_mono P b c (m + 1)) (LCon.tree_goes mixed hK hwf hsl h1 h2 h3 hi hfn hb hm hk (fun ρ' k1 k2 k3 k4 => ih ρ' k1 k2 k3 (by omega)) p1) hl (prsAll_ok (fun a b hab => qP_ok h2 hd' hab) p2)
      · cases p2
  intro ρ h1 h2 h3
  exact ⟨_, key _ ρ h1 h2 h3 (Nat.lt_succ_self _)⟩
/-! an expression's numbers, each by itself -/
/-- A tree for each of the numbers that an expression can be. -/
def casesO (e : IE) (f : Int → Out) : List Int → Out
  | [] => .bad (.num 300)
  | n :: l =>
    match l with
    | [] => f n
    | m :: l => .split (.eq e (.lit n)) (f n) (casesO e f (m :: l))
theorem casesO_pick {ρ : Env} {e : IE} {f : Int → Out} : ∀ {l : List Int}, e.ev ρ ∈ l → (casesO e f l).pick ρ = (f (e.ev ρ)).pick ρ := by
  intro l
  induction l with
  | nil => intro h; cases h
  | cons n l ih =>
    intro h
    cases l with
    | nil =>
      have : e.ev ρ = n := by simpa using h
      rw [this]
      rfl
    | cons m l =>
      show pickV (decide (e.ev ρ = n)) ((f n).pick ρ) ((casesO e f (m :: l)).pick ρ) = _
      by_cases hn : e.ev ρ = n
      · rw [decide_eq_true hn, hn]; rfl
      · rw [decide_eq_false hn]
        rcases List.mem_cons.1 h with h | h
        · exact absurd h hn
        · exact ih h
def casesAll (e : IE) (f : Int → Out) (p : Int → Dec → AExit → ASt → Bool) (base : Dec) (l : List Int) : Bool := l.all fun n => (f n).all (p n) ((.eq e (.lit n), true) :: base)
theorem casesAll_pick {ρ : Env} {e : IE} {f : Int → Out} {p : Int → Dec → AExit → ASt → Bool} {base : Dec} {l : List Int} (h : casesAll e f p base l = true) (hm : e.ev ρ ∈ l) (hb : base.holds ρ) : ∃ x s dec', Dec.holds ρ dec' ∧ (casesO e f l).pick ρ = some (x, s) ∧ p (e.ev ρ) dec' x s = true := by
  have := List.all_eq_true.1 h _ hm
  obtain ⟨x, s, dec', h1, h2, h3⟩ := Out.all_pick (decCons hb (t := .eq e (.lit (e.ev ρ))) (v := true) (decide_eq_true rfl)) this
  exact ⟨x, s, dec', h1, (casesO_pick hm).trans h2, h3⟩
/-- A contract's outcomes, case by case. -/
def Con.caseT (c : Con) (P : Program) (K : Int → Know) (L : Nat) (pol : FuncId → Nat → Bool) (pure : FuncId → Bool) (d : Nat) (facts : Dec) (e : IE) (n : Int) : Out := c.tree P (K n) L pol pure d ((.eq e (.lit n), true) :: facts)
theorem Con.ok_cases (mixed : P.follows .mixedOrders = true) {K : Int → Know} {l : List Int} (hK : ∀ n ∈ l, (K n).Ok P G GH) {L : Nat} {pol : FuncId → Nat → Bool} {pure : FuncId → Bool} {d : Nat} {facts : Dec} (hf : ∀ ρ : Env, ρ.std G GH → ρ.ok (bdL c.bds) → c.pre.holds ρ → facts.holds ρ) {e : IE}
    (hm : ∀ ρ : Env, ρ.std G GH → ρ.ok (bdL c.bds) → c.pre.holds ρ → e.ev ρ ∈ l) (h : c.Leaves G GH (casesO e (c.caseT P K L pol pure d facts e) l)) : c.Ok P G GH := by
  refine Con.of_ends fun ρ h1 h2 h3 => ?_
  obtain ⟨x, s, at', q, p1, p2, p3⟩ := h ρ h1 h2 h3
  rw [casesO_pick (hm ρ h1 h2 h3)] at p1
  exact ⟨s, at', q, Con.tree_goes mixed (hK _ (hm ρ h1 h2 h3)) h1 h2 h3 (facts := (.eq e (.lit (e.ev ρ)), true) :: facts) (decCons (hf ρ h1 h2 h3) (decide_eq_true rfl)) p1, p2, p3⟩
theorem Con.casesLeaves {facts : Dec} (hf : ∀ ρ : Env, ρ.std G GH → ρ.ok (bdL c.bds) → c.pre.holds ρ → facts.holds ρ) {q : Dec → IE → IE → Bool}
    (hq : ∀ ρ : Env, ρ.std G GH → ρ.ok (bdL c.bds) → c.pre.holds ρ → ∀ (dec : Dec) (a b : IE), dec.holds ρ → q dec a b = true → a.ev ρ = b.ev ρ) {e : IE} {l : List Int} (hm : ∀ ρ : Env, ρ.std G GH → ρ.ok (bdL c.bds) → c.pre.holds ρ → e.ev ρ ∈ l) {f : Int → Out}
    (h : casesAll e f (fun _ => c.leaf q) (facts ++ c.pre) l = true) : c.Leaves G GH (casesO e f l) := by
  intro ρ h1 h2 h3
  obtain ⟨x, s, dec', hd', p1, p2⟩ := casesAll_pick h (hm ρ h1 h2 h3) (holds_app (hf ρ h1 h2 h3) h3)
  unfold Con.leaf at p2
  split at p2
  · rename_i l hl
    exact ⟨x, s, _, l, p1, hl, prsAll_ok (fun a b hab => hq ρ h1 h2 h3 dec' a b hd' hab) p2⟩
  · cases p2
theorem Con.def_at {F : Fns} (hk : 7 < F.KR ∧ 7 < F.KV) {ρ : Env} (h2 : ρ.ok (bdL c.bds)) {o : Out} (hF : F.Def ρ.g (c.rows F o)) {e : AExit} {s : ASt} {dec' : Dec} (p1 : o.pick ρ = some (e, s)) (p2 : c.defLeaf F dec' e s = true) : ∃ q, c.endsA s = some q ∧ q.hold ρ := by
  have hF := hF ρ rfl
  rw [Con.rows_pick p1] at hF
  unfold Con.defLeaf at p2
  split at p2
  · rename_i q hq
    refine ⟨q, hq, ?_⟩
    unfold Con.rows at hF
    rw [hq] at hF
    cases e with
    | normal =>
      simp only at p2 hF
      split at p2
      · rename_i X hX
        rw [hX] at hF
        exact defXs_ok hk h2 hF p2
      · cases p2
    | exit i => exact defPairs_ok h2 hk hF (fun i p hp hne => by rw [Nat.zero_add]; exact rowVal_at hp hne) p2
    | ret => exact defPairs_ok h2 hk hF (fun i p hp hne => by rw [Nat.zero_add]; exact rowVal_at hp hne) p2
  · cases p2
/-- The functions that a tree of cases gives. -/
theorem Con.defCases {facts : Dec} (hf : ∀ ρ : Env, ρ.std G GH → ρ.ok (bdL c.bds) → c.pre.holds ρ → facts.holds ρ) {F : Fns} (hk : 7 < F.KR ∧ 7 < F.KV) {e : IE} {l : List Int} (hm : ∀ ρ : Env, ρ.std G GH → ρ.ok (bdL c.bds) → c.pre.holds ρ → e.ev ρ ∈ l) {f : Int → Out}
    (h : casesAll e f (fun _ => c.defLeaf F) (facts ++ c.pre) l = true) (hG : F.Def G (c.rows F (casesO e f l))) : c.Leaves G GH (casesO e f l) := by
  intro ρ h1 h2 h3
  obtain ⟨x, s, dec', hd', p1, p2⟩ := casesAll_pick h (hm ρ h1 h2 h3) (holds_app (hf ρ h1 h2 h3) h3)
  obtain ⟨q, q1, q2⟩ := Con.def_at hk h2 (by rw [h1.1]; exact hG) p1 p2
  exact ⟨x, s, _, q, p1, q1, q2⟩
/-- Two trees of cases that agree case by case. -/
theorem Con.agreeCases {c' : Con} {facts : Dec} (hf : ∀ ρ : Env, ρ.std G GH → ρ.ok (bdL c.bds) → c.pre.holds ρ → facts.holds ρ) {e : IE} {l : List Int} (hm : ∀ ρ : Env, ρ.std G GH → ρ.ok (bdL c.bds) → c.pre.holds ρ → e.ev ρ ∈ l) {e' : IE} (he : ∀ ρ : Env, ρ.std G GH → ρ.ok (bdL c.bds) → c.pre.holds ρ → e'.ev ρ = e.ev ρ) {f f' : Int → Out}
    (ho : ∀ ρ : Env, ρ.std G GH → ρ.ok (bdL c.bds) → c.pre.holds ρ → ∃ x s q, (casesO e f l).pick ρ = some (x, s) ∧ c'.endsA s = some q ∧ q.hold ρ)
    (h : casesAll e' f' (fun n => c.agreeLeaf c'.endsA (f n)) (facts ++ c.pre) l = true) : c.Leaves G GH (casesO e' f' l) := by
  intro ρ h1 h2 h3
  obtain ⟨x, s, dec', hd', p1, p2⟩ := casesAll_pick h (by rw [he ρ h1 h2 h3]; exact hm ρ h1 h2 h3) (holds_app (hf ρ h1 h2 h3) h3)
  unfold Con.agreeLeaf at p2
  split at p2
  · rename_i q hq
    refine ⟨x, s, _, q, p1, hq, agree_ok h2 hd' p2 fun x' s' m hp hs' => ?_⟩
    rw [he ρ h1 h2 h3] at hp
    obtain ⟨x2, s2, q2, a1, a2, a3⟩ := ho ρ h1 h2 h3
    rw [casesO_pick (hm ρ h1 h2 h3), hp] at a1
    cases a1
    rw [hs'] at a2
    cases a2
    exact a3
  · cases p2
end
end
end Go.Sx
