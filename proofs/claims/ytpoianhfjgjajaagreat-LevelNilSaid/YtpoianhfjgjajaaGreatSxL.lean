/- Contracts shown by trees of outcomes; functions given by a tree; two trees that agree. No condition. -/
import Derived.Test.YtpoianhfjgjajaaGreatSxW
set_option linter.unusedSimpArgs false
set_option linter.unusedVariables false
namespace Go.Sx
open Go.RowKit (Below)
noncomputable section

def prsAll (q : IE → IE → Bool) : Prs → Bool
  | [] => true
  | p :: l =>
    match q p.1 p.2 with
    | true => prsAll q l
    | false => false
theorem prsAll_ok {ρ : Env} {q : IE → IE → Bool} (hq : ∀ a b, q a b = true → a.ev ρ = b.ev ρ) : ∀ {l : Prs}, prsAll q l = true → l.hold ρ := by
  intro l
  induction l with
  | nil => intro _ p hp; cases hp
  | cons x l ih =>
    intro h p hp
    simp only [prsAll] at h
    split at h
    · rename_i hx
      rcases List.mem_cons.1 hp with rfl | hp
      · exact hq _ _ hx
      · exact ih h p hp
    · cases h
/-- Where a run has the contract's blocks (found, not proved: it is checked). -/
def bindLive : List AObj → Nat → T Nat → T Nat
  | [], _, t => t
  | o :: l, i, t => bindLive l (i + 1) (match o.dead with
    | true => t
    | false => t.set i i)
def mOsR (h : T AObj) : Nat → List AObj → Mt → Mt
  | _, [], m => m
  | i, o :: os, m =>
    match m.bl.get i with
    | none => mOsR h (i + 1) os m
    | some j =>
      match h.get j with
      | some a => mOsR h (i + 1) os (mAO o a m)
      | none => mOsR h (i + 1) os m
def Con.atOf (c : Con) (s : ASt) : List Nat :=
  match s.tm.get 0 with
  | none => []
  | some v =>
    match mOsR s.hp 0 c.os' (mAV c.res v ⟨.nil, bindLive (c.os'.take c.os.length) 0 .nil⟩) with
    | m =>
      match blocks m c.os.length (c.os'.length - c.os.length) with
      | some l => l
      | none => []
def Con.endsA (c : Con) (s : ASt) : Option Prs := c.ends (c.atOf s) s
def Con.leaf (c : Con) (q : Dec → IE → IE → Bool) (dec : Dec) (_ : AExit) (s : ASt) : Bool :=
  match c.endsA s with
  | some l => prsAll (q dec) l
  | none => false
/-- The context of a contract's runs. -/
def Con.ctx (c : Con) (P : Program) : Ctx := ctxOf P (bdL c.bds)
/-- The outcomes of a contract's function. -/
def Con.tree (c : Con) (P : Program) (K : Know) (L : Nat) (pol : FuncId → Nat → Bool) (pure : FuncId → Bool) (d : Nat) (facts : Dec) : Out :=
  oTree (c.ctx P) (smKnow (c.ctx P) K) L pol pure d (facts ++ c.pre) c.g c.args (treeOf c.os 0 .nil) c.os.length
def qN (bd : Bd) (obs : List (Dec × IE × IE)) (dec : Dec) (a b : IE) : Bool :=
  match a.eqN bd dec b with
  | true => true
  | false => obs.any fun o => a.eq o.2.1 && (b.eq o.2.2 && o.1.all fun p => match settle dec p.1 with
    | some v => bEq v p.2
    | none => false)
def obsOk (ρ : Env) (obs : List (Dec × IE × IE)) : Prop := ∀ o ∈ obs, Dec.holds ρ o.1 → o.2.1.ev ρ = o.2.2.ev ρ
theorem qN_ok {ρ : Env} {bd : Bd} (hρ : ρ.ok bd) {dec : Dec} (hd : dec.holds ρ) {obs : List (Dec × IE × IE)} (ho : obsOk ρ obs) {a b : IE} (h : qN bd obs dec a b = true) : a.ev ρ = b.ev ρ := by
  unfold qN at h
  split at h
  · rename_i h1
    exact IE.eqN_ev hρ hd h1
  · obtain ⟨o, h1, h2⟩ := List.any_eq_true.1 h
    obtain ⟨h3, h4⟩ := and_split h2
    obtain ⟨h4, h5⟩ := and_split h4
    rw [IE.eq_eq h3, IE.eq_eq h4]
    refine ho o h1 fun p hp => ?_
    have := List.all_eq_true.1 h5 p hp
    split at this
    · rename_i v hv
      rw [settle_ok hd _ _ hv, bEq_eq this]
    · cases this
/-- Equal, if need be by cases. -/
def qP (bd : Bd) (k : Nat) (dec : Dec) (a b : IE) : Bool :=
  match a.eqN bd dec b with
  | true => true
  | false =>
    match prove bd k dec (mkEq bd a b) with
    | some v => v
    | none => false
theorem qP_ok {ρ : Env} {bd : Bd} (hρ : ρ.ok bd) {k : Nat} {dec : Dec} (hd : dec.holds ρ) {a b : IE} (h : qP bd k dec a b = true) : a.ev ρ = b.ev ρ := by
  unfold qP at h
  split at h
  · rename_i h1
    exact IE.eqN_ev hρ hd h1
  · split at h
    · rename_i v hv
      subst h
      have := prove_ok hρ k dec _ _ hd hv
      rw [mkEq_ev hρ] at this
      exact of_decide_eq_true this
    · cases h
theorem holds_app {ρ : Env} {a b : Dec} (h : a.holds ρ) (k : b.holds ρ) : Dec.holds ρ (a ++ b) := by
  intro p hp
  rcases List.mem_append.1 hp with h1 | h1
  · exact h p h1
  · exact k p h1
section
variable {P : Program} {G : Nat → Int → Int → Int → Int} {GH : Nat → Ghost} {c : Con} {K : Know}
/-- One outcome of a contract's tree, where its conditions hold. -/
theorem Con.tree_goes (mixed : P.follows .mixedOrders = true) (hK : K.Ok P G GH) {L : Nat} {pol : FuncId → Nat → Bool} {pure : FuncId → Bool} {d : Nat} {facts : Dec} {ρ : Env} (h1 : ρ.std G GH) (h2 : ρ.ok (bdL c.bds)) (h3 : c.pre.holds ρ) (hf : facts.holds ρ) {e : AExit} {s : ASt}
    (hs : (c.tree P K L pol pure d facts).pick ρ = some (e, s)) : ∀ B W, CallGoes P ρ B W c.g c.args (treeOf c.os 0 .nil) c.os.length s := by
  intro B W
  have hC : (c.ctx P).Ok P ρ := ctxOf_ok mixed h2
  exact oTree_ok hC (smKnow_ok hC h1 hK) L pol pure d B W _ (holds_app hf h3) _ _ _ _ _ _ hs
theorem Con.ok_of (mixed : P.follows .mixedOrders = true) (hK : K.Ok P G GH) {L : Nat} {pol : FuncId → Nat → Bool} {pure : FuncId → Bool} {d : Nat} {facts : Dec} (hf : ∀ ρ : Env, ρ.std G GH → ρ.ok (bdL c.bds) → c.pre.holds ρ → facts.holds ρ) (h : c.Leaves G GH (c.tree P K L pol pure d facts)) : c.Ok P G GH := by
  refine Con.of_ends fun ρ h1 h2 h3 => ?_
  obtain ⟨e, s, at', q, p1, p2, p3⟩ := h ρ h1 h2 h3
  exact ⟨s, at', q, Con.tree_goes mixed hK h1 h2 h3 (hf ρ h1 h2 h3) p1, p2, p3⟩
theorem Con.leaves (facts : Dec) (hf : ∀ ρ : Env, ρ.std G GH → ρ.ok (bdL c.bds) → c.pre.holds ρ → facts.holds ρ) (obs : List (Dec × IE × IE)) (ho : ∀ ρ : Env, ρ.std G GH → ρ.ok (bdL c.bds) → c.pre.holds ρ → obsOk ρ obs) {o : Out} (h : o.all (c.leaf (qN (bdL c.bds) obs)) (facts ++ c.pre) = true) : c.Leaves G GH o := by
  intro ρ h1 h2 h3
  obtain ⟨e, s, dec', hd', p1, p2⟩ := Out.all_pick (holds_app (hf ρ h1 h2 h3) h3) h
  unfold Con.leaf at p2
  split at p2
  · rename_i q hq
    exact ⟨e, s, _, q, p1, hq, prsAll_ok (fun a b hab => qN_ok h2 hd' (ho ρ h1 h2 h3) hab) p2⟩
  · cases p2
theorem Con.of_tree (mixed : P.follows .mixedOrders = true) (hK : K.Ok P G GH) (L : Nat) (pol : FuncId → Nat → Bool) (pure : FuncId → Bool) (d : Nat) (facts : Dec) (hf : ∀ ρ : Env, ρ.std G GH → ρ.ok (bdL c.bds) → c.pre.holds ρ → facts.holds ρ)
    (obs : List (Dec × IE × IE)) (ho : ∀ ρ : Env, ρ.std G GH → ρ.ok (bdL c.bds) → c.pre.holds ρ → obsOk ρ obs) (h : (c.tree P K L pol pure d facts).all (c.leaf (qN (bdL c.bds) obs)) (facts ++ c.pre) = true) : c.Ok P G GH :=
  Con.ok_of mixed hK hf (Con.leaves facts hf obs ho h)
/-- Where no test is open: one run. -/
def Con.runs (c : Con) (P : Program) (l : List Con) (L d : Nat) : Bool :=
  match aCallN ((c.ctx P).with c.pre) (aDraw ((c.ctx P).with c.pre)) ⟨conCall ((c.ctx P).with c.pre) l, fun _ _ _ _ => none⟩ L d c.g c.args (treeOf c.os 0 .nil) c.os.length with
  | some (v, h, nx) => c.leaf (qN (bdL c.bds) []) c.pre .ret ⟨T.nil.set 0 v, h, nx⟩
  | none => false
theorem Con.of_run (mixed : P.follows .mixedOrders = true) {l : List Con} (hl : ConsOk P G GH l) (L d : Nat) (h : c.runs P l L d = true) : c.Ok P G GH := by
  refine Con.of_ends fun ρ h1 h2 h3 => ?_
  unfold Con.runs at h
  split at h
  · rename_i v hp nx hr
    have hC : ((c.ctx P).with c.pre).Ok P ρ := (ctxOf_ok mixed h2 : (c.ctx P).Ok P ρ).with h3
    unfold Con.leaf at h
    split at h
    · rename_i q hq
      refine ⟨_, _, q, fun B W => ?_, hq, prsAll_ok (fun a b hab => qN_ok h2 h3 (fun o ho => by cases ho) hab) h⟩
      have hsm : SumsOk P ρ B W ⟨conCall ((c.ctx P).with c.pre) l, fun _ _ _ _ => none⟩ := ⟨conCall_ok hC h1 hl, fun _ _ _ _ _ _ _ _ => LoopOk.none⟩
      obtain ⟨q1, q2⟩ := aCallN_ok hC (aDraw_ok hC) hsm L d _ _ _ _ _ _ _ hr
      refine ⟨q1, fun f w args' hr ha hf => (q2 f w args' hr ha hf).mono fun e w' ⟨v', f', a1, a2, a3, a4, a5⟩ => ⟨v', f', a1, a2, a3, a4, fun u hu => ?_⟩⟩
      have hu : (T.nil.set 0 v).get 0 = some u := hu
      rcases T.get_set hu with ⟨_, rfl⟩ | ⟨h0, _⟩
      · exact a5
      · exact absurd rfl h0
    · cases h
  · cases h
/-- The loops of a function of which something is known. -/
def loopsFor (g : FuncId) : List LCon → List LCon
  | [] => []
  | c :: l =>
    match Nat.beq g c.con.g with
    | true => c :: loopsFor g l
    | false => loopsFor g l
theorem loopsFor_mem {g : FuncId} {l : List LCon} {c : LCon} (h : c ∈ loopsFor g l) : c ∈ l := by
  induction l with
  | nil => cases h
  | cons x l ih =>
    unfold loopsFor at h
    split at h
    · rcases List.mem_cons.1 h with rfl | h
      · exact List.mem_cons_self ..
      · exact List.mem_cons_of_mem _ (ih h)
    · exact List.mem_cons_of_mem _ (ih h)
def sumK (C : Ctx) (K : Know) : Sums := ⟨conCall C K.cons, fun g n k s => loopRun C (loopsFor g K.loops) g n k s⟩
theorem sumK_ok {C : Ctx} {ρ : Env} (hC : C.Ok P ρ) (hρ : ρ.std G GH) (hK : K.Ok P G GH) (B : Nat → Prop) (W : World) : SumsOk P ρ B W (sumK C K) := by
  refine ⟨conCall_ok hC hρ hK.cons, fun g fn cd hf hb b hm n s e s' h => ?_⟩
  have key : ∀ l : List LCon, (∀ c ∈ l, c.con.wf = true ∧ c.Ok P G GH) → loopRun C l g n (Code.key b) s = some (e, s') → ∃ m, GoesR P ρ B W n b m s e s' := by
    intro l
    induction l with
    | nil => intro _ h; cases h
    | cons c l ih =>
      intro hl h
      have hl' : ∀ c ∈ l, c.con.wf = true ∧ c.Ok P G GH := fun c hc => hl c (List.mem_cons_of_mem _ hc)
      unfold loopRun at h
      split at h
      · rename_i hck
        obtain ⟨k1, hck⟩ := and_split hck
        obtain ⟨k2, hck⟩ := and_split hck
        obtain ⟨k3, _⟩ := and_split hck
        have k1 := Nat.eq_of_beq_eq_true k1
        have k2 := Nat.eq_of_beq_eq_true k2
        have k3 := Nat.eq_of_beq_eq_true k3
        split at h
        · rename_i r hr
          cases h
          obtain ⟨w1, w2⟩ := hl c (List.mem_cons_self ..)
          subst k3
          exact LCon.run_ok hC hρ w1 w2 (by rw [← k1]; exact hf) hb hm k2 hr
        · exact ih hl' h
      · exact ih hl' h
  exact key _ (fun c hc => hK.loops c (loopsFor_mem hc)) h
/-- The same, with what is known of loops. -/
def Con.runsK (c : Con) (P : Program) (K : Know) (L d : Nat) : Bool :=
  match aCallN ((c.ctx P).with c.pre) (aDraw ((c.ctx P).with c.pre)) (sumK ((c.ctx P).with c.pre) K) L d c.g c.args (treeOf c.os 0 .nil) c.os.length with
  | some (v, h, nx) => c.leaf (qN (bdL c.bds) []) c.pre .ret ⟨T.nil.set 0 v, h, nx⟩
  | none => false
theorem Con.of_runK (mixed : P.follows .mixedOrders = true) (hK : K.Ok P G GH) (L d : Nat) (h : c.runsK P K L d = true) : c.Ok P G GH := by
  refine Con.of_ends fun ρ h1 h2 h3 => ?_
  unfold Con.runsK at h
  split at h
  · rename_i v hp nx hr
    have hC : ((c.ctx P).with c.pre).Ok P ρ := (ctxOf_ok mixed h2 : (c.ctx P).Ok P ρ).with h3
    unfold Con.leaf at h
    split at h
    · rename_i q hq
      refine ⟨_, _, q, fun B W => ?_, hq, prsAll_ok (fun a b hab => qN_ok h2 h3 (fun o ho => by cases ho) hab) h⟩
      obtain ⟨q1, q2⟩ := aCallN_ok hC (aDraw_ok hC) (sumK_ok hC h1 hK B W) L d _ _ _ _ _ _ _ hr
      refine ⟨q1, fun f w args' hr ha hf => (q2 f w args' hr ha hf).mono fun e w' ⟨v', f', a1, a2, a3, a4, a5⟩ => ⟨v', f', a1, a2, a3, a4, fun u hu => ?_⟩⟩
      have hu : (T.nil.set 0 v).get 0 = some u := hu
      rcases T.get_set hu with ⟨_, rfl⟩ | ⟨h0, _⟩
      · exact a5
      · exact absurd rfl h0
    · cases h
  · cases h
end

/-! functions given by a tree -/
def IE.only (V : Nat → Bool) (K : Nat) : IE → Bool
  | .lit _ => true
  | .var i => V i
  | .add a b => a.only V K && b.only V K
  | .sub a b => a.only V K && b.only V K
  | .mul a b => a.only V K && b.only V K
  | .wrap _ a => a.only V K
  | .bits _ _ a b => a.only V K && b.only V K
  | .quo a b => a.only V K && b.only V K
  | .rem a b => a.only V K && b.only V K
  | .shl _ a b => a.only V K && b.only V K
  | .shr _ a b => a.only V K && b.only V K
  | .fn c x y z => Nat.blt c K && (x.only V K && (y.only V K && z.only V K))
  | .sel _ a b x y => a.only V K && (b.only V K && (x.only V K && y.only V K))
def BE.only (V : Nat → Bool) (K : Nat) : BE → Bool
  | .lit _ => true
  | .var _ => false
  | .eq a b => a.only V K && b.only V K
  | .lt a b => a.only V K && b.only V K
  | .not a => a.only V K
section
variable {ρ ρ' : Env} {V : Nat → Bool} {K : Nat} (hi : ∀ i, V i = true → ρ.i i = ρ'.i i) (hg : ∀ c, c < K → ρ.g c = ρ'.g c)
include hi hg
theorem IE.only_ev (e : IE) : e.only V K = true → e.ev ρ = e.ev ρ' := by
  induction e with
  | lit n => intro _; rfl
  | var i => intro h; exact hi i h
  | add a b iha ihb => intro h; obtain ⟨h1, h2⟩ := and_split h; simp only [IE.ev, iha h1, ihb h2]
  | sub a b iha ihb => intro h; obtain ⟨h1, h2⟩ := and_split h; simp only [IE.ev, iha h1, ihb h2]
  | mul a b iha ihb => intro h; obtain ⟨h1, h2⟩ := and_split h; simp only [IE.ev, iha h1, ihb h2]
  | wrap k a iha => intro h; simp only [IE.ev, iha h]
  | bits op k a b iha ihb => intro h; obtain ⟨h1, h2⟩ := and_split h; simp only [IE.ev, iha h1, ihb h2]
  | quo a b iha ihb => intro h; obtain ⟨h1, h2⟩ := and_split h; simp only [IE.ev, iha h1, ihb h2]
  | rem a b iha ihb => intro h; obtain ⟨h1, h2⟩ := and_split h; simp only [IE.ev, iha h1, ihb h2]
  | shl k a b iha ihb => intro h; obtain ⟨h1, h2⟩ := and_split h; simp only [IE.ev, iha h1, ihb h2]
  | shr k a b iha ihb => intro h; obtain ⟨h1, h2⟩ := and_split h; simp only [IE.ev, iha h1, ihb h2]
  | fn c x y z ihx ihy ihz =>
    intro h
    obtain ⟨h0, h⟩ := and_split h
    obtain ⟨h1, h⟩ := and_split h
    obtain ⟨h2, h3⟩ := and_split h
    have h0 : c < K := by simpa [Nat.blt_eq] using h0
    simp only [IE.ev, ihx h1, ihy h2, ihz h3, fnI, hg c h0]
  | sel s a b x y iha ihb ihx ihy =>
    intro h
    obtain ⟨h0, h⟩ := and_split h
    obtain ⟨h1, h⟩ := and_split h
    obtain ⟨h2, h3⟩ := and_split h
    simp only [IE.ev, iha h0, ihb h1, ihx h2, ihy h3]
theorem BE.only_ev (e : BE) : e.only V K = true → e.ev ρ = e.ev ρ' := by
  induction e with
  | lit b => intro _; rfl
  | var i => intro h; cases h
  | eq a b => intro h; obtain ⟨h1, h2⟩ := and_split h; simp only [BE.ev, IE.only_ev hi hg a h1, IE.only_ev hi hg b h2]
  | lt a b => intro h; obtain ⟨h1, h2⟩ := and_split h; simp only [BE.ev, IE.only_ev hi hg a h1, IE.only_ev hi hg b h2]
  | not a ih => intro h; simp only [BE.ev, ih h]
end
/-- A tree of rows of integers; where a loop goes on, what stands for its symbols. -/
inductive RT where
  | bad
  | again (x : IE)
  | done (l : List IE)
  | split (b : BE) (y n : RT)
inductive RV where
  | bad
  | again (x : Int)
  | done (l : List Int)
def RT.pick (ρ : Env) : RT → RV
  | .bad => .bad
  | .again x => .again (x.ev ρ)
  | .done l => .done (l.map (·.ev ρ))
  | .split b y n => pickV (b.ev ρ) (y.pick ρ) (n.pick ρ)
def RT.only (V : Nat → Bool) (K : Nat) : RT → Bool
  | .bad => true
  | .again x => x.only V K
  | .done l => l.all (IE.only V K)
  | .split b y n => b.only V K && (y.only V K && n.only V K)
theorem RT.only_pick {ρ ρ' : Env} {V : Nat → Bool} {K : Nat} (hi : ∀ i, V i = true → ρ.i i = ρ'.i i) (hg : ∀ c, c < K → ρ.g c = ρ'.g c) (t : RT) : t.only V K = true → t.pick ρ = t.pick ρ' := by
  induction t with
  | bad => intro _; rfl
  | again x => intro h; simp only [RT.pick, IE.only_ev hi hg x h]
  | done l =>
    intro h
    simp only [RT.only, List.all_eq_true] at h
    simp only [RT.pick]
    congr 1
    exact List.map_congr_left fun e he => IE.only_ev hi hg e (h e he)
  | split b y n ihy ihn =>
    intro h
    obtain ⟨h1, h2⟩ := and_split h
    obtain ⟨h2, h3⟩ := and_split h2
    simp only [RT.pick, BE.only_ev hi hg b h1, ihy h2, ihn h3]
/-! several numbers as one -/
def zz : Int → Nat
  | .ofNat n => 2 * n
  | .negSucc n => 2 * n + 1
def pairI (a b : Int) : Int := (2 ^ zz a * (2 * zz b + 1) : Nat)
theorem zz_inj {a b : Int} (h : zz a = zz b) : a = b := by
  cases a <;> cases b <;> simp only [zz] at h <;> first | (congr 1; omega) | omega
theorem pow_odd : ∀ (a c x y : Nat), 2 ^ a * (2 * x + 1) = 2 ^ c * (2 * y + 1) → a = c ∧ x = y := by
  intro a
  induction a with
  | zero =>
    intro c x y h
    cases c with
    | zero => simp at h; exact ⟨rfl, by omega⟩
    | succ c => rw [Nat.pow_succ] at h; have : 2 ^ c * 2 * (2 * y + 1) = 2 * (2 ^ c * (2 * y + 1)) := by rw [Nat.mul_comm (2 ^ c) 2, Nat.mul_assoc]
                omega
  | succ a ih =>
    intro c x y h
    have e1 : 2 ^ (a + 1) * (2 * x + 1) = 2 * (2 ^ a * (2 * x + 1)) := by rw [Nat.pow_succ, Nat.mul_comm (2 ^ a) 2, Nat.mul_assoc]
    cases c with
    | zero => omega
    | succ c =>
      have e2 : 2 ^ (c + 1) * (2 * y + 1) = 2 * (2 ^ c * (2 * y + 1)) := by rw [Nat.pow_succ, Nat.mul_comm (2 ^ c) 2, Nat.mul_assoc]
      obtain ⟨h1, h2⟩ := ih c x y (by omega)
      exact ⟨by omega, h2⟩
theorem pairI_inj {a b c d : Int} (h : pairI a b = pairI c d) : a = c ∧ b = d := by
  obtain ⟨h1, h2⟩ := pow_odd _ _ _ _ (Int.ofNat.inj h)
  exact ⟨zz_inj h1, zz_inj h2⟩
open Classical in
def unpI (x : Int) : Int × Int := if h : ∃ p : Int × Int, pairI p.1 p.2 = x then Classical.choose h else (0, 0)
theorem unpI_pair (a b : Int) : unpI (pairI a b) = (a, b) := by
  have h : ∃ p : Int × Int, pairI p.1 p.2 = pairI a b := ⟨(a, b), rfl⟩
  unfold unpI
  rw [dif_pos h]
  obtain ⟨h1, h2⟩ := pairI_inj (Classical.choose_spec h)
  exact Prod.ext h1 h2
def unpN (x : Int) : Nat → Int
  | 0 => (unpI x).1
  | n + 1 => unpN (unpI x).2 n
def packL : List Int → Int
  | [] => 0
  | a :: l => pairI a (packL l)
theorem unpN_pack : ∀ (l : List Int) (j : Nat) (a : Int), l[j]? = some a → unpN (packL l) j = a := by
  intro l
  induction l with
  | nil => intro j a h; simp at h
  | cons x l ih =>
    intro j a h
    cases j with
    | zero => simp at h; subst h; unfold unpN packL; rw [unpI_pair]
    | succ j => unfold unpN packL; rw [unpI_pair]; exact ih j a (by simpa using h)
/-- The function that makes one number of two. -/
def KP : Nat := 9
def packIE : List Nat → IE
  | [] => .lit 0
  | v :: l => .fn KP (.var v) (packIE l) (.lit 0)
def Packs (G : Nat → Int → Int → Int → Int) : Prop := ∀ x y z, G KP x y z = pairI x y
theorem packIE_ev {ρ : Env} (hG : Packs ρ.g) : ∀ l : List Nat, (packIE l).ev ρ = packL (l.map ρ.i) := by
  intro l
  induction l with
  | nil => rfl
  | cons v l ih =>
    show fnI ρ KP (ρ.i v) ((packIE l).ev ρ) 0 = _
    rw [ih]
    have : fnI ρ KP (ρ.i v) (packL (l.map ρ.i)) 0 = ρ.g KP (ρ.i v) (packL (l.map ρ.i)) 0 := rfl
    rw [this, hG]
    rfl
/-- Functions of the symbols, as digits of a row (KR) and one by one (KV). -/
structure Fns where
  KR : Nat
  KV : Nat
  vars : List Nat
def Fns.x (F : Fns) : IE := packIE F.vars
def Fns.is (F : Fns) (G : Nat → Int → Int → Int → Int) (X : Int) (l : List Int) : Prop := G F.KR X 0 0 = (rowOf l : Nat) ∧ ∀ z : Int, G F.KV X 0 z = l.getD z.toNat 0
def Fns.alike (F : Fns) (G : Nat → Int → Int → Int → Int) (X Y : Int) : Prop := G F.KR X 0 0 = G F.KR Y 0 0 ∧ ∀ z : Int, G F.KV X 0 z = G F.KV Y 0 z
/-- The functions are those of a tree. -/
def Fns.Def (F : Fns) (G : Nat → Int → Int → Int → Int) (t : RT) : Prop :=
  ∀ ρ : Env, ρ.g = G → match t.pick ρ with
    | .bad => True
    | .again X => F.alike G (F.x.ev ρ) X
    | .done l => F.is G (F.x.ev ρ) l
/-- The number behind 'the same function elsewhere'. -/
def defX (F : Fns) : IE → IE → Option IE
  | .wrap k (.fn c0 (.fn c1 x y (.lit z)) (.lit (.ofNat i)) _), e =>
    match e with
    | .wrap k' (.fn d0 (.fn d1 x' y' (.lit z')) (.lit (.ofNat i')) _) =>
      match Nat.beq c0 0 && (Nat.beq d0 0 && (Nat.beq c1 F.KR && (Nat.beq d1 F.KR && (kindEq k k' && (x.eq F.x && (y.eq (.lit 0) && (y'.eq (.lit 0) && (intEq z 0 && (intEq z' 0 && Nat.beq i i'))))))))) with
      | true => some x'
      | false => none
    | _ => none
  | .fn c x y (.lit (.ofNat i)), e =>
    match e with
    | .fn d x' y' (.lit (.ofNat i')) =>
      match Nat.beq c F.KV && (Nat.beq d F.KV && (x.eq F.x && (y.eq (.lit 0) && (y'.eq (.lit 0) && Nat.beq i i')))) with
      | true => some x'
      | false => none
    | _ => none
  | .sel false (.fn c x y (.lit (.ofNat i))) (.lit a) (.lit b) (.lit d), e =>
    match e with
    | .sel false (.fn c' x' y' (.lit (.ofNat i'))) (.lit a') (.lit b') (.lit d') =>
      match Nat.beq c F.KV && (Nat.beq c' F.KV && (x.eq F.x && (y.eq (.lit 0) && (y'.eq (.lit 0) && (Nat.beq i i' && (intEq a a' && (intEq b b' && intEq d d'))))))) with
      | true => some x'
      | false => none
    | _ => none
  | _, _ => none
theorem fn_big {ρ : Env} {c : Nat} (h : 7 < c) (x y z : Int) : fnI ρ c x y z = ρ.g c x y z := by
  unfold fnI fnL
  match c, h with
  | n + 8, _ => rfl
theorem defX_ok {F : Fns} (hk : 7 < F.KR ∧ 7 < F.KV) {ρ : Env} {p e X : IE} (h : defX F p e = some X) (ha : F.alike ρ.g (F.x.ev ρ) (X.ev ρ)) : p.ev ρ = e.ev ρ := by
  obtain ⟨a1, a2⟩ := ha
  unfold defX at h
  split at h
  · rename_i k c0 c1 x y z i q0
    split at h
    · rename_i k' d0 d1 x' y' z' i' q1
      split at h
      · rename_i hck
        cases h
        obtain ⟨k1, hck⟩ := and_split hck
        obtain ⟨k2, hck⟩ := and_split hck
        obtain ⟨k3, hck⟩ := and_split hck
        obtain ⟨k4, hck⟩ := and_split hck
        obtain ⟨k5, hck⟩ := and_split hck
        obtain ⟨k6, hck⟩ := and_split hck
        obtain ⟨k7, hck⟩ := and_split hck
        obtain ⟨k8, hck⟩ := and_split hck
        obtain ⟨k9, hck⟩ := and_split hck
        obtain ⟨k10, k11⟩ := and_split hck
        have k1 := Nat.eq_of_beq_eq_true k1; have k2 := Nat.eq_of_beq_eq_true k2; have k3 := Nat.eq_of_beq_eq_true k3; have k4 := Nat.eq_of_beq_eq_true k4
        have k5 := kindEq_eq k5; have k6 := IE.eq_eq k6; have k7 := IE.eq_eq k7; have k8 := IE.eq_eq k8; have k9 := intEq_eq k9; have k10 := intEq_eq k10; have k11 := Nat.eq_of_beq_eq_true k11
        subst k1; subst k2; subst k3; subst k4; subst k5; subst k6; subst k7; subst k8; subst k9; subst k10; subst k11
        show k.wrap (rowGet (fnI ρ F.KR (F.x.ev ρ) 0 0) _) = k.wrap (rowGet (fnI ρ F.KR (X.ev ρ) 0 0) _)
        rw [fn_big hk.1, fn_big hk.1, a1]
      · cases h
    · cases h
  · split at h
    · split at h
      · rename_i hck
        cases h
        obtain ⟨k1, hck⟩ := and_split hck
        obtain ⟨k2, hck⟩ := and_split hck
        obtain ⟨k3, hck⟩ := and_split hck
        obtain ⟨k4, hck⟩ := and_split hck
        obtain ⟨k5, k6⟩ := and_split hck
        have k1 := Nat.eq_of_beq_eq_true k1; have k2 := Nat.eq_of_beq_eq_true k2; have k3 := IE.eq_eq k3; have k4 := IE.eq_eq k4; have k5 := IE.eq_eq k5; have k6 := Nat.eq_of_beq_eq_true k6
        subst k1; subst k2; subst k3; subst k4; subst k5; subst k6
        show fnI ρ F.KV (F.x.ev ρ) 0 _ = fnI ρ F.KV (X.ev ρ) 0 _
        rw [fn_big hk.2, fn_big hk.2, a2]
      · cases h
    · cases h
  · split at h
    · split at h
      · rename_i hck
        cases h
        obtain ⟨k1, hck⟩ := and_split hck
        obtain ⟨k2, hck⟩ := and_split hck
        obtain ⟨k3, hck⟩ := and_split hck
        obtain ⟨k4, hck⟩ := and_split hck
        obtain ⟨k5, hck⟩ := and_split hck
        obtain ⟨k6, hck⟩ := and_split hck
        obtain ⟨k7, hck⟩ := and_split hck
        obtain ⟨k8, k9⟩ := and_split hck
        have k1 := Nat.eq_of_beq_eq_true k1; have k2 := Nat.eq_of_beq_eq_true k2; have k3 := IE.eq_eq k3; have k4 := IE.eq_eq k4; have k5 := IE.eq_eq k5; have k6 := Nat.eq_of_beq_eq_true k6
        have k7 := intEq_eq k7; have k8 := intEq_eq k8; have k9 := intEq_eq k9
        subst k1; subst k2; subst k3; subst k4; subst k5; subst k6; subst k7; subst k8; subst k9
        show selI false (fnI ρ F.KV (F.x.ev ρ) 0 _) _ _ _ = selI false (fnI ρ F.KV (X.ev ρ) 0 _) _ _ _
        rw [fn_big hk.2, fn_big hk.2, a2]
      · cases h
    · cases h
  · cases h
/-- A row whose first digits are given, and the rest of it. -/
def top5 : IE → Option (IE × Nat × IE)
  | .fn c d (.lit (.ofNat n)) q =>
    match Nat.beq c 5 with
    | true => some (d, n, q)
    | false => none
  | _ => none
theorem top5_eq {e d q : IE} {n : Nat} (h : top5 e = some (d, n, q)) : e = .fn 5 d (.lit (.ofNat n)) q := by
  unfold top5 at h
  split at h
  · split at h
    · rename_i hc
      cases h
      rw [Nat.eq_of_beq_eq_true hc]
    · cases h
  · cases h
/-- The row v, turned behind its n first digits alone. -/
def keepsRow (bd : Bd) (v n : Nat) : IE → Bool
  | .var w => Nat.beq w v
  | .fn c d j _ =>
    match Nat.beq c 1, rng bd j with
    | true, some (l, _) =>
      match intLe (.ofNat n) l with
      | true => keepsRow bd v n d
      | false => false
    | _, _ => false
  | _ => false
theorem keepsRow_ok {ρ : Env} {bd : Bd} (hρ : ρ.ok bd) {v n : Nat} : ∀ {e : IE}, keepsRow bd v n e = true → rowCut (ρ.i v) 0 n = rowCut (e.ev ρ) 0 n := by
  intro e
  induction e with
  | var w => intro h; rw [Nat.eq_of_beq_eq_true h]; rfl
  | fn c d j x ih _ _ =>
    intro h
    unfold keepsRow at h
    split at h
    · rename_i l hi hc hr
      split at h
      · rename_i hl
        have hc := Nat.eq_of_beq_eq_true hc
        subst hc
        rw [intLe_iff] at hl
        have hl := of_decide_eq_true hl
        obtain ⟨r1, r2⟩ := rng_ok hρ j _ _ hr
        have hl : (n : Int) ≤ l := hl
        obtain ⟨m, hm⟩ := Int.eq_ofNat_of_zero_le (show 0 ≤ j.ev ρ by omega)
        rw [ih h]
        show _ = rowCut (rowSet (d.ev ρ) (j.ev ρ) (x.ev ρ)) 0 n
        rw [hm, rowCut_set _ _ _ _ (by omega)]
      · cases h
    · cases h
  | _ => intro h; cases h
def defXb (F : Fns) (p e : IE) : Option IE :=
  match top5 p, top5 e with
  | some (_, _, q), some (_, _, q') => defX F q q'
  | _, _ => defX F p e
def keep5 (bd : Bd) (p e : IE) : Bool :=
  match top5 p, top5 e with
  | some (d, n, _), some (d', n', _) =>
    match d with
    | .var v => Nat.beq n n' && keepsRow bd v n d'
    | _ => false
  | _, _ => true
theorem defXb_ok {F : Fns} (hk : 7 < F.KR ∧ 7 < F.KV) {ρ : Env} {bd : Bd} (hρ : ρ.ok bd) {p e X : IE} (h : defXb F p e = some X) (h5 : keep5 bd p e = true) (ha : F.alike ρ.g (F.x.ev ρ) (X.ev ρ)) : p.ev ρ = e.ev ρ := by
  unfold defXb at h
  unfold keep5 at h5
  split at h
  · rename_i d n q d' n' q' hp he
    rw [hp, he] at h5
    simp only at h5
    split at h5
    · rename_i v
      obtain ⟨k1, k2⟩ := and_split h5
      have k1 := Nat.eq_of_beq_eq_true k1
      subst k1
      rw [top5_eq hp, top5_eq he]
      show rowTop (ρ.i v) (n : Nat) (q.ev ρ) = rowTop (d'.ev ρ) (n : Nat) (q'.ev ρ)
      rw [defX_ok hk h ha, rowTop_congr (keepsRow_ok hρ k2)]
    · cases h5
  · exact defX_ok hk h ha
def defXs (bd : Bd) (F : Fns) (X : IE) : Prs → Bool
  | [] => true
  | p :: l =>
    match p.1.eq p.2 with
    | true => defXs bd F X l
    | false =>
      match defXb F p.1 p.2 with
      | some Y =>
        match Y.eq X && keep5 bd p.1 p.2 with
        | true => defXs bd F X l
        | false => false
      | none => false
theorem defXs_ok {F : Fns} (hk : 7 < F.KR ∧ 7 < F.KV) {ρ : Env} {bd : Bd} (hρ : ρ.ok bd) {X : IE} (ha : F.alike ρ.g (F.x.ev ρ) (X.ev ρ)) : ∀ {l : Prs}, defXs bd F X l = true → l.hold ρ := by
  intro l
  induction l with
  | nil => intro _ p hp; cases hp
  | cons x l ih =>
    intro h p hp
    unfold defXs at h
    split at h
    · rename_i hx
      rcases List.mem_cons.1 hp with rfl | hp
      · rw [IE.eq_eq hx]
      · exact ih h p hp
    · split at h
      · rename_i Y hY
        split at h
        · rename_i he
          obtain ⟨he, h5⟩ := and_split he
          rw [IE.eq_eq he] at hY
          rcases List.mem_cons.1 hp with rfl | hp
          · exact defXb_ok hk hρ hY h5 ha
          · exact ih h p hp
        · cases h
      · cases h
def inBelow (m : Int) : Option (Int × Int) → Bool
  | some (l, h) => intLe 0 l && intLt h m
  | none => false
/-- What the contract says, in terms of the functions: the pair numbered j. -/
def defPair (bd : Bd) (F : Fns) (j : Nat) (p e : IE) : Bool :=
  match p with
  | .wrap k (.fn c0 (.fn c1 x y (.lit z)) (.lit (.ofNat i)) _) => Nat.beq c0 0 && (Nat.beq c1 F.KR && (x.eq F.x && (y.eq (.lit 0) && (intEq z 0 && (Nat.beq i j && fits k (rng bd e))))))
  | .fn c x y (.lit (.ofNat i)) => Nat.beq c F.KV && (x.eq F.x && (y.eq (.lit 0) && Nat.beq i j))
  | .sel false (.fn c x y (.lit (.ofNat i))) (.lit a) (.lit b) (.lit d) => Nat.beq c F.KV && (x.eq F.x && (y.eq (.lit 0) && (Nat.beq i j && (intEq a 1 && (intEq b 1 && (intEq d 0 && in01 (rng bd e)))))))
  | .rem (.wrap k (.fn c0 (.fn c1 x y (.lit z)) (.lit (.ofNat i)) _)) (.lit m) => Nat.beq c0 0 && (Nat.beq c1 F.KR && (x.eq F.x && (y.eq (.lit 0) && (intEq z 0 && (Nat.beq i j && (fits k (rng bd e) && inBelow m (rng bd e)))))))
  | _ => false
where in01 : Option (Int × Int) → Bool
  | some (l, h) => intLe 0 l && intLe h 1
  | none => false
/-- The same, where the row's first digits are those of a symbol. -/
def defPairT (bd : Bd) (F : Fns) (j : Nat) (p e : IE) : Bool :=
  match top5 p with
  | some (d, n, q) =>
    match d with
    | .var v => defPair bd F j q e && keepsRow bd v n e
    | _ => false
  | none => defPair bd F j p e
def defPairs (bd : Bd) (F : Fns) : Nat → Prs → Bool
  | _, [] => true
  | j, p :: l =>
    match p.1.eq p.2 with
    | true => defPairs bd F (j + 1) l
    | false => defPairT bd F j p.1 p.2 && defPairs bd F (j + 1) l
theorem defPair_ok {ρ : Env} {bd : Bd} (hρ : ρ.ok bd) {F : Fns} (hk : 7 < F.KR ∧ 7 < F.KV) {t : List Int} (hF : F.is ρ.g (F.x.ev ρ) t) {j : Nat} {p e : IE} (ht : t[j]? = some (e.ev ρ)) (h : defPair bd F j p e = true) : p.ev ρ = e.ev ρ := by
  obtain ⟨hR, hV⟩ := hF
  unfold defPair at h
  split at h
  · rename_i k c0 c1 x y z i q
    obtain ⟨k1, h⟩ := and_split h
    obtain ⟨k2, h⟩ := and_split h
    obtain ⟨k3, h⟩ := and_split h
    obtain ⟨k4, h⟩ := and_split h
    obtain ⟨k5, h⟩ := and_split h
    obtain ⟨k6, k7⟩ := and_split h
    have k1 := Nat.eq_of_beq_eq_true k1; have k2 := Nat.eq_of_beq_eq_true k2; have k3 := IE.eq_eq k3; have k4 := IE.eq_eq k4; have k5 := intEq_eq k5; have k6 := Nat.eq_of_beq_eq_true k6
    subst k1; subst k2; subst k3; subst k4; subst k5; subst k6
    have hf := fits_ok hρ k7
    show k.wrap (rowGet (fnI ρ F.KR (F.x.ev ρ) 0 0) (i : Nat)) = e.ev ρ
    rw [fn_big hk.1, hR, rowGet_of t i _ ht (kind_inRow hf.1 hf.2)]
    exact wrap_id k _ hf.1 hf.2
  · rename_i c x y i
    obtain ⟨k1, h⟩ := and_split h
    obtain ⟨k2, h⟩ := and_split h
    obtain ⟨k3, k4⟩ := and_split h
    have k1 := Nat.eq_of_beq_eq_true k1; have k2 := IE.eq_eq k2; have k3 := IE.eq_eq k3; have k4 := Nat.eq_of_beq_eq_true k4
    subst k1; subst k2; subst k3; subst k4
    show fnI ρ F.KV (F.x.ev ρ) 0 (i : Nat) = e.ev ρ
    rw [fn_big hk.2, hV]
    simp [List.getD_eq_getElem?_getD, ht]
  · rename_i c x y i a b d
    obtain ⟨k1, h⟩ := and_split h
    obtain ⟨k2, h⟩ := and_split h
    obtain ⟨k3, h⟩ := and_split h
    obtain ⟨k4, h⟩ := and_split h
    obtain ⟨k5, h⟩ := and_split h
    obtain ⟨k6, h⟩ := and_split h
    obtain ⟨k7, k8⟩ := and_split h
    have k1 := Nat.eq_of_beq_eq_true k1; have k2 := IE.eq_eq k2; have k3 := IE.eq_eq k3; have k4 := Nat.eq_of_beq_eq_true k4; have k5 := intEq_eq k5; have k6 := intEq_eq k6; have k7 := intEq_eq k7
    subst k1; subst k2; subst k3; subst k4; subst k5; subst k6; subst k7
    show selI false (fnI ρ F.KV (F.x.ev ρ) 0 (i : Nat)) 1 1 0 = e.ev ρ
    have e1 : fnI ρ F.KV (F.x.ev ρ) 0 (i : Nat) = e.ev ρ := by
      rw [fn_big hk.2, hV]
      simp [List.getD_eq_getElem?_getD, ht]
    rw [e1]
    unfold defPair.in01 at k8
    split at k8
    · rename_i l h hr
      obtain ⟨r1, r2⟩ := rng_ok hρ e _ _ hr
      obtain ⟨b1, b2⟩ := and_split k8
      rw [intLe_iff] at b1 b2
      have b1 := of_decide_eq_true b1
      have b2 := of_decide_eq_true b2
      unfold selI
      simp only [Bool.false_eq_true, if_false]
      split
      · omega
      · omega
    · cases k8
  · rename_i k c0 c1 x y z i q m
    obtain ⟨k1, h⟩ := and_split h
    obtain ⟨k2, h⟩ := and_split h
    obtain ⟨k3, h⟩ := and_split h
    obtain ⟨k4, h⟩ := and_split h
    obtain ⟨k5, h⟩ := and_split h
    obtain ⟨k6, h⟩ := and_split h
    obtain ⟨k7, k8⟩ := and_split h
    have k1 := Nat.eq_of_beq_eq_true k1; have k2 := Nat.eq_of_beq_eq_true k2; have k3 := IE.eq_eq k3; have k4 := IE.eq_eq k4; have k5 := intEq_eq k5; have k6 := Nat.eq_of_beq_eq_true k6
    subst k1; subst k2; subst k3; subst k4; subst k5; subst k6
    have hf := fits_ok hρ k7
    have e1 : k.wrap (rowGet (fnI ρ F.KR (F.x.ev ρ) 0 0) (i : Nat)) = e.ev ρ := by
      rw [fn_big hk.1, hR, rowGet_of t i _ ht (kind_inRow hf.1 hf.2)]
      exact wrap_id k _ hf.1 hf.2
    show (k.wrap (rowGet (fnI ρ F.KR (F.x.ev ρ) 0 0) (i : Nat))).tmod m = e.ev ρ
    rw [e1]
    unfold inBelow at k8
    split at k8
    · rename_i l h hr
      obtain ⟨r1, r2⟩ := rng_ok hρ e _ _ hr
      obtain ⟨b1, b2⟩ := and_split k8
      rw [intLe_iff] at b1
      rw [intLt_iff] at b2
      have b1 := of_decide_eq_true b1
      have b2 := of_decide_eq_true b2
      rw [Int.tmod_eq_emod_of_nonneg (by omega)]
      exact Int.emod_eq_of_lt (by omega) (by omega)
    · cases k8
  · cases h
theorem defPairT_ok {ρ : Env} {bd : Bd} (hρ : ρ.ok bd) {F : Fns} (hk : 7 < F.KR ∧ 7 < F.KV) {t : List Int} (hF : F.is ρ.g (F.x.ev ρ) t) {j : Nat} {p e : IE} (ht : t[j]? = some (e.ev ρ)) (h : defPairT bd F j p e = true) : p.ev ρ = e.ev ρ := by
  unfold defPairT at h
  split at h
  · rename_i d n q hp
    split at h
    · rename_i v
      obtain ⟨h1, h2⟩ := and_split h
      rw [top5_eq hp]
      show rowTop (ρ.i v) (n : Nat) (q.ev ρ) = _
      rw [defPair_ok hρ hk hF ht h1]
      exact rowTop_of (keepsRow_ok hρ h2)
    · cases h
  · exact defPair_ok hρ hk hF ht h
theorem defPairs_ok {ρ : Env} {bd : Bd} (hρ : ρ.ok bd) {F : Fns} (hk : 7 < F.KR ∧ 7 < F.KV) {t : List Int} (hF : F.is ρ.g (F.x.ev ρ) t) :
    ∀ {l : Prs} {j : Nat}, (∀ (i : Nat) (p : IE × IE), l[i]? = some p → p.1.eq p.2 = false → t[j + i]? = some (p.2.ev ρ)) → defPairs bd F j l = true → l.hold ρ := by
  intro l
  induction l with
  | nil => intro j _ _ p hp; cases hp
  | cons x l ih =>
    intro j ht h p hp
    have rest : defPairs bd F (j + 1) l = true → p ∈ l → p.1.ev ρ = p.2.ev ρ := fun h2 hp => ih (fun i p hi hne => by have := ht (i + 1) p (by simpa using hi) hne; rw [show j + 1 + i = j + (i + 1) by omega]; exact this) h2 p hp
    unfold defPairs at h
    split at h
    · rename_i hx
      rcases List.mem_cons.1 hp with rfl | hp
      · rw [IE.eq_eq hx]
      · exact rest h hp
    · rename_i hx
      obtain ⟨h1, h2⟩ := and_split h
      rcases List.mem_cons.1 hp with rfl | hp
      · exact defPairT_ok hρ hk hF (by have := ht 0 p (by simp) hx; simpa using this) h1
      · exact rest h2 hp
/-- What a pair's function has; nothing where there is nothing to say. -/
def rowVal (p : IE × IE) : IE :=
  match p.1.eq p.2 with
  | true => .lit 0
  | false => p.2
theorem rowVal_at {ρ : Env} {q : Prs} {i : Nat} {p : IE × IE} (h : q[i]? = some p) (hp : p.1.eq p.2 = false) : ((q.map rowVal).map (·.ev ρ))[i]? = some (p.2.ev ρ) := by
  simp only [List.getElem?_map, h, Option.map_some]
  unfold rowVal
  rw [hp]
/-- What a tree of outcomes ends with, without what the contract says of it. -/
def headX (F : Fns) : Prs → Option IE
  | [] => none
  | p :: l =>
    match p.1.eq p.2 with
    | true => headX F l
    | false => defXb F p.1 p.2
def Con.rows (c : Con) (F : Fns) : Out → RT
  | .bad _ => .bad
  | .leaf e s =>
    match c.endsA s with
    | some q =>
      match e with
      | .normal =>
        match headX F q with
        | some X => .again X
        | none => .bad
      | _ => .done (q.map rowVal)
    | none => .bad
  | .split b y n => .split b (c.rows F y) (c.rows F n)
def Con.defLeaf (c : Con) (F : Fns) (_ : Dec) (e : AExit) (s : ASt) : Bool :=
  match c.endsA s with
  | some q =>
    match e with
    | .normal =>
      match headX F q with
      | some X => defXs (bdL c.bds) F X q
      | none => false
    | _ => defPairs (bdL c.bds) F 0 q
  | none => false
theorem Con.rows_pick {c : Con} {F : Fns} {ρ : Env} : ∀ {o : Out} {e : AExit} {s : ASt}, o.pick ρ = some (e, s) → (c.rows F o).pick ρ = (c.rows F (.leaf e s)).pick ρ := by
  intro o
  induction o with
  | bad w => intro e s h; cases h
  | leaf e s => intro e' s' h; cases h; rfl
  | split b y n ihy ihn =>
    intro e s h
    simp only [Out.pick] at h
    have : (c.rows F (.split b y n)).pick ρ = pickV (b.ev ρ) ((c.rows F y).pick ρ) ((c.rows F n).pick ρ) := rfl
    rw [this]
    cases hb : b.ev ρ
    · rw [hb] at h; exact ihn h
    · rw [hb] at h; exact ihy h
section
variable {P : Program} {G : Nat → Int → Int → Int → Int} {GH : Nat → Ghost} {c : Con} {K : Know}
/-- What each outcome of a tree has, where the functions are the tree's. -/
theorem Con.def_holds {o : Out} {dec : Dec} {F : Fns} (h : o.all (c.defLeaf F) dec = true) (hk : 7 < F.KR ∧ 7 < F.KV) {ρ : Env} (h2 : ρ.ok (bdL c.bds)) (hd : dec.holds ρ) (hF : F.Def ρ.g (c.rows F o)) :
    ∃ e s q, o.pick ρ = some (e, s) ∧ c.endsA s = some q ∧ q.hold ρ := by
  obtain ⟨e, s, dec', hd', p1, p2⟩ := Out.all_pick hd h
  have hF := hF ρ rfl
  rw [Con.rows_pick p1] at hF
  unfold Con.defLeaf at p2
  split at p2
  · rename_i q hq
    refine ⟨e, s, q, p1, hq, ?_⟩
    unfold Con.rows at hF
    rw [hq] at hF
    cases e with
    | normal =>
      simp only at p2 hF
      split at p2
      · rename_i X hX
        rw [hX] at hF
        exact defXs_ok hk h2 hF p2
      · cases p2
    | exit i => exact defPairs_ok h2 hk hF (fun i p hp hne => by rw [Nat.zero_add]; exact rowVal_at hp hne) p2
    | ret => exact defPairs_ok h2 hk hF (fun i p hp hne => by rw [Nat.zero_add]; exact rowVal_at hp hne) p2
  · cases p2
theorem Con.defLeaves (facts : Dec) (hf : ∀ ρ : Env, ρ.std G GH → ρ.ok (bdL c.bds) → c.pre.holds ρ → facts.holds ρ) {F : Fns} (hk : 7 < F.KR ∧ 7 < F.KV) {o : Out} (h : o.all (c.defLeaf F) (facts ++ c.pre) = true) (hG : F.Def G (c.rows F o)) : c.Leaves G GH o := by
  intro ρ h1 h2 h3
  obtain ⟨e, s, q, p1, p2, p3⟩ := Con.def_holds h hk h2 (holds_app (hf ρ h1 h2 h3) h3) (by rw [h1.1]; exact hG)
  exact ⟨e, s, _, q, p1, p2, p3⟩
end
/-! there are such functions -/
def envX (G : Nat → Int → Int → Int → Int) (vars : List Nat) (X : Int) : Env := { i := fun v => unpN X (vars.idxOf v), b := fun _ => false, g := G }
/-- The values where the loop has ended, if it ends. -/
def loopN (G : Nat → Int → Int → Int → Int) (vars : List Nat) (t : RT) : Nat → Int → Option (List Int)
  | 0, _ => none
  | n + 1, X =>
    match t.pick (envX G vars X) with
    | .bad => none
    | .again Y => loopN G vars t n Y
    | .done l => some l
theorem loopN_mono {G : Nat → Int → Int → Int → Int} {vars : List Nat} {t : RT} : ∀ (n m : Nat) (X : Int) (l : List Int), n ≤ m → loopN G vars t n X = some l → loopN G vars t m X = some l := by
  intro n
  induction n with
  | zero => intro m X l _ h; cases h
  | succ n ih =>
    intro m X l hm h
    obtain ⟨m, rfl⟩ : ∃ k, m = k + 1 := ⟨m - 1, by omega⟩
    unfold loopN at h ⊢
    cases hp : t.pick (envX G vars X) with
    | bad => rw [hp] at h; cases h
    | again Y => rw [hp] at h; exact ih m Y l (by omega) h
    | done l' => rw [hp] at h; exact h
open Classical in
def loopF (G : Nat → Int → Int → Int → Int) (vars : List Nat) (t : RT) (X : Int) : List Int := if h : ∃ (n : Nat) (l : List Int), loopN G vars t n X = some l then Classical.choose (Classical.choose_spec h) else []
theorem loopF_of {G : Nat → Int → Int → Int → Int} {vars : List Nat} {t : RT} {X : Int} {n : Nat} {l : List Int} (h : loopN G vars t n X = some l) : loopF G vars t X = l := by
  have hx : ∃ (n : Nat) (l : List Int), loopN G vars t n X = some l := ⟨n, l, h⟩
  unfold loopF
  rw [dif_pos hx]
  have h1 := Classical.choose_spec (Classical.choose_spec hx)
  have h2 := loopN_mono _ (max (Classical.choose hx) n) X _ (Nat.le_max_left _ _) h1
  have h3 := loopN_mono _ (max (Classical.choose hx) n) X _ (Nat.le_max_right _ _) h
  rw [h2] at h3
  exact Option.some.inj h3
theorem loopF_none {G : Nat → Int → Int → Int → Int} {vars : List Nat} {t : RT} {X : Int} (h : ∀ n, loopN G vars t n X = none) : loopF G vars t X = [] := by
  unfold loopF
  rw [dif_neg]
  rintro ⟨n, l, hl⟩
  rw [h n] at hl
  cases hl
theorem loopF_eq {G : Nat → Int → Int → Int → Int} {vars : List Nat} {t : RT} {X : Int} : match t.pick (envX G vars X) with
    | .bad => True
    | .again Y => loopF G vars t X = loopF G vars t Y
    | .done l => loopF G vars t X = l := by
  split
  · trivial
  · rename_i Y hp
    have step : ∀ n, loopN G vars t (n + 1) X = loopN G vars t n Y := fun n => by
      show (match t.pick (envX G vars X) with
        | .bad => none
        | .again Y => loopN G vars t n Y
        | .done l => some l) = _
      rw [hp]
    by_cases h : ∃ (n : Nat) (l : List Int), loopN G vars t n Y = some l
    · obtain ⟨n, l, hl⟩ := h
      rw [loopF_of hl, loopF_of ((step n).trans hl)]
    · have hY : ∀ n, loopN G vars t n Y = none := fun n => by
        cases hn : loopN G vars t n Y with
        | none => rfl
        | some l => exact absurd ⟨n, l, hn⟩ h
      rw [loopF_none hY, loopF_none fun n => ?_]
      cases n with
      | zero => rfl
      | succ n => rw [step n, hY n]
  · rename_i l hp
    refine loopF_of (n := 1) ?_
    show (match t.pick (envX G vars X) with
        | .bad => none
        | .again Y => loopN G vars t 0 Y
        | .done l => some l) = _
    rw [hp]
def memV (vars : List Nat) (i : Nat) : Bool := vars.any (Nat.beq i)
def withFn (G : Nat → Int → Int → Int → Int) (F : Fns) (f : Int → List Int) : Nat → Int → Int → Int → Int := fun c x y z =>
  if c = F.KR then (rowOf (f x) : Nat) else if c = F.KV then (f x).getD z.toNat 0 else G c x y z
/-- The functions of a tree that names functions below K alone. -/
theorem Fns.exists_def (F : Fns) (G : Nat → Int → Int → Int → Int) (hP : Packs G) (t : RT) (K : Nat) (hK : KP < K ∧ K ≤ F.KR ∧ K ≤ F.KV ∧ F.KR ≠ F.KV) (ht : t.only (memV F.vars) K = true) : ∃ G', (∀ c, c ≠ F.KR → c ≠ F.KV → G' c = G c) ∧ F.Def G' t := by
  obtain ⟨k0, k1, k2, k3⟩ := hK
  refine ⟨withFn G F (loopF G F.vars t), fun c h1 h2 => ?_, fun ρ hρ => ?_⟩
  · funext x y z
    unfold withFn
    rw [if_neg h1, if_neg h2]
  · have low : ∀ c, c < K → (withFn G F (loopF G F.vars t)) c = G c := fun c hc => by
      funext x y z
      unfold withFn
      rw [if_neg (by omega), if_neg (by omega)]
    have hx : F.x.ev ρ = packL (F.vars.map ρ.i) := packIE_ev (by rw [hρ]; intro x y z; rw [low KP k0]; exact hP x y z) F.vars
    have hpick : t.pick ρ = t.pick (envX G F.vars (F.x.ev ρ)) := by
      refine RT.only_pick (fun i hi => ?_) (fun c hc => by rw [hρ]; exact low c hc) t ht
      have hm : i ∈ F.vars := by
        obtain ⟨j, h1, h2⟩ := List.any_eq_true.1 hi
        rw [Nat.eq_of_beq_eq_true h2]
        exact h1
      show ρ.i i = unpN (F.x.ev ρ) (F.vars.idxOf i)
      rw [hx]
      refine (unpN_pack _ _ _ ?_).symm
      have hlt : F.vars.idxOf i < F.vars.length := List.idxOf_lt_length_iff.2 hm
      rw [List.getElem?_map, List.getElem?_eq_getElem hlt]
      simp
    rw [hpick]
    have h := loopF_eq (G := G) (vars := F.vars) (t := t) (X := F.x.ev ρ)
    cases hp : t.pick (envX G F.vars (F.x.ev ρ)) with
    | bad => trivial
    | again Y =>
      rw [hp] at h
      refine ⟨?_, fun z => ?_⟩
      · unfold withFn
        rw [if_pos rfl, if_pos rfl, h]
      · unfold withFn
        rw [if_neg (Ne.symm k3), if_neg (Ne.symm k3), if_pos rfl, if_pos rfl, h]
    | done l =>
      rw [hp] at h
      refine ⟨?_, fun z => ?_⟩
      · unfold withFn
        rw [if_pos rfl, h]
      · unfold withFn
        rw [if_neg (Ne.symm k3), if_pos rfl, h]
/-- Functions that are given stay so where only others change. -/
theorem Fns.Def.mono {F : Fns} {G G' : Nat → Int → Int → Int → Int} {t : RT} {K : Nat} (hP : Packs G) (h : F.Def G t) (ht : t.only (memV F.vars) K = true) (hK : KP < K) (he : ∀ c, c < K → G' c = G c) (h1 : G' F.KR = G F.KR) (h2 : G' F.KV = G F.KV) : F.Def G' t := by
  intro ρ hρ
  have hx : ∀ ρ' : Env, (∀ c, c < K → ρ'.g c = G c) → F.x.ev ρ' = packL (F.vars.map ρ'.i) := fun ρ' h' => packIE_ev (by intro x y z; rw [h' KP hK]; exact hP x y z) F.vars
  have hp : t.pick ρ = t.pick { ρ with g := G } := RT.only_pick (ρ := ρ) (ρ' := { ρ with g := G }) (fun i _ => rfl) (fun c hc => by rw [hρ]; exact he c hc) t ht
  have e1 : F.x.ev ρ = F.x.ev { ρ with g := G } := by rw [hx ρ (fun c hc => by rw [hρ]; exact he c hc), hx { ρ with g := G } (fun c _ => rfl)]
  have := h { ρ with g := G } rfl
  rw [hp, e1]
  revert this
  split
  · exact id
  · rintro ⟨a1, a2⟩; exact ⟨by rw [h1]; exact a1, fun z => by rw [h2]; exact a2 z⟩
  · rintro ⟨a1, a2⟩; exact ⟨by rw [h1]; exact a1, fun z => by rw [h2]; exact a2 z⟩

/-! two trees that agree -/
def prsSame (bd : Bd) (dec : Dec) : Prs → Prs → Bool
  | [], m =>
    match m with
    | [] => true
    | _ => false
  | p :: l, m =>
    match m with
    | [] => false
    | q :: m =>
      match p.1.eqF q.1 && qP bd 30 dec p.2 q.2 with
      | true => prsSame bd dec l m
      | false => false
theorem prsSame_ok {ρ : Env} {bd : Bd} (hρ : ρ.ok bd) {dec : Dec} (hd : dec.holds ρ) : ∀ {l m : Prs}, prsSame bd dec l m = true → m.hold ρ → l.hold ρ := by
  intro l
  induction l with
  | nil => intro m _ _ p hp; cases hp
  | cons a l ih =>
    intro m h hm p hp
    cases m with
    | nil => simp [prsSame] at h
    | cons b m =>
      simp only [prsSame] at h
      split at h
      · rename_i hk
        obtain ⟨k1, k2⟩ := and_split hk
        rcases List.mem_cons.1 hp with rfl | hp
        · rw [IE.eqF_eq k1, qP_ok hρ hd k2]
          exact hm b (by simp)
        · exact ih h (fun q hq => hm q (by simp [hq])) p hp
      · cases h
/-- The other tree, walked under what is known at an outcome of this one. -/
def agree (bd : Bd) (ends : ASt → Option Prs) (q : Prs) : Out → Dec → Bool
  | .bad _, _ => false
  | .leaf _ s, dec =>
    match ends s with
    | some m => prsSame bd dec q m
    | none => false
  | .split b y n, dec =>
    match prove bd 4 dec b with
    | some true => agree bd ends q y dec
    | some false => agree bd ends q n dec
    | none =>
      match agree bd ends q y ((b, true) :: dec) with
      | true => agree bd ends q n ((b, false) :: dec)
      | false => false
theorem agree_ok {bd : Bd} {ρ : Env} (hρ : ρ.ok bd) {ends : ASt → Option Prs} {q : Prs} : ∀ {o : Out} {dec : Dec}, dec.holds ρ → agree bd ends q o dec = true → (∀ e s m, o.pick ρ = some (e, s) → ends s = some m → m.hold ρ) → q.hold ρ := by
  intro o
  induction o with
  | bad w => intro dec _ h; cases h
  | leaf e s =>
    intro dec hd h hm
    unfold agree at h
    split at h
    · rename_i m hs
      exact prsSame_ok hρ hd h (hm e s m rfl hs)
    · cases h
  | split b y n ihy ihn =>
    intro dec hd h hm
    have py : b.ev ρ = true → ∀ e s m, y.pick ρ = some (e, s) → ends s = some m → m.hold ρ := fun hb e s m h1 h2 => hm e s m (by simp only [Out.pick, hb]; exact h1) h2
    have pn : b.ev ρ = false → ∀ e s m, n.pick ρ = some (e, s) → ends s = some m → m.hold ρ := fun hb e s m h1 h2 => hm e s m (by simp only [Out.pick, hb]; exact h1) h2
    unfold agree at h
    split at h
    · rename_i hb
      exact ihy hd h (py (prove_ok hρ _ _ _ _ hd hb))
    · rename_i hb
      exact ihn hd h (pn (prove_ok hρ _ _ _ _ hd hb))
    · split at h
      · rename_i h1
        cases hb : b.ev ρ
        · exact ihn (decCons hd hb) h (pn hb)
        · exact ihy (decCons hd hb) h1 (py hb)
      · cases h
def Con.agreeLeaf (c : Con) (ends : ASt → Option Prs) (o : Out) (dec : Dec) (_ : AExit) (s : ASt) : Bool :=
  match c.endsA s with
  | some q => agree (bdL c.bds) ends q o dec
  | none => false
/-- A tree that agrees with another one, of which the same is known. -/
theorem Con.agreeLeaves {G : Nat → Int → Int → Int → Int} {GH : Nat → Ghost} {c : Con} (facts : Dec) (hf : ∀ ρ : Env, ρ.std G GH → ρ.ok (bdL c.bds) → c.pre.holds ρ → facts.holds ρ)
    {o o' : Out} {ends : ASt → Option Prs} (ho : ∀ ρ : Env, ρ.std G GH → ρ.ok (bdL c.bds) → c.pre.holds ρ → ∀ e s m, o.pick ρ = some (e, s) → ends s = some m → m.hold ρ)
    (h : o'.all (c.agreeLeaf ends o) (facts ++ c.pre) = true) : c.Leaves G GH o' := by
  intro ρ h1 h2 h3
  obtain ⟨e, s, dec', hd', p1, p2⟩ := Out.all_pick (holds_app (hf ρ h1 h2 h3) h3) h
  unfold Con.agreeLeaf at p2
  split at p2
  · rename_i q hq
    exact ⟨e, s, _, q, p1, hq, agree_ok h2 hd' p2 (ho ρ h1 h2 h3)⟩
  · cases p2
/-- What is known of the outcomes of a tree by which functions are given. -/
theorem Con.def_ends {G : Nat → Int → Int → Int → Int} {c : Con} {o : Out} {dec : Dec} {F : Fns} (h : o.all (c.defLeaf F) dec = true) (hk : 7 < F.KR ∧ 7 < F.KV) (hF : F.Def G (c.rows F o)) {ρ : Env} (h1 : ρ.g = G) (h2 : ρ.ok (bdL c.bds)) (hd : dec.holds ρ) : ∀ e s m, o.pick ρ = some (e, s) → c.endsA s = some m → m.hold ρ := by
  intro e s m hp hm
  obtain ⟨e', s', q, q1, q2, q3⟩ := Con.def_holds h hk h2 hd (by rw [h1]; exact hF)
  rw [hp] at q1
  cases q1
  rw [hm] at q2
  cases q2
  exact q3
end
end Go.Sx
