/- The row's program; patterns of a memory, of a machine's state. No condition. -/
import Derived.Test.YtbhlmedfhilkbaaGreatSg
import Derived.Test.YtbhlmedfhilkbaaGreatBa
set_option linter.unusedSimpArgs false
set_option linter.unusedVariables false
set_option linter.unusedSectionVars false
namespace Go.Proofs.YtbhlmedfhilkbaaGreat
open Go Go.Sx
set_option maxRecDepth 1000000
noncomputable section
abbrev slT : TypeId := 148
def gh (k : Nat) : Ghost :=
 match k with
 | 0 => memGhost 94 148
 | 1 => memGhost 96 148
 | 2 => refGhost 115
 | _ => Ghost.no
/-- The memory alone (0), or at the head of a machine Q (1), with its state; the reference's memory (2). -/
def memCv (k : Nat) : T AVal := match k with
 | 0 => .nil
 | 2 => .nil
 | _ => treeAt (stCells (.var 90)) 2
def memO (k : Nat) (M : IE) : AObj := .ghost k [M] (memCv k)
def memT (k : Nat) : TypeId := match k with
 | 0 => 94
 | _ => 96
theorem gh_mem {k : Nat} (hk : k < 2) : gh k = memGhost (memT k) slT := by
 match k, hk with
 | 0, _ => rfl
 | 1, _ => rfl
abbrev pgE : IE := .quo (.var 1) (.lit 256)
/-- The address i behind. -/
def adE (i : Nat) : IE := match i with
 | 0 => .var 1
 | i + 1 => .wrap .u32 (.add (.var 1) (.lit (i + 1 : Nat)))
def memC (k : Nat) (g : FuncId) (args : List AVal) (bds : List (Nat × Int × Int)) (res : AVal) (M' : IE := .var 0) (pre : Dec := []) : Con := { g := g, args := pm :: args, os := [memO k (.var 0)], bds := bds, pre := pre, res := res, os' := [memO k M'] }
def runIn (c : Con) (k : Nat) (pe : IE) (l : List Con) (obs : List (Dec × IE × IE)) (coh od oc : Bool) (os' : List AObj) : Bool :=
 ((memIn c (memT k) slT pe coh od oc os').tree PR ⟨l, []⟩ 20 none' no' 12 []).all ((memIn c (memT k) slT pe coh od oc os').leaf (qN (bdL c.bds) obs)) (inPre pe true coh ++ c.pre)
def runRo (c : Con) (k : Nat) (pe : IE) (l : List Con) (obs : List (Dec × IE × IE)) (coh : Bool) : Bool :=
 ((memRo c (memT k) slT pe false coh).tree PR ⟨l, []⟩ 20 none' no' 12 []).all ((memRo c (memT k) slT pe false coh).leaf (qN (bdL c.bds) obs)) (inPre pe false coh ++ c.pre)
theorem consOk {G : Nat → Int → Int → Int → Int} {l : List Con} (hw : l.all Con.wf = true) (h : ∀ c ∈ l, c.Ok PR G gh) : ConsOk PR G gh l := fun c hc => ⟨List.all_eq_true.1 hw c hc, h c hc⟩
theorem nil_facts {c : Con} {G : Nat → Int → Int → Int → Int} {GH : Nat → Ghost} : ∀ ρ : Env, ρ.std G GH → ρ.ok (bdL c.bds) → c.pre.holds ρ → Dec.holds ρ [] := fun _ _ _ _ p hp => by cases hp
def eight (f : Bool → Bool → Bool → Bool) : Bool := f true true true && (f true true false && (f true false true && (f true false false && (f false true true && (f false true false && (f false false true && f false false false))))))
theorem eight_all {f : Bool → Bool → Bool → Bool} (h : eight f = true) : ∀ x y z, f x y z = true := by
 simp only [eight, Bool.and_eq_true] at h
 obtain ⟨h1, h2, h3, h4, h5, h6, h7, h8⟩ := h
 intro x y z
 cases x <;> cases y <;> cases z <;> assumption
/-- What becomes of an opened page: which objects stand behind. -/
structure Wr where
 os' : Bool → Bool → Bool → List AObj
 b : Bool → Bool → Bool → Behind
def Wr.read (k : Nat) (pe : IE) : Wr := ⟨fun coh od oc => openOs (memT k) slT coh od oc pe, fun coh od oc => { od := od, oc := oc, d := .fn 10 (.var 0) pe (.lit 0), c := .fn 11 (.var 0) pe (.lit 0), r := rE pe }⟩
def runPg (c : Con) (k : Nat) (pe : IE) (l : List Con) (obs obs' : List (Dec × IE × IE)) (wr : Wr) : Bool :=
 eight (fun coh od oc => runIn c k pe l obs coh od oc (wr.os' coh od oc)) && (runRo c k pe l obs' true && runRo c k pe l obs' false)
/-- Is what stands behind a memory opened at the page again? -/
def backOk (k : Nat) (pe : IE) (wr : Wr) : Prop := ∀ coh od oc : Bool, (wr.os' coh od oc)[1]? = some (.win pe 7 (slotCells (wr.b coh od oc).i (wr.b coh od oc).j coh (wr.b coh od oc).od (wr.b coh od oc).oc (wr.b coh od oc).r) slT true) ∧ (wr.os' coh od oc)[(wr.b coh od oc).i]? = some (.arr [.u8] (wr.b coh od oc).d (.lit 256) (wr.b coh od oc).od) ∧
 (coh = false → (wr.os' coh od oc)[(wr.b coh od oc).j]? = some (.arr [.u8] (wr.b coh od oc).c (.lit 256) (wr.b coh od oc).oc)) ∧ (wr.os' coh od oc).length ≤ 1000 ∧ ((wr.b coh od oc).od = true ∨ ((wr.b coh od oc).i = 2 ∧ od = false)) ∧ (coh = false → (wr.b coh od oc).oc = true ∨ ((wr.b coh od oc).j = 3 ∧ oc = false)) ∧ (coh = false → (wr.b coh od oc).i ≠ (wr.b coh od oc).j)
theorem backOk_read (k : Nat) (pe : IE) : backOk k pe (Wr.read k pe) := by
 intro coh od oc
 refine ⟨rfl, rfl, fun hc => ?_, ?_, ?_, fun _ => ?_, fun _ => (show (2 : Nat) ≠ 3 by decide)⟩
 · subst hc; rfl
 · show (openOs _ _ _ _ _ _).length ≤ 1000
   rw [openOs_length]; cases coh <;> decide
 · cases od
   · exact .inr ⟨rfl, rfl⟩
   · exact .inl rfl
 · cases oc
   · exact .inr ⟨rfl, rfl⟩
   · exact .inl rfl
section
variable {G : Nat → Int → Int → Int → Int} (hG : Base G)
include hG
/-- A function that touches one page at most. -/
theorem pageCon {c : Con} {k : Nat} {cv : T AVal} {M' : IE} (hk : k < 2) (c0 : c.os = [.ghost k [.var 0] cv]) (c1 : c.os' = [.ghost k [M'] cv]) (cr : c.res.free = true) (ca : c.args.head? = some pm) (pe : IE) (l : List Con) (hl : ConsOk PR G gh l) (obs obs' : List (Dec × IE × IE)) (wr : Wr) (hback : backOk k pe wr)
   (hpos : ∀ ρ : Env, ρ.ok (bdL c.bds) → c.pre.holds ρ → 0 ≤ pe.ev ρ)
   (hobs : ∀ ρ : Env, ρ.std G gh → ρ.ok (bdL c.bds) → c.pre.holds ρ → pe.ev ρ < mN (ρ.i 0) → obsOk ρ obs)
   (hobs' : ∀ ρ : Env, ρ.std G gh → ρ.ok (bdL c.bds) → c.pre.holds ρ → mN (ρ.i 0) ≤ pe.ev ρ → obsOk ρ obs')
   (hsame : ∀ ρ : Env, ρ.std G gh → ρ.ok (bdL c.bds) → c.pre.holds ρ → memOk (ρ.i 0) → mN (ρ.i 0) ≤ pe.ev ρ → M'.ev ρ = ρ.i 0)
   (hnext : ∀ coh od oc : Bool, ∀ ρ : Env, ρ.std G gh → ρ.ok (bdL c.bds) → c.pre.holds ρ → memOk (ρ.i 0) → mCoh (ρ.i 0) = coh → ∀ p : Nat, pe.ev ρ = p → p < (mN (ρ.i 0)).toNat → memNext (ρ.i 0) (M'.ev ρ) p ((wr.b coh od oc).d.ev ρ) ((wr.b coh od oc).c.ev ρ) ((wr.b coh od oc).r.ev ρ))
   (h : runPg c k pe l obs obs' wr = true) : c.Ok PR G gh := by
 simp only [runPg, Bool.and_eq_true] at h
 obtain ⟨hin, hro1, hro2⟩ := h
 have hin := eight_all hin
 have hro : ∀ coh, runRo c k pe l obs' coh = true := fun coh => by cases coh <;> assumption
 have sub : ∀ {ρ : Env} {v coh : Bool}, Dec.holds ρ (inPre pe v coh ++ c.pre) → c.pre.holds ρ ∧ (decide (pe.ev ρ < mN (ρ.i 0)) = v) := fun h =>
   ⟨fun p hp => h p (by simp [hp]), h (.lt pe nE, _) (by simp [inPre])⟩
 refine memCon (k := k) (cv := cv) (Me' := M') (pe := pe) (gh_mem hk) hG.pg c0 c1 cr ca hpos (fun coh => ?_) hsame (fun coh od oc => ?_)
 · exact Con.of_tree mixed ⟨hl, fun _ h => by cases h⟩ 20 none' no' 12 [] nil_facts obs' (fun ρ h1 h2 h3 => hobs' ρ h1 h2 (sub h3).1 (by have := (sub h3).2; simp at this; exact this)) (hro coh)
 · obtain ⟨b1, b2, b3, b4, b5, b6, b7⟩ := hback coh od oc
   exact ⟨wr.b coh od oc, wr.os' coh od oc, Con.of_tree mixed ⟨hl, fun _ h => by cases h⟩ 20 none' no' 12 [] nil_facts obs (fun ρ h1 h2 h3 => hobs ρ h1 h2 (sub h3).1 (by have := (sub h3).2; simp at this; exact this)) (hin coh od oc), b1, b2, b3, b4, b5, b6, b7, hnext coh od oc⟩
/-- A function that reads one page at most. -/
theorem readCon {c : Con} {k : Nat} {cv : T AVal} (hk : k < 2) (c0 : c.os = [.ghost k [.var 0] cv]) (c1 : c.os' = [.ghost k [.var 0] cv]) (cr : c.res.free = true) (ca : c.args.head? = some pm) (pe : IE) (l : List Con) (hl : ConsOk PR G gh l) (obs obs' : List (Dec × IE × IE))
   (hpos : ∀ ρ : Env, ρ.ok (bdL c.bds) → c.pre.holds ρ → 0 ≤ pe.ev ρ)
   (hobs : ∀ ρ : Env, ρ.std G gh → ρ.ok (bdL c.bds) → c.pre.holds ρ → pe.ev ρ < mN (ρ.i 0) → obsOk ρ obs)
   (hobs' : ∀ ρ : Env, ρ.std G gh → ρ.ok (bdL c.bds) → c.pre.holds ρ → mN (ρ.i 0) ≤ pe.ev ρ → obsOk ρ obs')
   (h : runPg c k pe l obs obs' (Wr.read k pe) = true) : c.Ok PR G gh := by
 refine pageCon hG hk c0 c1 cr ca pe l hl obs obs' (Wr.read k pe) (backOk_read k pe) hpos hobs hobs' (fun ρ _ _ _ _ _ => rfl) (fun coh od oc ρ h1 h2 h3 hm hc p hp hlt => ?_) h
 have e1 : (IE.fn 10 (.var 0) pe (.lit 0)).ev ρ = pgD (ρ.i 0) p := by
   show fnI ρ 10 (ρ.i 0) (pe.ev ρ) 0 = _
   rw [fn_ev hG h1 (by decide) (by decide), hp]
   rfl
 have e2 : (IE.fn 11 (.var 0) pe (.lit 0)).ev ρ = pgC (ρ.i 0) p := by
   show fnI ρ 11 (ρ.i 0) (pe.ev ρ) 0 = _
   rw [fn_ev hG h1 (by decide) (by decide), hp]
   rfl
 show memNext (ρ.i 0) (ρ.i 0) p ((IE.fn 10 (.var 0) pe (.lit 0)).ev ρ) ((IE.fn 11 (.var 0) pe (.lit 0)).ev ρ) ((rE pe).ev ρ)
 rw [e1, e2, rE_ev hp (hm.r p hlt)]
 exact memNext.refl hm hlt
end
/-! what the words are -/
theorem pos_div {ρ : Env} {l : List (Nat × Int × Int)} (h : ρ.ok (bdL l)) (hl : bdL l 1 = some (0, 4294967295)) : 0 ≤ ρ.i 1 ∧ ρ.i 1 ≤ 4294967295 ∧ pgE.ev ρ = ρ.i 1 / 256 := by
 have := h 1 0 4294967295 hl
 refine ⟨this.1, this.2, ?_⟩
 show (ρ.i 1).tdiv 256 = _
 exact Int.tdiv_eq_ediv_of_nonneg this.1
theorem rem_ev {ρ : Env} (h : 0 ≤ ρ.i 1) : (IE.rem (.var 1) (.lit 256)).ev ρ = ρ.i 1 % 256 := Int.tmod_eq_emod_of_nonneg h
theorem atPage {M a : Int} (h : 0 ≤ a) : rowGet (pgD M (a / 256).toNat) (a % 256) = rowGet M (a * 4) ∧ rowGet (pgC M (a / 256).toNat) (a % 256) = rowGet M (a * 4 + 1) := by
 obtain ⟨n, rfl⟩ := Int.eq_ofNat_of_zero_le h
 have h1 : ((n : Int) / 256).toNat = n / 256 := by omega
 have h2 : (n : Int) % 256 = ((n % 256 : Nat) : Int) := by omega
 rw [h1, h2, pgD_get' M _ _ (Nat.mod_lt _ (by decide)), pgC_get' M _ _ (Nat.mod_lt _ (by decide))]
 unfold mD mC
 have e : 256 * (n / 256) + n % 256 = n := Nat.div_add_mod n 256
 rw [e]
 refine ⟨?_, ?_⟩
 · rw [show ((n : Int) * 4) = ((4 * n : Nat) : Int) by omega]
 · rw [show ((n : Int) * 4 + 1) = ((4 * n + 1 : Nat) : Int) by omega]
end
end Go.Proofs.YtbhlmedfhilkbaaGreat
