/- The memory's functions that read. No condition. -/
import Derived.Test.YtbhlmedfhilkbaaGreatBd1
set_option linter.unusedSimpArgs false
set_option linter.unusedVariables false
set_option linter.unusedSectionVars false
namespace Go.Proofs.YtbhlmedfhilkbaaGreat
open Go Go.Sx
set_option maxRecDepth 1000000
noncomputable section
theorem two {p : Nat → Prop} (h0 : p 0) (h1 : p 1) : ∀ {k : Nat}, k < 2 → p k := fun {k} hk => match k, hk with
 | 0, _ => h0
 | 1, _ => h1
def cPeek (k : Nat) : Con := memC k 169 [uV .u32 1] [u32B 1] (uF .u8 20 (.var 0) (.var 1))
def obPeek : List (Dec × IE × IE) := [([], .wrap .u8 (.fn 20 (.var 0) (.var 1) (.lit 0)), .wrap .u8 (.fn 0 (.fn 10 (.var 0) pgE (.lit 0)) (.rem (.var 1) (.lit 256)) (.lit 0)))]
def obPeek' : List (Dec × IE × IE) := [([], .wrap .u8 (.fn 20 (.var 0) (.var 1) (.lit 0)), .lit 0)]
theorem peek0 : runPg (cPeek 0) 0 pgE [] obPeek obPeek' (Wr.read 0 pgE) = true := by kernel_rfl
theorem peek1 : runPg (cPeek 1) 1 pgE [] obPeek obPeek' (Wr.read 1 pgE) = true := by kernel_rfl
section
variable {G : Nat → Int → Int → Int → Int} (hG : Base G)
include hG
theorem cPeek_ok {k : Nat} (hk : k < 2) : (cPeek k).Ok PR G gh := by
 have run : ∀ {k : Nat}, k < 2 → runPg (cPeek k) k pgE [] obPeek obPeek' (Wr.read k pgE) = true := two (p := fun k => runPg (cPeek k) k pgE [] obPeek obPeek' (Wr.read k pgE) = true) peek0 peek1
 refine readCon hG hk rfl rfl rfl rfl pgE [] ConsOk.nil obPeek obPeek' (fun ρ h2 h3 => ?_) (fun ρ h1 h2 h3 hin => ?_) (fun ρ h1 h2 h3 hin => ?_) (run hk)
 · obtain ⟨q1, _, q3⟩ := pos_div h2 rfl
   rw [q3]
   omega
 · obtain ⟨q1, q2, q3⟩ := pos_div h2 rfl
   intro o ho _
   simp only [obPeek, List.mem_cons, List.not_mem_nil, or_false] at ho
   subst ho
   show IntKind.u8.wrap (fnI ρ 20 (ρ.i 0) (ρ.i 1) 0) = IntKind.u8.wrap (rowGet (fnI ρ 10 (ρ.i 0) (pgE.ev ρ) 0) ((IE.rem (.var 1) (.lit 256)).ev ρ))
   rw [q3] at hin
   rw [fn_ev hG h1 (by decide) (by decide), fn_ev hG h1 (by decide) (by decide), q3, rem_ev q1]
   show IntKind.u8.wrap (pkS (ρ.i 0) (ρ.i 1)) = IntKind.u8.wrap (rowGet (pgD (ρ.i 0) (ρ.i 1 / 256).toNat) (ρ.i 1 % 256))
   rw [(atPage q1).1]
   unfold pkS inM
   rw [if_pos (by simp [hin])]
   exact wrap_byte (byte_wrap _)
 · obtain ⟨q1, q2, q3⟩ := pos_div h2 rfl
   intro o ho _
   simp only [obPeek', List.mem_cons, List.not_mem_nil, or_false] at ho
   subst ho
   show IntKind.u8.wrap (fnI ρ 20 (ρ.i 0) (ρ.i 1) 0) = 0
   rw [q3] at hin
   rw [fn_ev hG h1 (by decide) (by decide)]
   show IntKind.u8.wrap (pkS (ρ.i 0) (ρ.i 1)) = 0
   unfold pkS inM
   rw [if_neg (by simp; exact hin)]
   rfl
end
end
end Go.Proofs.YtbhlmedfhilkbaaGreat
namespace Go.Proofs.YtbhlmedfhilkbaaGreat
open Go Go.Sx
set_option maxRecDepth 1000000
noncomputable section
theorem obs_nil {ρ : Env} : obsOk ρ [] := fun o ho => by cases ho
theorem obs_cons {ρ : Env} {d : Dec} {a b : IE} {l : List (Dec × IE × IE)} (h : Dec.holds ρ d → a.ev ρ = b.ev ρ) (hl : obsOk ρ l) : obsOk ρ ((d, a, b) :: l) := fun o ho => by
 rcases List.mem_cons.1 ho with rfl | ho
 · exact h
 · exact hl o ho
theorem coh_of {ρ : Env} {v : Bool} (h : Dec.holds ρ [(cohB, v)]) : mCoh (ρ.i 0) = v := h (cohB, v) (by simp)
/-- The rights of the address 1's page. -/
def rtE : IE := .wrap .i64 (.fn 0 (.var 0) (.add (.mul pgE (.lit 4)) (.lit 2)) (.lit 0))
def okE (r : Int) : IE := .bits .and .i64 rtE (.lit r)
def offE : IE := .rem (.var 1) (.lit 256)
def dE : IE := .wrap .u8 (.fn 0 (.fn 10 (.var 0) pgE (.lit 0)) offE (.lit 0))
def cE : IE := .wrap .u8 (.fn 0 (.fn 11 (.var 0) pgE (.lit 0)) offE (.lit 0))
section
variable {G : Nat → Int → Int → Int → Int} (hG : Base G)
include hG
theorem dE_ev {ρ : Env} (h1 : ρ.std G gh) (h2 : ρ.ok (bdL [u32B 1])) : dE.ev ρ = IntKind.u8.wrap (rowGet (ρ.i 0) (ρ.i 1 * 4)) := by
 obtain ⟨q1, _, q3⟩ := pos_div h2 rfl
 show IntKind.u8.wrap (rowGet (fnI ρ 10 (ρ.i 0) (pgE.ev ρ) 0) ((IE.rem (.var 1) (.lit 256)).ev ρ)) = _
 rw [fn_ev hG h1 (by decide) (by decide), q3, rem_ev q1]
 show IntKind.u8.wrap (rowGet (pgD (ρ.i 0) (ρ.i 1 / 256).toNat) (ρ.i 1 % 256)) = _
 rw [(atPage q1).1]
theorem cE_ev {ρ : Env} (h1 : ρ.std G gh) (h2 : ρ.ok (bdL [u32B 1])) : cE.ev ρ = IntKind.u8.wrap (rowGet (ρ.i 0) (ρ.i 1 * 4 + 1)) := by
 obtain ⟨q1, _, q3⟩ := pos_div h2 rfl
 show IntKind.u8.wrap (rowGet (fnI ρ 11 (ρ.i 0) (pgE.ev ρ) 0) ((IE.rem (.var 1) (.lit 256)).ev ρ)) = _
 rw [fn_ev hG h1 (by decide) (by decide), q3, rem_ev q1]
 show IntKind.u8.wrap (rowGet (pgC (ρ.i 0) (ρ.i 1 / 256).toNat) (ρ.i 1 % 256)) = _
 rw [(atPage q1).2]
omit hG in
theorem okE_ev {ρ : Env} (h2 : ρ.ok (bdL [u32B 1])) (hin : pgE.ev ρ < mN (ρ.i 0)) (r : Int) : okS (ρ.i 0) (ρ.i 1) r = decide ((okE r).ev ρ ≠ 0) := by
 obtain ⟨_, _, q3⟩ := pos_div h2 rfl
 have e : rtE.ev ρ = IntKind.i64.wrap (rowGet (ρ.i 0) (ρ.i 1 / 256 * 4 + 2)) := by
   show IntKind.i64.wrap (rowGet (ρ.i 0) (pgE.ev ρ * 4 + 2)) = _
   rw [q3]
 unfold okS inM
 rw [q3] at hin
 show _ = decide (bitsI .and .i64 (rtE.ev ρ) r ≠ 0)
 rw [e]
 simp [hin]
omit hG in
theorem out_of {ρ : Env} (h2 : ρ.ok (bdL [u32B 1])) (hin : mN (ρ.i 0) ≤ pgE.ev ρ) : inM (ρ.i 0) (ρ.i 1) = false := by
 obtain ⟨_, _, q3⟩ := pos_div h2 rfl
 rw [q3] at hin
 simp [inM]
 omega
omit hG in
theorem in_of {ρ : Env} (h2 : ρ.ok (bdL [u32B 1])) (hin : pgE.ev ρ < mN (ρ.i 0)) : inM (ρ.i 0) (ρ.i 1) = true := by
 obtain ⟨_, _, q3⟩ := pos_div h2 rfl
 rw [q3] at hin
 simp [inM]
 omega
theorem cd_ev {ρ : Env} (h1 : ρ.std G gh) (h2 : ρ.ok (bdL [u32B 1])) : ((IE.wrap .u8 (.fn 21 (.var 0) (.var 1) (.lit 0))).ev ρ = cdS (ρ.i 0) (ρ.i 1)) := by
 show IntKind.u8.wrap (fnI ρ 21 (ρ.i 0) (ρ.i 1) 0) = _
 rw [fn_ev hG h1 (by decide) (by decide)]
 show IntKind.u8.wrap (cdS (ρ.i 0) (ρ.i 1)) = _
 unfold cdS
 split
 · exact wrap_byte (byte_wrap _)
 · rfl
theorem ok_fn {ρ : Env} (h1 : ρ.std G gh) (a : IE) (r : Int) : (IE.fn 22 (.var 0) a (.lit r)).ev ρ = b2 (okS (ρ.i 0) (a.ev ρ) r) := by
 show fnI ρ 22 (ρ.i 0) (a.ev ρ) r = _
 rw [fn_ev hG h1 (by decide) (by decide)]
 rfl
end
/-! Code -/
def cCode (k : Nat) : Con := memC k 167 [uV .u32 1] [u32B 1] (uF .u8 21 (.var 0) (.var 1))
def cdE : IE := .wrap .u8 (.fn 21 (.var 0) (.var 1) (.lit 0))
def obCode : List (Dec × IE × IE) := [([(cohB, true)], cdE, dE), ([(cohB, false)], cdE, cE)]
def obCode' : List (Dec × IE × IE) := [([], cdE, .lit 0)]
theorem code0 : runPg (cCode 0) 0 pgE [] obCode obCode' (Wr.read 0 pgE) = true := by kernel_rfl
theorem code1 : runPg (cCode 1) 1 pgE [] obCode obCode' (Wr.read 1 pgE) = true := by kernel_rfl
section
variable {G : Nat → Int → Int → Int → Int} (hG : Base G)
include hG
theorem cCode_ok {k : Nat} (hk : k < 2) : (cCode k).Ok PR G gh := by
 refine readCon hG hk rfl rfl rfl rfl pgE [] ConsOk.nil obCode obCode' (fun ρ h2 h3 => ?_) (fun ρ h1 h2 h3 hin => ?_) (fun ρ h1 h2 h3 hin => ?_) (two (p := fun k => runPg (cCode k) k pgE [] obCode obCode' (Wr.read k pgE) = true) code0 code1 hk)
 · obtain ⟨q1, _, q3⟩ := pos_div h2 rfl
   rw [q3]
   omega
 · refine obs_cons (fun hc => ?_) (obs_cons (fun hc => ?_) obs_nil)
   · rw [dE_ev hG h1 h2]
     refine (cd_ev hG h1 h2).trans ?_
     unfold cdS
     rw [in_of h2 hin, coh_of hc]
     rfl
   · rw [cE_ev hG h1 h2]
     refine (cd_ev hG h1 h2).trans ?_
     unfold cdS
     rw [in_of h2 hin, coh_of hc]
     rfl
 · refine obs_cons (fun _ => ?_) obs_nil
   refine (cd_ev hG h1 h2).trans ?_
   unfold cdS
   rw [out_of h2 hin]
   rfl
end
/-! Fetch -/
def ftE : IE := .sel false (.fn 22 (.var 0) (.var 1) (.lit 4)) (.lit 1) cdE (.lit 0)
def ftB : IE := .sel false (.fn 22 (.var 0) (.var 1) (.lit 4)) (.lit 1) (.lit 1) (.lit 0)
def cFetch (k : Nat) : Con := memC k 293 [uV .u32 1] [u32B 1] (.tuple [.int .u8 ftE, tF 22 (.var 0) (.var 1) (.lit 4)])
def obFetch : List (Dec × IE × IE) := [([(cohB, true)], ftE, .sel false (okE 4) (.lit 0) (.lit 0) dE), ([(cohB, false)], ftE, .sel false (okE 4) (.lit 0) (.lit 0) cE), ([], ftB, .sel false (.sel false (okE 4) (.lit 0) (.lit 0) (.lit 1)) (.lit 1) (.lit 1) (.lit 0))]
def obFetch' : List (Dec × IE × IE) := [([], ftE, .lit 0), ([], ftB, .lit 0)]
theorem fetch0 : runPg (cFetch 0) 0 pgE [] obFetch obFetch' (Wr.read 0 pgE) = true := by kernel_rfl
theorem fetch1 : runPg (cFetch 1) 1 pgE [] obFetch obFetch' (Wr.read 1 pgE) = true := by kernel_rfl
theorem b2_one (b : Bool) : b2 b = 1 ↔ b = true := by cases b <;> simp [b2]
section
variable {G : Nat → Int → Int → Int → Int} (hG : Base G)
include hG
theorem cFetch_ok {k : Nat} (hk : k < 2) : (cFetch k).Ok PR G gh := by
 have ft : ∀ {ρ : Env}, ρ.std G gh → ρ.ok (bdL [u32B 1]) → ftE.ev ρ = if okS (ρ.i 0) (ρ.i 1) 4 = true then cdS (ρ.i 0) (ρ.i 1) else 0 := fun {ρ} h1 h2 => by
   show selI false ((IE.fn 22 (.var 0) (.var 1) (.lit 4)).ev ρ) 1 (cdE.ev ρ) 0 = _
   rw [ok_fn hG h1, cdE, cd_ev hG h1 h2]
   simp only [selI, b2_one]
   rfl
 have fb : ∀ {ρ : Env}, ρ.std G gh → ftB.ev ρ = if okS (ρ.i 0) (ρ.i 1) 4 = true then 1 else 0 := fun {ρ} h1 => by
   show selI false ((IE.fn 22 (.var 0) (.var 1) (.lit 4)).ev ρ) 1 1 0 = _
   rw [ok_fn hG h1]
   simp only [selI, b2_one]
   rfl
 refine readCon hG hk rfl rfl rfl rfl pgE [] ConsOk.nil obFetch obFetch' (fun ρ h2 h3 => ?_) (fun ρ h1 h2 h3 hin => ?_) (fun ρ h1 h2 h3 hin => ?_) (two (p := fun k => runPg (cFetch k) k pgE [] obFetch obFetch' (Wr.read k pgE) = true) fetch0 fetch1 hk)
 · obtain ⟨q1, _, q3⟩ := pos_div h2 rfl
   rw [q3]
   omega
 · have ho := okE_ev h2 hin 4
   refine obs_cons (fun hc => ?_) (obs_cons (fun hc => ?_) (obs_cons (fun _ => ?_) obs_nil))
   · rw [ft h1 h2, ho]
     show _ = selI false ((okE 4).ev ρ) 0 0 (dE.ev ρ)
     rw [dE_ev hG h1 h2]
     unfold cdS selI
     rw [in_of h2 hin, coh_of hc]
     by_cases h : (okE 4).ev ρ = 0 <;> simp [h]
   · rw [ft h1 h2, ho]
     show _ = selI false ((okE 4).ev ρ) 0 0 (cE.ev ρ)
     rw [cE_ev hG h1 h2]
     unfold cdS selI
     rw [in_of h2 hin, coh_of hc]
     by_cases h : (okE 4).ev ρ = 0 <;> simp [h]
   · rw [fb h1, ho]
     show _ = selI false (selI false ((okE 4).ev ρ) 0 0 1) 1 1 0
     unfold selI
     by_cases h : (okE 4).ev ρ = 0 <;> simp [h]
 · have ho : okS (ρ.i 0) (ρ.i 1) 4 = false := by unfold okS; rw [out_of h2 hin]; rfl
   refine obs_cons (fun _ => ?_) (obs_cons (fun _ => ?_) obs_nil)
   · rw [ft h1 h2, ho]; rfl
   · rw [fb h1, ho]; rfl
end
/-! Rights -/
def rgE : IE := .wrap .i64 (.fn 23 (.var 0) (.var 1) (.lit 0))
def cRights (k : Nat) : Con := memC k 171 [uV .i64 1] [(1, 0, 9223372036854775807)] (.int .i64 rgE)
def obRights : List (Dec × IE × IE) := [([], rgE, .wrap .i64 (.fn 0 (.var 0) (.add (.mul (.var 1) (.lit 4)) (.lit 2)) (.lit 0)))]
def obRights' : List (Dec × IE × IE) := [([], rgE, .lit 0)]
theorem rights0 : runPg (cRights 0) 0 (.var 1) [] obRights obRights' (Wr.read 0 (.var 1)) = true := by kernel_rfl
theorem rights1 : runPg (cRights 1) 1 (.var 1) [] obRights obRights' (Wr.read 1 (.var 1)) = true := by kernel_rfl
/-! Protect -/
def prM : IE := .fn 31 (.var 0) (.var 1) (.var 2)
def r7E : IE := .bits .and .i64 (.var 2) (.lit 7)
def cProtect (k : Nat) : Con := memC k 49 [uV .i64 1, uV .i64 2] [(1, 0, 9223372036854775807), i64B 2] (.tuple []) prM
def Wr.right (k : Nat) (pe r : IE) : Wr := ⟨fun coh od oc => match coh with
 | true => [.cells (head0 coh) (memT k) false 2, .win pe 7 (slotCells 2 3 coh od oc r) slT true, .arr [.u8] (.fn 10 (.var 0) pe (.lit 0)) (.lit 256) od]
 | false => [.cells (head0 coh) (memT k) false 2, .win pe 7 (slotCells 2 3 coh od oc r) slT true, .arr [.u8] (.fn 10 (.var 0) pe (.lit 0)) (.lit 256) od, .arr [.u8] (.fn 11 (.var 0) pe (.lit 0)) (.lit 256) oc],
 fun coh od oc => { od := od, oc := oc, d := .fn 10 (.var 0) pe (.lit 0), c := .fn 11 (.var 0) pe (.lit 0), r := r }⟩
theorem protect0 : runPg (cProtect 0) 0 (.var 1) [] [] [] (Wr.right 0 (.var 1) r7E) = true := by kernel_rfl
theorem protect1 : runPg (cProtect 1) 1 (.var 1) [] [] [] (Wr.right 1 (.var 1) r7E) = true := by kernel_rfl
theorem backOk_right (k : Nat) (pe r : IE) : backOk k pe (Wr.right k pe r) := by
 intro coh od oc
 cases coh <;> cases od <;> cases oc <;> exact ⟨rfl, rfl, fun h => by first | (cases h; done) | rfl, by first | exact (show 3 ≤ 1000 by decide) | exact (show 4 ≤ 1000 by decide), by first | exact .inl rfl | exact .inr ⟨rfl, rfl⟩, fun _ => by first | exact .inl rfl | exact .inr ⟨rfl, rfl⟩, fun _ => (show (2 : Nat) ≠ 3 by decide)⟩
section
variable {G : Nat → Int → Int → Int → Int} (hG : Base G)
include hG
theorem cRights_ok {k : Nat} (hk : k < 2) : (cRights k).Ok PR G gh := by
 have e : ∀ {ρ : Env}, ρ.std G gh → rgE.ev ρ = IntKind.i64.wrap (rtS (ρ.i 0) (ρ.i 1)) := fun {ρ} h1 => by
   show IntKind.i64.wrap (fnI ρ 23 (ρ.i 0) (ρ.i 1) 0) = _
   rw [fn_ev hG h1 (by decide) (by decide)]
   rfl
 have pos : ∀ {ρ : Env}, ρ.ok (bdL [(1, 0, 9223372036854775807)]) → 0 ≤ ρ.i 1 := fun {ρ} h => (h 1 0 _ rfl).1
 refine readCon hG hk rfl rfl rfl rfl (.var 1) [] ConsOk.nil obRights obRights' (fun ρ h2 h3 => pos h2) (fun ρ h1 h2 h3 hin => ?_) (fun ρ h1 h2 h3 hin => ?_) (two (p := fun k => runPg (cRights k) k (.var 1) [] obRights obRights' (Wr.read k (.var 1)) = true) rights0 rights1 hk)
 · refine obs_cons (fun _ => ?_) obs_nil
   rw [e h1]
   show _ = IntKind.i64.wrap (rowGet (ρ.i 0) (ρ.i 1 * 4 + 2))
   unfold rtS
   rw [if_pos ⟨pos h2, hin⟩]
   exact wrap_id _ _ (wrap_mem _ _).1 (wrap_mem _ _).2
 · refine obs_cons (fun _ => ?_) obs_nil
   rw [e h1]
   unfold rtS
   rw [if_neg (fun h => by have : mN (ρ.i 0) ≤ ρ.i 1 := hin; omega)]
   rfl
theorem cProtect_ok {k : Nat} (hk : k < 2) : (cProtect k).Ok PR G gh := by
 have pos : ∀ {ρ : Env}, ρ.ok (bdL [(1, 0, 9223372036854775807), i64B 2]) → 0 ≤ ρ.i 1 := fun {ρ} h => (h 1 0 _ rfl).1
 have e : ∀ {ρ : Env}, ρ.std G gh → prM.ev ρ = prS (ρ.i 0) (ρ.i 1) (ρ.i 2) := fun {ρ} h1 => by
   show fnI ρ 31 (ρ.i 0) (ρ.i 1) (ρ.i 2) = _
   rw [fn_ev hG h1 (by decide) (by decide)]
   rfl
 refine pageCon hG hk rfl rfl rfl rfl (.var 1) [] ConsOk.nil [] [] (Wr.right k (.var 1) r7E) (backOk_right k _ _) (fun ρ h2 h3 => pos h2) (fun ρ h1 h2 h3 hin => obs_nil) (fun ρ h1 h2 h3 hin => obs_nil) (fun ρ h1 h2 h3 hm hin => ?_) (fun coh od oc ρ h1 h2 h3 hm hc p hp hlt => ?_) (two (p := fun k => runPg (cProtect k) k (.var 1) [] [] [] (Wr.right k (.var 1) r7E) = true) protect0 protect1 hk)
 · rw [e h1]
   unfold prS
   rw [if_neg (fun h => by have : mN (ρ.i 0) ≤ ρ.i 1 := hin; omega)]
 · rw [e h1]
   have hp : ρ.i 1 = p := hp
   unfold prS
   rw [if_pos ⟨pos h2, by omega⟩, hp]
   have e1 : (IE.fn 10 (.var 0) (.var 1) (.lit 0)).ev ρ = pgD (ρ.i 0) p := by
     show fnI ρ 10 (ρ.i 0) (ρ.i 1) 0 = _
     rw [fn_ev hG h1 (by decide) (by decide), hp]
     rfl
   have e2 : (IE.fn 11 (.var 0) (.var 1) (.lit 0)).ev ρ = pgC (ρ.i 0) p := by
     show fnI ρ 11 (ρ.i 0) (ρ.i 1) 0 = _
     rw [fn_ev hG h1 (by decide) (by decide), hp]
     rfl
   show memNext (ρ.i 0) _ p ((IE.fn 10 (.var 0) (.var 1) (.lit 0)).ev ρ) ((IE.fn 11 (.var 0) (.var 1) (.lit 0)).ev ρ) (bitsI .and .i64 (ρ.i 2) 7)
   rw [e1, e2]
   have := memNext_pr (M := ρ.i 0) (r := bitsI .and .i64 (ρ.i 2) 7) (p := p) hm hlt (by
     have := bitsI_and .i64 (ρ.i 2) 7 (by decide)
     exact this)
   have ei : ((p : Int) * 4 + 2) = ((4 * p + 2 : Nat) : Int) := by omega
   rw [ei]
   exact this
end
end
end Go.Proofs.YtbhlmedfhilkbaaGreat
