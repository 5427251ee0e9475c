/- The functions behind Laid: that there are such ones; the contracts hold of them. No condition. -/
import Derived.Test.YtbhlmedfhilkbaaGreatBc0
import Derived.Test.YtbhlmedfhilkbaaGreatLa1
set_option linter.unusedSimpArgs false
set_option linter.unusedVariables false
set_option linter.unusedSectionVars false
namespace Go.Proofs.YtbhlmedfhilkbaaGreat
open Go Go.Sx
set_option maxRecDepth 1000000
noncomputable section
def rM2 : RT := cMade2.rows FM2 (casesO eMade2 tMade2 lMade2)
def rE2 : RT := cEnc2.rows FE2 (casesO (.var 0) tEnc2 lEnc2)
def rCK : RT := cCkL.rows FCK tCk
def rM3 : RT := cMade3.rows FM3 (casesO eMade3 tMade3 lMade3)
def rT3 : RT := cTame3.rows FT3 tTame3
def rE3 : RT := cEnc3.rows FE3 (casesO (.var 0) tEnc3 lEnc3)
def rCQ : RT := cCqL.rows FCQ tCq
def rEQ : RT := cEqL.rows FEQ tEq
def rLK : RT := cLaidK.rows FLK tLaidK
def rLQ : RT := cLaidQ.rows FLQ tLaidQ
structure Made (G : Nat → Int → Int → Int → Int) : Prop where
 base : Base G
 m2 : FM2.Def G rM2
 e2 : FE2.Def G rE2
 ck : FCK.Def G rCK
 m3 : FM3.Def G rM3
 t3 : FT3.Def G rT3
 e3 : FE3.Def G rE3
 cq : FCQ.Def G rCQ
 eq : FEQ.Def G rEQ
 lk : FLK.Def G rLK
 lq : FLQ.Def G rLQ
theorem and2 {a b : Bool} (h : (a && b) = true) : a = true ∧ b = true := by simpa using h
theorem o1 : rM2.only (memV FM2.vars) 112 = true := rows_only (show IE.only (memV FM2.vars) 112 eMade2 = true by decide) (and2 tMade2_all).2
theorem o2 : rE2.only (memV FE2.vars) 116 = true := rows_only (show IE.only (memV FE2.vars) 116 (.var 0) = true by decide) (and2 tEnc2_all).2
theorem o3 : rCK.only (memV FCK.vars) 118 = true := (and2 (and2 ck_run).2).1
theorem o4 : rM3.only (memV FM3.vars) 120 = true := rows_only (show IE.only (memV FM3.vars) 120 eMade3 = true by decide) (and2 tMade3_all).2
theorem o5 : rT3.only (memV FT3.vars) 122 = true := (and2 tTame3_all).2
theorem o6 : rE3.only (memV FE3.vars) 124 = true := rows_only (show IE.only (memV FE3.vars) 124 (.var 0) = true by decide) (and2 tEnc3_all).2
theorem o7 : rCQ.only (memV FCQ.vars) 126 = true := (and2 (and2 cq_run).2).1
theorem o8 : rEQ.only (memV FEQ.vars) 128 = true := (and2 (and2 eq_run).2).1
theorem o9 : rLK.only (memV FLK.vars) 130 = true := (and2 (and2 laidK_run).2).1
theorem o10 : rLQ.only (memV FLQ.vars) 132 = true := (and2 (and2 laidQ_run).2).1
attribute [irreducible] rM2 rE2 rCK rM3 rT3 rE3 rCQ rEQ rLK rLQ
theorem made_of (t1 t2 t3 t4 t5 t6 t7 t8 t9 t10 : RT) (h1 : t1.only (memV FM2.vars) 112 = true) (h2 : t2.only (memV FE2.vars) 116 = true) (h3 : t3.only (memV FCK.vars) 118 = true) (h4 : t4.only (memV FM3.vars) 120 = true) (h5 : t5.only (memV FT3.vars) 122 = true) (h6 : t6.only (memV FE3.vars) 124 = true) (h7 : t7.only (memV FCQ.vars) 126 = true) (h8 : t8.only (memV FEQ.vars) 128 = true) (h9 : t9.only (memV FLK.vars) 130 = true) (h10 : t10.only (memV FLQ.vars) 132 = true) : ∃ G, Base G ∧ FM2.Def G t1 ∧ FE2.Def G t2 ∧ FCK.Def G t3 ∧ FM3.Def G t4 ∧ FT3.Def G t5 ∧ FE3.Def G t6 ∧ FCQ.Def G t7 ∧ FEQ.Def G t8 ∧ FLK.Def G t9 ∧ FLQ.Def G t10 := by
 obtain ⟨G, _, b, _, d⟩ := exists_defs [(FM2, t1, 112), (FE2, t2, 116), (FCK, t3, 118), (FM3, t4, 120), (FT3, t5, 122), (FE3, t6, 124), (FCQ, t7, 126), (FEQ, t8, 128), (FLK, t9, 130), (FLQ, t10, 132)] 112 gA (fun _ _ _ => rfl) (by show fnsChain 112 [(FM2, 112), (FE2, 116), (FCK, 118), (FM3, 120), (FT3, 122), (FE3, 124), (FCQ, 126), (FEQ, 128), (FLK, 130), (FLQ, 132)] = true; decide) (fun x hx => by
   simp only [List.mem_cons, List.not_mem_nil, or_false] at hx
   rcases hx with rfl | rfl | rfl | rfl | rfl | rfl | rfl | rfl | rfl | rfl
   · exact h1
   · exact h2
   · exact h3
   · exact h4
   · exact h5
   · exact h6
   · exact h7
   · exact h8
   · exact h9
   · exact h10)
 exact ⟨G, fun c hc x y z => by rw [b c (by omega)], d (FM2, t1, 112) (by simp), d (FE2, t2, 116) (by simp), d (FCK, t3, 118) (by simp), d (FM3, t4, 120) (by simp), d (FT3, t5, 122) (by simp), d (FE3, t6, 124) (by simp), d (FCQ, t7, 126) (by simp), d (FEQ, t8, 128) (by simp), d (FLK, t9, 130) (by simp), d (FLQ, t10, 132) (by simp)⟩
theorem made_ex : ∃ G, Made G :=
 (made_of rM2 rE2 rCK rM3 rT3 rE3 rCQ rEQ rLK rLQ o1 o2 o3 o4 o5 o6 o7 o8 o9 o10).elim fun G h => ⟨G, And.left h, h.2.1, h.2.2.1, h.2.2.2.1, h.2.2.2.2.1, h.2.2.2.2.2.1, h.2.2.2.2.2.2.1, h.2.2.2.2.2.2.2.1, h.2.2.2.2.2.2.2.2.1, h.2.2.2.2.2.2.2.2.2.1, h.2.2.2.2.2.2.2.2.2.2⟩
section
variable {G : Nat → Int → Int → Int → Int} (hM : Made G)
theorem rem_in {x m : Int} (n : Nat) (h0 : 0 ≤ x) (hm : m = n) (hp : 0 < n) : x.tmod m ∈ (List.range n).map Int.ofNat := by
 subst hm
 exact mem_upto (by rw [Int.tmod_eq_emod_of_nonneg h0]; exact Int.emod_nonneg _ (by omega)) (Int.tmod_lt_of_pos _ (by omega))
theorem l2_eq : lMade2 = (List.range 79).map Int.ofNat := by rfl
theorem e2_eq : lEnc2 = (List.range 131).map Int.ofNat := by rfl
theorem l3_eq : lMade3 = (List.range 39).map Int.ofNat := by rfl
theorem e3_eq : lEnc3 = (List.range 64).map Int.ofNat := by rfl
include hM
theorem cMade2_ok : cMade2.Ok PR G gh := by
 refine defCaseOk (fun _ _ => knowNil) (by decide) tMade2 rfl (fun ρ h1 h2 h3 => ?_) (and2 tMade2_all).1 (by have h := hM.m2; unfold rM2 at h; exact h)
 rw [l2_eq]
 refine rem_in 79 ?_ rfl (by decide)
 exact (rng_ok (ρ := ρ) (bd := fun _ => none) (fun i lo hi h => by cases h) (.bits .and .i64 (.var 0) (.lit 65535)) 0 65535 (by decide)).1
theorem cEnc2_ok : cEnc2.Ok PR G gh := by
 refine defCaseOk (fun _ _ => knowNil) (by decide) tEnc2 rfl (fun ρ h1 h2 h3 => ?_) (and2 tEnc2_all).1 (by have h := hM.e2; unfold rE2 at h; exact h)
 rw [e2_eq]
 obtain ⟨a, b⟩ := h2 0 0 130 (by rfl)
 exact mem_upto a (by show ρ.i 0 < (131 : Int); omega)
theorem cMade3_ok : cMade3.Ok PR G gh := by
 refine defCaseOk (fun _ _ => knowNil) (by decide) tMade3 rfl (fun ρ h1 h2 h3 => ?_) (and2 tMade3_all).1 (by have h := hM.m3; unfold rM3 at h; exact h)
 rw [l3_eq]
 refine rem_in 39 ?_ rfl (by decide)
 show 0 ≤ (ρ.i 0).tmod 39 + 39
 have := Int.lt_tmod_of_pos (ρ.i 0) (show (0 : Int) < 39 by decide)
 omega
theorem cTame3_ok : cTame3.Ok PR G gh := by
 have hd := hM.t3
 unfold rT3 at hd
 have h := tTame3_all
 generalize ht : tTame3 = t at h hd
 have ht' : cTame3.tree PR ⟨[], []⟩ 40 none' no' 12 [] = t := ht
 exact defOk knowNil (by decide) t ht' (and2 h).1 hd
theorem cEnc3_ok : cEnc3.Ok PR G gh := by
 refine defCaseOk (fun _ _ => knowNil) (by decide) tEnc3 rfl (fun ρ h1 h2 h3 => ?_) (and2 tEnc3_all).1 (by have h := hM.e3; unfold rE3 at h; exact h)
 rw [e3_eq]
 obtain ⟨a, b⟩ := h2 0 0 63 (by rfl)
 exact mem_upto a (by show ρ.i 0 < (64 : Int); omega)
omit hM in
theorem cEnc3L_ok : cEnc3L.Ok PR G gh := runP_ok knowNil (and2 tEnc3_o).1
omit hM in
theorem cEnc3H_ok : cEnc3H.Ok PR G gh := runP_ok knowNil (and2 tEnc3_o).2
end
end
end Go.Proofs.YtbhlmedfhilkbaaGreat
namespace Go.Proofs.YtbhlmedfhilkbaaGreat
open Go Go.Sx
set_option maxRecDepth 1000000
noncomputable section
theorem kCk_wf : kCk.cons.all Con.wf = true := by kernel_rfl
theorem kCq_wf : kCq.cons.all Con.wf = true := by kernel_rfl
theorem kEq_wf : kEq.cons.all Con.wf = true := by kernel_rfl
section
variable {G : Nat → Int → Int → Int → Int} (hM : Made G)
include hM
theorem ck_leaves : cCkL.Leaves G gh tCk := by
 have h := ck_run
 have hd := hM.ck
 unfold rCK at hd
 generalize tCk = t at h hd ⊢
 exact Con.defLeaves (c := cCkL) [] (fun _ _ _ _ => nilDec) (F := FCK) (by decide) (o := t) (and2 h).1 hd
theorem cq_leaves : cCqL.Leaves G gh tCq := by
 have h := cq_run
 have hd := hM.cq
 unfold rCQ at hd
 generalize tCq = t at h hd ⊢
 exact Con.defLeaves (c := cCqL) [] (fun _ _ _ _ => nilDec) (F := FCQ) (by decide) (o := t) (and2 h).1 hd
theorem eq_leaves : cEqL.Leaves G gh tEq := by
 have h := eq_run
 have hd := hM.eq
 unfold rEQ at hd
 generalize tEq = t at h hd ⊢
 exact Con.defLeaves (c := cEqL) [] (fun _ _ _ _ => nilDec) (F := FEQ) (by decide) (o := t) (and2 h).1 hd
theorem lCk_ok : lCk.con.wf = true ∧ lCk.Ok PR G gh := by
 have h := ck_leaves hM
 unfold tCk at h
 have w : lCk.con.wf = true := (and2 (and2 ck_run).2).2
 exact ⟨w, LCon.ok_of (c := lCk) mixed (K := kCk) (knowOk kCk_wf (allC (cMade2_ok hM) (allC (cEnc2_ok hM) allN))) w rfl (L := 40) (pol := none') (pure := no') (d := 12) (μ := μCk) (facts := []) (fun _ _ _ _ => nilDec) h⟩
theorem lCq_ok : lCq.con.wf = true ∧ lCq.Ok PR G gh := by
 have h := cq_leaves hM
 unfold tCq at h
 have w : lCq.con.wf = true := (and2 (and2 cq_run).2).2
 exact ⟨w, LCon.ok_of (c := lCq) mixed (K := kCq) (knowOk kCq_wf (allC (cMade3_ok hM) (allC (cTame3_ok hM) allN))) w rfl (L := 40) (pol := none') (pure := no') (d := 12) (μ := μCq) (facts := []) (fun _ _ _ _ => nilDec) h⟩
theorem lEq_ok : lEq.con.wf = true ∧ lEq.Ok PR G gh := by
 have h := eq_leaves hM
 unfold tEq at h
 have w : lEq.con.wf = true := (and2 (and2 eq_run).2).2
 exact ⟨w, LCon.ok_of (c := lEq) mixed (K := kEq) (knowOk kEq_wf (allC (cEnc3_ok hM) (allC cEnc3L_ok (allC cEnc3H_ok allN)))) w rfl (L := 40) (pol := none') (pure := no') (d := 12) (μ := μEq) (facts := []) (fun _ _ _ _ => nilDec) h⟩
theorem cCodeK_ok : cCodeK.Ok PR G gh := runP_ok (knowOkL rfl allN (lpC (lCk_ok hM).1 (lCk_ok hM).2 lpN)) (and2 codeK_run).1
theorem cCodeQ_ok : cCodeQ.Ok PR G gh := runP_ok (knowOkL rfl allN (lpC (lCq_ok hM).1 (lCq_ok hM).2 (lpC (lEq_ok hM).1 (lEq_ok hM).2 lpN))) (and2 codeQ_run).1
theorem cLaidK_ok : cLaidK.wf = true ∧ cLaidK.Ok PR G gh := by
 have hd := hM.lk
 unfold rLK at hd
 have h := laidK_run
 generalize ht : tLaidK = t at h hd
 have ht' : cLaidK.tree PR kLaidK 40 none' no' 12 [] = t := ht
 exact ⟨(and2 (and2 h).2).2, defOk (knowOk (and2 laid_wf).1 (allC (cNewR_ok hM.base true) (allC (cCodeK_ok hM) (allC (rPoke_ok hM.base).2 (allC (rSync_ok hM.base) (allC (rProt_ok hM.base).2 allN)))))) (by decide) t ht' (and2 h).1 hd⟩
theorem cLaidQ_ok : cLaidQ.wf = true ∧ cLaidQ.Ok PR G gh := by
 have hd := hM.lq
 unfold rLQ at hd
 have h := laidQ_run
 generalize ht : tLaidQ = t at h hd
 have ht' : cLaidQ.tree PR kLaidQ 40 none' no' 12 [] = t := ht
 exact ⟨(and2 (and2 h).2).2, defOk (knowOk (and2 laid_wf).2 (allC (cNewR_ok hM.base false) (allC (cCodeQ_ok hM) (allC (rPoke_ok hM.base).2 (allC (rSync_ok hM.base) (allC (rProt_ok hM.base).2 allN)))))) (by decide) t ht' (and2 h).1 hd⟩
end
end
end Go.Proofs.YtbhlmedfhilkbaaGreat
namespace Go.Proofs.YtbhlmedfhilkbaaGreat
open Go Go.Sx
set_option maxRecDepth 1000000
noncomputable section
def Heads (M M' : Int) : Prop := mN M' = mN M ∧ mCoh M' = mCoh M
theorem Heads.refl (M : Int) : Heads M M := ⟨rfl, rfl⟩
theorem Heads.trans {A B C : Int} (h : Heads A B) (h' : Heads B C) : Heads A C := ⟨h'.1.trans h.1, h'.2.trans h.2⟩
theorem prS_heads (M p r : Int) : Heads M (prS M p r) := by
 unfold prS
 split
 · rename_i h
   have e : p * 4 + 2 = ((4 * p.toNat + 2 : Nat) : Int) := by omega
   rw [e]
   exact rowSet_head (by omega) (by omega)
 · exact .refl M
theorem stS_heads (M b : Int) {a : Int} (h0 : 0 ≤ a) : Heads M (stS M a b) := by
 unfold stS
 split
 · have e : a * 4 = ((4 * a.toNat : Nat) : Int) := by omega
   rw [e]
   exact rowSet_head (by omega) (by omega)
 · exact .refl M
theorem poF_heads (a d : Int) : ∀ (k i : Nat) (M : Int), Heads M (poF M a d i k)
 | 0, _, M => .refl M
 | k + 1, i, M => (stS_heads M _ (ad_nn _ _).1).trans (poF_heads a d k (i + 1) _)
theorem setN_heads {M : Int} {ix : Nat → Nat} {g : Nat → Int} (h : ∀ j, ix j ≠ 3 ∧ ix j ≠ 7) : ∀ n, Heads M (setN M ix g n)
 | 0 => .refl M
 | n + 1 => (setN_heads h n).trans (rowSet_head (h n).1 (h n).2)
theorem syS_heads (M a : Int) : Heads M (syS M a) := by
 unfold syS
 split
 · exact setN_heads (fun j => by unfold ixC; omega) _
 · exact .refl M
def keepM (coh : Bool) : Nat → IE → Bool
 | k + 1, .fn c m y _ =>
   match Nat.beq c 31 || (Nat.beq c 33 || Nat.beq c 38) with
   | true => keepM coh k m
   | false =>
     match m, y with
     | .lit a, .lit b => Nat.beq c 37 && (decide (a = 6) && decide (b = b2 coh))
     | _, _ => false
 | _, _ => false
theorem keepM_ev {G : Nat → Int → Int → Int → Int} (hG : Base G) {ρ : Env} (h1 : ρ.std G gh) {coh : Bool} : ∀ (k : Nat) (e : IE), keepM coh k e = true → mN (e.ev ρ) = 6 ∧ mCoh (e.ev ρ) = coh := by
 intro k
 induction k with
 | zero => intro e h; unfold keepM at h; cases h
 | succ k ih =>
   intro e h
   unfold keepM at h
   split at h
   · rename_i k0 c m y z hk
     cases hk
     split at h
     · rename_i hc
       obtain ⟨a, b⟩ := ih m h
       have key : Heads (m.ev ρ) ((IE.fn c m y z).ev ρ) := by
         show Heads (m.ev ρ) (fnI ρ c (m.ev ρ) (y.ev ρ) (z.ev ρ))
         simp only [Bool.or_eq_true, Nat.beq_eq] at hc
         rcases hc with rfl | rfl | rfl
         · rw [fn_ev hG h1 (by decide) (by decide)]; exact prS_heads _ _ _
         · rw [fn_ev hG h1 (by decide) (by decide)]; exact syS_heads _ _
         · rw [fn_ev hG h1 (by decide) (by decide)]; exact poF_heads _ _ _ _ _
       exact ⟨key.1.trans a, key.2.trans b⟩
     · split at h
       · rename_i a b
         obtain ⟨q1, h⟩ := and2 h
         obtain ⟨q2, q3⟩ := and2 h
         have q1 := Nat.eq_of_beq_eq_true q1
         have q2 := of_decide_eq_true q2
         have q3 := of_decide_eq_true q3
         subst q1 q2 q3
         have e : (IE.fn 37 (.lit 6) (.lit (b2 coh)) z).ev ρ = newM 6 (b2 coh) := by
           show fnI ρ 37 6 (b2 coh) _ = _
           rw [fn_ev hG h1 (by decide) (by decide)]
           rfl
         rw [e]
         have hb : b2 coh = 0 ∨ b2 coh = 1 := by cases coh <;> decide
         refine ⟨newM_n ⟨by decide, by decide⟩ hb, ?_⟩
         rw [newM_c ⟨by decide, by decide⟩ hb]
         cases coh <;> rfl
       · cases h
   · cases h
def memLeaf (c : Con) (F : Fns) (coh : Bool) (_ : Dec) (_ : AExit) (s : ASt) : Bool :=
 match c.endsA s with
 | some q => match q[30]? with
   | some p => p.1.eq (kvE F 30) && keepM coh 40 p.2
   | none => false
 | none => false
theorem mem_all {G : Nat → Int → Int → Int → Int} (hG : Base G) {c : Con} {F : Fns} {o : Out} {coh : Bool} (hk : 7 < F.KR ∧ 7 < F.KV) (hd : o.all (c.defLeaf F) c.pre = true) (hf : o.all (memLeaf c F coh) c.pre = true)
   (hF : F.Def G (c.rows F o)) {ρ : Env} (h1 : ρ.std G gh) (h2 : ρ.ok (bdL c.bds)) (h0 : c.pre.holds ρ) : mN ((kvE F 30).ev ρ) = 6 ∧ mCoh ((kvE F 30).ev ρ) = coh := by
 obtain ⟨e, s, dec', hd', a1, a2⟩ := Out.all_pick (ρ := ρ) (o := o) (dec := c.pre) h0 (p := fun dec e s => c.defLeaf F dec e s) hd
 obtain ⟨e2, s2, dec2, hd2, b1, b2⟩ := Out.all_pick (ρ := ρ) (o := o) (dec := c.pre) h0 (p := memLeaf c F coh) hf
 rw [a1] at b1
 cases b1
 have hF' : F.Def ρ.g (c.rows F o) := by rw [h1.1]; exact hF
 obtain ⟨q, c1, c2⟩ := Con.def_at (c := c) (F := F) (ρ := ρ) (o := o) (dec' := dec') hk h2 hF' a1 a2
 unfold memLeaf at b2
 rw [c1] at b2
 dsimp only at b2
 split at b2
 · rename_i p hp
   obtain ⟨q1, q2⟩ := and2 b2
   have q1 := IE.eq_eq q1
   have e : (kvE F 30).ev ρ = p.2.ev ρ := by
     rw [← q1]
     exact c2 p (List.mem_of_getElem? hp)
   rw [e]
   exact keepM_ev hG h1 40 _ q2
 · cases b2
theorem laid_mem : (tLaidK.all (memLeaf cLaidK FLK true) cLaidK.pre && tLaidQ.all (memLeaf cLaidQ FLQ false) cLaidQ.pre) = true := by kernel_rfl
section
variable {G : Nat → Int → Int → Int → Int} (hM : Made G)
include hM
theorem laidK_head {ρ : Env} (h1 : ρ.std G gh) (h2 : ρ.ok (bdL cLaidK.bds)) (h0 : cLaidK.pre.holds ρ) : mN ((kvE FLK 30).ev ρ) = 6 ∧ mCoh ((kvE FLK 30).ev ρ) = true := by
 have hd := hM.lk
 unfold rLK at hd
 have h := (and2 laidK_run).1
 have h' := (and2 laid_mem).1
 generalize tLaidK = t at h h' hd
 exact mem_all hM.base (by decide) h h' hd h1 h2 h0
theorem laidQ_head {ρ : Env} (h1 : ρ.std G gh) (h2 : ρ.ok (bdL cLaidQ.bds)) (h0 : cLaidQ.pre.holds ρ) : mN ((kvE FLQ 30).ev ρ) = 6 ∧ mCoh ((kvE FLQ 30).ev ρ) = false := by
 have hd := hM.lq
 unfold rLQ at hd
 have h := (and2 laidQ_run).1
 have h' := (and2 laid_mem).2
 generalize tLaidQ = t at h h' hd
 exact mem_all hM.base (by decide) h h' hd h1 h2 h0
end
end
end Go.Proofs.YtbhlmedfhilkbaaGreat
