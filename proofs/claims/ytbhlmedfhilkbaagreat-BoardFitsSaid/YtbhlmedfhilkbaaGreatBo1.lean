/- The laws of boards: the kinds of machine and of input lists; a law's slices opened. No condition. -/
import Derived.Test.YtbhlmedfhilkbaaGreatSn1
import Derived.Test.YtbhlmedfhilkbaaGreatSg
import Derived.Test.YtbhlmedfhilkbaaGreatFtK
import Derived.Test.YtbhlmedfhilkbaaGreatFtQ
set_option linter.unusedSimpArgs false
set_option linter.unusedVariables false
set_option linter.unusedSectionVars false
namespace Go.Proofs.YtbhlmedfhilkbaaGreat
open Go Go.Sx Go.ChangeShapes Go.WideShapes Go.ChangeAt Go.RowKit
set_option maxRecDepth 1000000
noncomputable section
theorem kLaw_wf : ((kLaw true).cons.all Con.wf && (kLaw false).cons.all Con.wf) = true := by kernel_rfl
section
variable {G : Nat → Int → Int → Int → Int} (hM : Made G)
include hM
omit hM in
theorem cKind_ok (coh : Bool) : (cKind coh).Ok PR G gh := by
 have h := kind_run
 cases coh
 · exact runP_ok knowNil (and2 (and2 h).2).1
 · exact runP_ok knowNil (and2 h).1
theorem kLaw_ok : ∀ coh, (kLaw coh).Ok PR G gh
 | true => knowOk (and2 kLaw_wf).1 (allC (cKind_ok true) (allC sane (allC (cLaidK_ok hM).2 (allC (cMachK_ok hM.base) (allC cClone_ok (allC (cSnapRK_ok hM.base) (allC (cSnapPK_ok hM.base) (allC (cSnap2K_ok hM.base) (allC (cRestK_ok hM.base) (allC cWords_ok.2 (allC (cPages6_ok (by decide)) allN)))))))))))
 | false => knowOk (and2 kLaw_wf).2 (allC (cKind_ok false) (allC sane (allC (cLaidQ_ok hM).2 (allC (cMachQ_ok hM.base) (allC cClone_ok (allC (cSnapRQ_ok hM.base) (allC (cSnapPQ_ok hM.base) (allC (cSnap2Q_ok hM.base) (allC (cRestQ_ok hM.base) (allC cWords_ok.2 (allC (cPages6_ok (by decide)) allN)))))))))))
omit hM in
theorem laid_bds {ρ : Env} (h2 : ρ.ok (bdL lawB)) : ρ.ok (bdL laidB) ∧ Dec.holds ρ [in27] := by
 have a1 := h2 11 0 9223372036854775807 (by rfl)
 have a2 := h2 20 (-9223372036854775808) 9223372036854775807 (by rfl)
 have a3 := h2 21 (-9223372036854775808) 9223372036854775807 (by rfl)
 have a4 := h2 22 (-9223372036854775808) 9223372036854775807 (by rfl)
 have a5 := h2 23 (-9223372036854775808) 9223372036854775807 (by rfl)
 have a6 := h2 27 0 9223372036854775807 (by rfl)
 have a7 := h2 25 0 0 (by rfl)
 refine ⟨bdL_ok fun i lo hi h => ?_, fun p hp => ?_⟩
 · simp only [laidB, lenB, i64B, List.mem_cons, Prod.mk.injEq, List.not_mem_nil, or_false] at h
   rcases h with ⟨rfl, rfl, rfl⟩ | ⟨rfl, rfl, rfl⟩ | ⟨rfl, rfl, rfl⟩ | ⟨rfl, rfl, rfl⟩ | ⟨rfl, rfl, rfl⟩ | ⟨rfl, rfl, rfl⟩ | ⟨rfl, rfl, rfl⟩
   · exact a1
   · exact a2
   · exact a3
   · exact a4
   · exact a5
   · omega
   · exact a6
 · rw [List.mem_singleton.1 hp]
   exact decide_eq_false (by show ¬ (ρ.i 27 < ρ.i 25); omega)
theorem hd6_ok {ρ : Env} (h1 : ρ.std G gh) (h2 : ρ.ok (bdL lawB)) (coh : Bool) : (hd6 coh).holds ρ := by
 obtain ⟨b1, b2⟩ := laid_bds h2
 have key : mN ((mK coh).ev ρ) = 6 ∧ mCoh ((mK coh).ev ρ) = coh := by
   cases coh
   · exact laidQ_head hM h1 b1 b2
   · exact laidK_head hM h1 b1 b2
 intro p hp
 simp only [hd6, List.mem_cons, List.not_mem_nil, or_false] at hp
 rcases hp with rfl | rfl
 · exact decide_eq_true key.1
 · exact key.2
/-- A law of boards. -/
def law0 (g : Nat) : Con := { g := g, args := [progV, .agg (i64s [20, 21, 22, 23]), lawV], os := [progO, inO], bds := lawB, pre := [], res := .bool (.lit true), os' := [progO, inO] }
omit hM in
theorem mod_in (x : Int) {m : Int} (n : Nat) (hm : m = n) (hp : 0 < n) : 0 ≤ (x.tmod m + m).tmod m ∧ (x.tmod m + m).tmod m < n := by
 have h0 : 0 ≤ x.tmod m + m := by
   have := Int.lt_tmod_of_pos x (show 0 < m by omega)
   omega
 rw [Int.tmod_eq_emod_of_nonneg h0]
 subst hm
 exact ⟨Int.emod_nonneg _ (by omega), Int.emod_lt_of_pos _ (by omega)⟩
theorem law_cases {g : Nat} (h : ∀ coh l, (lawC g coh l []).Ok PR G gh) : (law0 g).Ok PR G gh := by
 intro ρ h1 h2 _
 have he : 0 ≤ e2.ev ρ ∧ e2.ev ρ < (2 : Nat) := mod_in (ρ.i 22) 2 rfl (by decide)
 obtain ⟨coh, hc⟩ : ∃ coh, (is2 coh).1.ev ρ = (is2 coh).2 := by
   by_cases e : e2.ev ρ = 0
   · exact ⟨true, decide_eq_true e⟩
   · exact ⟨false, decide_eq_true (show e2.ev ρ = 1 by omega)⟩
 refine h coh ((BE.lt (.lit 8) (.var 27)).ev ρ) ρ h1 h2 fun p hp => ?_
 simp only [lawC, List.append_nil] at hp
 rcases List.mem_cons.1 hp with rfl | hp
 · exact hc
 · rcases List.mem_cons.1 hp with rfl | hp
   · rfl
   · exact hd6_ok hM h1 h2 coh p hp
omit hM in
/-- The law by the number that selects. -/
theorem law_sel {g : Nat} {coh l : Bool} (h : ∀ s, s < 8 → (lawC g coh l [(.eq e8 (.lit (.ofNat s)), true)]).Ok PR G gh) : (lawC g coh l []).Ok PR G gh := by
 intro ρ h1 h2 h3
 have he : 0 ≤ e8.ev ρ ∧ e8.ev ρ < (8 : Nat) := mod_in (ρ.i 21) 8 rfl (by decide)
 obtain ⟨s, hs⟩ := Int.eq_ofNat_of_zero_le he.1
 refine h s (by omega) ρ h1 h2 fun p hp => ?_
 simp only [lawC, List.append_nil, List.mem_cons, List.mem_append, List.not_mem_nil, or_false] at hp h3
 have h3' : ∀ p ∈ is2 coh :: many l :: hd6 coh, p.1.ev ρ = p.2 := h3
 rcases hp with rfl | rfl | hp | rfl
 · exact h3' _ (by simp)
 · exact h3' _ (by simp)
 · exact h3' _ (by simp [hp])
 · exact decide_eq_true hs
end
end
end Go.Proofs.YtbhlmedfhilkbaaGreat
namespace Go.Proofs.YtbhlmedfhilkbaaGreat
open Go Go.Sx Go.ChangeShapes Go.WideShapes Go.ChangeAt Go.RowKit
set_option maxRecDepth 1000000
noncomputable section
def pqsB : List PQ := [.sl [.i64, .i64, .i64, .i64, .i64] false 70368744177664, .agg [.i64, .i64, .i64, .i64], .sl [.u32] false 70368744177664]
/-- The symbols by the laws' numbers. -/
def iB (I : Nat → Int) : Nat → Int
 | 10 => I 0
 | 11 => I 1
 | 20 => I 2
 | 21 => I 3
 | 22 => I 4
 | 23 => I 5
 | 24 => I 6
 | 27 => I 7
 | 25 => 0
 | j => I j
def EB (G : Nat → Int → Int → Int → Int) (I : Nat → Int) : Env := { i := iB I, b := fun _ => false, g := G, gh := gh }
theorem EB_low {G : Nat → Int → Int → Int → Int} {I : Nat → Int} : ∀ i, i < 8 → (EB G I).i i = I i
 | 0, _ => rfl
 | 1, _ => rfl
 | 2, _ => rfl
 | 3, _ => rfl
 | 4, _ => rfl
 | 5, _ => rfl
 | 6, _ => rfl
 | 7, _ => rfl
theorem sl_re {ρ : Env} {f f' : Ren} {i i' s : Nat} {a b : IE} {v : Value} (h : VRel ρ f (.sliceS i (.lit 0) a s false) v) (hf : ∀ L, f i = some L → f' i' = some L) (he : b.ev ρ = a.ev ρ) : VRel ρ f' (.sliceS i' (.lit 0) b s false) v := by
 cases h with
 | sliceS hh h0 hl hc =>
   have := VRel.sliceS (ρ := ρ) (f := f') (i := i') (s := s) (st := .lit 0) (len := b) (nn := false) (hf _ hh) h0 (by rw [he]; exact hl) (by rw [he]; exact hc)
   rw [he] at this
   exact this
 | sliceZ hl ha => exact .sliceZ (by rw [he]; exact hl) ha
theorem int_re {ρ : Env} {f f' : Ren} {k : IntKind} {a b : IE} {v : Value} (h : VRel ρ f (.int k a) v) (he : b.ev ρ = a.ev ρ) : VRel ρ f' (.int k b) v := by
 cases h
 rw [← he]
 exact .int k b
/-- How long the slices can be. -/
theorem slices_len {H : Type} {P : Program} {enc : TypeId × Value → H} {W : World} {t0 t1 t2 u0 u2 : TypeId} {more : List TypeId} {args : Array Value} {ds : List (DataW H)} {mp : List MemPlace} (hA : DataW.TrodAll enc P W 0 (fun _ => true) true [t0, t1, t2] args.toList ds mp) (h0 : P.underlying t0 = some (.slice u0)) (b0 : P.bytesOf u0 = 40) (h2 : P.underlying t2 = some (.slice u2)) (b2 : P.bytesOf u2 = 4)
   (hsz : (DataW.weightsEach P ([t0, t1, t2] ++ more) (ds ++ [])).all (· ≤ reachBytes) = true) : ∀ (j : Nat) a (n c : Nat), j ≠ 1 → args[j]? = some (.slice a n c) → (n : Int) ≤ 70368744177664 := by
 intro j a n c hj hn
 have hrb := reachBytes_lt
 obtain ⟨l⟩ := args
 obtain ⟨x, vs, d, ds1, p, q, e1, rfl, rfl, k0, r1⟩ := trodAll_cons hA
 obtain ⟨y, vs1, d1, ds2, p1, q1, rfl, rfl, rfl, k1, r2⟩ := trodAll_cons r1
 obtain ⟨z, vs2, d2, ds3, p2, q2, rfl, rfl, rfl, k2, r3⟩ := trodAll_cons r2
 obtain ⟨rfl, rfl, rfl⟩ := trodAll_nil r3
 have e1 : l = [x, y, z] := e1
 subst e1
 match j, hj, hn with
 | 0, _, hn =>
   have hn : some x = some (.slice a n c) := hn
   cases hn
   rcases slice_len h0 k0 with h | ⟨elems, rest, rfl, h3⟩
   · omega
   · have := sized_slice hsz (j := 0) (t := t0) rfl rfl h0
     rw [b0] at this
     omega
 | 1, hj, _ => exact absurd rfl hj
 | 2, _, hn =>
   have hn : some z = some (.slice a n c) := hn
   cases hn
   rcases slice_len h2 k2 with h | ⟨elems, rest, rfl, h3⟩
   · omega
   · have := sized_slice hsz (j := 2) (t := t2) rfl rfl h2
     rw [b2] at this
     omega
def fB (f : Ren) : Ren := fun j => match j with
 | 0 => f 0
 | 1 => f 6
 | _ => none
theorem board_walk {G : Nat → Int → Int → Int → Int} {g : Nat} (h : (law0 g).Ok PR G gh) {H : Type} {enc : TypeId × Value → H} {W : World} {base : Nat} {args : Array Value} {ds : List (DataW H)} {mp : List MemPlace} {ts : List TypeId} (hts : pqsOk PR ts pqsB = true) (hl : args.size = 3)
   (hv : ∀ (j : Nat) t v, ts[j]? = some t → args[j]? = some v → Value.okWide PR W .any base t v) (ht : DataW.TrodAll enc PR W 0 (fun _ => true) true ts args.toList ds mp) (hlen : ∀ (j : Nat) a (n c : Nat), j ≠ 1 → args[j]? = some (.slice a n c) → (n : Int) ≤ 70368744177664) :
   Calls PR g args W fun e w' => e = .returned (.bool true) ∧ Below W.heap.size W w' := by
 obtain ⟨I, hI⟩ := open_law (W := W) (base := base) hts (fun j p v hp hj => by
   match j, hp with
   | 0, hp =>
     have hp : some (PQ.sl [.i64, .i64, .i64, .i64, .i64] false 70368744177664) = some p := hp
     cases hp
     exact ⟨fun h => (by cases h), by decide, fun a n c e => hlen 0 a n c (by decide) (by rw [← e]; exact hj)⟩
   | 1, hp =>
     have hp : some (PQ.agg [.i64, .i64, .i64, .i64]) = some p := hp
     cases hp
     exact True.intro
   | 2, hp =>
     have hp : some (PQ.sl [.u32] false 70368744177664) = some p := hp
     cases hp
     exact ⟨fun h => (by cases h), by decide, fun a n c e => hlen 2 a n c (by decide) (by rw [← e]; exact hj)⟩) hv ht
 obtain ⟨hb, f, hr, ha, hn⟩ := hI (EB G I) (fun i hi => EB_low i hi)
 have b1 : 0 ≤ I 1 ∧ I 1 ≤ 70368744177664 := hb 1 _ _ (by rfl)
 have b2 : -9223372036854775808 ≤ I 2 ∧ I 2 ≤ 9223372036854775807 := hb 2 _ _ (by rfl)
 have b3 : -9223372036854775808 ≤ I 3 ∧ I 3 ≤ 9223372036854775807 := hb 3 _ _ (by rfl)
 have b4 : -9223372036854775808 ≤ I 4 ∧ I 4 ≤ 9223372036854775807 := hb 4 _ _ (by rfl)
 have b5 : -9223372036854775808 ≤ I 5 ∧ I 5 ≤ 9223372036854775807 := hb 5 _ _ (by rfl)
 have b7 : 0 ≤ I 7 ∧ I 7 ≤ 70368744177664 := hb 7 _ _ (by rfl)
 have hbd : (EB G I).ok (bdL lawB) := bdL_ok fun i lo hi h => by
   simp only [lawB, lenB, i64B, List.mem_cons, Prod.mk.injEq, List.not_mem_nil, or_false] at h
   rcases h with ⟨rfl, rfl, rfl⟩ | ⟨rfl, rfl, rfl⟩ | ⟨rfl, rfl, rfl⟩ | ⟨rfl, rfl, rfl⟩ | ⟨rfl, rfl, rfl⟩ | ⟨rfl, rfl, rfl⟩ | ⟨rfl, rfl, rfl⟩
   · show 0 ≤ I 1 ∧ I 1 ≤ _; omega
   · exact b2
   · exact b3
   · exact b4
   · exact b5
   · show 0 ≤ I 7 ∧ I 7 ≤ _; omega
   · show (0 : Int) ≤ 0 ∧ (0 : Int) ≤ 0; omega
 have hr' : HRel (EB G I) (· < W.heap.size) W (fB f) (treeOf [progO, inO] 0 .nil) W := by
   refine ⟨hr.below, hr.bsize, fun i L hi => ?_, fun i j Li Lj oi oj hi hj gi gj hij hown => ?_, fun i L o hi ho => ?_⟩
   · match i, hi with
     | 0, hi => exact hr.lt 0 L hi
     | 1, hi => exact hr.lt 6 L hi
   · match i, hi, gi with
     | 0, _, gi =>
       have gi : some progO = some oi := gi
       cases gi
       cases hown
     | 1, _, gi =>
       have gi : some inO = some oi := gi
       cases gi
       cases hown
   · match i, hi, ho with
     | 0, hi, ho =>
       have ho : some progO = some o := ho
       cases ho
       exact hr.obj 0 L (.arr [.i64, .i64, .i64, .i64, .i64] (.var 0) (.var 1) false) hi (by rfl)
     | 1, hi, ho =>
       have ho : some inO = some o := ho
       cases ho
       exact hr.obj 6 L (.arr [.u32] (.var 6) (.var 7) false) hi (by rfl)
 have ha' : LRel (EB G I) (fB f) (law0 g).args args := by
   refine ⟨hl, fun i x v hx hv' => ?_⟩
   match i, hx with
   | 0, hx =>
     have hx : some progV = some x := hx
     cases hx
     exact sl_re (ha.2 0 _ v rfl hv') (fun L e => e) rfl
   | 1, hx =>
     have hx : some (.agg (i64s [20, 21, 22, 23])) = some x := hx
     cases hx
     cases (show VRel (EB G I) f (.agg [.int .i64 (.var 2), .int .i64 (.var 3), .int .i64 (.var 4), .int .i64 (.var 5)]) v from ha.2 1 _ v rfl hv') with
     | agg q1 q2 =>
       refine .agg q1 fun k y z hy hz => ?_
       match k, hy with
       | 0, hy => cases hy; exact int_re (q2 0 _ z rfl hz) rfl
       | 1, hy => cases hy; exact int_re (q2 1 _ z rfl hz) rfl
       | 2, hy => cases hy; exact int_re (q2 2 _ z rfl hz) rfl
       | 3, hy => cases hy; exact int_re (q2 3 _ z rfl hz) rfl
   | 2, hx =>
     have hx : some lawV = some x := hx
     cases hx
     exact sl_re (ha.2 2 _ v rfl hv') (fun L e => e) rfl
 refine Calls.mono (h (EB G I) ⟨rfl, rfl⟩ hbd (fun p hp => by cases hp) (· < W.heap.size) W (fB f) W args hr' ha' (fun j hj => ?_)) fun e w' ⟨v, he, f', _, _, hh, hv'⟩ => ?_
 · match j, hj with
   | j + 2, _ => rfl
 · refine ⟨?_, hh.below.below⟩
   have := VRel.bool_eq hv'
   rw [he, this]
end
end Go.Proofs.YtbhlmedfhilkbaaGreat
namespace Go.Proofs.YtbhlmedfhilkbaaGreat
open Go Go.Sx
set_option maxRecDepth 1000000
noncomputable section
theorem fits_all (coh l : Bool) {s : Nat} (hs : s < 8) : rF coh l s = true := by
 have h : (List.range 8).all (rF coh l) = true := by
   cases coh <;> cases l
   · exact fitsQ0
   · exact fitsQ1
   · exact fitsK0
   · exact fitsK1
 exact List.all_eq_true.1 h s (List.mem_range.2 hs)
theorem fits_ok {G : Nat → Int → Int → Int → Int} (hM : Made G) : (law0 12).Ok PR G gh :=
 law_cases hM fun coh l => law_sel fun s hs => runP_ok (c := cFits s coh l) (kLaw_ok hM coh) (fits_all coh l hs)
end
end Go.Proofs.YtbhlmedfhilkbaaGreat
