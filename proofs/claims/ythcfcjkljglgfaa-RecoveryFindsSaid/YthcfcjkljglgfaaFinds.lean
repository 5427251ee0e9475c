/- RecoveryFinds: whatever the sites and the offset, the law returns true, and the arguments read as they did. No condition. -/
import Derived.Test.YthcfcjkljglgfaaSxO
import Derived.Test.YthcfcjkljglgfaaRows
namespace Go.Proofs.Ythcfcjkljglgfaa.finds
open Go Go.Sx Go.ChangeShapes Go.WideShapes Go.ChangeAt Go.RowKit
set_option maxRecDepth 1000000

theorem own : ownKnob Try.prog.godebug = none := by kernel_rfl
theorem laidOut : laidOutB Try.prog = true := by kernel_rfl
theorem mixed : Try.prog.follows .mixedOrders = true := by kernel_rfl

/-! parts of the code -/
def site : List IntKind := [.i64, .i64, .i64, .u32, .u32, .i64]
noncomputable def part1 : Code → Code
  | .seq a _ => a
  | c => c
noncomputable def part2 : Code → Code
  | .seq _ b => b
  | c => c
noncomputable def inner : Code → Code
  | .block _ c => c
  | .loop c => c
  | c => c
noncomputable def code15 : Code := Try.f15.body.getD .skip
noncomputable def loop15 : Code := inner (inner (part2 (part1 (part2 code15))))
theorem shape15 : Try.f15.body = some (.seq (part1 code15) (.seq (.seq (part1 (part1 (part2 code15))) (.block 0 (.loop loop15))) (part2 (part2 code15)))) := by kernel_rfl
/-- 0: the sites' number, 1: how many, 2: the offset, 3: the counter. -/
def bd15 : Bd := fun i =>
  match i with
  | 1 => some (0, 9223372036854775807)
  | 2 => some (-9223372036854775808, 9223372036854775807)
  | 3 => some (0, 9223372036854775807)
  | _ => none
noncomputable def C15 : Ctx := ctxOf Try.prog bd15
noncomputable def heap0 : T AObj := T.nil.set 0 (.arr site (.var 0) (.var 1) false)
noncomputable def args0 : List AVal := [.agg [.str [], .sliceS 0 (.lit 0) (.var 1) 6], .int .i64 (.var 2)]
noncomputable def s0 : ASt := ⟨treeOf args0 0 .nil, heap0, 1⟩
noncomputable def no : Nat → ACode := fun _ _ => none
noncomputable def run15 (dec : Dec) (c : Code) (s : ASt) : Option (AExit × ASt) := aCode (C15.with dec) noSum.call no (aDraw (C15.with dec)) 22 10 c s
noncomputable def s1 : ASt := stOf (run15 [] (part1 code15) s0)
noncomputable def s2 : ASt := stOf (run15 [] (part1 (part1 (part2 code15))) s1)
theorem ran1 : endsBy .normal (run15 [] (part1 code15) s0) = true := by kernel_rfl
theorem ran2 : endsBy .normal (run15 [] (part1 (part1 (part2 code15))) s1) = true := by kernel_rfl
def zeros : List AVal := [.int .i64 (.lit 0), .int .i64 (.lit 0), .int .i64 (.lit 0), .int .u32 (.lit 0), .int .u32 (.lit 0), .int .i64 (.lit 0)]
/-- The loop's head. -/
noncomputable def pat : ASt :=
  ⟨((((((T.nil.set 1 (.int .i64 (.var 2))).set 4 (.ptr (some (1, 0)))).set 9 (.sliceS 0 (.lit 0) (.var 1) 6)).set 10 (.int .i64 (.var 1))).set 11 (.int .i64 (.var 3))).set 5 (.bool (.lit false))),
   heap0.set 1 (.cells (cellsOf zeros) 34 true 6), 2⟩
theorem head : ASt.fits (sub [.var 0, .var 1, .var 2, .lit 0]) [(0, 0), (1, 2)] pat s2 = true := by kernel_rfl
/-- Behind it, with a site found. -/
noncomputable def patF : ASt :=
  ⟨((T.nil.set 4 (.ptr (some (1, 0)))).set 5 (.bool (.lit true))), heap0.set 1 (.cells (cellsOf (symCells site 4)) 34 true 6), 2⟩
def dec1 (off : Bool) : Dec := [(.lt (.var 3) (.var 1), true), (.eq (.wrap .i64 (.fn 0 (.var 0) (.mul (.var 3) (.lit 6)) (.lit 0))) (.var 2), off)]

theorem next : runTo (C15.with (dec1 false)) noSum.call no (aDraw (C15.with (dec1 false))) 22 10 loop15 pat .normal pat [.var 0, .var 1, .var 2, .wrap .i64 (.add (.var 3) (.lit 1))] [(0, 0), (1, 1)] = true := by kernel_rfl
def cellAt (k : IntKind) (c : Nat) : IE := .wrap k (.fn 0 (.var 0) (match c with
  | 0 => .mul (.var 3) (.lit 6)
  | c => .add (.mul (.var 3) (.lit 6)) (.lit (.ofNat c))) (.lit 0))
def siteAt : List IE := [cellAt .i64 0, cellAt .i64 1, cellAt .i64 2, cellAt .u32 3, cellAt .u32 4, cellAt .i64 5]
theorem found : runTo (C15.with (dec1 true)) noSum.call no (aDraw (C15.with (dec1 true))) 22 10 loop15 pat .ret patF ([.var 0, .var 1, .var 2, .var 3] ++ siteAt) [(0, 0), (1, 1)] = true := by kernel_rfl
def dec2 : Dec := [(.lt (.var 3) (.var 1), false)]
/-- The loop has come to its end. -/
noncomputable def patN : ASt := ⟨T.nil.set 4 (.ptr (some (1, 0))), heap0.set 1 (.cells (cellsOf zeros) 34 true 6), 2⟩
theorem over : runTo (C15.with dec2) noSum.call no (aDraw (C15.with dec2)) 22 10 loop15 pat (.exit 0) patN [.var 0, .var 1, .var 2] [(0, 0), (1, 1)] = true := by kernel_rfl
/-- Behind it, with none found. -/
noncomputable def patZ : ASt :=
  ⟨((T.nil.set 4 (.ptr (some (1, 0)))).set 5 (.bool (.lit false))), heap0.set 1 (.cells (cellsOf zeros) 34 true 6), 2⟩
theorem tail : runTo C15 noSum.call no (aDraw C15) 22 10 (part2 (part2 code15)) patN .ret patZ [.var 0, .var 1, .var 2] [(0, 0), (1, 1)] = true := by kernel_rfl
theorem resF : aRess C15 patF.tm patF.hp Try.f15.results.toList = some [.agg (symCells site 4), .bool (.lit true)] := by kernel_rfl
theorem resZ : aRess C15 patZ.tm patZ.hp Try.f15.results.toList = some [.agg zeros, .bool (.lit false)] := by kernel_rfl

theorem size15 : args0.length + (Try.f15.ntmps - args0.length) = 22 := by kernel_rfl
/-! what the function does -/
theorem ctx_ok {code len off k : Int} (h1 : 0 ≤ len ∧ len ≤ 9223372036854775807) (h2 : -9223372036854775808 ≤ off ∧ off ≤ 9223372036854775807) (h3 : 0 ≤ k ∧ k ≤ 9223372036854775807) {l : List Int} : C15.Ok Try.prog (E ([code, len, off, k] ++ l)) := by
  refine ctxOf_ok mixed fun i lo hi hb => ?_
  unfold bd15 at hb
  split at hb
  · cases hb; exact h1
  · cases hb; exact h2
  · cases hb; exact h3
  · cases hb
/-- The site numbered k has this offset. -/
abbrev hit (code off : Int) (k : Nat) : Prop := IntKind.i64.wrap (rowGet code (k * 6 : Nat)) = off
def FindPost (W : World) (code len off : Int) (e : Ending) (w' : World) : Prop := Below W.heap.size W w' ∧
      ((∃ (k : Nat) (v : Array Value), (k : Int) < len ∧ hit code off k ∧ (∀ j : Nat, j < k → ¬ hit code off j) ∧ e = .returned (.tuple #[.agg v, .bool true]) ∧ ∀ (ρ : Env) (g : Ren) (o : Nat), (∀ c kd, site[c]? = some kd → ρ.i (o + c) = kd.wrap (rowGet code (k * 6 + c : Nat))) → LRel ρ g (symCells site o) v) ∨
       ((∀ j : Nat, (j : Int) < len → ¬ hit code off j) ∧ e = .returned (.tuple #[.agg #[.int .i64 0, .int .i64 0, .int .i64 0, .int .u32 0, .int .u32 0, .int .i64 0], .bool false])))
theorem find_any {W : World} {f0 : Ren} {args' : Array Value} {code len off : Int} (hlen : 0 ≤ len ∧ len ≤ 9223372036854775807) (hoff : -9223372036854775808 ≤ off ∧ off ≤ 9223372036854775807)
    (hr : HRel (E [code, len, off]) (· < W.heap.size) W f0 heap0 W) (ha : LRel (E [code, len, off]) f0 args0 args') (hn : ∀ j, 1 ≤ j → f0 j = none) :
    Calls Try.prog 15 args' W (FindPost W code len off) := by
  have h0 := ctx_ok (code := code) (k := 0) hlen hoff (by omega) (l := [])
  have e0 : E [code, len, off] = E [code, len, off, 0] := by
    unfold E
    congr 1
    funext k
    match k with
    | 0 => rfl
    | 1 => rfl
    | 2 => rfl
    | 3 => rfl
    | k + 4 => simp [List.getD]
  rw [e0] at hr ha
  have hcall : CallOk Try.prog (E [code, len, off, 0]) (· < W.heap.size) W noSum.call := noSum_ok.call
  have hnil : Dec.holds (E [code, len, off, 0]) [] := fun p hp => by cases hp
  refine enter_ok Try.func15 shape15 hr ha hn fun a hs => ?_
  rw [size15] at hs
  have hC0 : (C15.with []).Ok Try.prog (E [code, len, off, 0]) := h0.with hnil
  refine wp_seq (piece_ok hC0 hcall (aDraw_ok hC0) loopFree ran1 hs fun f1 a1 w1 _ _ hs1 => ?_)
  refine wp_seq (wp_seq (piece_ok hC0 hcall (aDraw_ok hC0) loopFree ran2 hs1 fun f2 a2 w2 _ _ hs2 => ?_))
  have hs3 : ∀ N, StRel (E [code, len, off, 0]) (· < W.heap.size) W 22 N (f2.via (inR [(0, 0), (1, 2)]) (toR [(0, 0), (1, 2)])) pat a2 w2 := fun N => by
    have := ASt.fits_ok (N' := N) head (hs2 N)
    rw [E_rep] at this
    exact this
  refine wp_block (loop_rounds (fun (k : Nat) a w => (k : Int) ≤ len ∧ (∀ j : Nat, j < k → ¬ hit code off j) ∧ ∃ f, ∀ N, StRel (E [code, len, off, k]) (· < W.heap.size) W 22 N f pat a w) (fun k => len.toNat - k) (fun k a w ⟨hk, hmiss, f, hs⟩ => ?_) 0 a2 w2 ⟨by omega, fun j hj => by omega, _, hs3⟩)
  have hC := ctx_ok (code := code) (k := k) hlen hoff (by omega) (l := [])
  have hcall : CallOk Try.prog (E [code, len, off, k]) (· < W.heap.size) W noSum.call := noSum_ok.call
  have e6 : ((k * 6 : Nat) : Int) = (k : Int) * 6 := by omega
  have fnev : ∀ c : Nat, (cellAt .i64 c).ev (E [code, len, off, k]) = IntKind.i64.wrap (rowGet code (k * 6 + c : Nat)) ∧ (cellAt .u32 c).ev (E [code, len, off, k]) = IntKind.u32.wrap (rowGet code (k * 6 + c : Nat)) := fun c => by
    have : ∀ kd : IntKind, (cellAt kd c).ev (E [code, len, off, k]) = kd.wrap (rowGet code (k * 6 + c : Nat)) := fun kd => by
      cases c with
      | zero => simp [cellAt, IE.ev, E, fnI, fnL]
      | succ c => simp [cellAt, IE.ev, E, fnI, fnL]
    exact ⟨this _, this _⟩
  have key : (IE.wrap .i64 (.fn 0 (.var 0) (.mul (.var 3) (.lit 6)) (.lit 0))).ev (E [code, len, off, k]) = IntKind.i64.wrap (rowGet code (k * 6 : Nat)) := (fnev 0).1
  by_cases hlt : (k : Int) < len
  · have hd1 : ∀ b, (decide (hit code off k) = b) → Dec.holds (E [code, len, off, k]) (dec1 b) := by
      intro b hb p hp
      rcases List.mem_cons.1 hp with rfl | hp
      · exact decide_eq_true hlt
      · rcases List.mem_cons.1 hp with rfl | hp
        · show decide ((IE.wrap .i64 (.fn 0 (.var 0) (.mul (.var 3) (.lit 6)) (.lit 0))).ev (E [code, len, off, k]) = off) = b
          rw [key]
          exact hb
        · cases hp
    by_cases hh : hit code off k
    · have hC1 := hC.with (hd1 true (decide_eq_true hh))
      refine runTo_ok hC1 hcall (aDraw_ok hC1) loopFree found hs fun f' a' w' _ _ hs' => ?_
      have hCf := ctx_ok (code := code) (k := k) hlen hoff (by omega) (l := siteAt.map (·.ev (E [code, len, off, k])))
      have hs0 := hs' 0
      rw [E_rep] at hs0
      show bodyPost Try.prog Try.f15 (FindPost W code len off) .ret a' w'
      refine (leave_ok (fn := Try.f15) hCf hs0 resF fun v' hv' => ?_).1
      refine ⟨hs0.heap.below.below, .inl ?_⟩
      obtain ⟨x', y', rfl, hx, hy⟩ := hv'.tuple2
      obtain ⟨v, rfl, hv⟩ := hx.agg_inv
      rw [hy.bool_eq]
      refine ⟨k, v, hlt, hh, hmiss, rfl, fun ρ g o hρ => symCells_rel hv fun j hj => ?_⟩
      have hsite : ∃ kd, site[j]? = some kd := ⟨site[j]'hj, by simp⟩
      obtain ⟨kd, hkd⟩ := hsite
      rw [hρ j kd hkd]
      match j, hkd with
      | 0, rfl => exact (fnev 0).1.symm
      | 1, rfl => exact (fnev 1).1.symm
      | 2, rfl => exact (fnev 2).1.symm
      | 3, rfl => exact (fnev 3).2.symm
      | 4, rfl => exact (fnev 4).2.symm
      | 5, rfl => exact (fnev 5).1.symm
    · have hC1 := hC.with (hd1 false (decide_eq_false hh))
      refine runTo_ok hC1 hcall (aDraw_ok hC1) loopFree next hs fun f' a' w' _ _ hs' => ?_
      refine ⟨k + 1, by omega, by omega, fun j hj => ?_, f'.via (inR [(0, 0), (1, 1)]) (toR [(0, 0), (1, 1)]), fun N => ?_⟩
      · rcases Nat.lt_or_ge j k with h | h
        · exact hmiss j h
        · obtain rfl : j = k := by omega
          exact hh
      · have := hs' N
        rw [E_rep] at this
        refine StRel.env ?_ this
        have : (IE.wrap .i64 (.add (.var 3) (.lit 1))).ev (E [code, len, off, k]) = ((k + 1 : Nat) : Int) := by
          have e : (IE.wrap .i64 (.add (.var 3) (.lit 1))).ev (E [code, len, off, k]) = IntKind.i64.wrap ((k : Int) + 1) := rfl
          rw [e, wrap_id .i64 _ (by simp [kLo]; omega) (by simp [kHi]; omega)]
          omega
        show E [code, len, off, (IE.wrap .i64 (.add (.var 3) (.lit 1))).ev (E [code, len, off, k])] = _
        rw [this]
  · have hd2 : Dec.holds (E [code, len, off, k]) dec2 := by
      intro p hp
      rcases List.mem_cons.1 hp with rfl | hp
      · exact decide_eq_false hlt
      · cases hp
    have hC1 := hC.with hd2
    refine runTo_ok hC1 hcall (aDraw_ok hC1) loopFree over hs fun f' a' w' _ _ hs' => ?_
    have hs1 : ∀ N, StRel (E [code, len, off]) (· < W.heap.size) W 22 N (f'.via (inR [(0, 0), (1, 1)]) (toR [(0, 0), (1, 1)])) patN a' w' := fun N => by
      have := hs' N
      rw [E_rep] at this
      exact this
    have hC2 : C15.Ok Try.prog (E [code, len, off]) := by rw [e0]; exact h0
    have hcall2 : CallOk Try.prog (E [code, len, off]) (· < W.heap.size) W noSum.call := noSum_ok.call
    refine runTo_ok hC2 hcall2 (aDraw_ok hC2) loopFree tail hs1 fun f2 a2 w2 _ _ hs2 => ?_
    have hs3 := hs2 0
    rw [E_rep] at hs3
    show bodyPost Try.prog Try.f15 (FindPost W code len off) .ret a2 w2
    refine (leave_ok (fn := Try.f15) hC2 hs3 resZ fun v' hv' => ?_).1
    refine ⟨hs3.heap.below.below, .inr ⟨fun j hj => hmiss j (by omega), ?_⟩⟩
    obtain ⟨x', y', rfl, hx, hy⟩ := hv'.tuple2
    obtain ⟨v, rfl, hv⟩ := hx.agg_inv
    rw [hy.bool_eq]
    obtain ⟨v⟩ := v
    rw [LRel.lits (l := [(.i64, 0), (.i64, 0), (.i64, 0), (.u32, 0), (.u32, 0), (.i64, 0)]) hv]
    rfl

/-! the examples of the document -/
noncomputable def C0 : Ctx := ctxOf Try.prog (fun _ => none)
theorem sane0 : saysTrue [] (aCallN C0 (aDraw C0) noSum 100 30 8 [] .nil 0) = true := by kernel_rfl
theorem sane : SumOk Try.prog 8 (.bool true) :=
  SumOk.of_run (C := C0) (ρ := E []) (ctxOf_ok mixed (fun i lo hi h => by cases h)) (fun p hp => by cases hp) sane0

/-! the law: 0 the sites' number, 1 how many, 2 the offset, 3 how many are taken, 4 the first that has the offset, 5 the counter -/
noncomputable def code5 : Code := Try.f5.body.getD .skip
noncomputable def q1 : Code := part2 code5
noncomputable def q2 : Code := part2 q1
noncomputable def q3 : Code := part2 q2
noncomputable def q4 : Code := part2 q3
noncomputable def loop5 : Code := inner (inner (part2 (part1 q4)))
theorem shape5 : Try.f5.body = some (.seq (part1 code5) (.seq (part1 q1) (.seq (part1 q2) (.seq (part1 q3) (.seq (.seq (part1 (part1 q4)) (.block 0 (.loop loop5))) (part2 q4)))))) := by kernel_rfl
def bd5 : Bd := fun i =>
  match i with
  | 1 => some (0, 9223372036854775807)
  | 2 => some (-9223372036854775808, 9223372036854775807)
  | 3 => some (0, 50)
  | 4 => some (0, 50)
  | 5 => some (0, 50)
  | _ => none
noncomputable def C5 : Ctx := ctxOf Try.prog bd5
def pqs : List PQ := [.sl site, .int .i64]
theorem shapes : pqsOk Try.prog Try.f5.params.toList pqs = true := by kernel_rfl
noncomputable def t0 : ASt := ⟨treeOf (pqArgs pqs 0) 0 .nil, pqObjs pqs 0, 3⟩
noncomputable def run5 (sm : ACall) (dec : Dec) (c : Code) (s : ASt) : Option (AExit × ASt) := aCode (C5.with dec) (aCallN (C5.with dec) (aDraw (C5.with dec)) ⟨sm, fun _ => no⟩ 10 3) no (aDraw (C5.with dec)) 57 10 c s
noncomputable def t1 : ASt := stOf (run5 (callTrue 8) [] (part1 code5) t0)
noncomputable def t2 : ASt := stOf (run5 (callTrue 8) [] (part1 q1) t1)
theorem went1 : endsBy .normal (run5 (callTrue 8) [] (part1 code5) t0) = true := by kernel_rfl
theorem went2 : endsBy .normal (run5 (callTrue 8) [] (part1 q1) t1) = true := by kernel_rfl
/-- The sites taken. -/
noncomputable def patA : ASt := ⟨((T.nil.set 0 (.sliceS 0 (.lit 0) (.var 3) 6)).set 1 (.int .i64 (.var 2))).set 5 (.bool (.lit true)), heap0, 1⟩
theorem took1 : runTo (C5.with [(.lt (.lit 50) (.var 1), true)]) (aCallN (C5.with [(.lt (.lit 50) (.var 1), true)]) (aDraw (C5.with [(.lt (.lit 50) (.var 1), true)])) ⟨callTrue 8, fun _ => no⟩ 10 3) no (aDraw (C5.with [(.lt (.lit 50) (.var 1), true)])) 57 10 (part1 q2) t2 .normal patA [.var 0, .var 1, .var 2, .lit 50] [(0, 0)] = true := by kernel_rfl
theorem took2 : runTo (C5.with [(.lt (.lit 50) (.var 1), false)]) (aCallN (C5.with [(.lt (.lit 50) (.var 1), false)]) (aDraw (C5.with [(.lt (.lit 50) (.var 1), false)])) ⟨callTrue 8, fun _ => no⟩ 10 3) no (aDraw (C5.with [(.lt (.lit 50) (.var 1), false)])) 57 10 (part1 q2) t2 .normal patA [.var 0, .var 1, .var 2, .var 1] [(0, 0)] = true := by kernel_rfl
/-! the call of Find -/
def cellQ (k : IntKind) (c : Nat) : AVal := .int k (.wrap k (.fn 0 (.var 0) (match c with
  | 0 => .mul (.var 4) (.lit 6)
  | c => .add (.mul (.var 4) (.lit 6)) (.lit (.ofNat c))) (.lit 0)))
def siteQ : List AVal := [cellQ .i64 0, cellQ .i64 1, cellQ .i64 2, cellQ .u32 3, cellQ .u32 4, cellQ .i64 5]
def argsL : List AVal := [.agg [.str [], .sliceS 0 (.lit 0) (.var 3) 6], .int .i64 (.var 2)]
noncomputable def objL : AObj := .arr site (.var 0) (.var 1) false
noncomputable def callFind (res : AVal) : ACall := fun g args h nx =>
  match Nat.beq g 15, sameList args argsL, h.get 0 with
  | true, true, some o =>
    match o.same objL with
    | true => some (res, h, nx)
    | false => none
  | _, _, _ => none
def resA : AVal := .tuple [.agg siteQ, .bool (.lit true)]
def resB : AVal := .tuple [.agg zeros, .bool (.lit false)]
noncomputable def patB (cells : List AVal) (b : Bool) : ASt :=
  ⟨(((((T.nil.set 0 (.sliceS 0 (.lit 0) (.var 3) 6)).set 1 (.int .i64 (.var 2))).set 5 (.bool (.lit true))).set 6 (.ptr (some (1, 0)))).set 7 (.bool (.lit b))).set 8 (.int .i64 (.var 5)),
    heap0.set 1 (.cells (cellsOf cells) 34 true 6), 2⟩
noncomputable def u1 (res : AVal) : ASt := stOf (run5 (callFind res) [] (part1 q3) patA)
theorem callA : endsBy .normal (run5 (callFind resA) [] (part1 q3) patA) = true := by kernel_rfl
theorem callB : endsBy .normal (run5 (callFind resB) [] (part1 q3) patA) = true := by kernel_rfl
noncomputable def run6 (dec : Dec) (c : Code) (s : ASt) : Option (AExit × ASt) := aCode (C5.with dec) noSum.call no (aDraw (C5.with dec)) 57 10 c s
theorem headA : runTo (C5.with []) noSum.call no (aDraw (C5.with [])) 57 10 (part1 (part1 q4)) (u1 resA) .normal (patB siteQ true) [.var 0, .var 1, .var 2, .var 3, .var 4, .lit 0] [(0, 0), (1, 1)] = true := by kernel_rfl
theorem headB : runTo (C5.with []) noSum.call no (aDraw (C5.with [])) 57 10 (part1 (part1 q4)) (u1 resB) .normal (patB zeros false) [.var 0, .var 1, .var 2, .var 3, .var 4, .lit 0] [(0, 0), (1, 1)] = true := by kernel_rfl
def decK (k : Nat) (b : Bool) : Dec := [(.lt (.var k) (.var 3), true), (.lt (.var k) (.var 1), true), (.eq (.wrap .i64 (.fn 0 (.var 0) (.mul (.var k) (.lit 6)) (.lit 0))) (.var 2), b)]
theorem roundA : runTo (C5.with (decK 5 false)) noSum.call no (aDraw (C5.with (decK 5 false))) 57 10 loop5 (patB siteQ true) .normal (patB siteQ true) [.var 0, .var 1, .var 2, .var 3, .var 4, .add (.var 5) (.lit 1)] [(0, 0), (1, 1)] = true := by kernel_rfl
theorem roundB : runTo (C5.with (decK 5 false)) noSum.call no (aDraw (C5.with (decK 5 false))) 57 10 loop5 (patB zeros false) .normal (patB zeros false) [.var 0, .var 1, .var 2, .var 3, .var 4, .add (.var 5) (.lit 1)] [(0, 0), (1, 1)] = true := by kernel_rfl
noncomputable def patQ : ASt := ⟨(patB siteQ true).tm.set 8 (.int .i64 (.var 4)), (patB siteQ true).hp, 2⟩
noncomputable def patT : ASt := ⟨T.nil.set 4 (.bool (.lit true)), .nil, 2⟩
theorem lastA : runTo (C5.with (decK 4 true)) noSum.call no (aDraw (C5.with (decK 4 true))) 57 10 loop5 patQ .ret patT [] [] = true := by kernel_rfl
def decN : Dec := [(.lt (.var 5) (.var 3), false)]
theorem lastB : runTo (C5.with decN) noSum.call no (aDraw (C5.with decN)) 57 10 loop5 (patB zeros false) (.exit 0) (patB zeros false) [.var 0, .var 1, .var 2, .var 3, .var 4, .var 5] [(0, 0), (1, 1)] = true := by kernel_rfl
theorem tailB : runTo (C5.with []) noSum.call no (aDraw (C5.with [])) 57 10 (part2 q4) (patB zeros false) .ret patT [] [] = true := by kernel_rfl
theorem resT : aRess C5 patT.tm patT.hp Try.f5.results.toList = some [.bool (.lit true)] := by kernel_rfl

theorem via0 (f : Ren) : f.via (inR [(0, 0)]) (toR [(0, 0)]) 0 = f 0 := rfl
theorem via1 (f : Ren) (j : Nat) (h : 1 ≤ j) : f.via (inR [(0, 0)]) (toR [(0, 0)]) j = none := by
  cases j with
  | zero => omega
  | succ j => rfl
theorem callFind_ok {code len off h q x : Int} {res : AVal} (hh : 0 ≤ h ∧ h ≤ len ∧ len ≤ 9223372036854775807) (hoff : -9223372036854775808 ≤ off ∧ off ≤ 9223372036854775807)
    (hres : ∀ W e w', FindPost W code h off e w' → ∃ v', e = .returned v' ∧ ∀ f, VRel (E [code, len, off, h, q, x]) f res v') (B : Nat → Prop) (W : World) : CallOk Try.prog (E [code, len, off, h, q, x]) B W (callFind res) := by
  intro g args hp nx v h' nx' hc
  unfold callFind at hc
  split at hc
  · rename_i o hg ha ho
    split at hc
    · rename_i hs
      have hg := Nat.eq_of_beq_eq_true hg
      have ha := sameList_eq ha
      have hs := AObj.same_eq hs
      cases hc
      subst hg ha hs
      refine ⟨Nat.le_refl _, fun f w args' hr hl _ => ?_⟩
      have hl' : LRel (E [code, h, off]) (f.via (inR [(0, 0)]) (toR [(0, 0)])) args0 args' := by
        have := subList_of (ρ := E [code, len, off, h, q, x]) (f := f) (σ := sub [.var 0, .var 3, .var 2]) (π := toR [(0, 0)]) (d := inR [(0, 0)]) args0 args' rfl hl
        rw [E_rep] at this
        exact this
      have hr' : HRel (E [code, h, off]) (· < w.heap.size) w (f.via (inR [(0, 0)]) (toR [(0, 0)])) heap0 w := by
        refine ⟨Kept.refl _ _, fun _ h => h, fun i L hi => ?_, fun i j Li Lj oi oj hi hj gi gj hij hown => ?_, fun i L o hi hg => ?_⟩
        · cases i with
          | zero => rw [via0] at hi; exact hr.lt 0 L hi
          | succ i => rw [via1 f _ (by omega)] at hi; cases hi
        · rcases T.get_set gi with ⟨_, e⟩ | ⟨_, e⟩
          · subst e; cases hown
          · rw [T.get_nil] at e; cases e
        · rcases T.get_set hg with ⟨rfl, rfl⟩ | ⟨_, e⟩
          · rw [via0] at hi
            obtain ⟨cs, el, fr, a1, a2, a3, a4⟩ := hr.obj 0 L _ hi ho
            refine ⟨cs, el, fr, a1, a2, fun h => (by cases h), fun j c k hj hk => ?_⟩
            have hj : (j : Int) < h := hj
            exact a4 j c k (show (j : Int) < len by omega) hk
          · rw [T.get_nil] at e; cases e
      refine Calls.mono (find_any ⟨hh.1, by omega⟩ hoff hr' hl' (via1 f)) fun e w' hpost => ?_
      obtain ⟨v', h1, h2⟩ := hres w e w' hpost
      exact ⟨v', f, h1, Ren.le_refl f, fun _ _ => rfl, hr.after hpost.1, h2 f⟩
    · cases hc
  · cases hc
theorem ctx5 {code len off h q x : Int} (h1 : 0 ≤ len ∧ len ≤ 9223372036854775807) (h2 : -9223372036854775808 ≤ off ∧ off ≤ 9223372036854775807) (h3 : 0 ≤ h ∧ h ≤ 50) (h4 : 0 ≤ q ∧ q ≤ 50) (h5 : 0 ≤ x ∧ x ≤ 50) : C5.Ok Try.prog (E [code, len, off, h, q, x]) := by
  refine ctxOf_ok mixed fun i lo hi hb => ?_
  unfold bd5 at hb
  split at hb
  · cases hb; exact h1
  · cases hb; exact h2
  · cases hb; exact h3
  · cases hb; exact h4
  · cases hb; exact h5
  · cases hb
def Yes (W : World) (e : Ending) (w' : World) : Prop := e = .returned (.bool true) ∧ Below W.heap.size W w'
theorem size5 : (pqArgs pqs 0).length + (Try.f5.ntmps - (pqArgs pqs 0).length) = 57 := by kernel_rfl
theorem ctxNil : C5.Ok Try.prog (E []) := by
  refine ctxOf_ok mixed fun i lo hi hb => ?_
  show lo ≤ 0 ∧ 0 ≤ hi
  unfold bd5 at hb
  split at hb <;> cases hb <;> exact ⟨by decide, by decide⟩
theorem ends {l : List Int} {W w : World} {f : Ren} {a : Act} (hs0 : StRel ((E l).rep (sub [])) (· < W.heap.size) W 57 0 f patT a w) : bodyPost Try.prog Try.f5 (Yes W) .ret a w :=
  have hs : StRel (E []) (· < W.heap.size) W 57 0 f patT a w := by rw [E_rep] at hs0; exact hs0
  (leave_ok (fn := Try.f5) ctxNil hs resT fun v' hv' => ⟨by rw [show v' = .bool true from hv'.bool_eq], hs.heap.below.below⟩).1
theorem least {p : Nat → Prop} : ∀ k, p k → ∃ k, p k ∧ ∀ j, j < k → ¬ p j := by
  intro k
  induction k using Nat.strongRecOn with
  | ind k ih =>
    intro hk
    by_cases h : ∃ j, j < k ∧ p j
    · obtain ⟨j, h1, h2⟩ := h
      exact ih j h1 h2
    · exact ⟨k, hk, fun j hj hp => h ⟨j, hj, hp⟩⟩
theorem more (q x : Int) : patA.fits (sub [.var 0, .var 1, .var 2, .var 3, .lit q, .lit x]) [(0, 0)] patA = true := by kernel_rfl
theorem decK_ok {code len off h q x : Int} {k : Nat} {b : Bool} {m : Nat} (hm : (E [code, len, off, h, q, x]).i k = m) (h1 : (m : Int) < h) (h2 : h ≤ len) (hb : decide (hit code off m) = b) : Dec.holds (E [code, len, off, h, q, x]) (decK k b) := by
  intro p hp
  rcases List.mem_cons.1 hp with rfl | hp
  · exact decide_eq_true (by show (E [code, len, off, h, q, x]).i k < h; rw [hm]; exact h1)
  · rcases List.mem_cons.1 hp with rfl | hp
    · exact decide_eq_true (by show (E [code, len, off, h, q, x]).i k < len; rw [hm]; omega)
    · rcases List.mem_cons.1 hp with rfl | hp
      · have : (IE.wrap .i64 (.fn 0 (.var 0) (.mul (.var k) (.lit 6)) (.lit 0))).ev (E [code, len, off, h, q, x]) = IntKind.i64.wrap (rowGet code (m * 6 : Nat)) := by
          show IntKind.i64.wrap (fnI _ 0 code ((E [code, len, off, h, q, x]).i k * 6) 0) = _
          rw [hm]
          simp [fnI, fnL]
        show decide ((IE.wrap .i64 (.fn 0 (.var 0) (.mul (.var k) (.lit 6)) (.lit 0))).ev (E [code, len, off, h, q, x]) = off) = b
        rw [this]
        exact hb
      · cases hp
/-- From where the sites are taken. -/
theorem rest {W : World} {code len off h : Int} (h1 : 0 ≤ len ∧ len ≤ 9223372036854775807) (h2 : -9223372036854775808 ≤ off ∧ off ≤ 9223372036854775807) (h3 : 0 ≤ h ∧ h ≤ 50) (h4 : h ≤ len) {f : Ren} {a : Act} {w : World}
    (hs : ∀ N, StRel (E [code, len, off, h]) (· < W.heap.size) W 57 N f patA a w) : q3.wp Try.prog (bodyPost Try.prog Try.f5 (Yes W)) a w := by
  have start : ∀ q x : Int, ∀ N, StRel (E [code, len, off, h, q, x]) (· < W.heap.size) W 57 N (f.via (inR [(0, 0)]) (toR [(0, 0)])) patA a w := fun q x N => by
    have := ASt.fits_ok (N' := N) (more q x) (hs N)
    rw [E_rep] at this
    exact this
  have hnil : ∀ ρ, Dec.holds ρ [] := fun ρ p hp => by cases hp
  have hno : ∀ ρ, CallOk Try.prog ρ (· < W.heap.size) W noSum.call := fun ρ => noSum_ok.call
  show (Code.seq (part1 q3) (.seq (.seq (part1 (part1 q4)) (.block 0 (.loop loop5))) (part2 q4))).wp Try.prog (bodyPost Try.prog Try.f5 (Yes W)) a w
  by_cases hex : ∃ k : Nat, (k : Int) < h ∧ hit code off k
  · obtain ⟨k0, hk0⟩ := hex
    obtain ⟨q, ⟨hq, hhit⟩, hleast⟩ := least (p := fun k : Nat => (k : Int) < h ∧ hit code off k) k0 hk0
    have hfirst : ∀ j : Nat, j < q → ¬ hit code off j := fun j hj hh => hleast j hj ⟨by omega, hh⟩
    have hC := (ctx5 (code := code) (x := 0) h1 h2 h3 (q := q) (by omega) (by omega)).with (hnil _)
    have hsum : SumsOk Try.prog (E [code, len, off, h, q, 0]) (· < W.heap.size) W ⟨callFind resA, fun _ => no⟩ := by
      refine ⟨callFind_ok ⟨h3.1, h4, h1.2⟩ h2 (fun W' e w' hp => ?_) _ W, fun _ _ _ _ _ _ _ _ => CodeOk.none⟩
      rcases hp.2 with ⟨k, v, b1, b2, b3, rfl, b4⟩ | ⟨b1, _⟩
      · have hkq : k = q := by
          rcases Nat.lt_trichotomy k q with h | h | h
          · exact absurd b2 (hfirst k h)
          · exact h
          · exact absurd hhit (b3 q h)
        subst hkq
        refine ⟨_, rfl, fun g => ?_⟩
        have hv := b4 (E [code, len, off, h, k, 0, IntKind.i64.wrap (rowGet code (k * 6 + 0 : Nat)), IntKind.i64.wrap (rowGet code (k * 6 + 1 : Nat)), IntKind.i64.wrap (rowGet code (k * 6 + 2 : Nat)), IntKind.u32.wrap (rowGet code (k * 6 + 3 : Nat)), IntKind.u32.wrap (rowGet code (k * 6 + 4 : Nat)), IntKind.i64.wrap (rowGet code (k * 6 + 5 : Nat))]) (g.via (fun _ => true) id) 6 (fun c kd hc => by
          match c, hc with
          | 0, rfl => rfl
          | 1, rfl => rfl
          | 2, rfl => rfl
          | 3, rfl => rfl
          | 4, rfl => rfl
          | 5, rfl => rfl)
        have hv2 := subList_to (ρ := E [code, len, off, h, k, 0]) (f := g) (σ := sub ([.var 0, .var 1, .var 2, .var 3, .var 4, .var 5] ++ [.wrap .i64 (.fn 0 (.var 0) (.mul (.var 4) (.lit 6)) (.lit 0)), .wrap .i64 (.fn 0 (.var 0) (.add (.mul (.var 4) (.lit 6)) (.lit 1)) (.lit 0)), .wrap .i64 (.fn 0 (.var 0) (.add (.mul (.var 4) (.lit 6)) (.lit 2)) (.lit 0)), .wrap .u32 (.fn 0 (.var 0) (.add (.mul (.var 4) (.lit 6)) (.lit 3)) (.lit 0)), .wrap .u32 (.fn 0 (.var 0) (.add (.mul (.var 4) (.lit 6)) (.lit 4)) (.lit 0)), .wrap .i64 (.fn 0 (.var 0) (.add (.mul (.var 4) (.lit 6)) (.lit 5)) (.lit 0))])) (π := id) (d := fun _ => true) (symCells site 6) v (by
          rw [E_rep]
          exact hv)
        have := LRel.cons (VRel.agg hv2.1 hv2.2) (LRel.cons (VRel.bool (f := g) (ρ := E [code, len, off, h, k, 0]) (.lit true)) LRel.nil)
        exact .tuple this.1 this.2
      · exact absurd hhit (b1 q hq)
    refine wp_seq (piece_ok hC (aCallN_ok hC (aDraw_ok hC) hsum 10 3) (aDraw_ok hC) loopFree callA (start q 0) fun f1 a1 w1 _ _ hs1 => ?_)
    refine wp_seq (wp_seq (runTo_ok hC (hno _) (aDraw_ok hC) loopFree headA hs1 fun f2 a2 w2 _ _ hs2 => ?_))
    have hs3 : ∀ N, StRel (E [code, len, off, h, q, 0]) (· < W.heap.size) W 57 N (f2.via (inR [(0, 0), (1, 1)]) (toR [(0, 0), (1, 1)])) (patB siteQ true) a2 w2 := fun N => by
      have := hs2 N
      rw [E_rep] at this
      exact this
    refine wp_block (loop_rounds (fun (k : Nat) a w => k ≤ q ∧ ∃ f, ∀ N, StRel (E [code, len, off, h, q, k]) (· < W.heap.size) W 57 N f (patB siteQ true) a w) (fun k => q - k) (fun k a w ⟨hk, f, hs⟩ => ?_) 0 a2 w2 ⟨by omega, _, hs3⟩)
    have hC5 := ctx5 (code := code) (x := k) h1 h2 h3 (q := q) (by omega) (by omega)
    by_cases hkq : k < q
    · have hC1 := hC5.with (decK_ok (k := 5) (m := k) (b := false) rfl (by omega) h4 (decide_eq_false (hfirst k hkq)))
      refine runTo_ok hC1 (hno _) (aDraw_ok hC1) loopFree roundA hs fun f' a' w' _ _ hs' => ?_
      refine ⟨k + 1, by omega, by omega, f'.via (inR [(0, 0), (1, 1)]) (toR [(0, 0), (1, 1)]), fun N => ?_⟩
      have := hs' N
      rw [E_rep] at this
      exact this
    · obtain rfl : k = q := by omega
      have hC1 := hC5.with (decK_ok (k := 4) (m := k) (b := true) rfl (by omega) h4 (decide_eq_true hhit))
      have hsQ : ∀ N, StRel (E [code, len, off, h, k, k]) (· < W.heap.size) W 57 N f patQ a w := fun N => (hs N).slot (d := 8) (k := .i64) (e := .var 5) (e' := .var 4) (by kernel_rfl) rfl
      refine runTo_ok hC1 (hno _) (aDraw_ok hC1) loopFree lastA hsQ fun f' a' w' _ _ hs' => ?_
      show bodyPost Try.prog Try.f5 (Yes W) .ret a' w'
      exact ends (hs' 0)
  · have hnone : ∀ j : Nat, (j : Int) < h → ¬ hit code off j := fun j hj hh => hex ⟨j, hj, hh⟩
    have hC := (ctx5 (code := code) (q := 0) (x := 0) h1 h2 h3 (by omega) (by omega)).with (hnil _)
    have hsum : SumsOk Try.prog (E [code, len, off, h, 0, 0]) (· < W.heap.size) W ⟨callFind resB, fun _ => no⟩ := by
      refine ⟨callFind_ok ⟨h3.1, h4, h1.2⟩ h2 (fun W' e w' hp => ?_) _ W, fun _ _ _ _ _ _ _ _ => CodeOk.none⟩
      rcases hp.2 with ⟨k, v, b1, b2, b3, rfl, b4⟩ | ⟨b1, rfl⟩
      · exact absurd b2 (hnone k b1)
      · refine ⟨_, rfl, fun g => ?_⟩
        have hz : LRel (E [code, len, off, h, 0, 0]) g zeros #[.int .i64 0, .int .i64 0, .int .i64 0, .int .u32 0, .int .u32 0, .int .i64 0] :=
          LRel.cons (.int .i64 (.lit 0)) (LRel.cons (.int .i64 (.lit 0)) (LRel.cons (.int .i64 (.lit 0)) (LRel.cons (.int .u32 (.lit 0)) (LRel.cons (.int .u32 (.lit 0)) (LRel.cons (.int .i64 (.lit 0)) LRel.nil)))))
        have := LRel.cons (VRel.agg hz.1 hz.2) (LRel.cons (VRel.bool (f := g) (ρ := E [code, len, off, h, 0, 0]) (.lit false)) LRel.nil)
        exact .tuple this.1 this.2
    refine wp_seq (piece_ok hC (aCallN_ok hC (aDraw_ok hC) hsum 10 3) (aDraw_ok hC) loopFree callB (start 0 0) fun f1 a1 w1 _ _ hs1 => ?_)
    refine wp_seq (wp_seq (runTo_ok hC (hno _) (aDraw_ok hC) loopFree headB hs1 fun f2 a2 w2 _ _ hs2 => ?_))
    have hs3 : ∀ N, StRel (E [code, len, off, h, 0, 0]) (· < W.heap.size) W 57 N (f2.via (inR [(0, 0), (1, 1)]) (toR [(0, 0), (1, 1)])) (patB zeros false) a2 w2 := fun N => by
      have := hs2 N
      rw [E_rep] at this
      exact this
    refine wp_block (loop_rounds (fun (k : Nat) a w => (k : Int) ≤ h ∧ ∃ f, ∀ N, StRel (E [code, len, off, h, 0, k]) (· < W.heap.size) W 57 N f (patB zeros false) a w) (fun k => h.toNat - k) (fun k a w ⟨hk, f, hs⟩ => ?_) 0 a2 w2 ⟨by omega, _, hs3⟩)
    have hC5 := ctx5 (code := code) (x := k) h1 h2 h3 (q := 0) (by omega) (by omega)
    by_cases hkq : (k : Int) < h
    · have hC1 := hC5.with (decK_ok (k := 5) (m := k) (b := false) rfl (by omega) h4 (decide_eq_false (hnone k hkq)))
      refine runTo_ok hC1 (hno _) (aDraw_ok hC1) loopFree roundB hs fun f' a' w' _ _ hs' => ?_
      refine ⟨k + 1, by omega, by omega, f'.via (inR [(0, 0), (1, 1)]) (toR [(0, 0), (1, 1)]), fun N => ?_⟩
      have := hs' N
      rw [E_rep] at this
      exact this
    · have hd : Dec.holds (E [code, len, off, h, 0, k]) decN := by
        intro p hp
        rcases List.mem_cons.1 hp with rfl | hp
        · exact decide_eq_false hkq
        · cases hp
      have hC1 := hC5.with hd
      refine runTo_ok hC1 (hno _) (aDraw_ok hC1) loopFree lastB hs fun f' a' w' _ _ hs' => ?_
      have hs1 : ∀ N, StRel (E [code, len, off, h, 0, k]) (· < W.heap.size) W 57 N (f'.via (inR [(0, 0), (1, 1)]) (toR [(0, 0), (1, 1)])) (patB zeros false) a' w' := fun N => by
        have := hs' N
        rw [E_rep] at this
        exact this
      have hC2 := hC5.with (hnil _)
      refine runTo_ok hC2 (hno _) (aDraw_ok hC2) loopFree tailB hs1 fun f2 a2 w2 _ _ hs2 => ?_
      show bodyPost Try.prog Try.f5 (Yes W) .ret a2 w2
      exact ends (hs2 0)
theorem walk {H : Type} {enc : TypeId × Value → H} {W : World} {base : Nat} {args : Array Value} {ds : List (DataW H)} {mp : List MemPlace} (hv : ∀ (j : Nat) t v, Try.f5.params[j]? = some t → args[j]? = some v → Value.okWide Try.prog W .any base t v)
    (ht : DataW.TrodAll enc Try.prog W 0 (fun _ => true) true Try.f5.params.toList args.toList ds mp) : Calls Try.prog 5 args W (Yes W) := by
  obtain ⟨I, hI⟩ := open_law (W := W) (base := base) shapes (fun j t v h1 h2 => hv j t v (by simpa using h1) h2) ht
  have hE : ∀ i, i < pqWide pqs → (E [I 0, I 1, I 2]).i i = I i := fun i hi => by
    have hi : i < 3 := hi
    match i, hi with
    | 0, _ => rfl
    | 1, _ => rfl
    | 2, _ => rfl
  obtain ⟨hb, f, hr, hl, hn⟩ := hI (E [I 0, I 1, I 2]) hE
  have h1 : 0 ≤ I 1 ∧ I 1 ≤ 9223372036854775807 := hb 1 _ _ (by kernel_rfl)
  have h2 : -9223372036854775808 ≤ I 2 ∧ I 2 ≤ 9223372036854775807 := hb 2 _ _ (by kernel_rfl)
  have hC0 : C5.Ok Try.prog (E [I 0, I 1, I 2]) := by
    refine ctxOf_ok mixed fun i lo hi hb => ?_
    unfold bd5 at hb
    split at hb
    · cases hb; exact h1
    · cases hb; exact h2
    · cases hb; show (0 : Int) ≤ 0 ∧ (0 : Int) ≤ 50; decide
    · cases hb; show (0 : Int) ≤ 0 ∧ (0 : Int) ≤ 50; decide
    · cases hb; show (0 : Int) ≤ 0 ∧ (0 : Int) ≤ 50; decide
    · cases hb
  have hsum : SumsOk Try.prog (E [I 0, I 1, I 2]) (· < W.heap.size) W ⟨callTrue 8, fun _ => no⟩ := ⟨callTrue_ok sane, fun _ _ _ _ _ _ _ _ => CodeOk.none⟩
  have hC := hC0.with (dec := []) (fun p hp => by cases hp)
  refine enter_ok Try.func5 shape5 hr hl hn fun a hs => ?_
  rw [size5] at hs
  refine wp_seq (piece_ok hC (aCallN_ok hC (aDraw_ok hC) hsum 10 3) (aDraw_ok hC) loopFree went1 hs fun f1 a1 w1 _ _ hs1 => ?_)
  refine wp_seq (piece_ok hC (aCallN_ok hC (aDraw_ok hC) hsum 10 3) (aDraw_ok hC) loopFree went2 hs1 fun f2 a2 w2 _ _ hs2 => ?_)
  by_cases hlt : 50 < I 1
  · have hd : Dec.holds (E [I 0, I 1, I 2]) [(.lt (.lit 50) (.var 1), true)] := by
      intro p hp
      rcases List.mem_cons.1 hp with rfl | hp
      · exact decide_eq_true hlt
      · cases hp
    have hC1 := hC0.with hd
    refine wp_seq (runTo_ok hC1 (aCallN_ok hC1 (aDraw_ok hC1) hsum 10 3) (aDraw_ok hC1) loopFree took1 hs2 fun f3 a3 w3 _ _ hs3 => ?_)
    refine rest (code := I 0) (h := 50) h1 h2 ⟨by omega, by omega⟩ (by omega) (f := f3.via (inR [(0, 0)]) (toR [(0, 0)])) fun N => ?_
    have := hs3 N
    rw [E_rep] at this
    exact this
  · have hd : Dec.holds (E [I 0, I 1, I 2]) [(.lt (.lit 50) (.var 1), false)] := by
      intro p hp
      rcases List.mem_cons.1 hp with rfl | hp
      · exact decide_eq_false hlt
      · cases hp
    have hC1 := hC0.with hd
    refine wp_seq (runTo_ok hC1 (aCallN_ok hC1 (aDraw_ok hC1) hsum 10 3) (aDraw_ok hC1) loopFree took2 hs2 fun f3 a3 w3 _ _ hs3 => ?_)
    refine rest (code := I 0) (h := I 1) h1 h2 ⟨by omega, by omega⟩ (by omega) (f := f3.via (inR [(0, 0)]) (toR [(0, 0)])) fun N => ?_
    have := hs3 N
    rw [E_rep] at this
    exact this

theorem fits : ∀ t ∈ Try.f5.params.toList, Try.prog.readableRec t = true ∧ t < Try.prog.types.size := by
  have h : (Try.f5.params.toList.all fun t => Try.prog.readableRec t && decide (t < Try.prog.types.size)) = true := by kernel_rfl
  intro t ht
  have := List.all_eq_true.1 h t ht
  simpa using this
theorem lifted (os : Os) (started : os.Started) (H : Type) (enc : TypeId × Value → H) :
    ReturnsInHanded {} Try.checked os 5 .any (Rows.recoveryFindsSpec.pre6 enc Try.prog Try.f5 Rows.recoveryFindsRow.domain false) (Rows.recoveryFindsSpec.post enc Try.prog Try.f5 false true false false) := by
  refine returnsInHanded_of_change (C := Try.checked) own started (by kernel_rfl) Try.func5
    (ChangeSpec.witness6 (enc := enc) (C := Try.checked) false ⟨#[], #[.slice none 0 0, .int .i64 0], []⟩ 8 (by kernel_rfl) (by kernel_rfl) (by kernel_rfl) (by kernel_rfl)) ?_
  intro W base args ds gs before hval0 hW hcnd _
  have hval : ∀ (j : Nat) t v, Try.f5.params[j]? = some t → args[j]? = some v → Value.okWide Try.prog W .any base t v := hval0
  have hW' : DataW.Whole enc Try.prog Try.f5.params.toList Rows.recoveryFindsSpec.vars false W args.toList ds gs before := hW
  have hlen : args.size = Try.f5.params.toList.length ∧ ds.length = Try.f5.params.toList.length := by
    obtain ⟨p, q, hA, _⟩ := hW'
    have := trodAll_length _ _ _ _ hA
    simpa using this
  have hgs : gs = [] := by
    obtain ⟨p, q, _, hV, _⟩ := hW'
    exact (trodVars_none hV).1
  subst hgs
  obtain ⟨p, q, hA, hrest⟩ := hW'
  refine (walk hval hA).mono fun e W' ⟨he, hb⟩ => ?_
  refine ⟨_, he, post_true (tb := 4) laidOut fits (by kernel_rfl) (by kernel_rfl) rfl ⟨p, q, hA, hrest⟩ ?_ hb⟩
  have hl3 : ds.length = 2 := hlen.2
  match ds, hl3 with
  | [d1, d2], _ => rfl

theorem over' : Rows.recoveryFindsRow.holds Try.pinned (OpenSpec.ofChange Rows.recoveryFindsSpec) :=
  OpenClaim.holds_of_wide 5 Try.f5 rfl rfl rfl rfl rfl rfl rfl ⟨rfl, rfl, rfl, rfl, rfl⟩ rfl rfl rfl rfl rfl (by kernel_rfl) Try.func5 (by kernel_rfl)
    (of_decide_eq_true (by kernel_rfl)) (by unfold Func.isWrapper; first | (rw [if_pos (by decide +kernel)]; kernel_rfl) | (rw [if_neg (by decide +kernel)]; exact ⟨rfl, rfl⟩))
    (fun os started H enc _ => lifted os started H enc)
theorem proved : Rows.RecoveryFindsSaid := over'
#print axioms proved
end Go.Proofs.Ythcfcjkljglgfaa.finds
