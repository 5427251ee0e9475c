/- What a function does with a memory, shown of the memory opened at a page. No condition. -/
import Derived.Test.YtpoianhfjgjajaaGreatSxM
set_option linter.unusedSimpArgs false
set_option linter.unusedVariables false
namespace Go.Sx
open Go.RowKit (Below)
noncomputable section

theorem openOs_get {el sl : TypeId} {coh od oc : Bool} {pe : IE} {x : Nat} {o : AObj} (h : (openOs el sl coh od oc pe)[x]? = some o) :
    (x = 0 ∧ o = .cells (head0 coh) el false 2) ∨ (x = 1 ∧ o = .win pe 7 (slotCells 2 3 coh od oc (rE pe)) sl true) ∨ (x = 2 ∧ o = .arr [.u8] (.fn 10 (.var 0) pe (.lit 0)) (.lit 256) od) ∨ (x = 3 ∧ coh = false ∧ o = .arr [.u8] (.fn 11 (.var 0) pe (.lit 0)) (.lit 256) oc) := by
  unfold openOs at h
  match x with
  | 0 => simp at h; exact .inl ⟨rfl, h.symm⟩
  | 1 => simp at h; exact .inr (.inl ⟨rfl, h.symm⟩)
  | 2 => simp at h; exact .inr (.inr (.inl ⟨rfl, h.symm⟩))
  | 3 =>
    cases coh with
    | true => simp [codeArr] at h
    | false => simp [codeArr] at h; exact .inr (.inr (.inr ⟨rfl, rfl, h.symm⟩))
  | x + 4 => cases coh <;> simp [codeArr] at h
theorem openOs_length {el sl : TypeId} {coh od oc : Bool} {pe : IE} : (openOs el sl coh od oc pe).length = match coh with
    | true => 3
    | false => 4 := by
  cases coh <;> rfl
theorem head0_inv {coh : Bool} {k : Nat} {v : AVal} (h : (head0 coh).get k = some v) : (k = 0 ∧ v = .sliceS 1 (.lit 0) (.fn 0 (.var 0) (.lit 3) (.lit 0)) 7 true) ∨ (k = 1 ∧ v = .bool (.lit coh)) := by
  unfold head0 at h
  rcases T.get_set h with ⟨e, h⟩ | ⟨_, h⟩
  · exact .inr ⟨e, h.symm⟩
  rcases T.get_set h with ⟨e, h⟩ | ⟨_, h⟩
  · exact .inl ⟨e, h.symm⟩
  · rw [T.get_nil] at h; cases h
section
variable {P : Program} {G : Nat → Int → Int → Int → Int} {GH : Nat → Ghost}
set_option maxHeartbeats 2000000 in
theorem memCon_in {el sl : TypeId} {k : Nat} {c co : Con} {cv : T AVal} {Me' pe De Ce Re : IE} {coh od oc od' oc' : Bool} {i j : Nat}
    (hk : GH k = memGhost el sl) (hG : ∀ M p z, G 10 M p z = pgD M p.toNat ∧ G 11 M p z = pgC M p.toNat)
    (c0 : c.os = [.ghost k [.var 0] cv]) (c1 : c.os' = [.ghost k [Me'] cv]) (cr : c.res.free = true)
    (g1 : co.g = c.g) (g2 : co.args = c.args) (g3 : co.res = c.res) (hco : co.Ok P G GH) (o0 : co.os = openOs el sl coh od oc pe)
    (o1 : co.os'[1]? = some (.win pe 7 (slotCells i j coh od' oc' Re) sl true)) (o2 : co.os'[i]? = some (.arr [.u8] De (.lit 256) od')) (o3 : coh = false → co.os'[j]? = some (.arr [.u8] Ce (.lit 256) oc'))
    (ol : co.os'.length ≤ 1000) (hi : od' = true ∨ (i = 2 ∧ od = false)) (hj : coh = false → oc' = true ∨ (j = 3 ∧ oc = false)) (hij : coh = false → i ≠ j)
    {ρ : Env} (h1 : ρ.std G GH) (hb : ρ.ok (bdL co.bds)) (hp : co.pre.holds ρ) {B : Nat → Prop} {W w : World} {f : Ren} {args' : Array Value} (hr : HRel ρ B W f (treeOf c.os 0 .nil) w) (ha : LRel ρ f c.args args') (hn : ∀ j, c.os.length ≤ j → f j = none)
    {L : Loc} (hL : f 0 = some L) {Pg : Pages} (hm : MemIs el sl (ρ.i 0) w L.blk Pg) {p : Nat} (hpe : pe.ev ρ = p) (hpn : p < (mN (ρ.i 0)).toNat) (hcoh : mCoh (ρ.i 0) = coh) (hod : Pg.od p = od) (hoc : Pg.oc p = oc)
    (hnext : memNext (ρ.i 0) (Me'.ev ρ) p (De.ev ρ) (Ce.ev ρ) (Re.ev ρ)) :
    callR P c.g args' w fun v' w' => ∃ f', f.le f' ∧ Outside f f' c.os.length c.os'.length ∧ HRel ρ B W f' (outT c.os' 0 .nil) w' ∧ VRel ρ f' c.res v' := by
  have hgh : ρ.gh k = memGhost el sl := by rw [h1.2]; exact hk
  have hlen : c.os.length = 1 := by rw [c0]; rfl
  have hf1 : ∀ x, 1 ≤ x → f x = none := fun x hx => hn x (by omega)
  have hg : (treeOf c.os 0 T.nil).get 0 = some (.ghost k [.var 0] cv) := by
    rw [c0]
    exact treeOf_same [AObj.ghost k [IE.var 0] cv] 0 0 .nil _ rfl (by simp)
  obtain ⟨⟨hrel, hfB⟩, hb0, cs0, el0, fr0, q1, q2, q3, q4⟩ := hr.obj 0 L _ hL hg
  have hfoot : ∀ b, inMem (ρ.i 0) L.blk Pg b → ¬ B b := fun b hb => hfB b (by rw [hgh]; exact ⟨_, Pg, hm, hb⟩)
  obtain ⟨cs, fr, cap, u1, u2, u3, u4⟩ := hm.head
  obtain ⟨ss, sf, v1, v2, v3⟩ := hm.slots
  obtain ⟨ds, de, df, x1, x2, x3⟩ := hm.data p hpn
  have hcl : ∃ cl : Option Loc, (coh = true → cl = none) ∧ (coh = false → ∃ xs xe xf, cl = some ⟨Pg.cp p, Pg.cb p, xs.size⟩ ∧ w.heap[Pg.cp p]? = some (.cells xs xe xf) ∧ (∀ j, j < xs.size → ¬ (xf.1 ≤ j ∧ j < xf.2)) ∧ ∀ j, j < 256 → xs[Pg.cb p + j]? = some (.int .u8 (mC (ρ.i 0) (256 * p + j))) ∧ isByte (mC (ρ.i 0) (256 * p + j))) := by
    cases coh with
    | true => exact ⟨none, fun _ => rfl, (fun h => (by cases h))⟩
    | false =>
      obtain ⟨xs, xe, xf, y1, y2, y3⟩ := hm.code hcoh p hpn
      exact ⟨some ⟨Pg.cp p, Pg.cb p, xs.size⟩, (fun h => (by cases h)), fun _ => ⟨xs, xe, xf, rfl, y1, y2, y3⟩⟩
  obtain ⟨cl, cl1, cl2⟩ := hcl
  have lt : ∀ {b : Nat} {O : Obj}, w.heap[b]? = some O → b < w.heap.size := fun h => (Array.getElem?_eq_some_iff.1 h).1
  have dlt : ∀ q, q < (mN (ρ.i 0)).toNat → Pg.dp q < w.heap.size := fun q hq => hm.inb (.inr (.inr (.inl ⟨q, hq, rfl⟩)))
  have clt : coh = false → ∀ q, q < (mN (ρ.i 0)).toNat → Pg.cp q < w.heap.size := fun hc q hq => hm.inb (.inr (.inr (.inr ⟨by rw [hcoh]; exact hc, q, hq, rfl⟩)))
  -- the blocks that stay
  let B' : Nat → Prop := fun b => b < w.heap.size ∧ (B b ∨ b = L.blk ∨ ∃ q, q < (mN (ρ.i 0)).toNat ∧ ((b = Pg.dp q ∧ ¬ (q = p ∧ od = true)) ∨ (coh = false ∧ b = Pg.cp q ∧ ¬ (q = p ∧ oc = true))))
  have hBB : ∀ b, B b → B' b := fun b hb => ⟨Nat.lt_of_lt_of_le (hr.bsize b hb) hr.below.size, .inl hb⟩
  have hBg : B' L.blk := ⟨lt u1, .inr (.inl rfl)⟩
  have hBd : ∀ q, q < (mN (ρ.i 0)).toNat → ¬ (q = p ∧ od = true) → B' (Pg.dp q) := fun q hq h => ⟨dlt q hq, .inr (.inr ⟨q, hq, .inl ⟨rfl, h⟩⟩)⟩
  have hBc : coh = false → ∀ q, q < (mN (ρ.i 0)).toNat → ¬ (q = p ∧ oc = true) → B' (Pg.cp q) := fun hc q hq h => ⟨clt hc q hq, .inr (.inr ⟨q, hq, .inr ⟨hc, rfl, h⟩⟩)⟩
  have nsb : ¬ B' Pg.sb := by
    rintro ⟨_, h | h | ⟨q, hq, ⟨h, _⟩ | ⟨hc, h, _⟩⟩⟩
    · exact hfoot _ (.inr (.inl rfl)) h
    · exact hm.gs h.symm
    · exact (hm.gd q hq).2 h.symm
    · exact (hm.gc (by rw [hcoh]; exact hc) q hq).2 h.symm
  have ndp : od = true → ¬ B' (Pg.dp p) := by
    rintro ho ⟨_, h | h | ⟨q, hq, ⟨h, h'⟩ | ⟨hc, h, _⟩⟩⟩
    · exact hfoot _ (.inr (.inr (.inl ⟨p, hpn, rfl⟩))) h
    · exact (hm.gd p hpn).1 h
    · by_cases hqp : q = p
      · exact h' ⟨hqp, ho⟩
      · exact (hm.exD p hpn (by rw [hod]; exact ho)).1 q hq hqp h.symm
    · exact (hm.exD p hpn (by rw [hod]; exact ho)).2 (by rw [hcoh]; exact hc) q hq h.symm
  have ncp : coh = false → oc = true → ¬ B' (Pg.cp p) := by
    rintro hc ho ⟨_, h | h | ⟨q, hq, ⟨h, _⟩ | ⟨_, h, h'⟩⟩⟩
    · exact hfoot _ (.inr (.inr (.inr ⟨by rw [hcoh]; exact hc, p, hpn, rfl⟩))) h
    · exact (hm.gc (by rw [hcoh]; exact hc) p hpn).1 h
    · exact (hm.exC (by rw [hcoh]; exact hc) p hpn (by rw [hoc]; exact ho)).2 q hq h.symm
    · by_cases hqp : q = p
      · exact h' ⟨hqp, ho⟩
      · exact (hm.exC (by rw [hcoh]; exact hc) p hpn (by rw [hoc]; exact ho)).1 q hq hqp h.symm
  let ρ2 : Env := { ρ with sn := ss }
  have evI : ∀ e : IE, e.ev ρ2 = e.ev ρ := IE.ev_sn ρ ss
  have evB : ∀ e : BE, e.ev ρ2 = e.ev ρ := BE.ev_sn ρ ss
  let f2 : Ren := fun x => match x with
    | 0 => some L
    | 1 => some ⟨Pg.sb, 0, ss.size⟩
    | 2 => some ⟨Pg.dp p, Pg.db p, ds.size⟩
    | 3 => cl
    | _ => none
  have hle : f.le f2 := by
    intro x M hx
    cases x with
    | zero => rw [hL] at hx; exact hx
    | succ x => rw [hf1 _ (by omega)] at hx; cases hx
  have i0 : ∀ x : Nat, (x : Int).toNat = x := fun x => Int.toNat_natCast x
  have hpe2 : (pe.ev ρ2).toNat = p := by rw [evI, hpe]; exact i0 p
  have hR := rE_ev hpe (hm.ok.r p hpn)
  have H2 : HRel ρ2 B' w f2 (treeOf co.os 0 .nil) w := by
    have get : ∀ {x : Nat} {o : AObj}, (treeOf co.os 0 T.nil).get x = some o → _ := fun {x o} h => openOs_get (x := x) (o := o) (by rw [← o0]; exact listTree h)
    have feet : ∀ {x : Nat} {o : AObj} {M : Loc}, (treeOf co.os 0 T.nil).get x = some o → ∀ b, o.foot ρ2 w M b → b = M.blk := by
      intro x o M h b hb
      rcases get h with ⟨_, rfl⟩ | ⟨_, rfl⟩ | ⟨_, rfl⟩ | ⟨_, _, rfl⟩ <;> exact hb
    refine ⟨Kept.refl _ _, fun b hb => hb.1, fun x M hx => ?_, fun x y Mx My ox oy hx hy gx gy hxy hown b hbx hby => ?_, fun x M o hx gx => ?_⟩
    · match x, hx with
      | 0, hx => cases hx; exact lt u1
      | 1, hx => cases hx; exact lt v1
      | 2, hx => cases hx; exact lt x1
      | 3, hx =>
        have hx : cl = some M := hx
        cases hc : coh with
        | true => rw [cl1 hc] at hx; cases hx
        | false =>
          obtain ⟨xs, xe, xf, y0, y1, _⟩ := cl2 hc
          rw [y0] at hx
          cases hx
          exact lt y1
    · have ex := feet gx b hbx
      have ey := feet gy b hby
      subst ex
      have lc : ∀ {M : Loc}, coh = false → f2 3 = some M → M.blk = Pg.cp p := by
        intro M hc hx
        have hx : cl = some M := hx
        obtain ⟨xs, xe, xf, y0, y1, _⟩ := cl2 hc
        rw [y0] at hx
        cases hx
        rfl
      rcases get gx with ⟨rfl, rfl⟩ | ⟨rfl, rfl⟩ | ⟨rfl, rfl⟩ | ⟨rfl, hc, rfl⟩
      · cases hown
      · cases hx
        rcases get gy with ⟨rfl, rfl⟩ | ⟨rfl, rfl⟩ | ⟨rfl, rfl⟩ | ⟨rfl, hc, rfl⟩
        · cases hy; exact hm.gs ey.symm
        · exact hxy rfl
        · cases hy; exact (hm.gd p hpn).2 ey.symm
        · rw [lc hc hy] at ey; exact (hm.gc (by rw [hcoh]; exact hc) p hpn).2 ey.symm
      · cases hx
        rcases get gy with ⟨rfl, rfl⟩ | ⟨rfl, rfl⟩ | ⟨rfl, rfl⟩ | ⟨rfl, hc, rfl⟩
        · cases hy; exact (hm.gd p hpn).1 ey
        · cases hy; exact (hm.gd p hpn).2 ey
        · exact hxy rfl
        · rw [lc hc hy] at ey; exact (hm.exD p hpn (by rw [hod]; exact hown)).2 (by rw [hcoh]; exact hc) p hpn ey.symm
      · rw [lc hc hx] at ey
        rcases get gy with ⟨rfl, rfl⟩ | ⟨rfl, rfl⟩ | ⟨rfl, rfl⟩ | ⟨rfl, hc, rfl⟩
        · cases hy; exact (hm.gc (by rw [hcoh]; exact hc) p hpn).1 ey
        · cases hy; exact (hm.gc (by rw [hcoh]; exact hc) p hpn).2 ey
        · cases hy; exact (hm.exC (by rw [hcoh]; exact hc) p hpn (by rw [hoc]; exact hown)).2 p hpn ey.symm
        · exact hxy rfl
    · rcases get gx with ⟨rfl, rfl⟩ | ⟨rfl, rfl⟩ | ⟨rfl, rfl⟩ | ⟨rfl, hc, rfl⟩
      · cases hx
        have hsz : cs.size = L.sz := by
          rw [u1] at q1
          cases q1
          exact q2
        refine ⟨cs, fr, u1, hsz, (fun h => (by cases h)), fun y v hv => ?_⟩
        rcases head0_inv hv with ⟨rfl, rfl⟩ | ⟨rfl, rfl⟩
        · refine ⟨by decide, _, by rw [hb0]; exact u2, ?_⟩
          have hlenE : (IE.fn 0 (.var 0) (.lit 3) (.lit 0)).ev ρ2 = mN (ρ.i 0) := rfl
          have := VRel.sliceS (ρ := ρ2) (f := f2) (i := 1) (s := 7) (st := .lit 0) (len := .fn 0 (.var 0) (.lit 3) (.lit 0)) (nn := true) (L := ⟨Pg.sb, 0, ss.size⟩) (c := cap) rfl (Int.le_refl 0) (by rw [hlenE]; exact hm.nle.1) (by rw [hlenE]; exact u3)
          rw [hlenE] at this
          exact this
        · refine ⟨by decide, _, by rw [hb0]; exact u4, ?_⟩
          rw [hcoh]
          exact .bool (.lit coh)
      · cases hx
        refine ⟨ss, sf, v1, rfl, fun _ => ⟨nsb, v2⟩, fun y _ => rfl, fun y v hv => ?_⟩
        obtain ⟨a1, a2, a3, a4, a5, _⟩ := v3 p hpn
        show ∃ v', ss[0 + ((pe.ev ρ2).toNat * 7 + y)]? = some v' ∧ _
        rw [hpe2, Nat.zero_add]
        rcases slotCells_inv hv with ⟨rfl, rfl⟩ | ⟨rfl, rfl⟩ | ⟨rfl, rfl⟩ | ⟨rfl, rfl⟩ | ⟨rfl, rfl⟩
        · exact ⟨_, a1, .ptr (ρ := ρ2) (f := f2) (i := 2) (o := 0) (L := ⟨Pg.dp p, Pg.db p, ds.size⟩) rfl⟩
        · refine ⟨_, a2, ?_⟩
          rw [hcoh]
          cases hc : coh with
          | true => exact .nilPtr
          | false =>
            obtain ⟨xs, xe, xf, y0, _⟩ := cl2 hc
            exact .ptr (ρ := ρ2) (f := f2) (i := 3) (o := 0) (L := ⟨Pg.cp p, Pg.cb p, xs.size⟩) y0
        · exact ⟨_, a3, by rw [hod]; exact .bool (.lit od)⟩
        · exact ⟨_, a4, by rw [hoc]; exact .bool (.lit oc)⟩
        · refine ⟨_, a5, ?_⟩
          rw [← hR, ← evI]
          exact .int .i64 _
      · cases hx
        refine ⟨ds, de, df, x1, rfl, fun ho => ⟨ndp ho, x2⟩, fun y d kd hy hd => ?_⟩
        have hd0 : d = 0 ∧ kd = .u8 := by
          match d, hd with
          | 0, hd => cases hd; exact ⟨rfl, rfl⟩
        obtain ⟨rfl, rfl⟩ := hd0
        have hy : y < 256 := by
          have : (y : Int) < 256 := hy
          omega
        obtain ⟨b1, b2⟩ := x3 y hy
        have ec : (IE.fn 10 (.var 0) pe (.lit 0)).ev ρ2 = pgD (ρ.i 0) p := by
          show ρ.g 10 (ρ.i 0) (pe.ev ρ2) 0 = _
          rw [h1.1, evI, hpe, (hG _ _ _).1, i0]
        have e1 : y * [IntKind.u8].length + 0 = y := by simp
        rw [ec, e1, pgD_get hy b2]
        exact ⟨b1, by simp [kLo]; exact b2.1, by simp [kHi]; exact b2.2⟩
      · obtain ⟨xs, xe, xf, y0, y1, y2, y3⟩ := cl2 hc
        have hx : cl = some M := hx
        rw [y0] at hx
        cases hx
        refine ⟨xs, xe, xf, y1, rfl, fun ho => ⟨ncp hc ho, y2⟩, fun y d kd hy hd => ?_⟩
        have hd0 : d = 0 ∧ kd = .u8 := by
          match d, hd with
          | 0, hd => cases hd; exact ⟨rfl, rfl⟩
        obtain ⟨rfl, rfl⟩ := hd0
        have hy : y < 256 := by
          have : (y : Int) < 256 := hy
          omega
        obtain ⟨b1, b2⟩ := y3 y hy
        have ec : (IE.fn 11 (.var 0) pe (.lit 0)).ev ρ2 = pgC (ρ.i 0) p := by
          show ρ.g 11 (ρ.i 0) (pe.ev ρ2) 0 = _
          rw [h1.1, evI, hpe, (hG _ _ _).2, i0]
        have e1 : y * [IntKind.u8].length + 0 = y := by simp
        rw [ec, e1, pgC_get hy b2]
        exact ⟨b1, by simp [kLo]; exact b2.1, by simp [kHi]; exact b2.2⟩
  have ha2 : LRel ρ2 f2 co.args args' := by
    rw [g2]
    exact (ha.mono hle).env (fun e => (evI e).symm) (fun e => (evB e).symm)
  have hn2 : ∀ x, co.os.length ≤ x → f2 x = none := by
    intro x hx
    rw [o0, openOs_length] at hx
    match x, hx with
    | x + 4, _ => rfl
    | 3, hx =>
      cases hc : coh with
      | true => exact cl1 hc
      | false => rw [hc] at hx; exact absurd hx (by decide)
    | 0, hx => cases coh <;> exact absurd hx (by decide)
    | 1, hx => cases coh <;> exact absurd hx (by decide)
    | 2, hx => cases coh <;> exact absurd hx (by decide)
  have hp2 : Dec.holds ρ2 co.pre := fun q hq => by rw [evB]; exact hp q hq
  rw [← g1]
  refine Calls.mono (hco ρ2 h1 hb hp2 B' w f2 w args' H2 ha2 hn2) fun e w3 ⟨v', e1, f3, e2, e3, e4, e5⟩ => ?_
  have keep : ∀ b, B' b → w3.heap[b]? = w.heap[b]? := e4.below.block
  have tree : ∀ (x : Nat) (o : AObj), co.os'[x]? = some o → o.dead = false → (outT co.os' 0 T.nil).get x = some o := by
    intro x o hx hd
    have := outT_same co.os' 0 x .nil o hx hd (by omega)
    rwa [Nat.zero_add] at this
  obtain ⟨s0, s1, s2, s3, s6⟩ := slotCells_get (i := i) (j := j) (coh := coh) (od := od') (oc := oc') (R := Re)
  have fb1 : f3 1 = some ⟨Pg.sb, 0, ss.size⟩ := e2 1 _ rfl
  obtain ⟨ss3, sf3, r1, r2, r3, r0, r4⟩ := e4.obj 1 _ _ fb1 (tree 1 _ o1 rfl)
  rw [hpe2] at r0
  have cell : ∀ (y : Nat) (v : AVal), (slotCells i j coh od' oc' Re).get y = some v → ∃ u, ss3[p * 7 + y]? = some u ∧ VRel ρ2 f3 v u := by
    intro y v hy
    obtain ⟨u, a1, a2⟩ := r4 y v hy
    rw [hpe2] at a1
    have : (⟨Pg.sb, 0, ss.size⟩ : Loc).base + (p * 7 + y) = p * 7 + y := Nat.zero_add _
    rw [this] at a1
    exact ⟨u, a1, a2⟩
  obtain ⟨z0, zc0, zr0⟩ := cell 0 _ s0
  obtain ⟨Li, fi, rfl⟩ := zr0.ptr_inv
  obtain ⟨ds3, de3, df3, t1, t2, t3, t4⟩ := e4.obj i Li _ fi (tree i _ o2 rfl)
  have page : ∀ {xs3 : Array Value} {Lx : Loc} {C : IE} {D : Nat → Int}, (∀ (y d : Nat) (kd : IntKind), (y : Int) < (IE.lit 256).ev ρ2 → [IntKind.u8][d]? = some kd → xs3[Lx.base + (y * [IntKind.u8].length + d)]? = some (.int kd (rowGet (C.ev ρ2) (y * [IntKind.u8].length + d : Nat))) ∧ kLo kd ≤ rowGet (C.ev ρ2) (y * [IntKind.u8].length + d : Nat) ∧ rowGet (C.ev ρ2) (y * [IntKind.u8].length + d : Nat) ≤ kHi kd) →
      (∀ y, y < 256 → D y = rowGet (C.ev ρ) y) → ∀ y, y < 256 → xs3[Lx.base + y]? = some (.int .u8 (D y)) ∧ isByte (D y) := by
    intro xs3 Lx C D ht hD y hy
    obtain ⟨a1, a2, a3⟩ := ht y 0 .u8 (show (y : Int) < 256 by omega) rfl
    have e1 : y * [IntKind.u8].length + 0 = y := by simp
    rw [e1, evI, ← hD y hy] at a1 a2 a3
    exact ⟨a1, by simpa [kLo] using a2, by simpa [kHi] using a3⟩
  -- the page's blocks
  have iold : od' = false → Li = ⟨Pg.dp p, Pg.db p, ds.size⟩ ∧ od = false := by
    intro ho
    rcases hi with h | ⟨h, h'⟩
    · rw [h] at ho; cases ho
    · subst h
      have : f3 2 = some ⟨Pg.dp p, Pg.db p, ds.size⟩ := e2 2 _ rfl
      rw [this] at fi
      cases fi
      exact ⟨rfl, h'⟩
  have inew : od' = true → ¬ B' Li.blk := fun ho => (t3 ho).1
  have isb : Li.blk ≠ Pg.sb := by
    intro h
    have i1 : (1 : Nat) ≠ i := by
      intro h
      subst h
      rw [o1] at o2
      cases o2
    exact e4.apart 1 i _ Li _ _ fb1 fi (tree 1 _ o1 rfl) (tree i _ o2 rfl) i1 rfl Pg.sb rfl h.symm
  have iother : ∀ q, q < (mN (ρ.i 0)).toNat → q ≠ p → Pg.od q = true ∨ od' = true → Li.blk ≠ Pg.dp q := by
    intro q hq hqp ho h
    cases ho' : od' with
    | true => exact inew ho' (by rw [h]; exact hBd q hq (fun h' => hqp h'.1))
    | false =>
      obtain ⟨a1, a2⟩ := iold ho'
      rw [a1] at h
      rw [ho'] at ho
      rcases ho with ho | ho
      · exact (hm.exD q hq ho).1 p hpn (Ne.symm hqp) h
      · cases ho
  have iotherc : coh = false → ∀ q, q < (mN (ρ.i 0)).toNat → q ≠ p → Pg.oc q = true ∨ od' = true → Li.blk ≠ Pg.cp q := by
    intro hc q hq hqp ho h
    cases ho' : od' with
    | true => exact inew ho' (by rw [h]; exact hBc hc q hq (fun h' => hqp h'.1))
    | false =>
      obtain ⟨a1, a2⟩ := iold ho'
      rw [a1] at h
      rw [ho'] at ho
      rcases ho with ho | ho
      · exact (hm.exC (by rw [hcoh]; exact hc) q hq ho).2 p hpn h
      · cases ho
  have dataP : pageIs w3 Li.blk Li.base fun y => mD (Me'.ev ρ) (256 * p + y) := by
    refine ⟨ds3, de3, df3, t1, ?_, page t4 hnext.d⟩
    cases ho' : od' with
    | true => rw [t2]; exact (t3 ho').2
    | false =>
      obtain ⟨a1, a2⟩ := iold ho'
      have := keep _ (hBd p hpn (fun h' => by rw [a2] at h'; cases h'.2))
      rw [a1] at t1
      have t1 : w3.heap[Pg.dp p]? = some (.cells ds3 de3 df3) := t1
      rw [this, x1] at t1
      cases t1
      exact x2
  have hcode : ∃ Lj : Loc, (coh = false → f3 j = some Lj ∧ ss3[p * 7 + 1]? = some (.pointer (some ⟨Lj.blk, Lj.base + 0, none⟩)) ∧ (pageIs w3 Lj.blk Lj.base fun y => mC (Me'.ev ρ) (256 * p + y)) ∧ (oc' = false → Lj.blk = Pg.cp p ∧ oc = false) ∧ (oc' = true → ¬ B' Lj.blk) ∧ Lj.blk ≠ Pg.sb ∧ Lj.blk ≠ L.blk ∧ (od' = true ∨ oc' = true → Li.blk ≠ Lj.blk)) := by
    cases hc : coh with
    | true => exact ⟨⟨0, 0, 0⟩, fun h => by cases h⟩
    | false =>
      obtain ⟨xs, xe, xf, y0, y1, y2, y3⟩ := cl2 hc
      have o3 := o3 hc
      have hj := hj hc
      have hij := hij hc
      obtain ⟨z1, zc1, zr1⟩ := cell 1 _ s1
      rw [hc] at zr1
      obtain ⟨Lj, fj, rfl⟩ := zr1.ptr_inv
      obtain ⟨xs3, xe3, xf3, m1, m2, m3, m4⟩ := e4.obj j Lj _ fj (tree j _ o3 rfl)
      have jold : oc' = false → Lj = ⟨Pg.cp p, Pg.cb p, xs.size⟩ ∧ oc = false := by
        intro ho
        rcases hj with h | ⟨h, h'⟩
        · rw [h] at ho; cases ho
        · subst h
          have : f3 3 = some ⟨Pg.cp p, Pg.cb p, xs.size⟩ := e2 3 _ y0
          rw [this] at fj
          cases fj
          exact ⟨rfl, h'⟩
      have jnew : oc' = true → ¬ B' Lj.blk := fun ho => (m3 ho).1
      refine ⟨Lj, fun _ => ⟨fj, zc1, ⟨xs3, xe3, xf3, m1, ?_, page m4 (hnext.c (by rw [hcoh]; exact hc))⟩, fun ho => ⟨by rw [(jold ho).1], (jold ho).2⟩, jnew, ?_, ?_, ?_⟩⟩
      · cases ho' : oc' with
        | true => rw [m2]; exact (m3 ho').2
        | false =>
          obtain ⟨a1, a2⟩ := jold ho'
          have := keep _ (hBc hc p hpn (fun h' => by rw [a2] at h'; cases h'.2))
          rw [a1] at m1
          have m1 : w3.heap[Pg.cp p]? = some (.cells xs3 xe3 xf3) := m1
          rw [this, y1] at m1
          cases m1
          exact y2
      · intro h
        have j1 : (1 : Nat) ≠ j := by
          intro h
          subst h
          rw [o1] at o3
          cases o3
        exact e4.apart 1 j _ Lj _ _ fb1 fj (tree 1 _ o1 rfl) (tree j _ o3 rfl) j1 rfl Pg.sb rfl h.symm
      · intro h
        cases ho' : oc' with
        | true => exact jnew ho' (by rw [h]; exact hBg)
        | false =>
          rw [(jold ho').1] at h
          exact (hm.gc (by rw [hcoh]; exact hc) p hpn).1 h
      · intro ho h
        rcases ho with ho | ho
        · exact e4.apart i j Li Lj _ _ fi fj (tree i _ o2 rfl) (tree j _ o3 rfl) hij ho Li.blk rfl h
        · exact e4.apart j i Lj Li _ _ fj fi (tree j _ o3 rfl) (tree i _ o2 rfl) (Ne.symm hij) ho Lj.blk rfl h.symm
  obtain ⟨Lj, hcode⟩ := hcode
  obtain ⟨z2, zc2, zr2⟩ := cell 2 _ s2
  obtain ⟨z3, zc3, zr3⟩ := cell 3 _ s3
  obtain ⟨z6, zc6, zr6⟩ := cell 6 _ s6
  have zr2 := zr2.bool_eq
  have zr3 := zr3.bool_eq
  have zr6 := zr6.int_inv
  rw [evI] at zr6
  subst zr2 zr3 zr6
  have ne : (mN (Me'.ev ρ)).toNat = (mN (ρ.i 0)).toNat := by rw [hnext.n]
  have ce : mCoh (Me'.ev ρ) = coh := by rw [hnext.coh, hcoh]
  let Pg' : Pages := ⟨Pg.sb, fun q => if q = p then Li.blk else Pg.dp q, fun q => if q = p then Li.base else Pg.db q, fun q => if q = p then Lj.blk else Pg.cp q, fun q => if q = p then Lj.base else Pg.cb q, fun q => if q = p then od' else Pg.od q, fun q => if q = p then oc' else Pg.oc q⟩
  have P1 : ∀ q, q = p → Pg'.dp q = Li.blk ∧ Pg'.db q = Li.base ∧ Pg'.cp q = Lj.blk ∧ Pg'.cb q = Lj.base ∧ Pg'.od q = od' ∧ Pg'.oc q = oc' := fun q h => ⟨if_pos h, if_pos h, if_pos h, if_pos h, if_pos h, if_pos h⟩
  have P2 : ∀ q, q ≠ p → Pg'.dp q = Pg.dp q ∧ Pg'.db q = Pg.db q ∧ Pg'.cp q = Pg.cp q ∧ Pg'.cb q = Pg.cb q ∧ Pg'.od q = Pg.od q ∧ Pg'.oc q = Pg.oc q := fun q h => ⟨if_neg h, if_neg h, if_neg h, if_neg h, if_neg h, if_neg h⟩
  have hm' : MemIs el sl (Me'.ev ρ) w3 L.blk Pg' := by
    refine ⟨by rw [hnext.n]; exact hm.nle, ⟨cs, fr, cap, (keep _ hBg).trans u1, by rw [ne]; exact u2, by rw [ne]; exact u3, by rw [hnext.coh]; exact u4⟩, ⟨ss3, sf3, r1, by rw [r2]; exact (r3 rfl).2, fun q hq => ?_⟩, fun q hq => ?_, fun hc q hq => ?_, hm.gs, fun q hq => ?_, fun hc q hq => ?_, fun q hq ho => ?_, fun hc q hq ho => ?_⟩
    · rw [ne] at hq
      rw [ce]
      by_cases hqp : q = p
      · obtain ⟨p1, p2, p3, p4, p5, p6⟩ := P1 q hqp
        rw [p1, p2, p3, p4, p5, p6]
        subst hqp
        refine ⟨zc0, ?_, zc2, zc3, by rw [hnext.r.1]; exact zc6, by rw [hnext.r.1]; exact hnext.r.2⟩
        cases hc : coh with
        | true =>
          obtain ⟨z1, zc1, zr1⟩ := cell 1 _ s1
          rw [hc] at zr1
          rw [zr1.nil_inv] at zc1
          exact zc1
        | false => exact (hcode hc).2.1
      · obtain ⟨p1, p2, p3, p4, p5, p6⟩ := P2 q hqp
        rw [p1, p2, p3, p4, p5, p6]
        obtain ⟨a1, a2, a3, a4, a5, a6, a7⟩ := v3 q hq
        rw [hcoh] at a2
        have same : ∀ y, y < 7 → ss3[q * 7 + y]? = ss[q * 7 + y]? := by
          intro y hy
          have h0 : q * 7 + y < 0 + p * 7 ∨ 0 + p * 7 + 7 ≤ q * 7 + y := by omega
          exact r0 _ h0
        have hr7 := hnext.rights q hq hqp
        refine ⟨by rw [← a1]; exact same 0 (by decide), by rw [← a2]; exact same 1 (by decide), by rw [← a3]; exact same 2 (by decide), by rw [← a4]; exact same 3 (by decide), by rw [hr7, ← a5]; exact same 6 (by decide), by rw [hr7]; exact a6, by rw [hr7]; exact a7⟩
    · rw [ne] at hq
      by_cases hqp : q = p
      · obtain ⟨p1, p2, _⟩ := P1 q hqp
        rw [p1, p2, hqp]
        exact dataP
      · obtain ⟨p1, p2, _⟩ := P2 q hqp
        rw [p1, p2]
        obtain ⟨as, ae, af, a1, a2, a3⟩ := hm.data q hq
        refine ⟨as, ae, af, (keep _ (hBd q hq (fun h => hqp h.1))).trans a1, a2, fun y hy => ?_⟩
        show as[Pg.db q + y]? = some (.int .u8 (mD (Me'.ev ρ) (256 * q + y))) ∧ isByte (mD (Me'.ev ρ) (256 * q + y))
        rw [(hnext.other q y hq hqp hy).1]
        exact a3 y hy
    · rw [ne] at hq
      rw [ce] at hc
      by_cases hqp : q = p
      · obtain ⟨p1, p2, p3, p4, _⟩ := P1 q hqp
        rw [p3, p4, hqp]
        exact (hcode hc).2.2.1
      · obtain ⟨p1, p2, p3, p4, _⟩ := P2 q hqp
        rw [p3, p4]
        obtain ⟨as, ae, af, a1, a2, a3⟩ := hm.code (by rw [hcoh]; exact hc) q hq
        refine ⟨as, ae, af, (keep _ (hBc hc q hq (fun h => hqp h.1))).trans a1, a2, fun y hy => ?_⟩
        show as[Pg.cb q + y]? = some (.int .u8 (mC (Me'.ev ρ) (256 * q + y))) ∧ isByte (mC (Me'.ev ρ) (256 * q + y))
        rw [(hnext.other q y hq hqp hy).2 (by rw [hcoh]; exact hc)]
        exact a3 y hy
    · rw [ne] at hq
      by_cases hqp : q = p
      · rw [(P1 q hqp).1]
        refine ⟨fun h => ?_, isb⟩
        cases ho' : od' with
        | true => exact inew ho' (by rw [h]; exact hBg)
        | false => rw [(iold ho').1] at h; exact (hm.gd p hpn).1 h
      · rw [(P2 q hqp).1]
        exact hm.gd q hq
    · rw [ne] at hq
      rw [ce] at hc
      by_cases hqp : q = p
      · rw [(P1 q hqp).2.2.1]
        exact ⟨(hcode hc).2.2.2.2.2.2.1, (hcode hc).2.2.2.2.2.1⟩
      · rw [(P2 q hqp).2.2.1]
        exact hm.gc (by rw [hcoh]; exact hc) q hq
    · rw [ne] at hq ⊢
      rw [ce]
      by_cases hqp : q = p
      · obtain ⟨p1, p2, p3, p4, p5, p6⟩ := P1 q hqp
        rw [p5] at ho
        rw [p1]
        refine ⟨fun r hr hrq => ?_, fun hc r hr => ?_⟩
        · have hrp : r ≠ p := by rw [← hqp]; exact hrq
          rw [(P2 r hrp).1]
          exact Ne.symm (iother r hr hrp (.inr ho))
        · by_cases hrp : r = p
          · rw [(P1 r hrp).2.2.1]
            exact Ne.symm ((hcode hc).2.2.2.2.2.2.2 (.inl ho))
          · rw [(P2 r hrp).2.2.1]
            exact Ne.symm (iotherc hc r hr hrp (.inr ho))
      · obtain ⟨p1, p2, p3, p4, p5, p6⟩ := P2 q hqp
        rw [p5] at ho
        rw [p1]
        refine ⟨fun r hr hrq => ?_, fun hc r hr => ?_⟩
        · by_cases hrp : r = p
          · rw [(P1 r hrp).1]
            exact iother q hq hqp (.inl ho)
          · rw [(P2 r hrp).1]
            exact (hm.exD q hq ho).1 r hr hrq
        · by_cases hrp : r = p
          · rw [(P1 r hrp).2.2.1]
            intro h
            cases ho' : oc' with
            | true => exact (hcode hc).2.2.2.2.1 ho' (by rw [h]; exact hBd q hq (fun h' => hqp h'.1))
            | false =>
              rw [((hcode hc).2.2.2.1 ho').1] at h
              exact (hm.exD q hq ho).2 (by rw [hcoh]; exact hc) p hpn h
          · rw [(P2 r hrp).2.2.1]
            exact (hm.exD q hq ho).2 (by rw [hcoh]; exact hc) r hr
    · rw [ne] at hq ⊢
      rw [ce] at hc
      by_cases hqp : q = p
      · obtain ⟨p1, p2, p3, p4, p5, p6⟩ := P1 q hqp
        rw [p6] at ho
        rw [p3]
        refine ⟨fun r hr hrq => ?_, fun r hr => ?_⟩
        · have hrp : r ≠ p := by rw [← hqp]; exact hrq
          rw [(P2 r hrp).2.2.1]
          intro h
          exact (hcode hc).2.2.2.2.1 ho (by rw [← h]; exact hBc hc r hr (fun h' => hrp h'.1))
        · by_cases hrp : r = p
          · rw [(P1 r hrp).1]
            exact (hcode hc).2.2.2.2.2.2.2 (.inr ho)
          · rw [(P2 r hrp).1]
            intro h
            exact (hcode hc).2.2.2.2.1 ho (by rw [← h]; exact hBd r hr (fun h' => hrp h'.1))
      · obtain ⟨p1, p2, p3, p4, p5, p6⟩ := P2 q hqp
        rw [p6] at ho
        rw [p3]
        have hcM : mCoh (ρ.i 0) = false := by rw [hcoh]; exact hc
        refine ⟨fun r hr hrq => ?_, fun r hr => ?_⟩
        · by_cases hrp : r = p
          · rw [(P1 r hrp).2.2.1]
            intro h
            cases ho' : oc' with
            | true => exact (hcode hc).2.2.2.2.1 ho' (by rw [h]; exact hBc hc q hq (fun h' => hqp h'.1))
            | false =>
              rw [((hcode hc).2.2.2.1 ho').1] at h
              exact (hm.exC hcM q hq ho).1 p hpn (Ne.symm hqp) h
          · rw [(P2 r hrp).2.2.1]
            exact (hm.exC hcM q hq ho).1 r hr hrq
        · by_cases hrp : r = p
          · rw [(P1 r hrp).1]
            exact iotherc hc q hq hqp (.inl ho)
          · rw [(P2 r hrp).1]
            exact (hm.exC hcM q hq ho).2 r hr
  have hg' : ∀ x o, (outT c.os' 0 T.nil).get x = some o → x = 0 ∧ o = .ghost k [Me'] cv := by
    intro x o hx
    rw [c1] at hx
    have := (outList hx).1
    match x, this with
    | 0, this => simp at this; exact ⟨rfl, this.symm⟩
    | x + 1, this => simp at this
  have nB : ∀ b, inMem (Me'.ev ρ) L.blk Pg' b → ¬ B b := by
    intro b hb hB
    rcases hb with rfl | rfl | ⟨q, hq, rfl⟩ | ⟨hc, q, hq, rfl⟩
    · exact hfoot _ (.inl rfl) hB
    · exact hfoot _ (.inr (.inl rfl)) hB
    · rw [ne] at hq
      by_cases hqp : q = p
      · rw [(P1 q hqp).1] at hB
        cases ho' : od' with
        | true => exact inew ho' (hBB _ hB)
        | false =>
          rw [(iold ho').1] at hB
          exact hfoot _ (.inr (.inr (.inl ⟨p, hpn, rfl⟩))) hB
      · rw [(P2 q hqp).1] at hB
        exact hfoot _ (.inr (.inr (.inl ⟨q, hq, rfl⟩))) hB
    · rw [ne] at hq
      rw [ce] at hc
      by_cases hqp : q = p
      · rw [(P1 q hqp).2.2.1] at hB
        cases ho' : oc' with
        | true => exact (hcode hc).2.2.2.2.1 ho' (hBB _ hB)
        | false =>
          rw [((hcode hc).2.2.2.1 ho').1] at hB
          exact hfoot _ (.inr (.inr (.inr ⟨by rw [hcoh]; exact hc, p, hpn, rfl⟩))) hB
      · rw [(P2 q hqp).2.2.1] at hB
        exact hfoot _ (.inr (.inr (.inr ⟨by rw [hcoh]; exact hc, q, hq, rfl⟩))) hB
  refine ⟨v', e1, f, Ren.le_refl f, fun _ _ => rfl, ⟨hr.below.trans (e4.below.mono hBB), hr.bsize, fun x M hx => Nat.lt_of_lt_of_le (hr.lt x M hx) e4.below.size, fun x y Mx My ox oy hx hy gx gy hxy => ?_, fun x M o hx gx => ?_⟩, ?_⟩
  · exact absurd ((hg' x ox gx).1.trans (hg' y oy gy).1.symm) hxy
  · obtain ⟨rfl, rfl⟩ := hg' x o gx
    rw [hL] at hx
    cases hx
    refine ⟨⟨by rw [hgh]; exact ⟨_, Pg', rfl, hm'⟩, fun b hb => ?_⟩, hb0, cs0, el0, fr0, (keep _ hBg).trans q1, q2, q3, q4⟩
    rw [hgh] at hb
    obtain ⟨M2, P2', h2, h3⟩ := hb
    exact nB b (hm'.same h2 h3)
  · rw [g3] at e5
    exact (e5.freed cr).env evI evB
def roOs (el sl : TypeId) (coh : Bool) : List AObj := [.cells (head0 coh) el false 2, .col 7 6 .i64 (.var 0) 4 2 (.fn 0 (.var 0) (.lit 3) (.lit 0))]
/-- Where no page is touched. -/
theorem memCon_ro {el sl : TypeId} {k : Nat} {c co : Con} {cv : T AVal} {Me' : IE} {coh : Bool}
    (hk : GH k = memGhost el sl) (c0 : c.os = [.ghost k [.var 0] cv]) (c1 : c.os' = [.ghost k [Me'] cv]) (cr : c.res.free = true)
    (g1 : co.g = c.g) (g2 : co.args = c.args) (g3 : co.res = c.res) (hco : co.Ok P G GH) (o0 : co.os = roOs el sl coh)
    {ρ : Env} (h1 : ρ.std G GH) (hb : ρ.ok (bdL co.bds)) (hp : co.pre.holds ρ) {B : Nat → Prop} {W w : World} {f : Ren} {args' : Array Value} (hr : HRel ρ B W f (treeOf c.os 0 .nil) w) (ha : LRel ρ f c.args args') (hn : ∀ j, c.os.length ≤ j → f j = none)
    {L : Loc} (hL : f 0 = some L) {Pg : Pages} (hm : MemIs el sl (ρ.i 0) w L.blk Pg) (hcoh : mCoh (ρ.i 0) = coh) (hsame : Me'.ev ρ = ρ.i 0) :
    callR P c.g args' w fun v' w' => ∃ f', f.le f' ∧ Outside f f' c.os.length c.os'.length ∧ HRel ρ B W f' (outT c.os' 0 .nil) w' ∧ VRel ρ f' c.res v' := by
  have hlen : c.os.length = 1 := by rw [c0]; rfl
  have hf1 : ∀ x, 1 ≤ x → f x = none := fun x hx => hn x (by omega)
  have hg : (treeOf c.os 0 T.nil).get 0 = some (.ghost k [.var 0] cv) := by
    rw [c0]
    exact treeOf_same [AObj.ghost k [IE.var 0] cv] 0 0 .nil _ rfl (by simp)
  have hobj := hr.obj 0 L _ hL hg
  obtain ⟨⟨hrel, hfB⟩, hb0, cs0, el0, fr0, q1, q2, q3, q4⟩ := hobj
  obtain ⟨cs, fr, cap, u1, u2, u3, u4⟩ := hm.head
  obtain ⟨ss, sf, v1, v2, v3⟩ := hm.slots
  have lt : ∀ {b : Nat} {O : Obj}, w.heap[b]? = some O → b < w.heap.size := fun h => (Array.getElem?_eq_some_iff.1 h).1
  let f2 : Ren := fun x => match x with
    | 0 => some L
    | 1 => some ⟨Pg.sb, 0, ss.size⟩
    | _ => none
  have hle : f.le f2 := by
    intro x M hx
    cases x with
    | zero => rw [hL] at hx; exact hx
    | succ x => rw [hf1 _ (by omega)] at hx; cases hx
  have get : ∀ {x : Nat} {o : AObj}, (treeOf co.os 0 T.nil).get x = some o → (x = 0 ∧ o = .cells (head0 coh) el false 2) ∨ (x = 1 ∧ o = .col 7 6 .i64 (.var 0) 4 2 (.fn 0 (.var 0) (.lit 3) (.lit 0))) := by
    intro x o h
    rw [o0] at h
    have := listTree h
    match x, this with
    | 0, h => simp [roOs] at h; exact .inl ⟨rfl, h.symm⟩
    | 1, h => simp [roOs] at h; exact .inr ⟨rfl, h.symm⟩
    | x + 2, h => simp [roOs] at h
  have H2 : HRel ρ (· < w.heap.size) w f2 (treeOf co.os 0 .nil) w := by
    refine ⟨Kept.refl _ _, fun b hb => hb, fun x M hx => ?_, fun x y Mx My ox oy hx hy gx gy hxy hown => ?_, fun x M o hx gx => ?_⟩
    · match x, hx with
      | 0, hx => cases hx; exact lt u1
      | 1, hx => cases hx; exact lt v1
    · rcases get gx with ⟨rfl, rfl⟩ | ⟨rfl, rfl⟩ <;> cases hown
    · rcases get gx with ⟨rfl, rfl⟩ | ⟨rfl, rfl⟩
      · cases hx
        have hsz : cs.size = L.sz := by
          rw [u1] at q1
          cases q1
          exact q2
        refine ⟨cs, fr, u1, hsz, (fun h => (by cases h)), fun y v hv => ?_⟩
        rcases head0_inv hv with ⟨rfl, rfl⟩ | ⟨rfl, rfl⟩
        · refine ⟨by decide, _, by rw [hb0]; exact u2, ?_⟩
          have hlenE : (IE.fn 0 (.var 0) (.lit 3) (.lit 0)).ev ρ = mN (ρ.i 0) := rfl
          have := VRel.sliceS (ρ := ρ) (f := f2) (i := 1) (s := 7) (st := .lit 0) (len := .fn 0 (.var 0) (.lit 3) (.lit 0)) (nn := true) (L := ⟨Pg.sb, 0, ss.size⟩) (c := cap) rfl (Int.le_refl 0) (by rw [hlenE]; exact hm.nle.1) (by rw [hlenE]; exact u3)
          rw [hlenE] at this
          exact this
        · refine ⟨by decide, _, by rw [hb0]; exact u4, ?_⟩
          rw [hcoh]
          exact .bool (.lit coh)
      · cases hx
        refine ⟨ss, sl, sf, v1, fun j hj => ?_⟩
        have hj : (j : Int) < mN (ρ.i 0) := hj
        obtain ⟨a1, a2, a3, a4, a5, a6, a7⟩ := v3 j (by omega)
        have e : j * 4 + 2 = 4 * j + 2 := by omega
        have ev0 : (IE.var 0).ev ρ = ρ.i 0 := rfl
        rw [e, ev0]
        refine ⟨by rw [Nat.zero_add]; exact a5, ?_, ?_⟩
        · unfold mR at a6; simp only [kLo]; omega
        · unfold mR at a7; simp only [kHi]; omega
  rw [← g1]
  refine Calls.mono (hco ρ h1 hb hp (· < w.heap.size) w f2 w args' H2 (by rw [g2]; exact ha.mono hle) (fun x hx => ?_)) fun e w3 ⟨v', e1, f3, e2, e3, e4, e5⟩ => ?_
  · rw [o0] at hx
    match x, hx with
    | x + 2, _ => rfl
    | 0, hx => exact absurd hx (by simp [roOs])
    | 1, hx => exact absurd hx (by simp [roOs])
  have hB : Kept B W w3 := hr.below.trans (e4.below.mono fun b hb => Nat.lt_of_lt_of_le (hr.bsize b hb) hr.below.size)
  have H3 : HRel ρ B W f (treeOf c.os 0 .nil) w3 := hr.of_same hB e4.below.size fun x M o hx gx b hb => e4.below.block b ((hr.obj x M o hx gx).foot_lt hb)
  have hg0 : ∀ x o, (outT c.os' 0 T.nil).get x = some o → x = 0 ∧ o = .ghost k [Me'] cv := by
    intro x o hx
    rw [c1] at hx
    have := (outList hx).1
    match x, this with
    | 0, this => simp at this; exact ⟨rfl, this.symm⟩
    | x + 1, this => simp at this
  refine ⟨v', e1, f, Ren.le_refl f, fun _ _ => rfl, ⟨H3.below, H3.bsize, H3.lt, fun x y Mx My ox oy hx hy gx gy hxy => ?_, fun x M o hx gx => ?_⟩, ?_⟩
  · exact absurd ((hg0 x ox gx).1.trans (hg0 y oy gy).1.symm) hxy
  · obtain ⟨rfl, rfl⟩ := hg0 x o gx
    obtain ⟨⟨a1, a2⟩, a3⟩ := H3.obj 0 M _ hx hg
    refine ⟨⟨?_, a2⟩, a3⟩
    have : [Me'].map (·.ev ρ) = [IE.var 0].map (·.ev ρ) := by simp [hsame, IE.ev]
    rw [this]
    exact a1
  · rw [g3] at e5
    exact e5.freed cr

/-! both together -/
def nE : IE := .fn 0 (.var 0) (.lit 3) (.lit 0)
/-- Is the memory coherent? -/
def cohB : BE := .eq (.fn 0 (.var 0) (.lit 7) (.lit 0)) (.lit 1)
/-- What a run in an opened memory may assume. -/
def inPre (pe : IE) (inside coh : Bool) : Dec := [(.lt pe nE, inside), (.lt nE (.lit 0), false), (.lt (.lit 4096) nE, false), (.lt pe (.lit 0), false), (cohB, coh)]
theorem inPre_ok {ρ : Env} {pe : IE} {p : Nat} (hp : pe.ev ρ = p) (hn : 0 ≤ mN (ρ.i 0) ∧ mN (ρ.i 0) ≤ 4096) {v : Bool} (hv : decide ((p : Int) < mN (ρ.i 0)) = v) {coh : Bool} (hc : mCoh (ρ.i 0) = coh) : Dec.holds ρ (inPre pe v coh) := by
  have e : nE.ev ρ = mN (ρ.i 0) := rfl
  intro q hq
  simp only [inPre, List.mem_cons, List.not_mem_nil, or_false] at hq
  rcases hq with rfl | rfl | rfl | rfl | rfl
  · show decide (pe.ev ρ < nE.ev ρ) = v
    rw [hp, e]
    exact hv
  · show decide (nE.ev ρ < 0) = false
    rw [e]
    simp
    omega
  · show decide (4096 < nE.ev ρ) = false
    rw [e]
    simp
    omega
  · show decide (pe.ev ρ < 0) = false
    rw [hp]
    simp
  · exact hc
/-- The contract's run in a memory opened at pe. -/
def memIn (c : Con) (el sl : TypeId) (pe : IE) (coh od oc : Bool) (os' : List AObj) : Con :=
  { c with os := openOs el sl coh od oc pe, pre := inPre pe true coh ++ c.pre, os' := os' }
def memRo (c : Con) (el sl : TypeId) (pe : IE) (inside coh : Bool) : Con :=
  { c with os := roOs el sl coh, pre := inPre pe inside coh ++ c.pre, os' := roOs el sl coh }
def memRo0 (c : Con) (el sl : TypeId) (coh : Bool) : Con :=
  { c with os := roOs el sl coh, pre := [(.lt nE (.lit 0), false), (.lt (.lit 4096) nE, false)] ++ c.pre, os' := roOs el sl coh }
/-- What is written of an opened page: where its data and its image lie, whose they are, what they are. -/
structure Behind where
  i : Nat := 2
  j : Nat := 3
  od : Bool
  oc : Bool
  d : IE
  c : IE
  r : IE
theorem rowGet_in (d : Int) (j : Nat) : inRow (rowGet d j) := by
  rw [rowGet_dig]
  unfold rowPut inRow
  have h : dig d.toNat j < 2 ^ 80 := by unfold dig; exact Nat.mod_lt _ (Nat.two_pow_pos _)
  have e : (2 : Nat) ^ 80 = 1208925819614629174706176 := by decide
  rw [e] at h
  split
  · rename_i hb
    have : dig d.toNat j < 604462909807314587353088 := by simpa [Nat.blt_eq] using hb
    omega
  · rename_i hb
    have : ¬ dig d.toNat j < 604462909807314587353088 := fun hlt => hb (by simpa [Nat.blt_eq] using hlt)
    omega
theorem pgD_get' (M : Int) (p j : Nat) (hj : j < 256) : rowGet (pgD M p) j = mD M (256 * p + j) :=
  rowGet_of _ j _ (by simp [hj]) (rowGet_in M _)
theorem pgC_get' (M : Int) (p j : Nat) (hj : j < 256) : rowGet (pgC M p) j = mC M (256 * p + j) :=
  rowGet_of _ j _ (by simp [hj]) (rowGet_in M _)
theorem memNext.refl {M : Int} {p : Nat} (h : memOk M) (hp : p < (mN M).toNat) : memNext M M p (pgD M p) (pgC M p) (mR M p) :=
  ⟨rfl, rfl, fun _ _ _ _ _ => ⟨rfl, fun _ => rfl⟩, fun _ _ _ => rfl, fun j hj => (pgD_get' M p j hj).symm, fun _ j hj => (pgC_get' M p j hj).symm, rfl, h.r p hp⟩
/-- A function that touches one page at most. -/
theorem memCon {el sl : TypeId} {k : Nat} {c : Con} {cv : T AVal} {Me' pe : IE} (hk : GH k = memGhost el sl) (hG : ∀ M p z, G 10 M p z = pgD M p.toNat ∧ G 11 M p z = pgC M p.toNat)
    (c0 : c.os = [.ghost k [.var 0] cv]) (c1 : c.os' = [.ghost k [Me'] cv]) (cr : c.res.free = true) (ca : c.args.head? = some (.ptr (some (0, 0))))
    (hpos : ∀ ρ : Env, ρ.ok (bdL c.bds) → c.pre.holds ρ → 0 ≤ pe.ev ρ)
    (hout : ∀ coh, (memRo c el sl pe false coh).Ok P G GH) (hsame : ∀ ρ : Env, ρ.std G GH → ρ.ok (bdL c.bds) → c.pre.holds ρ → memOk (ρ.i 0) → mN (ρ.i 0) ≤ pe.ev ρ → Me'.ev ρ = ρ.i 0)
    (hin : ∀ coh od oc, ∃ (b : Behind) (os' : List AObj), (memIn c el sl pe coh od oc os').Ok P G GH ∧ os'[1]? = some (.win pe 7 (slotCells b.i b.j coh b.od b.oc b.r) sl true) ∧ os'[b.i]? = some (.arr [.u8] b.d (.lit 256) b.od) ∧ (coh = false → os'[b.j]? = some (.arr [.u8] b.c (.lit 256) b.oc)) ∧ os'.length ≤ 1000 ∧
      (b.od = true ∨ (b.i = 2 ∧ od = false)) ∧ (coh = false → b.oc = true ∨ (b.j = 3 ∧ oc = false)) ∧ (coh = false → b.i ≠ b.j) ∧
      ∀ ρ : Env, ρ.std G GH → ρ.ok (bdL c.bds) → c.pre.holds ρ → memOk (ρ.i 0) → mCoh (ρ.i 0) = coh → ∀ p : Nat, pe.ev ρ = p → p < (mN (ρ.i 0)).toNat → memNext (ρ.i 0) (Me'.ev ρ) p (b.d.ev ρ) (b.c.ev ρ) (b.r.ev ρ)) : c.Ok P G GH := by
  intro ρ h1 h2 h3 B W f w args' hr ha hn
  have hlen : c.os.length = 1 := by rw [c0]; rfl
  have hg : (treeOf c.os 0 T.nil).get 0 = some (.ghost k [.var 0] cv) := by
    rw [c0]
    exact treeOf_same [AObj.ghost k [IE.var 0] cv] 0 0 .nil _ rfl (by simp)
  have hL : ∃ L, f 0 = some L := by
    have h0 : c.args[0]? = some (.ptr (some (0, 0))) := by rw [← List.head?_eq_getElem?]; exact ca
    obtain ⟨v', q1, q2⟩ := ha.get h0
    obtain ⟨L, hL, _⟩ := q2.ptr_inv
    exact ⟨L, hL⟩
  obtain ⟨L, hL⟩ := hL
  obtain ⟨⟨hrel, hfB⟩, _⟩ := hr.obj 0 L _ hL hg
  rw [show ρ.gh k = memGhost el sl by rw [h1.2]; exact hk] at hrel
  obtain ⟨M, Pg, hv, hm⟩ := hrel
  have hM : M = ρ.i 0 := by
    simp [IE.ev] at hv
    exact hv.symm
  subst hM
  obtain ⟨p, hp⟩ := Int.eq_ofNat_of_zero_le (hpos ρ h2 h3)
  by_cases hlt : (p : Int) < mN (ρ.i 0)
  · obtain ⟨b, os', hok, o1, o2, o3, ol, hi, hj, hij, hnx⟩ := hin (mCoh (ρ.i 0)) (Pg.od p) (Pg.oc p)
    exact memCon_in (co := memIn c el sl pe (mCoh (ρ.i 0)) (Pg.od p) (Pg.oc p) os') hk hG c0 c1 cr rfl rfl rfl hok rfl o1 o2 o3 ol hi hj hij h1 h2 (holds_app (inPre_ok hp hm.nle (by simp [hlt]) rfl) h3) hr ha hn hL hm hp (by omega) rfl rfl rfl (hnx ρ h1 h2 h3 hm.ok rfl p hp (by omega))
  · exact memCon_ro (co := memRo c el sl pe false (mCoh (ρ.i 0))) hk c0 c1 cr rfl rfl rfl (hout _) rfl h1 h2 (holds_app (inPre_ok hp hm.nle (by simp [hlt]) rfl) h3) hr ha hn hL hm rfl (hsame ρ h1 h2 h3 hm.ok (by omega))
/-- A function that reads rights alone. -/
theorem memCon0 {el sl : TypeId} {k : Nat} {c : Con} {cv : T AVal} (hk : GH k = memGhost el sl) (c0 : c.os = [.ghost k [.var 0] cv]) (c1 : c.os' = [.ghost k [.var 0] cv]) (cr : c.res.free = true) (ca : c.args.head? = some (.ptr (some (0, 0))))
    (hro : ∀ coh, (memRo0 c el sl coh).Ok P G GH) : c.Ok P G GH := by
  intro ρ h1 h2 h3 B W f w args' hr ha hn
  have hlen : c.os.length = 1 := by rw [c0]; rfl
  have hg : (treeOf c.os 0 T.nil).get 0 = some (.ghost k [.var 0] cv) := by
    rw [c0]
    exact treeOf_same [AObj.ghost k [IE.var 0] cv] 0 0 .nil _ rfl (by simp)
  have hL : ∃ L, f 0 = some L := by
    have h0 : c.args[0]? = some (.ptr (some (0, 0))) := by rw [← List.head?_eq_getElem?]; exact ca
    obtain ⟨v', q1, q2⟩ := ha.get h0
    obtain ⟨L, hL, _⟩ := q2.ptr_inv
    exact ⟨L, hL⟩
  obtain ⟨L, hL⟩ := hL
  obtain ⟨⟨hrel, hfB⟩, _⟩ := hr.obj 0 L _ hL hg
  rw [show ρ.gh k = memGhost el sl by rw [h1.2]; exact hk] at hrel
  obtain ⟨M, Pg, hv, hm⟩ := hrel
  have hM : M = ρ.i 0 := by
    simp [IE.ev] at hv
    exact hv.symm
  subst hM
  have hp : Dec.holds ρ ([(.lt nE (.lit 0), false), (.lt (.lit 4096) nE, false)] ++ c.pre) := by
    have e : nE.ev ρ = mN (ρ.i 0) := rfl
    have hn := hm.nle
    refine holds_app (fun q hq => ?_) h3
    simp only [List.mem_cons, List.not_mem_nil, or_false] at hq
    rcases hq with rfl | rfl
    · show decide (nE.ev ρ < 0) = false
      rw [e]; simp; omega
    · show decide (4096 < nE.ev ρ) = false
      rw [e]; simp; omega
  exact memCon_ro (co := memRo0 c el sl (mCoh (ρ.i 0))) hk c0 c1 cr rfl rfl rfl (hro _) rfl h1 h2 hp hr ha hn hL hm rfl rfl
end
end
end Go.Sx
