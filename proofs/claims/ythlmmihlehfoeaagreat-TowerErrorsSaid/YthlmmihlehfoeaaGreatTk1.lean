/- Towers: contracts of Machine and Kinds. No condition. -/
import Derived.Test.YthlmmihlehfoeaaGreatTe2
import Derived.Test.YthlmmihlehfoeaaGreatTn4
set_option linter.unusedVariables false
set_option linter.unusedSimpArgs false
namespace Go.Proofs.YthlmmihlehfoeaaGreat
open Go Go.Sx
open Go.RowKit (Below)
set_option maxRecDepth 1000000
noncomputable section
/-- A contract that changes nothing that lay, and whose value is known. -/
theorem con_same {G : Nat → Int → Int → Int → Int} {GH : Nat → Ghost} {c : Con} (hlen : c.os.length < 1000000) (hos : c.os' = c.os) (h : ∀ (ρ : Env) (B : Nat → Prop) (W : World) (f : Ren) (w : World) (args' : Array Value), ρ.std G GH → HRel ρ B W f (treeOf c.os 0 .nil) w → LRel ρ f c.args args' → ∃ v', VRel ρ f c.res v' ∧ Calls PR c.g args' w fun e w' => e = .returned v' ∧ Below w.heap.size w w') : c.Ok PR G GH := by
  intro ρ h1 _ _ B W f w args' hr ha _
  obtain ⟨v', hv, hc⟩ := h ρ B W f w args' h1 hr ha
  refine hc.mono fun e w' ⟨he, hb⟩ => ⟨v', he, f, Ren.le_refl f, fun _ _ => rfl, ?_, hv⟩
  refine (hr.after hb).less fun i o hi => ?_
  rw [hos] at hi
  rcases outT_get _ _ _ _ _ hi with ⟨h0, h2, _⟩ | h0
  · have := treeOf_same c.os 0 i .nil o (by simpa using h2) (by omega)
    rwa [Nat.zero_add] at this
  · rw [T.get_nil] at h0; cases h0
/-- A new block, whatever else has been made. -/
theorem HRel.newB {ρ : Env} {B : Nat → Prop} {W w w' : World} {f : Ren} {h h' : T AObj} (hr : HRel ρ B W f h w) {i : Nat} {L : Sx.Loc} {o : AObj} (hf : f i = none) (hb : Below w.heap.size w w')
    (hL : w.heap.size ≤ L.blk) (hlt : L.blk < w'.heap.size) (ho : ORel ρ (f.put i L) B w' L o) (hone : ∀ b, o.foot ρ w' L b → b = L.blk) (hh : ∀ j x, h'.get j = some x → (j = i ∧ x = o) ∨ (j ≠ i ∧ h.get j = some x)) : HRel ρ B W (f.put i L) h' w' := by
  have old : ∀ k, k < w.heap.size → w'.heap[k]? = w.heap[k]? := hb.block
  have hB := hr.bsize
  have hs := hr.below.size
  have hsz : w.heap.size ≤ w'.heap.size := hb.size
  have keep := fun j M ok hj hg => (hr.obj j M ok hj hg).of_foot hsz (fun b hb => old b ((hr.obj j M ok hj hg).foot_lt hb))
  refine ⟨hr.below.trans ⟨hb.os, hb.tape, hb.output, hsz, fun k hk => old k (by have := hB k hk; omega)⟩, hr.bsize, ?_, ?_, ?_⟩
  · intro j M e
    by_cases hj : j = i
    · subst hj; rw [Ren.put_same] at e; cases e; exact hlt
    · rw [Ren.put_other f L hj] at e
      have := hr.lt j M e
      omega
  · intro a b La Lb oa ob ha hb hga hgb hab hown x hx hx'
    have lt : ∀ j M ok, f j = some M → h.get j = some ok → ok.foot ρ w' M x → x < w.heap.size := fun j M ok hj hg hf => (hr.obj j M ok hj hg).foot_lt ((keep j M ok hj hg).2 x hf)
    rcases hh _ _ hga with ⟨ea, eo⟩ | ⟨hai, hga⟩
    · subst eo
      rw [ea, Ren.put_same] at ha; cases ha
      have := hone x hx
      rcases hh _ _ hgb with ⟨eb, _⟩ | ⟨hbi, hgb⟩
      · exact hab (ea.trans eb.symm)
      · rw [Ren.put_other f L hbi] at hb
        have := lt b Lb ob hb hgb hx'
        omega
    · rw [Ren.put_other f L hai] at ha
      rcases hh _ _ hgb with ⟨eb, eo⟩ | ⟨hbi, hgb⟩
      · subst eo
        rw [eb, Ren.put_same] at hb; cases hb
        have := hone x hx'
        have := lt a La oa ha hga hx
        omega
      · rw [Ren.put_other f L hbi] at hb
        exact hr.apart a b La Lb oa ob ha hb hga hgb hab hown x ((keep a La oa ha hga).2 x hx) ((keep b Lb ob hb hgb).2 x hx')
  · intro j M ok hj hg
    rcases hh _ _ hg with ⟨rfl, rfl⟩ | ⟨hji, hg⟩
    · rw [Ren.put_same] at hj; cases hj; exact ho
    · rw [Ren.put_other f L hji] at hj
      exact (keep j M ok hj hg).1.mono (Ren.le_put L hf)
/-- A cell of a pattern's block. -/
theorem cell_of {ρ : Env} {B : Nat → Prop} {W w : World} {f : Ren} {os : List AObj} (hlen : os.length < 1000000) (hr : HRel ρ B W f (treeOf os 0 .nil) w) {i : Nat} {L : Sx.Loc} (hf : f i = some L) {c : T AVal} {e : TypeId} {own : Bool} {top : Nat} (ho : os[i]? = some (.cells c e own top)) {j : Nat} {v : AVal} (hv : c.get j = some v) : L.blk < w.heap.size ∧ ∃ v', w.cell? ⟨L.blk, L.base + j, none⟩ = some v' ∧ VRel ρ f v v' := by
  have hg := treeOf_same os 0 i .nil _ ho (by omega)
  rw [Nat.zero_add] at hg
  obtain ⟨cs, fr, h1, _, _, h4⟩ := hr.obj i L _ hf hg
  obtain ⟨_, v', h5, h6⟩ := h4 j v hv
  exact ⟨hr.lt i L hf, v', by simp [World.cell?, h1, h5], h6⟩
theorem ptr_rel {ρ : Env} {f : Ren} {i : Nat} {v : Value} (h : VRel ρ f (.ptr (some (i, 0))) v) : ∃ L, f i = some L ∧ v = .pointer (some ⟨L.blk, L.base, none⟩) := by
  cases h with
  | ptr h => exact ⟨_, h, rfl⟩
theorem slice_rel {ρ : Env} {f : Ren} {i n c g : Nat} {v : Value} (h : VRel ρ f (.slice (some (i, 0)) n c g) v) (hn : 0 < n) : ∃ L cap, f i = some L ∧ v = .slice (some ⟨L.blk, L.base, none⟩) n cap := by
  cases h with
  | slice h => exact ⟨_, _, h, rfl⟩
  | sliceG h _ _ _ => exact ⟨_, _, h, rfl⟩
  | sliceE h _ _ => exact absurd hn (Nat.lt_irrefl 0)
theorem iface_rel {ρ : Env} {f : Ren} {t : TypeId} {v : AVal} {u : Value} (h : VRel ρ f (.iface t v) u) : ∃ v', u = .iface t v' ∧ VRel ρ f v v' := by
  cases h with
  | iface h => exact ⟨_, rfl, h⟩
theorem int_rel {ρ : Env} {f : Ren} {k : IntKind} {e : IE} {u : Value} (h : VRel ρ f (.int k e) u) : u = .int k (e.ev ρ) := by
  cases h; rfl
/-- A tower in a pattern: block 0 the tower, block 1 its levels' array (n of them), the levels' blocks, the plain machine. -/
structure TowPat (os : List AObj) (n : Nat) (lv : Nat → Nat) (kd : Nat → IE) (plT : TypeId) (plI : Nat) : Prop where
  len : os.length < 1000000
  t0 : ∃ c e own top, os[0]? = some (.cells c e own top) ∧ (∃ cc g, c.get 0 = some (.slice (some (1, 0)) n cc g)) ∧ c.get 1 = some (.iface plT (.ptr (some (plI, 0))))
  t1 : ∃ c e own top, os[1]? = some (.cells c e own top) ∧ ∀ j, j < n → c.get (j * 2) = some (.ptr (some (lv j, 0))) ∧ ∃ x, c.get (j * 2 + 1) = some (.int .i64 x)
  tl : ∀ j, j < n → ∃ c e own top, os[lv j]? = some (.cells c e own top) ∧ c.get 0 = some (.int .i64 (kd j)) ∧ ∃ t v, c.get 2 = some (.iface t v)
theorem TowPat.at {ρ : Env} {B : Nat → Prop} {W w : World} {f : Ren} {os : List AObj} {n : Nat} {lv : Nat → Nat} {kd : Nat → IE} {plT : TypeId} {plI : Nat} (hp : TowPat os n lv kd plT plI) (hn : 0 < n) (hr : HRel ρ B W f (treeOf os 0 .nil) w) {L : Sx.Loc} (hf : f 0 = some L) :
    ∃ (la : Nat → Addr) (pa : Addr), TowAt w w.heap.size L.blk L.base la n (mV (plT, some pa)) ∧ ∀ j, j < n → ∃ M : Sx.Loc, f (lv j) = some M ∧ la j = ⟨M.blk, M.base, none⟩ ∧ M.blk < w.heap.size ∧ w.cell? ⟨M.blk, M.base, none⟩ = some (.int .i64 ((kd j).ev ρ)) ∧ ∃ t v, w.cell? ⟨M.blk, M.base + 2, none⟩ = some (.iface t v) := by
  obtain ⟨c0, e0, w0, p0, o0, ⟨cc, g, s0⟩, i0⟩ := hp.t0
  obtain ⟨c1, e1, w1, p1, o1, fl⟩ := hp.t1
  obtain ⟨hlt, v0, hv0, r0⟩ := cell_of hp.len hr hf o0 s0
  obtain ⟨_, vp, hvp, rp⟩ := cell_of hp.len hr hf o0 i0
  obtain ⟨M1, cap, hM1, rfl⟩ := slice_rel r0 hn
  obtain ⟨vq, rfl, rq⟩ := iface_rel rp
  obtain ⟨Mp, _, rfl⟩ := ptr_rel rq
  have hx : ∀ j, j < n → ∃ M : Sx.Loc, f (lv j) = some M ∧ w.cell? ⟨M1.blk, M1.base + j * 2, none⟩ = some (.pointer (some ⟨M.blk, M.base, none⟩)) ∧ (∃ x, w.cell? ⟨M1.blk, M1.base + j * 2 + 1, none⟩ = some (.int .i64 x)) ∧ M.blk < w.heap.size ∧ w.cell? ⟨M.blk, M.base, none⟩ = some (.int .i64 ((kd j).ev ρ)) ∧ ∃ t v, w.cell? ⟨M.blk, M.base + 2, none⟩ = some (.iface t v) := fun j hj => by
    obtain ⟨g1, x, g2⟩ := fl j hj
    obtain ⟨_, a1, b1, r1⟩ := cell_of hp.len hr hM1 o1 g1
    obtain ⟨_, a2, b2, r2⟩ := cell_of hp.len hr hM1 o1 g2
    obtain ⟨M, hM, rfl⟩ := ptr_rel r1
    rw [int_rel r2] at b2
    obtain ⟨c2, e2, w2, p2, o2, k0, t, v, k2⟩ := hp.tl j hj
    obtain ⟨m1, a3, b3, r3⟩ := cell_of hp.len hr hM o2 k0
    obtain ⟨_, a4, b4, r4⟩ := cell_of hp.len hr hM o2 k2
    rw [int_rel r3] at b3
    obtain ⟨v4, rfl, _⟩ := iface_rel r4
    exact ⟨M, hM, b1, ⟨_, b2⟩, m1, by simpa using b3, _, _, b4⟩
  have hla : ∃ la : Nat → Addr, ∀ j, j < n → ∃ M : Sx.Loc, f (lv j) = some M ∧ la j = ⟨M.blk, M.base, none⟩ ∧ w.cell? ⟨M1.blk, M1.base + j * 2, none⟩ = some (.pointer (some (la j))) ∧ (∃ x, w.cell? ⟨M1.blk, M1.base + j * 2 + 1, none⟩ = some (.int .i64 x)) ∧ M.blk < w.heap.size ∧ w.cell? ⟨M.blk, M.base, none⟩ = some (.int .i64 ((kd j).ev ρ)) ∧ ∃ t v, w.cell? ⟨M.blk, M.base + 2, none⟩ = some (.iface t v) := by
    refine ⟨fun j => if h : j < n then ⟨(Classical.choose (hx j h)).blk, (Classical.choose (hx j h)).base, none⟩ else ⟨0, 0, none⟩, fun j hj => ?_⟩
    have := Classical.choose_spec (hx j hj)
    refine ⟨Classical.choose (hx j hj), this.1, by simp only [dif_pos hj], by simp only [dif_pos hj]; exact this.2.1, this.2.2⟩
  obtain ⟨la, hla⟩ := hla
  refine ⟨la, ⟨Mp.blk, Mp.base, none⟩, ⟨hlt, ⟨_, cap, by simpa using hv0, fun _ => ⟨M1.blk, M1.base, rfl, hr.lt _ _ hM1, fun j hj => ?_⟩⟩, by simpa [mV] using hvp⟩, fun j hj => ?_⟩
  · obtain ⟨M, _, _, h3, h4, _⟩ := hla j hj
    exact ⟨h3, h4⟩
  · obtain ⟨M, h1, h2, _, _, h5⟩ := hla j hj
    exact ⟨M, h1, h2, h5⟩
end
end Go.Proofs.YthlmmihlehfoeaaGreat
