/- LevelNil: the law's run. No condition. -/
import Derived.Test.YtpoianhfjgjajaaGreatLn5
namespace Go.Proofs.YtpoianhfjgjajaaGreat.nil
open Go Go.Sx
set_option maxRecDepth 1000000
noncomputable section
def GH0 : Nat → Ghost := fun _ => Ghost.no
def G0 : Nat → Int → Int → Int → Int := fun _ _ _ _ => 0
theorem know0 : Know.Ok PR G0 GH0 ⟨[], []⟩ := ⟨ConsOk.nil, fun _ h => by cases h⟩
theorem nilH {ρ : Env} : Dec.holds ρ [] := fun p hp => by cases hp
theorem lPo_ok {p : Nat} (h : okPo p = true) : (lPo p).con.wf = true ∧ (lPo p).Ok PR G0 GH0 := by
  obtain ⟨h1, h2⟩ := and_split h
  exact ⟨h2, LCon.ok_each (c := lPo p) mixed know0 h2 rfl (fun _ : Unit => []) 20 none' no' 14 10 μP fun ρ _ _ _ => ⟨(), nilH, h1⟩⟩
theorem facN_all {ρ : Env} (h0 : 0 ≤ ρ.i 1) : ∃ k ∈ List.range 9, (facN k).holds ρ := by
  by_cases h : ρ.i 1 < 8
  · obtain ⟨n, hn⟩ := Int.eq_ofNat_of_zero_le h0
    refine ⟨n, List.mem_range.2 (by omega), fun p hp => ?_⟩
    have hb : Nat.blt n 8 = true := by rw [Nat.blt_eq]; omega
    unfold facN at hp
    rw [hb] at hp
    have : p = (.eq (.var 1) (.lit (.ofNat n)), true) := by simpa using hp
    subst this
    exact decide_eq_true hn
  · refine ⟨8, by decide, fun p hp => ?_⟩
    have hp : p ∈ ([(.lt (.var 1) (.lit 8), false)] : Dec) := hp
    have : p = (.lt (.var 1) (.lit 8), false) := by simpa using hp
    subst this
    exact decide_eq_false h
theorem lCo_ok {p : Nat} (hw : (cCo p).wf = true) (h : okCo p = true) : (lCo p).con.wf = true ∧ (lCo p).Ok PR G0 GH0 := by
  refine ⟨hw, LCon.ok_each (c := lCo p) mixed know0 hw rfl facN 20 none' no' 14 10 μP fun ρ h1 h2 h3 => ?_⟩
  have h0 : 0 ≤ ρ.i 1 := (h2 1 0 256 rfl).1
  obtain ⟨k, hk, hf⟩ := facN_all h0
  exact ⟨k, hf, List.all_eq_true.1 h k hk⟩
theorem KS_ok : KS.Ok PR G0 GH0 := by
  obtain ⟨w1, hr⟩ := and_split of_run
  obtain ⟨r1, hr⟩ := and_split hr
  obtain ⟨w2, r2⟩ := and_split hr
  obtain ⟨c0, hc⟩ := and_split wfC
  obtain ⟨c1, c2⟩ := and_split hc
  refine ⟨ConsOk.cons w1 (Con.of_run mixed ConsOk.nil 70 8 r1) (ConsOk.cons w2 (Con.of_run mixed ConsOk.nil 70 8 r2) ConsOk.nil), fun c hc => ?_⟩
  have hc : c ∈ lCo 0 :: lCo 1 :: lCo 2 :: (List.range 64).map lPo := hc
  rcases List.mem_cons.1 hc with rfl | hc
  · exact lCo_ok c0 co0
  rcases List.mem_cons.1 hc with rfl | hc
  · exact lCo_ok c1 co1
  rcases List.mem_cons.1 hc with rfl | hc
  · exact lCo_ok c2 co2
  obtain ⟨p, hp, rfl⟩ := List.mem_map.1 hc
  have hp := List.mem_range.1 hp
  by_cases h : p < 32
  · exact lPo_ok (List.all_eq_true.1 poA p (List.mem_range.2 h))
  · exact lPo_ok (List.all_eq_true.1 poB p (List.mem_map.2 ⟨p - 32, List.mem_range.2 (by omega), by omega⟩))
theorem sane : cSane.Ok PR G0 GH0 := Con.of_runK mixed KS_ok 600 40 sane0
def stKinds : List IntKind := .u32 :: (List.replicate 16 .u32 ++ (.u32 :: (List.replicate 4 .u32 ++ [.i64, .i64])))
def pks : List PK := [.int .u32, .int .i64, .agg stKinds]
def C1 : Ctx := ctxOf PR (bdOf pks)
def K1 : Know := ⟨[cSane], []⟩
theorem wfSane : cSane.wf = true := by kernel_rfl
theorem law0 : oSays C1 (smKnow C1 K1) 600 20 none' no' 3 (symArgs pks 0) .nil 0 [] = true := by kernel_rfl
theorem K1_ok : K1.Ok PR G0 GH0 := ⟨ConsOk.cons wfSane sane ConsOk.nil, fun _ h => by cases h⟩
end
end Go.Proofs.YtpoianhfjgjajaaGreat.nil
