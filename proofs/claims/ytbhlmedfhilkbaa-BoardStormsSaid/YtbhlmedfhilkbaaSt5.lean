/- The functions that the contracts speak of are there, for each of the three instructions. No condition. -/
import Derived.Test.YtbhlmedfhilkbaaSt3
namespace Go.Proofs.Ytbhlmedfhilkbaa
open Go Go.Sx
set_option maxRecDepth 1000000
noncomputable section
def GB : Nat → Int → Int → Int → Int := fun c x y _ => if c = 9 then pairI x y else 0
theorem packsB : Packs GB := fun _ _ _ => rfl
structure Five (w k i : Int) (G : Nat → Int → Int → Int → Int) : Prop where
  e : FE.Def G (rtR w k i)
  p : FP.Def G (rtPk 67 FP)
  c : FC.Def G (rtPk 65 FC)
  q : FQ.Def G (rtCt "Peek" FQ)
  k : FK.Def G (rtCt "Code" FK)
theorem packs_of {G G' : Nat → Int → Int → Int → Int} (h : Packs G) {F : Fns} (hF : KP < F.KR ∧ KP < F.KV) (he : ∀ c, c ≠ F.KR → c ≠ F.KV → G' c = G c) : Packs G' := fun x y z => by
  rw [he KP (by omega) (by omega)]
  exact h x y z
theorem five {w k i : Int} (hw : (rtR w k i).only (memV FE.vars) 100 = true) : ∃ G, Five w k i G := by
  obtain ⟨G1, a1, d1⟩ := Fns.exists_def FE GB packsB (rtR w k i) 100 (by decide) hw
  have p1 : Packs G1 := packs_of packsB (F := FE) (by decide) a1
  obtain ⟨G2, a2, d2⟩ := Fns.exists_def FP G1 p1 (rtPk 67 FP) 102 (by decide) pk_only
  have p2 : Packs G2 := packs_of p1 (F := FP) (by decide) a2
  obtain ⟨G3, a3, d3⟩ := Fns.exists_def FC G2 p2 (rtPk 65 FC) 104 (by decide) cd_only
  have p3 : Packs G3 := packs_of p2 (F := FC) (by decide) a3
  obtain ⟨G4, a4, d4⟩ := Fns.exists_def FQ G3 p3 (rtCt "Peek" FQ) 106 (by decide) ctP_only
  have p4 : Packs G4 := packs_of p3 (F := FQ) (by decide) a4
  obtain ⟨G5, a5, d5⟩ := Fns.exists_def FK G4 p4 (rtCt "Code" FK) 108 (by decide) ctC_only
  have b2 : ∀ c, c < 102 → G2 c = G1 c := fun c h => a2 c (by show c ≠ 102; omega) (by show c ≠ 103; omega)
  have b3 : ∀ c, c < 104 → G3 c = G2 c := fun c h => a3 c (by show c ≠ 104; omega) (by show c ≠ 105; omega)
  have b4 : ∀ c, c < 106 → G4 c = G3 c := fun c h => a4 c (by show c ≠ 106; omega) (by show c ≠ 107; omega)
  have b5 : ∀ c, c < 108 → G5 c = G4 c := fun c h => a5 c (by show c ≠ 108; omega) (by show c ≠ 109; omega)
  have e1 : ∀ c, c < 102 → G5 c = G1 c := fun c h => by rw [b5 c (by omega), b4 c (by omega), b3 c (by omega), b2 c h]
  have e2 : ∀ c, c < 104 → G5 c = G2 c := fun c h => by rw [b5 c (by omega), b4 c (by omega), b3 c h]
  have e3 : ∀ c, c < 106 → G5 c = G3 c := fun c h => by rw [b5 c (by omega), b4 c h]
  refine ⟨G5, ?_, ?_, ?_, ?_, d5⟩
  · exact Fns.Def.mono p1 d1 hw (by decide) (fun c h => e1 c (by omega)) (e1 100 (by decide)) (e1 101 (by decide))
  · exact Fns.Def.mono p2 d2 pk_only (by decide) (fun c h => e2 c (by omega)) (e2 102 (by decide)) (e2 103 (by decide))
  · exact Fns.Def.mono p3 d3 cd_only (by decide) (fun c h => e3 c (by omega)) (e3 104 (by decide)) (e3 105 (by decide))
  · exact Fns.Def.mono p4 d4 ctP_only (by decide) (fun c h => b5 c (by omega)) (b5 106 (by decide)) (b5 107 (by decide))
end
end Go.Proofs.Ytbhlmedfhilkbaa
