/- Part Mr3. No condition. -/
import Derived.Test.YtbhlmedfhilkbaaGreatQr4
set_option linter.all false
namespace Go.Proofs.YtbhlmedfhilkbaaGreat
open Go Go.Sx
set_option maxRecDepth 1000000
noncomputable section
theorem Kt:aj opS tSt (fun _=>dy gO FS) [] BK=true:=by kernel_rfl
theorem KK:aj opS tSt (fun _=>dy gO FS) [] x8=true:=by kernel_rfl
theorem Zb{G:Nat->Int->Int->Int->Int}(hP:gg G)(hS:FS.Def G BQ): ∀M S,dgN .u8 (G FS.KR (pk2 M S) 0 0) 24=0->fN (G FS.KR (pk2 M S) 0 0)=IntKind.i64.wrap (fN S+1):=
 Ei hP (by decide) rfl fun ρ h1 h24=>Ab (c:=gO) (l:=dD) (by decide) Xe (by rw [fp]; exact aQ Kt KK) (fun i lo hi h=>by cases h) wv (by rw [h1.1]; exact hS) h24
theorem Z5{G:Nat->Int->Int->Int->Int}(hB:cX G)(hP:gg G)(hS:FS.Def G BQ){p q:Int}: ∀M S,bS p q M->bS p q (G FS.KV (pk2 M S) 0 26):=
 Eu hP (by decide) rfl fun ρ h1 h0=>AB (c:=gO) (l:=dD) (by decide) Xe (by rw [fp]; exact aQ Kt KK) hB h1 (fun i lo hi h=>by cases h) wv (by rw [h1.1]; exact hS) h0
end
end Go.Proofs.YtbhlmedfhilkbaaGreat
