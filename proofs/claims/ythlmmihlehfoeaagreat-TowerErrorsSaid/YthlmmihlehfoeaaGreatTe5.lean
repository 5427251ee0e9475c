/- Towers: pages read. No condition. -/
import Derived.Test.YthlmmihlehfoeaaGreatTe2
set_option linter.unusedVariables false
set_option linter.unusedSimpArgs false
namespace Go.Proofs.YthlmmihlehfoeaaGreat
open Go Go.Sx
set_option maxRecDepth 1000000
noncomputable section
theorem cpK8 : (List.range 8).all (fun p => okCp (srcK 8 p) tyK lV 8 p) = true := by kernel_rfl
theorem cpQ13 : (List.range 13).all (fun p => okCp (srcQ' 13 p) tyQ lV 13 p) = true := by kernel_rfl
theorem cpLQ : (List.range 13).all (fun p => okCp (srcLQ 13 18 p) tyL qV 13 p) = true := by kernel_rfl
theorem cpLK : (List.range 8).all (fun p => okCp (srcLK 8 13 p) tyL kV 8 p) = true := by kernel_rfl
theorem cpQ2 : (List.range 2).all (fun p => okCp (srcQ 2 p) tyQ lV 2 p) = true := by kernel_rfl
theorem cpK3 : (List.range 3).all (fun p => okCp (srcK 3 p) tyK lV 3 p) = true := by kernel_rfl
theorem cpQ5 : (List.range 5).all (fun p => okCp (srcQ' 5 p) tyQ lV 5 p) = true := by kernel_rfl
end
end Go.Proofs.YthlmmihlehfoeaaGreat
