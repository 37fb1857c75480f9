/- The kernel runs AuditMoments. -/
import Derived.Test.YtkjpdeakincalaaGreatDoorAmLives25
set_option maxRecDepth 100000
namespace Go.AM.Seat25
open Go.Proofs Go.AM
theorem m40 : moms 4 0 = true := by kernel_rfl
theorem m41 : moms 4 1 = true := by kernel_rfl
theorem m42 : moms 4 2 = true := by kernel_rfl
theorem m43 : moms 4 3 = true := by kernel_rfl
theorem m44 : moms 4 4 = true := by kernel_rfl
theorem m45 : moms 4 5 = true := by kernel_rfl
theorem m46 : moms 4 6 = true := by kernel_rfl
theorem m4 (c : Nat) (hc : c < 7) : moms 4 c = true := by
  have h : c = 0 ∨ c = 1 ∨ c = 2 ∨ c = 3 ∨ c = 4 ∨ c = 5 ∨ c = 6 := by omega
  rcases h with rfl | rfl | rfl | rfl | rfl | rfl | rfl
  · exact m40
  · exact m41
  · exact m42
  · exact m43
  · exact m44
  · exact m45
  · exact m46
end Go.AM.Seat25
