/- The kernel runs AuditMoments. -/
import Derived.Test.YtkjpdeakincalaaGreatDoorAmLives25
set_option maxRecDepth 100000
namespace Go.AM.Seat25
open Go.Proofs Go.AM
theorem m10 : moms 1 0 = true := by kernel_rfl
theorem m11 : moms 1 1 = true := by kernel_rfl
theorem m12 : moms 1 2 = true := by kernel_rfl
theorem m13 : moms 1 3 = true := by kernel_rfl
theorem m14 : moms 1 4 = true := by kernel_rfl
theorem m15 : moms 1 5 = true := by kernel_rfl
theorem m16 : moms 1 6 = true := by kernel_rfl
theorem m1 (c : Nat) (hc : c < 7) : moms 1 c = true := by
  have h : c = 0 ∨ c = 1 ∨ c = 2 ∨ c = 3 ∨ c = 4 ∨ c = 5 ∨ c = 6 := by omega
  rcases h with rfl | rfl | rfl | rfl | rfl | rfl | rfl
  · exact m10
  · exact m11
  · exact m12
  · exact m13
  · exact m14
  · exact m15
  · exact m16
end Go.AM.Seat25
