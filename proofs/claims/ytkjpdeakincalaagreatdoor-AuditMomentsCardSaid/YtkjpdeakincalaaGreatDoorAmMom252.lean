/- The kernel runs AuditMoments. -/
import Derived.Test.YtkjpdeakincalaaGreatDoorAmLives25
set_option maxRecDepth 100000
namespace Go.AM.Seat25
open Go.Proofs Go.AM
theorem m20 : moms 2 0 = true := by kernel_rfl
theorem m21 : moms 2 1 = true := by kernel_rfl
theorem m22 : moms 2 2 = true := by kernel_rfl
theorem m23 : moms 2 3 = true := by kernel_rfl
theorem m24 : moms 2 4 = true := by kernel_rfl
theorem m25 : moms 2 5 = true := by kernel_rfl
theorem m26 : moms 2 6 = true := by kernel_rfl
theorem m2 (c : Nat) (hc : c < 7) : moms 2 c = true := by
  have h : c = 0 ∨ c = 1 ∨ c = 2 ∨ c = 3 ∨ c = 4 ∨ c = 5 ∨ c = 6 := by omega
  rcases h with rfl | rfl | rfl | rfl | rfl | rfl | rfl
  · exact m20
  · exact m21
  · exact m22
  · exact m23
  · exact m24
  · exact m25
  · exact m26
end Go.AM.Seat25
