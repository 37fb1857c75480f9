/- The kernel runs AuditMoments. -/
import Derived.Test.YtkjpdeakincalaaGreatDoorAmLives25
set_option maxRecDepth 100000
namespace Go.AM.Seat25
open Go.Proofs Go.AM
theorem m00 : moms 0 0 = true := by kernel_rfl
theorem m01 : moms 0 1 = true := by kernel_rfl
theorem m02 : moms 0 2 = true := by kernel_rfl
theorem m03 : moms 0 3 = true := by kernel_rfl
theorem m04 : moms 0 4 = true := by kernel_rfl
theorem m05 : moms 0 5 = true := by kernel_rfl
theorem m06 : moms 0 6 = true := by kernel_rfl
theorem m0 (c : Nat) (hc : c < 7) : moms 0 c = true := by
  have h : c = 0 ∨ c = 1 ∨ c = 2 ∨ c = 3 ∨ c = 4 ∨ c = 5 ∨ c = 6 := by omega
  rcases h with rfl | rfl | rfl | rfl | rfl | rfl | rfl
  · exact m00
  · exact m01
  · exact m02
  · exact m03
  · exact m04
  · exact m05
  · exact m06
end Go.AM.Seat25
