/- The kernel runs AuditMoments. -/
import Derived.Test.YtkjpdeakincalaaGreatDoorAmLives25
set_option maxRecDepth 100000
namespace Go.AM.Seat25
open Go.Proofs Go.AM
theorem m30 : moms 3 0 = true := by kernel_rfl
theorem m31 : moms 3 1 = true := by kernel_rfl
theorem m32 : moms 3 2 = true := by kernel_rfl
theorem m33 : moms 3 3 = true := by kernel_rfl
theorem m34 : moms 3 4 = true := by kernel_rfl
theorem m35 : moms 3 5 = true := by kernel_rfl
theorem m36 : moms 3 6 = true := by kernel_rfl
theorem m3 (c : Nat) (hc : c < 7) : moms 3 c = true := by
  have h : c = 0 ∨ c = 1 ∨ c = 2 ∨ c = 3 ∨ c = 4 ∨ c = 5 ∨ c = 6 := by omega
  rcases h with rfl | rfl | rfl | rfl | rfl | rfl | rfl
  · exact m30
  · exact m31
  · exact m32
  · exact m33
  · exact m34
  · exact m35
  · exact m36
end Go.AM.Seat25
