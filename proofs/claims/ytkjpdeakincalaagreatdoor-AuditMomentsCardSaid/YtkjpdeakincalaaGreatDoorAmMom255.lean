/- The kernel runs AuditMoments. -/
import Derived.Test.YtkjpdeakincalaaGreatDoorAmLives25
set_option maxRecDepth 100000
namespace Go.AM.Seat25
open Go.Proofs Go.AM
theorem m50 : moms 5 0 = true := by kernel_rfl
theorem m51 : moms 5 1 = true := by kernel_rfl
theorem m52 : moms 5 2 = true := by kernel_rfl
theorem m53 : moms 5 3 = true := by kernel_rfl
theorem m54 : moms 5 4 = true := by kernel_rfl
theorem m55 : moms 5 5 = true := by kernel_rfl
theorem m56 : moms 5 6 = true := by kernel_rfl
theorem m5 (c : Nat) (hc : c < 7) : moms 5 c = true := by
  have h : c = 0 ∨ c = 1 ∨ c = 2 ∨ c = 3 ∨ c = 4 ∨ c = 5 ∨ c = 6 := by omega
  rcases h with rfl | rfl | rfl | rfl | rfl | rfl | rfl
  · exact m50
  · exact m51
  · exact m52
  · exact m53
  · exact m54
  · exact m55
  · exact m56
end Go.AM.Seat25
