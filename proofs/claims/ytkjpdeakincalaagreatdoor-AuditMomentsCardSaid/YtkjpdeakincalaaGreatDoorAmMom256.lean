/- The kernel runs AuditMoments. -/
import Derived.Test.YtkjpdeakincalaaGreatDoorAmLives25
set_option maxRecDepth 100000
namespace Go.AM.Seat25
open Go.Proofs Go.AM
theorem m60 : moms 6 0 = true := by kernel_rfl
theorem m61 : moms 6 1 = true := by kernel_rfl
theorem m62 : moms 6 2 = true := by kernel_rfl
theorem m63 : moms 6 3 = true := by kernel_rfl
theorem m64 : moms 6 4 = true := by kernel_rfl
theorem m65 : moms 6 5 = true := by kernel_rfl
theorem m66 : moms 6 6 = true := by kernel_rfl
theorem m6 (c : Nat) (hc : c < 7) : moms 6 c = true := by
  have h : c = 0 ∨ c = 1 ∨ c = 2 ∨ c = 3 ∨ c = 4 ∨ c = 5 ∨ c = 6 := by omega
  rcases h with rfl | rfl | rfl | rfl | rfl | rfl | rfl
  · exact m60
  · exact m61
  · exact m62
  · exact m63
  · exact m64
  · exact m65
  · exact m66
end Go.AM.Seat25
