/- AuditMoments answers true, whatever the three numbers. -/
import Derived.Test.YtkjpdeakincalaaGreatDoorAmMom250
import Derived.Test.YtkjpdeakincalaaGreatDoorAmMom251
import Derived.Test.YtkjpdeakincalaaGreatDoorAmMom252
import Derived.Test.YtkjpdeakincalaaGreatDoorAmMom253
import Derived.Test.YtkjpdeakincalaaGreatDoorAmMom254
import Derived.Test.YtkjpdeakincalaaGreatDoorAmMom255
import Derived.Test.YtkjpdeakincalaaGreatDoorAmMom256
set_option maxRecDepth 100000
namespace Go.AM.Seat25
open Go.Proofs Go.AM Go.RowKit

theorem moms_true (b c : Nat) (hb : b < 7) (hc : c < 7) : moms b c = true := by
  have h : b = 0 ∨ b = 1 ∨ b = 2 ∨ b = 3 ∨ b = 4 ∨ b = 5 ∨ b = 6 := by omega
  rcases h with rfl | rfl | rfl | rfl | rfl | rfl | rfl
  · exact m0 c hc
  · exact m1 c hc
  · exact m2 c hc
  · exact m3 c hc
  · exact m4 c hc
  · exact m5 c hc
  · exact m6 c hc

theorem mom_true (a b c : Nat) (ha : a < 7) (hb : b < 7) (hc : c < 7) : mom a b c = true := by
  have h := moms_true b c hb hc
  unfold moms at h
  rw [List.all_eq_true] at h
  refine h a ?_
  have : a = 0 ∨ a = 1 ∨ a = 2 ∨ a = 3 ∨ a = 4 ∨ a = 5 ∨ a = 6 := by omega
  simpa using this

noncomputable def fn4 : Func := Tryz.prog.funcs.getD 4 default
theorem f4 : Tryz.prog.funcs[4]? = some fn4 := by kernel_rfl
theorem b4 : fn4.body.isSome = true := by kernel_rfl

theorem moments_walk (a0 a1 a2 : Int) (w : World) : Calls Tryz.prog 4 #[.int .i64 a0, .int .i64 a1, .int .i64 a2] w fun e w' => e = .returned (.bool true) ∧ Below w.heap.size w w' := by
  obtain ⟨ρ, r0, r1, r2, sy, ⟨h0, rfl⟩, ⟨h1, rfl⟩, ⟨h2, rfl⟩⟩ := places a0 a1 a2
  obtain ⟨h', he⟩ := isTrue_eq (mom_true r0 r1 r2 h0 h1 h2)
  have hd := closed_calls fair ctr2_ok he sy w (.cons _ _ _ _ (.sym r0 h0) (.cons _ _ _ _ (.sym r1 h1) (.cons _ _ _ _ (.sym r2 h2) .nil)))
  unfold DoesF at hd
  rw [callFunc_body fair f4 b4] at hd
  refine Calls.mono hd fun e w' h => ?_
  cases e with
  | returned v => exact ⟨by rw [h.1], h.2⟩
  | panicked c => exact h.elim
  | outgrown => exact h.elim
end Go.AM.Seat25
