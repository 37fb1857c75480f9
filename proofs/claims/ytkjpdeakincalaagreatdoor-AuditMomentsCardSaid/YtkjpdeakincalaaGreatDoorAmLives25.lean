/- lives() of layer 25 is true. -/
import Derived.Test.YtkjpdeakincalaaGreatDoorAmSeat25
import Derived.Test.YtkjpdeakincalaaGreatDoorAmClosed
set_option maxRecDepth 100000
namespace Go.AM.Seat25
open Go.Proofs Go.AM
theorem lives_true : isTrue ((evalF Tryz.prog ctr 100000).call 9 [] emptyH) = true := by kernel_rfl

noncomputable def ctr2 : Ctr := fun f => sel (Nat.beq f 9) (some (saysC true)) (ctr f)

theorem ctr2_ok : CtrOK Tryz.prog ctr2 := by
  intro f g hg
  unfold ctr2 at hg
  rw [sel_eq, beq_eq] at hg
  split at hg
  · rename_i h
    rw [decide_eq_true_eq] at h
    injection hg with hg
    subst hg; subst h
    obtain ⟨h', hl⟩ := isTrue_eq lives_true
    exact saysC_ok fair ctr_ok hl
  · exact ctr_ok f g hg

noncomputable def mom (a b c : Nat) : Bool := isTrue ((evalF Tryz.prog ctr2 100000).call 4 [.sym a, .sym b, .sym c] emptyH)
noncomputable def moms (b c : Nat) : Bool := [0, 1, 2, 3, 4, 5, 6].all fun a => mom a b c
end Go.AM.Seat25
