/- The seat of layer 25: what its program is. -/
import Derived.Test.YtkjpdeakincalaaGreatDoorAmExt
import Derived.Test.YtkjpdeakincalaaGreatDoorProg
import Derived.KernelRfl
set_option linter.unusedVariables false
namespace Go.AM.Seat25
open Go.Proofs Go.AM

noncomputable def fn124 : Func := Tryz.prog.funcs.getD 124 default
noncomputable def fn132 : Func := Tryz.prog.funcs.getD 132 default
theorem f124 : Tryz.prog.funcs[124]? = some fn124 := by kernel_rfl
theorem f132 : Tryz.prog.funcs[132]? = some fn132 := by kernel_rfl
theorem n124 : (fn124.name == "runtime.NumGoroutine") = false := by kernel_rfl
theorem n132 : (fn132.name == "runtime.NumGoroutine") = false := by kernel_rfl
theorem b124 : fn124.body.isNone = true := by kernel_rfl
theorem b132 : fn132.body.isNone = true := by kernel_rfl
theorem x124 : Extern.findNext fn124 = none := by kernel_rfl
theorem x132 : Extern.findNext fn132 = none := by kernel_rfl
theorem e124 : Extern.find fn124 = some Extern.BytealgCount.count := by kernel_rfl
theorem e132 : Extern.find fn132 = some Extern.BytealgIndexByte.indexByte := by kernel_rfl

noncomputable def ctr : Ctr := fun f => sel (Nat.beq f 124) (some countC) (sel (Nat.beq f 132) (some indexC) none)

theorem ctr_ok : CtrOK Tryz.prog ctr := by
  intro f g hg
  unfold ctr at hg
  rw [sel_eq, sel_eq, beq_eq, beq_eq] at hg
  split at hg
  · rename_i h
    rw [decide_eq_true_eq] at h
    injection hg with hg
    subst hg; subst h
    exact countC_ok f124 n124 b124 x124 e124
  · split at hg
    · rename_i h
      rw [decide_eq_true_eq] at h
      injection hg with hg
      subst hg; subst h
      exact indexC_ok f132 n132 b132 x132 e132
    · cases hg

theorem named : (Tryz.prog.funcs.toList.all fun fn => fn.body.isNone || !(fn.name == "runtime.NumGoroutine")) = true := by kernel_rfl

theorem fair : AmFair Tryz.prog := by
  refine ⟨by kernel_rfl, fun f fn hf hb => ?_⟩
  have := List.all_eq_true.1 named fn (by
    rw [← Array.getElem?_toList] at hf
    exact List.mem_of_getElem? hf)
  rw [Bool.or_eq_true] at this
  rcases this with h | h
  · cases hfb : fn.body <;> simp_all
  · simpa using h
end Go.AM.Seat25
