/- Calls without a body: contracts. -/
import Derived.Test.YtkjpdeakincalaaGreatDoorAmCode
import Derived.Laws.Externs
import Derived.Lib.Bytealg
set_option linter.unusedVariables false
namespace Go.AM

noncomputable def countC : List AVal → AHeap → E (AVal × AHeap) := fun args h =>
  match args with
  | [.str s, .int .u8 c] => .ok (.int .i64 (Lib.countByte s c.toNat.toUInt8), h)
  | _ => .error "countC"

noncomputable def indexC : List AVal → AHeap → E (AVal × AHeap) := fun args h =>
  match args with
  | [.str s, .int .u8 c] => .ok (.int .i64 (firstIdx ⟨s.toArray⟩ c.toNat.toUInt8), h)
  | _ => .error "indexC"

/-- What is asked of one contract. -/
def Ctr1 (P : Program) (f : FuncId) (g : List AVal → AHeap → E (AVal × AHeap)) : Prop :=
  (∀ args h v h', g args h = .ok (v, h') → h.next ≤ h'.next) ∧
  (∀ args h v h', g args h = .ok (v, h') → ∀ (lim : Nat) (ρ : Rho) (S : Nat → Prop) (w : World) (xs : List Value), h'.next ≤ lim → Sim lim ρ S h w → VRs ρ S args xs →
    DoesF P f xs w fun x w' => ∃ ρ' S', VR ρ' S' v x ∧ Sim lim ρ' S' h' w' ∧ Ext ρ S h w ρ' S' h' w')

theorem countC_ok {P : Program} {f : FuncId} {fn : Func} (hf : P.funcs[f]? = some fn) (hname : (fn.name == "runtime.NumGoroutine") = false)
    (hb : fn.body.isNone = true) (hn : Extern.findNext fn = none) (he : Extern.find fn = some Extern.BytealgCount.count) : Ctr1 P f countC := by
  have key : ∀ args h v h', countC args h = .ok (v, h') → ∃ s c, args = [.str s, .int .u8 c] ∧ v = .int .i64 (Lib.countByte s c.toNat.toUInt8) ∧ h' = h := by
    intro args h v h' hq
    unfold countC at hq
    split at hq
    · injection hq with hq
      injection hq with e1 e2
      exact ⟨_, _, rfl, e1.symm, e2.symm⟩
    · cases hq
  refine ⟨fun args h v h' hq => ?_, fun args h v h' hq lim ρ S w xs hlim sm hv => ?_⟩
  · obtain ⟨_, _, _, _, rfl⟩ := key _ _ _ _ hq
    exact Nat.le_refl _
  · obtain ⟨s, c, rfl, rfl, rfl⟩ := key _ _ _ _ hq
    cases hv with
    | cons _ x _ xs h1 h2 =>
      cases h2 with
      | cons _ y _ ys h3 h4 =>
        cases h4
        cases h1
        cases h3
        unfold DoesF
        rw [run_callFunc_extern hf hname hb hn he, Lib.run_countString]
        exact ⟨ρ, S, .int _ _, sm, Ext.refl _ _ _ _⟩

theorem indexC_ok {P : Program} {f : FuncId} {fn : Func} (hf : P.funcs[f]? = some fn) (hname : (fn.name == "runtime.NumGoroutine") = false)
    (hb : fn.body.isNone = true) (hn : Extern.findNext fn = none) (he : Extern.find fn = some Extern.BytealgIndexByte.indexByte) : Ctr1 P f indexC := by
  have key : ∀ args h v h', indexC args h = .ok (v, h') → ∃ s c, args = [.str s, .int .u8 c] ∧ v = .int .i64 (firstIdx ⟨s.toArray⟩ c.toNat.toUInt8) ∧ h' = h := by
    intro args h v h' hq
    unfold indexC at hq
    split at hq
    · injection hq with hq
      injection hq with e1 e2
      exact ⟨_, _, rfl, e1.symm, e2.symm⟩
    · cases hq
  refine ⟨fun args h v h' hq => ?_, fun args h v h' hq lim ρ S w xs hlim sm hv => ?_⟩
  · obtain ⟨_, _, _, _, rfl⟩ := key _ _ _ _ hq
    exact Nat.le_refl _
  · obtain ⟨s, c, rfl, rfl, rfl⟩ := key _ _ _ _ hq
    cases hv with
    | cons _ x _ xs h1 h2 =>
      cases h2 with
      | cons _ y _ ys h3 h4 =>
        cases h4
        cases h1
        cases h3
        unfold DoesF
        rw [run_callFunc_extern hf hname hb hn he, run_indexByte_string]
        exact ⟨ρ, S, .int _ _, sm, Ext.refl _ _ _ _⟩
end Go.AM
