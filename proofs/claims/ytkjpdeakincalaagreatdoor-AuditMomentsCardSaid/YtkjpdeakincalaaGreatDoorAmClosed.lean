/- Calls that speak of no memory. -/
import Derived.Test.YtkjpdeakincalaaGreatDoorAmExt
import Derived.Below
set_option linter.unusedVariables false
namespace Go.AM
open Go.RowKit

def emptyH : AHeap := ⟨7, .leaf⟩

section
variable {P : Program} {C : Ctr}

theorem emptyH_get (b : Nat) : emptyH.get b = none := T.get_leaf b

theorem closed_calls (hf : AmFair P) (hC : CtrOK P C) {n : Nat} {f : FuncId} {args : List AVal} {b : Bool} {h' : AHeap} (hq : (evalF P C n).call f args emptyH = .ok (.bool b, h')) {ρ : Rho} (sy : SY ρ 7) (w : World) {xs : List Value}
    (hv : VRs ρ (fun r => r < 7) args xs) : DoesF P f xs w fun x w' => x = .bool b ∧ Below w.heap.size w w' := by
  have sm : Sim h'.next ρ (fun r => r < 7) emptyH w :=
    ⟨fun b hb => .inl hb, fun b o h => (by rw [emptyH_get] at h; cases h), fun b o h => (by rw [emptyH_get] at h; cases h), fun b b' o o' h _ => (by rw [emptyH_get] at h; cases h), fun b o h => (by rw [emptyH_get] at h; cases h), sy⟩
  have hd := evalF_calls hf hC hq sm hv
  have imp : ∀ x w', (∃ ρ' S', VR ρ' S' (.bool b) x ∧ Sim h'.next ρ' S' h' w' ∧ Ext ρ (fun r => r < 7) emptyH w ρ' S' h' w') → x = .bool b ∧ Below w.heap.size w w' := by
    rintro x w' ⟨ρ', S', hx, _, he⟩
    refine ⟨by cases hx; rfl, ⟨he.os, he.tape, he.output, he.size, fun k hk => he.kept k hk ?_⟩⟩
    rintro ⟨c, o, hc, _⟩
    rw [emptyH_get] at hc; cases hc
  unfold DoesF at hd ⊢
  generalize (callFunc f xs.toArray).run P w = r at hd
  cases r with
  | halt x w' => exact hd.elim
  | ok nx w' =>
    cases nx <;> dsimp only at hd ⊢ <;> try exact hd.elim
    · exact imp _ _ hd
    · refine Calls.mono hd fun e w'' he => ?_
      cases e with
      | returned v => exact imp _ _ he
      | panicked c => exact he
      | outgrown => exact he
    · exact Rows.mono hd imp

theorem Sim.below {lim : Nat} {ρ : Rho} {S : Nat → Prop} {h : AHeap} {w w' : World} (s : Sim lim ρ S h w) (b : Below w.heap.size w w') : Sim lim ρ S h w' ∧ Ext ρ S h w ρ S h w' := by
  refine ⟨⟨s.fresh, s.dom, fun c o hc => ?_, s.inj, s.low, s.sy⟩, ⟨Agree.refl _ _, fun _ h => h, fun _ h => .inl h, Nat.le_refl _, b.os, b.tape, b.output, b.size, fun k hk _ => b.block k hk, fun _ _ i => i⟩⟩
  obtain ⟨x, hx, hr⟩ := s.obj c o hc
  exact ⟨x, by rw [b.block _ (s.lt hc)]; exact hx, hr⟩

/-- A call without arguments that answers one thing. -/
noncomputable def saysC (b : Bool) : List AVal → AHeap → E (AVal × AHeap) := fun args h =>
  match args with
  | [] => .ok (.bool b, h)
  | _ => .error "saysC"

def rho0 : Rho := fun r => ⟨0, r, 3⟩
theorem rho0_sy : SY rho0 7 := ⟨Nat.le_refl _, rfl, fun r r' h _ => by simp only [rho0, Blk.num]; omega⟩

theorem saysC_ok (hf : AmFair P) (hC : CtrOK P C) {n : Nat} {f : FuncId} {b : Bool} {h' : AHeap} (hq : (evalF P C n).call f [] emptyH = .ok (.bool b, h')) : Ctr1 P f (saysC b) := by
  have key : ∀ args h v h', saysC b args h = .ok (v, h') → args = [] ∧ v = .bool b ∧ h' = h := by
    intro args h v h' hq
    unfold saysC at hq
    split at hq
    · injection hq with hq
      injection hq with e1 e2
      exact ⟨rfl, e1.symm, e2.symm⟩
    · cases hq
  refine ⟨fun args h v h' hq => ?_, fun args h v h1 hq1 lim ρ S w xs hlim sm hv => ?_⟩
  · obtain ⟨_, _, rfl⟩ := key _ _ _ _ hq
    exact Nat.le_refl _
  · obtain ⟨rfl, rfl, rfl⟩ := key _ _ _ _ hq1
    cases hv
    have hd := closed_calls hf hC hq rho0_sy w (xs := []) .nil
    have imp : ∀ x w', x = .bool b ∧ Below w.heap.size w w' → ∃ ρ' S', VR ρ' S' (.bool b) x ∧ Sim lim ρ' S' h1 w' ∧ Ext ρ S h1 w ρ' S' h1 w' := by
      rintro x w' ⟨rfl, hb⟩
      obtain ⟨h1, h2⟩ := sm.below hb
      exact ⟨ρ, S, .bool _, h1, h2⟩
    unfold DoesF at hd ⊢
    generalize (callFunc f ([] : List Value).toArray).run P w = r at hd
    cases r with
    | halt x w' => exact hd.elim
    | ok nx w' =>
      cases nx <;> dsimp only at hd ⊢ <;> try exact hd.elim
      · exact imp _ _ hd
      · refine Calls.mono hd fun e w'' he => ?_
        cases e with
        | returned v => exact imp _ _ he
        | panicked c => exact he
        | outgrown => exact he
      · exact Rows.mono hd imp

def isTrue : E (AVal × AHeap) → Bool
  | .ok (.bool b, _) => b
  | _ => false

theorem isTrue_eq {x : E (AVal × AHeap)} (h : isTrue x = true) : ∃ h', x = .ok (.bool true, h') := by
  unfold isTrue at h
  split at h
  · subst h; exact ⟨_, rfl⟩
  · cases h

/-! ### Three numbers among seven -/
theorem three (a0 a1 a2 : Int) : ∃ p1 p2 p3 : Int, 0 < p1 ∧ p1 < p2 ∧ p2 < p3 ∧ (0 < a0 → a0 = p1 ∨ a0 = p2 ∨ a0 = p3) ∧ (0 < a1 → a1 = p1 ∨ a1 = p2 ∨ a1 = p3) ∧ (0 < a2 → a2 = p1 ∨ a2 = p2 ∨ a2 = p3) := by
  obtain ⟨p1, h1, h2⟩ : ∃ p1 : Int, 0 < p1 ∧ (0 < a0 → a0 = p1) := by
    by_cases h : 0 < a0
    · exact ⟨a0, h, fun _ => rfl⟩
    · exact ⟨1, by omega, fun h' => absurd h' h⟩
  obtain ⟨q1, q2, g1, g2, g3, g4⟩ : ∃ q1 q2 : Int, 0 < q1 ∧ q1 < q2 ∧ (p1 = q1 ∨ p1 = q2) ∧ (0 < a1 → a1 = q1 ∨ a1 = q2) := by
    by_cases h : 0 < a1 ∧ a1 < p1
    · exact ⟨a1, p1, by omega, by omega, by omega, by omega⟩
    · by_cases h' : p1 < a1
      · exact ⟨p1, a1, by omega, by omega, by omega, by omega⟩
      · exact ⟨p1, p1 + 1, by omega, by omega, by omega, by omega⟩
  by_cases k1 : 0 < a2 ∧ a2 < q1
  · exact ⟨a2, q1, q2, by omega, by omega, by omega, by omega, by omega, by omega⟩
  · by_cases k2 : q1 < a2 ∧ a2 < q2
    · exact ⟨q1, a2, q2, by omega, by omega, by omega, by omega, by omega, by omega⟩
    · by_cases k3 : q2 < a2
      · exact ⟨q1, q2, a2, by omega, by omega, by omega, by omega, by omega, by omega⟩
      · exact ⟨q1, q2, q2 + 1, by omega, by omega, by omega, by omega, by omega, by omega⟩

/-- The map of seven names. -/
def num7 (m1 m2 m3 p1 p2 p3 : Int) : Nat → Int
  | 0 => m3 | 1 => m2 | 2 => m1 | 3 => 0 | 4 => p1 | 5 => p2 | _ => p3

def blkOf (n : Int) : Blk := ⟨0, n.toNat, (-n).toNat⟩
theorem blkOf_num (n : Int) : (blkOf n).num = n := by unfold blkOf Blk.num; dsimp only; omega

theorem places (a0 a1 a2 : Int) : ∃ (ρ : Rho) (r0 r1 r2 : Nat), SY ρ 7 ∧ (r0 < 7 ∧ (ρ r0).num = a0) ∧ (r1 < 7 ∧ (ρ r1).num = a1) ∧ (r2 < 7 ∧ (ρ r2).num = a2) := by
  obtain ⟨p1, p2, p3, h1, h2, h3, g0, g1, g2⟩ := three a0 a1 a2
  obtain ⟨n1, n2, n3, k1, k2, k3, l0, l1, l2⟩ := three (-a0) (-a1) (-a2)
  have num : ∀ r, (blkOf (num7 (-n1) (-n2) (-n3) p1 p2 p3 r)).num = num7 (-n1) (-n2) (-n3) p1 p2 p3 r := fun r => blkOf_num _
  have find : ∀ a : Int, (0 < a → a = p1 ∨ a = p2 ∨ a = p3) → (0 < -a → -a = n1 ∨ -a = n2 ∨ -a = n3) → ∃ r, r < 7 ∧ (blkOf (num7 (-n1) (-n2) (-n3) p1 p2 p3 r)).num = a := by
    intro a h h'
    by_cases c : 0 < a
    · rcases h c with e | e | e
      · exact ⟨4, by omega, by rw [num]; exact e.symm⟩
      · exact ⟨5, by omega, by rw [num]; exact e.symm⟩
      · exact ⟨6, by omega, by rw [num]; exact e.symm⟩
    · by_cases c' : 0 < -a
      · rcases h' c' with e | e | e
        · exact ⟨2, by omega, by rw [num]; show -n1 = a; omega⟩
        · exact ⟨1, by omega, by rw [num]; show -n2 = a; omega⟩
        · exact ⟨0, by omega, by rw [num]; show -n3 = a; omega⟩
      · exact ⟨3, by omega, by rw [num]; show (0 : Int) = a; omega⟩
  obtain ⟨r0, e0⟩ := find a0 g0 l0
  obtain ⟨r1, e1⟩ := find a1 g1 l1
  obtain ⟨r2, e2⟩ := find a2 g2 l2
  refine ⟨fun r => blkOf (num7 (-n1) (-n2) (-n3) p1 p2 p3 r), r0, r1, r2, ⟨Nat.le_refl _, num 3, fun r r' h h' => ?_⟩, e0, e1, e2⟩
  rw [num, num]
  have hr : r = 0 ∨ r = 1 ∨ r = 2 ∨ r = 3 ∨ r = 4 ∨ r = 5 := by omega
  have hr' : r' = 1 ∨ r' = 2 ∨ r' = 3 ∨ r' = 4 ∨ r' = 5 ∨ r' = 6 := by omega
  rcases hr with rfl | rfl | rfl | rfl | rfl | rfl <;> rcases hr' with rfl | rfl | rfl | rfl | rfl | rfl <;> first | (exfalso; omega) | (simp only [num7]; omega)
end
end Go.AM
