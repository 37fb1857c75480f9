/- Operations, sixth part: slicing, maps, ranging. -/
import Derived.Test.YtkjpdeakincalaaGreatDoorAmOpsE
namespace Go.AM

/-! ### Equal values -/
mutual
theorem aeq_eq : ∀ (a b : AVal), aeq a b = true → a = b
  | .bool a, b, h => by cases b <;> simp_all [aeq]
  | .int j a, b, h => by cases b <;> simp_all [aeq, kindEq_eq, ieq_eq]
  | .str a, b, h => by cases b <;> simp_all [aeq, strEq_eq]
  | .ptr a i, b, h => by cases b <;> simp_all [aeq, beq_eq]
  | .nilPtr, b, h => by cases b <;> simp_all [aeq]
  | .slice a i l c, b, h => by cases b <;> simp_all [aeq, beq_eq]
  | .nilSlice l c, b, h => by cases b <;> simp_all [aeq, beq_eq]
  | .gsl a l c, b, h => by cases b <;> simp_all [aeq, beq_eq]
  | .map a, b, h => by cases b <;> simp_all [aeq, beq_eq]
  | .nilMap, b, h => by cases b <;> simp_all [aeq]
  | .func f x y, b, h => by
    cases b <;> simp only [aeq] at h <;> try contradiction
    simp only [Bool.and_eq_true, decide_eq_true_eq] at h
    rw [h.1.1, aeqL_eq _ _ h.1.2, aeqL_eq _ _ h.2]
  | .nilFunc, b, h => by cases b <;> simp_all [aeq]
  | .iface t x, b, h => by
    cases b <;> simp only [aeq] at h <;> try contradiction
    simp only [Bool.and_eq_true, beq_eq, decide_eq_true_eq] at h
    rw [h.1, aeq_eq _ _ h.2]
  | .nilIface, b, h => by cases b <;> simp_all [aeq]
  | .agg x, b, h => by
    cases b <;> simp only [aeq] at h <;> try contradiction
    rw [aeqL_eq _ _ h]
  | .tuple x, b, h => by
    cases b <;> simp only [aeq] at h <;> try contradiction
    rw [aeqL_eq _ _ h]
  | .sym a, b, h => by cases b <;> simp_all [aeq, beq_eq]
theorem aeqL_eq : ∀ (a b : List AVal), aeqL a b = true → a = b
  | [], b, h => by cases b <;> simp_all [aeqL]
  | x :: xs, b, h => by
    cases b <;> simp only [aeqL] at h <;> try contradiction
    simp only [Bool.and_eq_true] at h
    rw [aeq_eq _ _ h.1, aeqL_eq _ _ h.2]
end

mutual
theorem VR.det {ρ : Rho} {n : Nat → Prop} : ∀ {v : AVal} {x y : Value}, VR ρ n v x → VR ρ n v y → x = y
  | _, _, _, .bool _, .bool _ => rfl
  | _, _, _, .int _ _, .int _ _ => rfl
  | _, _, _, .str _, .str _ => rfl
  | _, _, _, .ptr _ _ _, .ptr _ _ _ => rfl
  | _, _, _, .nilPtr, .nilPtr => rfl
  | _, _, _, .slice _ _ _ _ _, .slice _ _ _ _ _ => rfl
  | _, _, _, .nilSlice _ _, .nilSlice _ _ => rfl
  | _, _, _, .gsl _ _ _ _ _, .gsl _ _ _ _ _ => rfl
  | _, _, _, .map _ _, .map _ _ => rfl
  | _, _, _, .nilMap, .nilMap => rfl
  | _, _, _, .func _ _ _ _ _ h1 h2, .func _ _ _ _ _ h3 h4 => by rw [VRs.det h1 h3, VRs.det h2 h4]
  | _, _, _, .nilFunc, .nilFunc => rfl
  | _, _, _, .iface _ _ _ h1, .iface _ _ _ h2 => by rw [VR.det h1 h2]
  | _, _, _, .nilIface, .nilIface => rfl
  | _, _, _, .agg _ _ h1, .agg _ _ h2 => by rw [VRs.det h1 h2]
  | _, _, _, .tuple _ _ h1, .tuple _ _ h2 => by rw [VRs.det h1 h2]
  | _, _, _, .sym _ _, .sym _ _ => rfl
theorem VRs.det {ρ : Rho} {n : Nat → Prop} : ∀ {v : List AVal} {x y : List Value}, VRs ρ n v x → VRs ρ n v y → x = y
  | _, _, _, .nil, .nil => rfl
  | _, _, _, .cons _ _ _ _ h hs, .cons _ _ _ _ h' hs' => by rw [VR.det h h', VRs.det hs hs']
end

section
variable {lim : Nat} {P : Program} {ρ : Rho} {h h' : AHeap} {w : World} {n : Nat → Prop}

/-! ### Slicing -/
theorem sbound_sound {v : AVal} {x : Value} {y i y' : Nat} {code : BoundsCode} (hb : sbound v y = .ok i) (hx : VR ρ n v x) (hy : y ≤ y') :
    i ≤ y ∧ (Instr.sliceBound x y' code).run P w = .ok i w := by
  unfold sbound at hb
  split at hb
  · rename_i k j
    cases hx
    rw [sel_eq_ok, ble_eq, decide_eq_true_eq] at hb
    obtain ⟨hle, hb⟩ := hb
    injection hb with hb
    subst hb
    refine ⟨hle, ?_⟩
    have h1 : (0 : Int) ≤ Int.ofNat j ∧ (Int.ofNat j : Int) ≤ y' := ⟨by simp, by simp; omega⟩
    simp only [Instr.sliceBound, asIntOf, Sem.run_bind, Sem.run_pure, Result.andThen_ok]
    rw [if_pos h1]
    rfl
  · cases hb

/-- The three bounds, over a capacity that may be greater where none is asked for. -/
theorem bounds3_sound {b : Bool} {len cap cap' : Nat} {lo hi mx : Option AVal} {lo' hi' mx' : Option Value} {l hh m : Nat}
    (hb : bounds3 len cap lo hi mx = .ok (l, hh, m)) (hlo : VRo ρ n lo lo') (hhi : VRo ρ n hi hi') (hmx : VRo ρ n mx mx') (hc : cap ≤ cap') :
    (l ≤ hh ∧ (hi = none → hh = len) ∧ (hi.isSome → hh ≤ m) ∧ m ≤ cap ∧ (mx = none → m = cap)) ∧
      (Instr.sliceBounds b len cap' lo' hi' mx').run P w = .ok (l, hh, if mx.isSome then m else cap') w := by
  unfold bounds3 at hb
  rw [sel_eq] at hb
  split at hb
  · cases hb
  · rename_i hcond
    rw [bnd_eq_ok] at hb
    obtain ⟨m1, hm, hb⟩ := hb
    rw [bnd_eq_ok] at hb
    obtain ⟨h1, hh1, hb⟩ := hb
    rw [bnd_eq_ok] at hb
    obtain ⟨l1, hl1, hb⟩ := hb
    injection hb with hb
    simp only [Prod.mk.injEq] at hb
    obtain ⟨rfl, rfl, rfl⟩ := hb
    cases mx with
    | none =>
      cases mx' with
      | some _ => exact hmx.elim
      | none =>
        simp only [sboundO, Except.ok.injEq] at hm
        subst hm
        cases hi with
        | none =>
          cases hi' with
          | some _ => exact hhi.elim
          | none =>
            simp only [sboundO, Except.ok.injEq] at hh1
            subst hh1
            cases lo with
            | none =>
              cases lo' with
              | some _ => exact hlo.elim
              | none =>
                simp only [sboundO, Except.ok.injEq] at hl1
                subst hl1
                exact ⟨⟨by omega, fun _ => rfl, (fun e => by cases e), by omega, fun _ => rfl⟩, by simp [Instr.sliceBounds]⟩
            | some lv =>
              cases lo' with
              | none => exact hlo.elim
              | some lx =>
                obtain ⟨q1, q2⟩ := sbound_sound (P := P) (w := w) (code := .sliceB) hl1 hlo (Nat.le_refl _)
                exact ⟨⟨q1, fun _ => rfl, (fun e => by cases e), by omega, fun _ => rfl⟩, by simp [Instr.sliceBounds, q2]⟩
        | some hv =>
          cases hi' with
          | none => exact hhi.elim
          | some hx =>
            obtain ⟨p1, p2⟩ := sbound_sound (P := P) (w := w) (code := if b then .sliceAcap else .sliceAlen) hh1 hhi hc
            cases lo with
            | none =>
              cases lo' with
              | some _ => exact hlo.elim
              | none =>
                simp only [sboundO, Except.ok.injEq] at hl1
                subst hl1
                exact ⟨⟨by omega, (fun e => by cases e), fun _ => p1, by omega, fun _ => rfl⟩, by simp [Instr.sliceBounds, p2]⟩
            | some lv =>
              cases lo' with
              | none => exact hlo.elim
              | some lx =>
                obtain ⟨q1, q2⟩ := sbound_sound (P := P) (w := w) (code := .sliceB) hl1 hlo (Nat.le_refl _)
                exact ⟨⟨q1, (fun e => by cases e), fun _ => p1, by omega, fun _ => rfl⟩, by simp [Instr.sliceBounds, p2, q2]⟩
    | some mv =>
      cases mx' with
      | none => exact hmx.elim
      | some mx1 =>
        obtain ⟨r1, r2⟩ := sbound_sound (P := P) (w := w) (code := if b then .slice3Acap else .slice3Alen) hm hmx hc
        cases hi with
        | none => simp at hcond
        | some hv =>
          cases hi' with
          | none => exact hhi.elim
          | some hx =>
            obtain ⟨p1, p2⟩ := sbound_sound (P := P) (w := w) (code := .slice3B) hh1 hhi (Nat.le_refl _)
            cases lo with
            | none =>
              cases lo' with
              | some _ => exact hlo.elim
              | none =>
                simp only [sboundO, Except.ok.injEq] at hl1
                subst hl1
                exact ⟨⟨by omega, (fun e => by cases e), fun _ => p1, r1, (fun e => by cases e)⟩, by simp [Instr.sliceBounds, r2, p2]⟩
            | some lv =>
              cases lo' with
              | none => exact hlo.elim
              | some lx =>
                obtain ⟨q1, q2⟩ := sbound_sound (P := P) (w := w) (code := .slice3C) hl1 hlo (Nat.le_refl _)
                exact ⟨⟨q1, (fun e => by cases e), fun _ => p1, r1, (fun e => by cases e)⟩, by simp [Instr.sliceBounds, r2, p2, q2]⟩

theorem drop_take_bytes (s : List UInt8) (l hh : Nat) : (ByteArray.mk s.toArray).extract l hh = ByteArray.mk ((s.drop l).take (hh - l)).toArray := by
  apply ByteArray.ext
  apply Array.ext'
  rw [Lib.extract_data]

theorem sliceStr_sound {t : TypeId} {s : List UInt8} {lo hi mx : Option AVal} {lo' hi' mx' : Option Value} {v : AVal} (hu : uty P t = .ok .string)
    (hq : sliceStr s lo hi mx = .ok v) (hlo : VRo ρ n lo lo') (hhi : VRo ρ n hi hi') (hmx : VRo ρ n mx mx') :
    SemP P (Instr.sliceAt t (.string ⟨s.toArray⟩) lo' hi' mx') ρ n w v := by
  unfold sliceStr at hq
  cases mx with
  | some _ => simp at hq
  | none =>
    cases mx' with
    | some _ => exact hmx.elim
    | none =>
      simp only [Option.isSome_none, sel_false] at hq
      rw [bnd_eq_ok] at hq
      obtain ⟨⟨l, hh, m⟩, hb, hq⟩ := hq
      simp only at hq
      injection hq with hq
      subst hq
      obtain ⟨_, hr⟩ := bounds3_sound (P := P) (w := w) (b := false) (cap' := s.length) hb hlo hhi hmx (Nat.le_refl _)
      refine ⟨.string ⟨((s.drop l).take (hh - l)).toArray⟩, ?_, .str _⟩
      have hs : (ByteArray.mk s.toArray).size = s.length := by simp [ByteArray.size]
      simp only [Instr.sliceAt, Instr.slice, Sem.run_bind, uty_run hu, Result.andThen_ok, Option.isSome_none, Bool.false_eq_true, if_false, hs]
      simp only [hr, Result.andThen_ok, drop_take_bytes s l hh, Sem.run_pure]

theorem sliceOp_slice (s : Sim lim ρ n h w) {t e : TypeId} {size : Nat} {x : AVal} {x' : Value} {lo hi mx : Option AVal} {lo' hi' mx' : Option Value} {v : AVal}
    (hu : uty P t = .ok (.slice e)) (hs : tsize P e = .ok size) (hns : ∀ l, x ≠ .str l) (hnp : ∀ b o, x ≠ .ptr b o)
    (hq : sliceOp (.ok size) none x lo hi mx h = .ok v) (hx : VR ρ n x x') (hlo : VRo ρ n lo lo') (hhi : VRo ρ n hi hi') (hmx : VRo ρ n mx mx') :
    SemP P (Instr.sliceAt t x' lo' hi' mx') ρ n w v := by
  cases hx <;> simp only [sliceOp] at hq <;> try contradiction
  case str l => exact absurd rfl (hns l)
  case slice b o len cap hb =>
    rw [bnd_ok, bnd_eq_ok] at hq
    obtain ⟨⟨l, hh, m⟩, hb3, hq⟩ := hq
    simp only at hq
    injection hq with hq
    subst hq
    obtain ⟨⟨h1, h2, h3, h4, h5⟩, hr⟩ := bounds3_sound (P := P) (w := w) (b := true) (cap' := cap) hb3 hlo hhi hmx (Nat.le_refl _)
    have hm : (if mx.isSome = true then m else cap) = m := by
      cases mx with
      | none => rw [h5 rfl]; rfl
      | some _ => rfl
    rw [hm] at hr
    refine ⟨_, ?_, .slice b _ (hh - l) (m - l) hb⟩
    simp only [Instr.sliceAt, Instr.slice, Sem.run_bind, uty_run hu, Result.andThen_ok, hr, tsize_run hs, Sem.run_pure]
    rw [sel_eq, beq_eq]
    by_cases hml : m = l
    · simp [hml]
    · simp [hml, add_none]
  case nilSlice len cap =>
    rw [bnd_ok, bnd_eq_ok] at hq
    obtain ⟨⟨l, hh, m⟩, hb3, hq⟩ := hq
    simp only at hq
    injection hq with hq
    subst hq
    obtain ⟨⟨h1, h2, h3, h4, h5⟩, hr⟩ := bounds3_sound (P := P) (w := w) (b := true) (cap' := cap) hb3 hlo hhi hmx (Nat.le_refl _)
    have hm : (if mx.isSome = true then m else cap) = m := by
      cases mx with
      | none => rw [h5 rfl]; rfl
      | some _ => rfl
    rw [hm] at hr
    refine ⟨_, ?_, .nilSlice (hh - l) (m - l)⟩
    simp only [Instr.sliceAt, Instr.slice, Sem.run_bind, uty_run hu, Result.andThen_ok, hr, tsize_run hs, Sem.run_pure]
    simp
  case gsl b o len hb hl =>
    rw [bnd_ok, bnd_eq_ok] at hq
    obtain ⟨size', hsz, hq⟩ := hq
    rw [bnd_eq_ok] at hq
    obtain ⟨⟨l, hh, m⟩, hb3, hq⟩ := hq
    simp only at hq
    rw [sel_eq_ok, beq_eq, decide_eq_true_eq] at hq
    obtain ⟨rfl, hq⟩ := hq
    obtain ⟨⟨h1, h2, h3, h4, h5⟩, hr⟩ := bounds3_sound (P := P) (w := w) (b := true) (cap' := (ρ b).cap - o / (ρ b).size) hb3 hlo hhi hmx hl
    -- the row's own size of an element
    have hrow : 0 < size ∧ (ρ b).size = size := by
      unfold grownSize at hsz
      split at hsz
      · rename_i e' len' sz zs t' hg
        injection hsz with hsz
        obtain ⟨y, hy, hr⟩ := s.obj b _ hg
        cases hr
        rename_i hs0 hs1 _ _ _ _
        exact ⟨by omega, by omega⟩
      · cases hsz
    have hdiv : (o + l * size) / (ρ b).size = o / (ρ b).size + l := by
      rw [hrow.2, Nat.add_mul_div_right _ _ hrow.1]
    have hle : hh ≤ len := by
      cases hi with
      | none => exact Nat.le_of_eq (h2 rfl)
      | some _ => have := h3 rfl; omega
    cases mx with
    | some mv =>
      simp only [Option.isSome_some, sel_true, if_true] at hq hr
      injection hq with hq
      subst hq
      refine ⟨_, ?_, .slice b _ (hh - l) (m - l) hb⟩
      simp only [Instr.sliceAt, Instr.slice, Sem.run_bind, uty_run hu, Result.andThen_ok, hr, tsize_run hs, Sem.run_pure]
      rw [sel_eq, beq_eq]
      by_cases hml : m = l
      · simp [hml]
      · simp [hml, add_none]
    | none =>
      simp only [Option.isSome_none, sel_false, Bool.false_eq_true, if_false] at hq hr
      rw [sel_eq, beq_eq] at hq
      by_cases hl0 : l = 0
      · rw [hl0, decide_eq_true rfl, if_pos rfl] at hq
        injection hq with hq
        subst hq
        subst hl0
        refine ⟨_, ?_, .gsl b o hh hb (by omega)⟩
        simp only [Instr.sliceAt, Instr.slice, Sem.run_bind, uty_run hu, Result.andThen_ok, hr, tsize_run hs, Sem.run_pure]
        simp [add_none]
      · rw [decide_eq_false hl0, if_neg Bool.false_ne_true, sel_eq_ok, blt_eq, decide_eq_true_eq] at hq
        obtain ⟨hlt, hq⟩ := hq
        injection hq with hq
        subst hq
        have hcap : (ρ b).cap - (o + l * size) / (ρ b).size = (ρ b).cap - o / (ρ b).size - l := by rw [hdiv]; omega
        refine ⟨_, ?_, .gsl b (o + l * size) (hh - l) hb (by rw [hcap]; omega)⟩
        have hne : ¬ ((ρ b).cap - o / (ρ b).size = l) := by omega
        simp only [Instr.sliceAt, Instr.slice, Sem.run_bind, uty_run hu, Result.andThen_ok, hr, tsize_run hs, Sem.run_pure, hne, if_false]
        rw [hcap]
        simp [add_none]

theorem sliceOp_array {t e : TypeId} {len size b o : Nat} {x' : Value} {lo hi mx : Option AVal} {lo' hi' mx' : Option Value} {v : AVal}
    (hu : uty P t = .ok (.array len e)) (hs : tsize P e = .ok size)
    (hq : sliceOp (.ok size) (some len) (.ptr b o) lo hi mx h = .ok v) (hx : VR ρ n (.ptr b o) x') (hlo : VRo ρ n lo lo') (hhi : VRo ρ n hi hi') (hmx : VRo ρ n mx mx') :
    SemP P (Instr.sliceAt t x' lo' hi' mx') ρ n w v := by
  cases hx
  rename_i hb
  simp only [sliceOp] at hq
  rw [bnd_ok, bnd_eq_ok] at hq
  obtain ⟨⟨l, hh, m⟩, hb3, hq⟩ := hq
  simp only at hq
  injection hq with hq
  subst hq
  obtain ⟨⟨h1, h2, h3, h4, h5⟩, hr⟩ := bounds3_sound (P := P) (w := w) (b := false) (cap' := len) hb3 hlo hhi hmx (Nat.le_refl _)
  have hm : (if mx.isSome = true then m else len) = m := by
    cases mx with
    | none => rw [h5 rfl]; rfl
    | some _ => rfl
  rw [hm] at hr
  refine ⟨_, ?_, .slice b _ (hh - l) (m - l) hb⟩
  simp only [Instr.sliceAt, Sem.run_bind, uty_run hu, Result.andThen_ok, Instr.sureAddr, Sem.run_pure, hr, tsize_run hs]
  rw [sel_eq, beq_eq]
  by_cases hml : m = l
  · simp [hml]
  · simp [hml, add_none]
end
end Go.AM
