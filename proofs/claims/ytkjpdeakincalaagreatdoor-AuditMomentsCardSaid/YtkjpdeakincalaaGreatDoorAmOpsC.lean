/- Operations, third part: binary and unary operators. -/
import Derived.Test.YtkjpdeakincalaaGreatDoorAmOpsB
namespace Go.AM
section
variable {lim : Nat} {P : Program} {ρ : Rho} {h : AHeap} {w : World} {n : Nat → Prop}

theorem not_lt_dec (a b : Int) : (!decide (b < a)) = decide (a ≤ b) := by
  by_cases h : a ≤ b
  · simp [h]
  · simp [h, Int.not_le.1 h]

theorem intOp_run {op : BinOp} {k k' : IntKind} {a b : Int} {v : AVal} {t : TypeId} (hk : (kindEq k k' || op == .shl || op == .shr) = true) (hq : intOp op k a b = .ok v) :
    SemP P (Go.binOp op t (.int k a) (.int k' b)) ρ n w v := by
  have hk' : ∀ o : BinOp, o ≠ .shl → o ≠ .shr → op = o → k = k' := by
    intro o h1 h2 e
    subst e
    have e1 : (op == BinOp.shl) = false := by simpa using h1
    have e2 : (op == BinOp.shr) = false := by simpa using h2
    rw [e1, e2, kindEq_eq] at hk
    simpa using hk
  cases op <;> simp only [intOp] at hq
  case add => injection hq with hq; subst hq; obtain rfl := hk' .add (by decide) (by decide) rfl; exact ⟨_, by simp [Go.binOp, Op.intArith, wrapK_eq, iadd_eq], .int _ _⟩
  case sub => injection hq with hq; subst hq; obtain rfl := hk' .sub (by decide) (by decide) rfl; exact ⟨_, by simp [Go.binOp, Op.intArith, wrapK_eq, isub_eq], .int _ _⟩
  case mul => injection hq with hq; subst hq; obtain rfl := hk' .mul (by decide) (by decide) rfl; exact ⟨_, by simp [Go.binOp, Op.intArith, wrapK_eq, imul_eq], .int _ _⟩
  case quo =>
    obtain rfl := hk' .quo (by decide) (by decide) rfl
    rw [bnd_eq_ok] at hq
    obtain ⟨q, hq1, hq⟩ := hq
    injection hq with hq; subst hq
    obtain ⟨hb, rfl⟩ := iquo_eq hq1
    exact ⟨_, by simp [Go.binOp, Op.intDiv, hb, wrapK_eq], .int _ _⟩
  case rem =>
    obtain rfl := hk' .rem (by decide) (by decide) rfl
    obtain ⟨q, hq1, rfl⟩ := okInt_eq hq
    obtain ⟨hb, rfl⟩ := irem_eq hq1
    exact ⟨_, by simp [Go.binOp, Op.intDiv, hb], .int _ _⟩
  case and =>
    obtain rfl := hk' .and (by decide) (by decide) rfl
    obtain ⟨q, hq1, rfl⟩ := okInt_eq hq
    exact ⟨_, by simp only [Go.binOp, ne_eq, not_true_eq_false, if_false, bitsBig_run (bitsOp_big hq1)]; rfl, .int _ _⟩
  case or =>
    obtain rfl := hk' .or (by decide) (by decide) rfl
    obtain ⟨q, hq1, rfl⟩ := okInt_eq hq
    exact ⟨_, by simp only [Go.binOp, ne_eq, not_true_eq_false, if_false, bitsBig_run (bitsOp_big hq1)]; rfl, .int _ _⟩
  case xor =>
    obtain rfl := hk' .xor (by decide) (by decide) rfl
    obtain ⟨q, hq1, rfl⟩ := okInt_eq hq
    exact ⟨_, by simp only [Go.binOp, ne_eq, not_true_eq_false, if_false, bitsBig_run (bitsOp_big hq1)]; rfl, .int _ _⟩
  case andNot =>
    obtain rfl := hk' .andNot (by decide) (by decide) rfl
    obtain ⟨q, hq1, rfl⟩ := okInt_eq hq
    exact ⟨_, by simp only [Go.binOp, ne_eq, not_true_eq_false, if_false, bitsBig_run (bitsOp_big hq1)]; rfl, .int _ _⟩
  case shl => obtain ⟨q, rfl, hr⟩ := shiftOp_run (k' := k') hq; exact ⟨_, by simp only [Go.binOp, hr]; rfl, .int _ _⟩
  case shr => obtain ⟨q, rfl, hr⟩ := shiftOp_run (k' := k') hq; exact ⟨_, by simp only [Go.binOp, hr]; rfl, .int _ _⟩
  case eql => injection hq with hq; subst hq; obtain rfl := hk' .eql (by decide) (by decide) rfl; exact ⟨_, by simp [Go.binOp, Op.intCmp, int_beq], .bool _⟩
  case neq => injection hq with hq; subst hq; obtain rfl := hk' .neq (by decide) (by decide) rfl; exact ⟨_, by simp [Go.binOp, Op.intCmp, bne, int_beq], .bool _⟩
  case lss => injection hq with hq; subst hq; obtain rfl := hk' .lss (by decide) (by decide) rfl; exact ⟨_, by simp [Go.binOp, Op.intCmp, ilt_eq], .bool _⟩
  case leq => injection hq with hq; subst hq; obtain rfl := hk' .leq (by decide) (by decide) rfl; exact ⟨_, by simp [Go.binOp, Op.intCmp, ilt_eq, not_lt_dec], .bool _⟩
  case gtr => injection hq with hq; subst hq; obtain rfl := hk' .gtr (by decide) (by decide) rfl; exact ⟨_, by simp [Go.binOp, Op.intCmp, ilt_eq], .bool _⟩
  case geq => injection hq with hq; subst hq; obtain rfl := hk' .geq (by decide) (by decide) rfl; exact ⟨_, by simp [Go.binOp, Op.intCmp, ilt_eq, not_lt_dec], .bool _⟩

theorem strOp_run {op : BinOp} {a b : List UInt8} {v : AVal} {t : TypeId} (hq : strOp op a b = .ok v) :
    SemP P (Go.binOp op t (.string ⟨a.toArray⟩) (.string ⟨b.toArray⟩)) ρ n w v := by
  have hs : ∀ l : List UInt8, (ByteArray.mk l.toArray).size = l.length := fun l => by simp [ByteArray.size]
  cases op <;> simp only [strOp] at hq <;> try contradiction
  case add =>
    rw [sel_eq_ok, blt_eq, decide_eq_true_eq] at hq
    obtain ⟨hl, hq⟩ := hq
    injection hq with hq; subst hq
    refine ⟨.string ⟨(a ++ b).toArray⟩, ?_, .str _⟩
    have hlt : ¬ (((ByteArray.mk a.toArray).size + (ByteArray.mk b.toArray).size : Nat) : Int) > IntKind.i64.max := by
      rw [hs, hs]
      have : IntKind.i64.max = 9223372036854775807 := by decide
      rw [this]; omega
    simp only [Go.binOp, Op.stringOp, if_neg hlt, Sem.run_pure]
    congr 2
  all_goals
    injection hq with hq; subst hq
    exact ⟨_, by simp only [Go.binOp, Op.stringOp, ByteArray.toList_mk, Sem.run_pure, strEq_beq, strLess_eq], .bool _⟩

/-- '==' or '!=', asked of the model's equality. -/
def eqSem (op : BinOp) (t : TypeId) (a b : Value) : Sem Value := do
  let r ← Op.equal t a b
  pure (.bool (if op = .eql then r else !r))

theorem eqOp_run (s : Sim lim ρ n h w) {op : BinOp} {t : TypeId} {x y : AVal} {x' y' : Value} {v : AVal} (hq : eqOp P op t x y h = .ok v) (hx : VR ρ n x x') (hy : VR ρ n y y') :
    (op = .eql ∨ op = .neq) ∧ SemP P (eqSem op t x' y') ρ n w v := by
  cases op <;> simp only [eqOp] at hq <;> try contradiction
  case eql =>
    rw [bnd_eq_ok] at hq
    obtain ⟨b, hb, hq⟩ := hq
    injection hq with hq; subst hq
    refine ⟨.inl rfl, .bool b, ?_, .bool _⟩
    have := equal_sound s _ _ _ _ _ _ _ hb hx hy
    simp only [eqSem, Op.equal, Op.maxDepth, if_true, Sem.run_bind, this, Result.andThen_ok, Sem.run_pure]
  case neq =>
    rw [bnd_eq_ok] at hq
    obtain ⟨b, hb, hq⟩ := hq
    injection hq with hq; subst hq
    refine ⟨.inr rfl, .bool (!b), ?_, .bool _⟩
    have := equal_sound s _ _ _ _ _ _ _ hb hx hy
    simp only [eqSem, Op.equal, Op.maxDepth, Sem.run_bind, this, Result.andThen_ok, reduceCtorEq, if_false, Sem.run_pure]

theorem eqGuard_other {op : BinOp} {t : TypeId} {x y : Operand} {a b : Value} (h1 : ¬ (a = .nilIface ∧ b = .nilIface)) (h2 : ¬ ((∃ c, a = .agg c) ∧ (∃ c, b = .agg c))) :
    (eqGuard op t x y a b).run P w = .ok () w := by
  have key : ∀ o : BinOp, (match a, b with
    | .nilIface, .nilIface =>
      if (x matches .const _) || (y matches .const _) then (pure () : Sem Unit)
      else do
        if ← Op.eqGuardIn Op.maxDepth t a b then unsupported (.noEntry "binop/eql: two nil values of an interface type with methods, neither of them the literal nil")
    | .agg _, .agg _ => do
      if !(← program).eqGuardType (← program).depth t then return
      if ← Op.eqGuardIn Op.maxDepth t a b then unsupported (.noEntry "binop/eql: two nil values of an interface type with methods, in a part of a struct or an array")
    | _, _ => pure ()).run P w = .ok () w := by
    intro o
    split
    · exact absurd ⟨rfl, rfl⟩ h1
    · exact absurd ⟨⟨_, rfl⟩, ⟨_, rfl⟩⟩ h2
    · rfl
  cases op <;> first | rfl | exact key .eql

theorem eqGuard_const {op : BinOp} {t : TypeId} {x y : Operand} (hk : (isConst x || isConst y) = true) : (eqGuard op t x y .nilIface .nilIface).run P w = .ok () w := by
  cases x <;> cases y <;> first | exact absurd hk Bool.false_ne_true | (cases op <;> rfl)

theorem binOp_eq_other {op : BinOp} (ho : op = .eql ∨ op = .neq) {t : TypeId} {a b : Value} (hi : ∀ k i, a ≠ .int k i) (hs : ∀ s, a ≠ .string s) (hf : ∀ k i, a ≠ .float k i) (hc : ∀ k i j, a ≠ .complex k i j) :
    Go.binOp op t a b = eqSem op t a b := by
  rcases ho with rfl | rfl
  · cases a <;> simp_all [Go.binOp, eqSem]
  · cases a <;> simp_all [Go.binOp, eqSem]

theorem binOp_eq_other' {op : BinOp} (ho : op = .eql ∨ op = .neq) {t : TypeId} {a b : Value} (hi : ∀ k i, b ≠ .int k i) (hs : ∀ s, b ≠ .string s) (hf : ∀ k i, b ≠ .float k i) (hc : ∀ k i j, b ≠ .complex k i j) :
    Go.binOp op t a b = eqSem op t a b := by
  rcases ho with rfl | rfl
  · cases a <;> cases b <;> simp_all [Go.binOp, eqSem]
  · cases a <;> cases b <;> simp_all [Go.binOp, eqSem]

theorem binOp0_sound (s : Sim lim ρ n h w) {op : BinOp} {t : TypeId} {xo yo : Operand} {x y : AVal} {x' y' : Value} {v : AVal}
    (hq : binOp0 P op t (isConst xo || isConst yo) x y h = .ok v) (hsx : isSym x = false) (hsy : isSym y = false) (hx : VR ρ n x x') (hy : VR ρ n y y') :
    SemP P (do eqGuard op t xo yo x' y'; Go.binOp op t x' y') ρ n w v := by
  have fin : ∀ {s' : Sem Value}, (eqGuard op t xo yo x' y').run P w = .ok () w → SemP P s' ρ n w v → Go.binOp op t x' y' = s' → SemP P (do eqGuard op t xo yo x' y'; Go.binOp op t x' y') ρ n w v := by
    intro s' hg ⟨z, hz, hv⟩ he
    exact ⟨z, by simp only [Sem.run_bind, hg, Result.andThen_ok, he, hz], hv⟩
  unfold binOp0 at hq
  split at hq
  · rename_i k a k' b
    cases hx; cases hy
    rw [sel_eq_ok] at hq
    exact fin (eqGuard_other (fun e => by cases e.1) (fun e => by obtain ⟨⟨_, e⟩, _⟩ := e; cases e)) (intOp_run hq.1 hq.2) rfl
  · cases hx; cases hy
    exact fin (eqGuard_other (fun e => by cases e.1) (fun e => by obtain ⟨⟨_, e⟩, _⟩ := e; cases e)) (strOp_run hq) rfl
  · cases hx; cases hy
    rw [sel_eq_ok] at hq
    obtain ⟨ho, hs⟩ := eqOp_run s hq.2 (.nilIface) (.nilIface)
    exact fin (eqGuard_const hq.1) hs (binOp_eq_other ho (by simp) (by simp) (by simp) (by simp))
  · cases hx; cases hy
    rename_i xs' hxs ys' hys
    rw [sel_eq] at hq
    split at hq
    · cases hq
    · rename_i hg
      obtain ⟨ho, hs⟩ := eqOp_run s hq (.agg _ _ hxs) (.agg _ _ hys)
      exact fin (run_eqGuard_agg w op t xo yo _ _ (by simpa using hg)) hs (binOp_eq_other ho (by simp) (by simp) (by simp) (by simp))
  · rename_i hii hss hnn haa
    obtain ⟨ho, hs⟩ := eqOp_run s hq hx hy
    have g1 : ¬ (x' = .nilIface ∧ y' = .nilIface) := by
      rintro ⟨rfl, rfl⟩; cases hx; cases hy; exact hnn rfl rfl
    have g2 : ¬ ((∃ c, x' = .agg c) ∧ (∃ c, y' = .agg c)) := by
      rintro ⟨⟨c, rfl⟩, ⟨d, rfl⟩⟩; cases hx; cases hy; exact haa _ _ rfl rfl
    refine fin (eqGuard_other g1 g2) hs ?_
    cases hx with
    | int k i =>
      cases hy with
      | int k' j => exact absurd rfl (hii _ _ _ _ rfl)
      | str t => rcases ho with rfl | rfl <;> rfl
      | sym r hr => cases hsy
      | _ => exact binOp_eq_other' ho (by simp) (by simp) (by simp) (by simp)
    | str t =>
      cases hy with
      | int k' j => rcases ho with rfl | rfl <;> rfl
      | str t' => exact absurd rfl (hss _ _ rfl)
      | sym r hr => cases hsy
      | _ => exact binOp_eq_other' ho (by simp) (by simp) (by simp) (by simp)
    | sym r hr => cases hsx
    | _ => exact binOp_eq_other ho (by simp) (by simp) (by simp) (by simp)

theorem symOf_num (s : Sim lim ρ n h w) {x : AVal} {x' : Value} {r : Nat} (hq : symOf x = .ok r) (hx : VR ρ n x x') : x' = .int .i64 (ρ r).num := by
  unfold symOf at hq
  split at hq
  · injection hq with hq
    subst hq
    cases hx
    rfl
  · rw [sel_eq_ok] at hq
    obtain ⟨h0, hq⟩ := hq
    injection hq with hq
    subst hq
    rw [beq_eq, decide_eq_true_eq] at h0
    subst h0
    cases hx
    rw [s.sy.zero]
    rfl
  · cases hq

theorem symOp_run (s : Sim lim ρ n h w) {op : BinOp} {t : TypeId} {a b : Nat} {v : AVal} (hq : symOp op a b = .ok v) : SemP P (Go.binOp op t (.int .i64 (ρ a).num) (.int .i64 (ρ b).num)) ρ n w v := by
  unfold symOp at hq
  rw [sel_eq_ok, Bool.and_eq_true, blt_eq, blt_eq, decide_eq_true_eq, decide_eq_true_eq] at hq
  obtain ⟨⟨h1, h2⟩, hq⟩ := hq
  have lt : ∀ {i j : Nat}, i < 7 → j < 7 → ((ρ i).num < (ρ j).num ↔ i < j) := by
    intro i j hi hj
    constructor
    · intro hlt
      rcases Nat.lt_trichotomy i j with h | h | h
      · exact h
      · subst h; omega
      · have := s.sy.lt _ _ h hi; omega
    · intro h; exact s.sy.lt _ _ h hj
  have eq : (ρ a).num = (ρ b).num ↔ a = b := by
    constructor
    · intro he
      rcases Nat.lt_trichotomy a b with h | h | h
      · have := s.sy.lt _ _ h h2; omega
      · exact h
      · have := s.sy.lt _ _ h h1; omega
    · rintro rfl; rfl
  have e1 : ieq (ρ a).num (ρ b).num = Nat.beq a b := by rw [ieq_eq, beq_eq]; exact decide_eq_decide.2 eq
  have e2 : ilt (ρ a).num (ρ b).num = Nat.blt a b := by rw [ilt_eq, blt_eq]; exact decide_eq_decide.2 (lt h1 h2)
  have e3 : ilt (ρ b).num (ρ a).num = Nat.blt b a := by rw [ilt_eq, blt_eq]; exact decide_eq_decide.2 (lt h2 h1)
  refine intOp_run (by rfl) ?_
  cases op <;> simp only at hq <;> simp only [intOp, e1, e2, e3] <;> first | exact hq | cases hq

theorem binOp_sound (s : Sim lim ρ n h w) {op : BinOp} {t : TypeId} {xo yo : Operand} {x y : AVal} {x' y' : Value} {v : AVal}
    (hq : binOp P op t (isConst xo || isConst yo) x y h = .ok v) (hx : VR ρ n x x') (hy : VR ρ n y y') :
    SemP P (do eqGuard op t xo yo x' y'; Go.binOp op t x' y') ρ n w v := by
  unfold binOp at hq
  rw [sel_eq] at hq
  split at hq
  · obtain ⟨a, ha, hq⟩ := bnd_eq_ok.1 hq
    obtain ⟨b, hb, hq⟩ := bnd_eq_ok.1 hq
    have e1 := symOf_num s ha hx
    have e2 := symOf_num s hb hy
    subst e1; subst e2
    obtain ⟨z, hz, hv⟩ := symOp_run (P := P) (t := t) s hq
    refine ⟨z, ?_, hv⟩
    have hg : (eqGuard op t xo yo (.int .i64 (ρ a).num) (.int .i64 (ρ b).num)).run P w = .ok () w := eqGuard_other (fun e => by cases e.1) (fun e => by obtain ⟨⟨_, e⟩, _⟩ := e; cases e)
    simp only [Sem.run_bind, hg, Result.andThen_ok, hz]
  · rename_i hb
    rw [Bool.or_eq_true, not_or] at hb
    exact binOp0_sound s hq (by simpa using hb.1) (by simpa using hb.2) hx hy

theorem unOp_sound {op : UnOp} {x : AVal} {x' : Value} {v : AVal} (hq : unOp op x = .ok v) (hx : VR ρ n x x') : SemP P (Op.unary op x') ρ n w v := by
  unfold unOp at hq
  split at hq
  · cases hx; injection hq with hq; subst hq
    exact ⟨_, by simp [Op.unary, Op.intArith, wrapK_eq, isub_eq], .int _ _⟩
  · cases hx
    obtain ⟨q, hq1, rfl⟩ := okInt_eq hq
    exact ⟨_, by simp only [Op.unary, bitsBig_run hq1]; rfl, .int _ _⟩
  · cases hx; injection hq with hq; subst hq
    exact ⟨_, by simp only [Op.unary]; rfl, .bool _⟩
  · cases hq
end
end Go.AM
