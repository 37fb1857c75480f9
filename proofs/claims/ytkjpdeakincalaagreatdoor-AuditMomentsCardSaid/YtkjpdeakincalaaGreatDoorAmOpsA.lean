/- Operations, first part: what the abstract machine makes of an operation is what the model makes of it. -/
import Derived.Test.YtkjpdeakincalaaGreatDoorAmMem
namespace Go.AM

/-- What a piece of the model's work yields. -/
def SemV (lim : Nat) (P : Program) (s : Sem Value) (ρ : Rho) (n : Nat → Prop) (h : AHeap) (w : World) (v : AVal) (h' : AHeap) : Prop :=
  ∃ ρ' n' w' x, s.run P w = .ok x w' ∧ VR ρ' n' v x ∧ Sim lim ρ' n' h' w' ∧ Ext ρ n h w ρ' n' h' w'

/-- The same without a change of memory. -/
def SemP (P : Program) (s : Sem Value) (ρ : Rho) (n : Nat → Prop) (w : World) (v : AVal) : Prop := ∃ x, s.run P w = .ok x w ∧ VR ρ n v x

def SemN (lim : Nat) (P : Program) (s : Sem Next) (ρ : Rho) (n : Nat → Prop) (h : AHeap) (w : World) (v : AVal) (h' : AHeap) : Prop :=
  ∃ ρ' n' w', ((∃ x, s.run P w = .ok (.value x) w' ∧ VR ρ' n' v x) ∨ (s.run P w = .ok .skip w' ∧ v = aundef)) ∧ Sim lim ρ' n' h' w' ∧ Ext ρ n h w ρ' n' h' w'

section
variable {lim : Nat} {P : Program} {ρ : Rho} {n : Nat → Prop} {h h' : AHeap} {w : World} {v : AVal}

theorem SemP.toV {s : Sem Value} (q : SemP P s ρ n w v) (sim : Sim lim ρ n h w) : SemV lim P s ρ n h w v h :=
  let ⟨x, hx, hv⟩ := q; ⟨ρ, n, w, x, hx, hv, sim, Ext.refl _ _ _ _⟩

theorem SemV.toN {s : Sem Value} (q : SemV lim P s ρ n h w v h') : SemN lim P (do pure (.value (← s))) ρ n h w v h' :=
  let ⟨ρ', n', w', x, hx, hv, hs, he⟩ := q
  ⟨ρ', n', w', .inl ⟨x, by simp only [Sem.run_bind, hx, Result.andThen_ok]; rfl, hv⟩, hs, he⟩

theorem SemN.ofPure {x : Value} (hv : VR ρ n v x) (sim : Sim lim ρ n h w) : SemN lim P (pure (.value x)) ρ n h w v h :=
  ⟨ρ, n, w, .inl ⟨x, rfl, hv⟩, sim, Ext.refl _ _ _ _⟩

theorem SemN.skip {s : Sem Unit} {ρ' : Rho} {n' : Nat → Prop} {w' : World} (hr : s.run P w = .ok () w') (hs : Sim lim ρ' n' h' w') (he : Ext ρ n h w ρ' n' h' w') :
    SemN lim P (do s; pure .skip) ρ n h w aundef h' :=
  ⟨ρ', n', w', .inr ⟨by simp only [Sem.run_bind, hr, Result.andThen_ok]; rfl, rfl⟩, hs, he⟩

/-! ### The tables -/
theorem uty_run {t : TypeId} {d : TypeDesc} (hu : uty P t = .ok d) (w : World) : (Go.underlying t).run P w = .ok d w := by
  have := opt_eq_ok.1 hu
  simp only [Go.underlying, Sem.run_bind]
  show Result.andThen (.ok P w) _ = _
  simp only [Result.andThen_ok, this]; rfl
theorem info_run {t : TypeId} {i : TypeInfo} (hi : P.info? t = some i) (w : World) : (Go.typeInfo t).run P w = .ok i w := by
  simp only [Go.typeInfo, Sem.run_bind]
  show Result.andThen (.ok P w) _ = _
  simp only [Result.andThen_ok, hi]; rfl
theorem tsize_run {t : TypeId} {n : Nat} (hu : tsize P t = .ok n) (w : World) : (Go.sizeOf t).run P w = .ok n w := by
  have := opt_eq_ok.1 hu
  rw [Option.map_eq_some_iff] at this
  obtain ⟨i, hi, rfl⟩ := this
  simp only [Go.sizeOf, Sem.run_bind, info_run hi, Result.andThen_ok]; rfl
theorem tbytes_info {t : TypeId} {n : Nat} (hu : tbytes P t = .ok n) : ∃ i, P.info? t = some i ∧ i.bytes = n := by
  have := opt_eq_ok.1 hu
  rwa [Option.map_eq_some_iff] at this
theorem tagg_run {t : TypeId} {b : Bool} (hu : tagg P t = .ok b) (w : World) : (Go.isAgg t).run P w = .ok b w := by
  unfold tagg at hu
  rw [bnd_eq_ok] at hu
  obtain ⟨d, hd, hu⟩ := hu
  injection hu with hu
  subst hu
  simp only [Go.isAgg, Sem.run_bind, uty_run hd, Result.andThen_ok]
  cases d <;> rfl
theorem tzero_run {t : TypeId} {z : AVal} (hu : tzero P t = .ok z) (w : World) : ∃ x, (Go.zeroValue t).run P w = .ok x w ∧ ∀ ρ n, VR ρ n z x := by
  unfold tzero at hu
  split at hu
  · rename_i x hx
    rw [Option.bind_eq_some_iff] at hx
    obtain ⟨i, hi, hz⟩ := hx
    refine ⟨x, ?_, fun ρ n => absV_VR ρ n _ _ _ hu⟩
    simp only [Go.zeroValue, Sem.run_bind, info_run hi, Result.andThen_ok, hz]; rfl
  · cases hu
theorem elemOfSlice_eq {t e : TypeId} (hu : elemOfSlice P t = .ok e) : uty P t = .ok (.slice e) := by
  unfold elemOfSlice at hu
  rw [bnd_eq_ok] at hu
  obtain ⟨d, hd, hu⟩ := hu
  cases d <;> simp at hu
  subst hu
  exact hd
theorem fieldsOf_eq {t : TypeId} {fs : Array Field} (hu : fieldsOf P t = .ok fs) : uty P t = .ok (.struct fs) := by
  unfold fieldsOf at hu
  rw [bnd_eq_ok] at hu
  obtain ⟨d, hd, hu⟩ := hu
  cases d <;> simp at hu
  subst hu
  exact hd
theorem fieldOf_eq {t : TypeId} {i : Nat} {f : Field} (hu : fieldOf P t i = .ok f) : ∃ fs, uty P t = .ok (.struct fs) ∧ fs[i]? = some f := by
  unfold fieldOf at hu
  rw [bnd_eq_ok] at hu
  obtain ⟨fs, hfs, hu⟩ := hu
  exact ⟨fs, fieldsOf_eq hfs, opt_eq_ok.1 hu⟩
theorem keyOf_eq {t : TypeId} {ke : TypeId × TypeId} (hu : keyOf P t = .ok ke) : uty P t = .ok (.map ke.1 ke.2) := by
  unfold keyOf at hu
  rw [bnd_eq_ok] at hu
  obtain ⟨d, hd, hu⟩ := hu
  cases d <;> simp at hu
  subst hu
  exact hd
theorem aggDesc_iff {t : TypeId} {b : Bool} {d : TypeDesc} (hu : tagg P t = .ok b) (hd : uty P t = .ok d) : aggDesc d = b := by
  unfold tagg at hu
  rw [hd] at hu
  simpa using hu

/-! ### Operands -/
theorem ev_VR {a : Act} {tm : Tm} (ht : TmR ρ n tm a.tmps) {x : Operand} {v : AVal} (hx : ev x tm = .ok v) : VR ρ n v (a.eval x) := by
  cases x with
  | tmp t => simp only [ev] at hx; injection hx with hx; subst hx; exact ht.get t
  | const c => exact absV_VR ρ n _ _ _ hx
  | global g => cases hx
  | func f => simp only [ev] at hx; injection hx with hx; subst hx; exact .func _ _ _ _ _ .nil .nil

theorem evs_cons (tm : Tm) (x : Operand) (l : List Operand) : evs tm (x :: l) = bnd (ev x tm) fun v => bnd (evs tm l) fun vs => .ok (v :: vs) := rfl

theorem evs_VR {a : Act} {tm : Tm} (ht : TmR ρ n tm a.tmps) : ∀ {l : List Operand} {vs : List AVal}, evs tm l = .ok vs → VRs ρ n vs (l.map a.eval)
  | [], vs, hx => by injection hx with hx; subst hx; exact .nil
  | x :: l, vs, hx => by
    rw [evs_cons, bnd_eq_ok] at hx
    obtain ⟨v, hv, hx⟩ := hx
    rw [bnd_eq_ok] at hx
    obtain ⟨us, hus, hx⟩ := hx
    injection hx with hx
    subst hx
    exact .cons _ _ _ _ (ev_VR ht hv) (evs_VR ht hus)

/-- Options of values. -/
def VRo (ρ : Rho) (n : Nat → Prop) : Option AVal → Option Value → Prop
  | none, none => True
  | some v, some x => VR ρ n v x
  | _, _ => False

theorem evo_VR {a : Act} {tm : Tm} (ht : TmR ρ n tm a.tmps) {x : Option Operand} {v : Option AVal} (hx : evo tm x = .ok v) : VRo ρ n v (x.map a.eval) := by
  cases x with
  | none => simp only [evo] at hx; injection hx with hx; subst hx; trivial
  | some x =>
    simp only [evo] at hx
    rw [bnd_eq_ok] at hx
    obtain ⟨v, hv, hx⟩ := hx
    injection hx with hx
    subst hx
    exact ev_VR ht hv

/-- Numbered values. -/
inductive VRps (ρ : Rho) (n : Nat → Prop) : List (Nat × AVal) → List (Nat × Value) → Prop
  | nil : VRps ρ n [] []
  | cons (i : Nat) (v : AVal) (x : Value) (vs : List (Nat × AVal)) (xs : List (Nat × Value)) (hv : VR ρ n v x) (hs : VRps ρ n vs xs) : VRps ρ n ((i, v) :: vs) ((i, x) :: xs)

theorem evps_VR {a : Act} {tm : Tm} (ht : TmR ρ n tm a.tmps) : ∀ {l : List (Nat × Operand)} {vs : List (Nat × AVal)}, evps tm l = .ok vs → VRps ρ n vs (l.map fun p => (p.1, a.eval p.2))
  | [], vs, hx => by simp only [evps] at hx; injection hx with hx; subst hx; exact .nil
  | p :: l, vs, hx => by
    simp only [evps] at hx
    rw [bnd_eq_ok] at hx
    obtain ⟨v, hv, hx⟩ := hx
    rw [bnd_eq_ok] at hx
    obtain ⟨us, hus, hx⟩ := hx
    injection hx with hx
    subst hx
    exact .cons _ _ _ _ _ (ev_VR ht hv) (evps_VR ht hus)

/-! ### Variables -/
theorem loadVar_sound {t : TypeId} {agg : Bool} {k : Nat} (ha : tagg P t = .ok agg) (hn : tsize P t = .ok k) {a : AVal} {x : Value} (hx : VR ρ n a x)
    (hl : loadVar agg k a h = .ok v) (s : Sim lim ρ n h w) : SemP P (Instr.loadAt t x) ρ n w v := by
  cases hx <;> simp only [loadVar] at hl <;> try contradiction
  rename_i b o hb
  cases agg with
  | true =>
    rw [sel_true, bnd_eq_ok] at hl
    obtain ⟨cs, hcs, hl⟩ := hl
    injection hl with hl
    subst hl
    obtain ⟨xs, hvs, hlen, hrun⟩ := loadCells_sound (P := P) hcs s
    refine ⟨.agg xs.toArray, ?_, .agg _ _ hvs⟩
    simp only [Instr.loadAt, Instr.sureAddr, Go.loadVar, Sem.run_bind, Sem.run_pure, Result.andThen_ok, tagg_run ha, if_true, tsize_run hn, hrun]
  | false =>
    rw [sel_false] at hl
    obtain ⟨y, hy, hv⟩ := loadIn_sound (b := b) hl s rfl
    refine ⟨y, ?_, hv⟩
    simp only [Instr.loadAt, Instr.sureAddr, Go.loadVar, Sem.run_bind, Sem.run_pure, Result.andThen_ok, tagg_run ha, Bool.false_eq_true, if_false, run_load]
    rw [hy]

theorem storeVar_sound {t : TypeId} {k : Nat} (hn : tsize P t = .ok k) {a : AVal} {x y : Value} (hx : VR ρ n a x) (hy : VR ρ n v y)
    (hl : storeVar k a v h = .ok h') (s : Sim lim ρ n h w) : SemN lim P (do Instr.storeAt t x y; pure .skip) ρ n h w aundef h' := by
  cases hx <;> simp only [storeVar] at hl <;> try contradiction
  rename_i b o hb
  rw [sel_eq_ok, beq_eq, decide_eq_true_eq] at hl
  obtain ⟨hlen, hl⟩ := hl
  have hcs := hy.cells
  obtain ⟨w', hrun, hs', he, _⟩ := storeCells_sound (P := P) (o := o) _ _ 0 hl s hcs
  refine SemN.skip ?_ hs' he
  have hl2 : y.cells.size = k := by have := hcs.length; simp at this; omega
  simp only [Instr.storeAt, Instr.sureAddr, Go.storeVar, Sem.run_bind, Sem.run_pure, Result.andThen_ok, tsize_run hn, hl2]
  simpa using hrun

/-! ### Plain reckonings -/
theorem okInt_eq {k : IntKind} {x : E Int} {v : AVal} (hx : okInt k x = .ok v) : ∃ n, x = .ok n ∧ v = .int k n := by
  unfold okInt at hx
  rw [bnd_eq_ok] at hx
  obtain ⟨n, hn, hx⟩ := hx
  injection hx with hx
  exact ⟨n, hn, hx.symm⟩

theorem iquo_eq {a b n : Int} (hq : iquo a b = .ok n) : b ≠ 0 ∧ n = a.tdiv b := by
  unfold iquo at hq
  split at hq
  · rename_i a b
    rw [sel_eq, beq_eq] at hq
    by_cases hb : b = 0
    · simp [hb] at hq
    · simp [hb] at hq
      subst hq
      exact ⟨by simpa using hb, rfl⟩
  · split at hq
    · cases hq
    · injection hq with hq
      exact ⟨by assumption, hq.symm⟩

theorem irem_eq {a b n : Int} (hq : irem a b = .ok n) : b ≠ 0 ∧ n = a.tmod b := by
  unfold irem at hq
  split at hq
  · rename_i a b
    rw [sel_eq, beq_eq] at hq
    by_cases hb : b = 0
    · simp [hb] at hq
    · simp [hb] at hq
      subst hq
      exact ⟨by simpa using hb, rfl⟩
  · split at hq
    · cases hq
    · injection hq with hq
      exact ⟨by assumption, hq.symm⟩

theorem bitsBig_run {op : BinOp} {k : IntKind} {a b n : Int} (hq : bitsBig op k a b = .ok n) : Op.intBits op k a b = Pure.pure (.int k n) := by
  cases op <;> simp only [bitsBig] at hq <;> first | cases hq; done | (injection hq with hq; rw [← hq]; rfl)

theorem toNat_ofInt_nat (n : Nat) (x : Nat) : (BitVec.ofInt n (x : Int)).toNat = x % 2 ^ n := by simp

theorem and_nat (n x y : Nat) : (BitVec.ofInt n (x : Int) &&& BitVec.ofInt n (y : Int)).toNat = (x % 2 ^ n) &&& (y % 2 ^ n) := by
  rw [BitVec.toNat_and, toNat_ofInt_nat, toNat_ofInt_nat]
theorem or_nat (n x y : Nat) : (BitVec.ofInt n (x : Int) ||| BitVec.ofInt n (y : Int)).toNat = (x % 2 ^ n) ||| (y % 2 ^ n) := by
  rw [BitVec.toNat_or, toNat_ofInt_nat, toNat_ofInt_nat]
theorem xor_nat (n x y : Nat) : (BitVec.ofInt n (x : Int) ^^^ BitVec.ofInt n (y : Int)).toNat = (x % 2 ^ n) ^^^ (y % 2 ^ n) := by
  rw [BitVec.toNat_xor, toNat_ofInt_nat, toNat_ofInt_nat]
theorem wrap_small {k : IntKind} {n : Nat} (hk : k.signed = false) (hn : n < 2 ^ k.bits) : k.wrap (n : Int) = n := by
  unfold IntKind.wrap
  simp only [hk, Bool.false_and, Bool.false_eq_true, if_false]
  have : (2 ^ k.bits : Int) = ((2 ^ k.bits : Nat) : Int) := by simp
  rw [this, ← Int.natCast_emod, Nat.mod_eq_of_lt hn]

theorem bitsOp_big {op : BinOp} {k : IntKind} {a b n : Int} (hq : bitsOp op k a b = .ok n) : bitsBig op k a b = .ok n := by
  unfold bitsOp at hq
  split at hq
  · rename_i x y
    injection hq with hq
    subst hq
    have e := and_nat 32 x y
    have l : (x % 2 ^ 32) &&& (y % 2 ^ 32) < 2 ^ 32 := Nat.lt_of_le_of_lt Nat.and_le_left (Nat.mod_lt _ (by decide))
    show Except.ok (IntKind.u32.wrap ((BitVec.ofInt 32 (x : Int) &&& BitVec.ofInt 32 (y : Int)).toNat : Int)) = _
    rw [e, wrap_small rfl l]
    rfl
  · rename_i x y
    injection hq with hq
    subst hq
    have e := xor_nat 32 x y
    have l : (x % 2 ^ 32) ^^^ (y % 2 ^ 32) < 2 ^ 32 := Nat.xor_lt_two_pow (Nat.mod_lt _ (by decide)) (Nat.mod_lt _ (by decide))
    show Except.ok (IntKind.u32.wrap ((BitVec.ofInt 32 (x : Int) ^^^ BitVec.ofInt 32 (y : Int)).toNat : Int)) = _
    rw [e, wrap_small rfl l]
    rfl
  · rename_i x y
    injection hq with hq
    subst hq
    have e := or_nat 64 x y
    have l : (x % 2 ^ 64) ||| (y % 2 ^ 64) < 2 ^ 64 := Nat.or_lt_two_pow (Nat.mod_lt _ (by decide)) (Nat.mod_lt _ (by decide))
    show Except.ok (IntKind.u64.wrap ((BitVec.ofInt 64 (x : Int) ||| BitVec.ofInt 64 (y : Int)).toNat : Int)) = _
    rw [e, wrap_small rfl l]
    rfl
  · exact hq

theorem shiftOp_run {op : BinOp} {k k' : IntKind} {a b : Int} {v : AVal} (hq : shiftOp op k a b = .ok v) : ∃ n, v = .int k n ∧ Op.shift op k a k' b = Pure.pure (.int k n) := by
  unfold shiftOp at hq
  cases b with
  | negSucc b => cases hq
  | ofNat b =>
    have hb : ¬ (Int.ofNat b : Int) < 0 := by simp
    simp only at hq
    cases op <;> simp only at hq <;> try contradiction
    · injection hq with hq
      subst hq
      refine ⟨_, rfl, ?_⟩
      simp only [Op.shift, if_neg hb, wrapK_eq, imul_eq]
      have : (Int.ofNat (Nat.pow 2 (min b k.bits)) : Int) = 2 ^ (min b k.bits) := by
        show ((2 ^ (min b k.bits) : Nat) : Int) = _
        simp
      rw [this]; rfl
    · cases a with
      | ofNat a =>
        simp only at hq
        injection hq with hq
        subst hq
        refine ⟨_, rfl, ?_⟩
        simp only [Op.shift, if_neg hb]
        congr 3
        show Int.fdiv (a : Int) (2 ^ (min b k.bits)) = _
        have : (2 ^ (min b k.bits) : Int) = ((2 ^ (min b k.bits) : Nat) : Int) := by simp
        rw [this, Int.fdiv_eq_ediv_of_nonneg _ (Int.natCast_nonneg _)]
        rfl
      | negSucc a =>
        simp only at hq
        injection hq with hq
        subst hq
        exact ⟨_, rfl, by simp only [Op.shift, if_neg hb]; rfl⟩
end
end Go.AM
