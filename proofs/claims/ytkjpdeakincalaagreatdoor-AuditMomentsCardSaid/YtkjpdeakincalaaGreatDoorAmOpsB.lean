/- Operations, second part: equality, operators. -/
import Derived.Test.YtkjpdeakincalaaGreatDoorAmOpsA
import Derived.Laws.StructEq
namespace Go.AM

theorem strEq_nil_nil : strEq [] [] = true := rfl
theorem strEq_eq : ∀ (x y : List UInt8), strEq x y = decide (x = y)
  | [], [] => rfl
  | [], _ :: _ => by simp; rfl
  | _ :: _, [] => by simp; rfl
  | a :: x, b :: y => by
    show sel (Nat.beq a.toNat b.toNat) (strEq x y) false = _
    rw [sel_eq, beq_eq, strEq_eq x y]
    by_cases h : a = b
    · subst h; simp
    · have : ¬ a.toNat = b.toNat := fun e => h (UInt8.toNat_inj.1 e)
      simp [h, this]

theorem strEq_beq (x y : List UInt8) : strEq x y = (x == y) := by
  rw [strEq_eq]
  cases h : (x == y) with
  | true => simpa using h
  | false => simpa using h

theorem strLess_eq : ∀ (x y : List UInt8), strLess x y = Op.bytesLess x y
  | _, [] => by rename_i x; cases x <;> rfl
  | [], _ :: _ => rfl
  | a :: x, b :: y => by
    simp only [strLess, Op.bytesLess, strLess_eq x y, blt_eq, beq_eq]
    congr 1
    congr 1
    by_cases h : a = b
    · subst h; simp
    · have : ¬ a.toNat = b.toNat := fun e => h (UInt8.toNat_inj.1 e)
      simp [h, this]

section
variable {lim : Nat} {P : Program} {ρ : Rho} {n : Nat → Prop} {h : AHeap} {w : World}

/-- A row that is plain: its place, that nothing of it is frozen. -/
theorem plainRow_sound (s : Sim lim ρ n h w) {b : Nat} (hb : plainRow (h.get b) = true) : ∃ cs e fr, w.heap[(ρ b).id]? = some (.cells cs e fr) ∧ thawed fr ∧ ∃ o, h.get b = some o := by
  cases ho : h.get b with
  | none => rw [ho] at hb; cases hb
  | some o =>
    obtain ⟨y, hy, hr⟩ := s.obj b o ho
    cases hr with
    | cells e k zs t cs fr hk hc hf => exact ⟨cs, e, fr, hy, hf, _, rfl⟩
    | _ => rw [ho] at hb; cases hb

theorem thawed_frozen {b o : Nat} {cs : Array Value} {e : TypeId} {fr : Nat × Nat} (hy : w.heap[b]? = some (.cells cs e fr)) (hf : thawed fr) :
    w.frozen? ⟨b, o, none⟩ = false := by
  simp only [World.frozen?, hy, thawed] at hf ⊢
  simp; omega

theorem eqAddr_sound (s : Sim lim ρ n h w) {a b i j : Nat} (ha : plainRow (h.get a) = true) (hb : plainRow (h.get b) = true) :
    (sameAddr ⟨(ρ a).id, i, none⟩ ⟨(ρ b).id, j, none⟩).run P w = .ok (Nat.beq a b && Nat.beq i j) w := by
  obtain ⟨cs, e, fr, hy, hf, oa, hoa⟩ := plainRow_sound s ha
  obtain ⟨cs', e', fr', hy', hf', ob, hob⟩ := plainRow_sound s hb
  rw [beq_eq, beq_eq]
  by_cases hab : a = b
  · subst hab
    simp [sameAddr]
    by_cases hij : i = j
    · subst hij; simp
    · simp [hij]
  · have hid : (ρ a).id ≠ (ρ b).id := fun e => hab (s.inj _ _ _ _ hoa hob e)
    simp only [sameAddr, beq_iff_eq, hid, if_false, hab, decide_false, Bool.false_and, Sem.run_bind, Go.frozen, Sem.run, thawed_frozen hy hf, thawed_frozen hy' hf', Result.andThen_ok,
      Bool.false_eq_true, noView, viewAt, Go.shape, World.shape?, hy, hy', Option.isSome_some, if_true, Sem.run_pure, Option.isSome_none, mayBeOne, stringish, Bool.false_or, Bool.or_false]

theorem part_sound {t : TypeId} {cs : List AVal} {xs : List Value} {off : Nat} {v : AVal} (hp : part P t cs off = .ok v) (hv : VRs ρ n cs xs) :
    ∃ x, (Go.part t xs.toArray off).run P w = .ok x w ∧ VR ρ n v x := by
  unfold part at hp
  rw [bnd_eq_ok] at hp
  obtain ⟨agg, ha, hp⟩ := hp
  cases agg with
  | true =>
    rw [sel_true, bnd_eq_ok] at hp
    obtain ⟨k, hk, hp⟩ := hp
    injection hp with hp
    subst hp
    refine ⟨.agg ((xs.drop off).take k).toArray, ?_, .agg _ _ ((hv.drop off).take k)⟩
    simp only [Go.part, Sem.run_bind, tagg_run ha, Result.andThen_ok, if_true, tsize_run hk, Sem.run_pure]
    congr 2
    apply Array.ext'
    simp [List.take_drop]
  | false =>
    rw [sel_false] at hp
    obtain ⟨x, hx, hvx⟩ := hv.get off v (opt_eq_ok.1 hp)
    refine ⟨x, ?_, hvx⟩
    simp only [Go.part, Sem.run_bind, tagg_run ha, Result.andThen_ok, Bool.false_eq_true, if_false]
    have : xs.toArray[off]? = some x := by simpa using hx
    simp [this]

theorem allE_cons {α : Type} (f : α → E Bool) (a : α) (l : List α) : allE f (a :: l) = bnd (f a) fun b => sel b (allE f l) (.ok false) := rfl

theorem int_beq (a b : Int) : (a == b) = ieq a b := by
  rw [ieq_eq]
  cases h : (a == b) with
  | true => symm; simpa using h
  | false => symm; simpa using h

theorem equal_sound (s : Sim lim ρ n h w) : ∀ (d : Nat) (t : TypeId) (x y : AVal) (x' y' : Value) (b : Bool), equal P d t x y h = .ok b → VR ρ n x x' → VR ρ n y y' →
    (Op.equalIn d t x' y').run P w = .ok b w := by
  intro d
  induction d with
  | zero => intro t x y x' y' b he; cases he
  | succ d ih =>
    intro t x y x' y' b he hx hy
    unfold equal at he
    rw [bnd_eq_ok] at he
    obtain ⟨u, hu, he⟩ := he
    have hur := fun w => uty_run hu w
    have hpu : P.underlying t = some u := opt_eq_ok.1 hu
    split at he
    all_goals try contradiction
    all_goals cases hx
    all_goals cases hy
    all_goals try (injection he with he; subst he)
    case h_1 => simp only [Op.equalIn, Sem.run_bind, hur, Result.andThen_ok]; rfl
    case h_2 =>
      rename_i k a k' c
      rw [sel_eq_ok, kindEq_eq, decide_eq_true_eq] at he
      obtain ⟨rfl, he⟩ := he
      injection he with he
      subst he
      simp only [Op.equalIn, Sem.run_bind, hur, Result.andThen_ok, if_true, ← int_beq]; rfl
    case h_3 =>
      rename_i a c
      rw [run_equalIn_string w d t _ _ hpu]
      simp [strEq_beq]
    case h_7 =>
      rename_i e a i c j h1 h2
      rw [bnd_eq_ok] at he
      obtain ⟨k, hk, he⟩ := he
      rw [sel_eq_ok] at he
      obtain ⟨hc, he⟩ := he
      injection he with he
      subst he
      simp only [Bool.and_eq_true, beq_eq, Bool.not_eq_true', decide_eq_false_iff_not] at hc
      have := eqAddr_sound (P := P) s (i := i) (j := j) hc.1.1 hc.1.2
      simp only [Op.equalIn, Sem.run_bind, hur, Result.andThen_ok, tsize_run hk, Sem.run_ite, ne_eq, hc.2, not_false_eq_true, if_true]
      exact this
    case h_11 =>
      rename_i fields xs ys xs' hxs ys' hys
      rw [sel_eq] at he
      split at he
      · cases he
      · rename_i hst
        have hst' : P.stoodInHeld t = false := by simpa using hst
        have hpu' : P.underlying t = some (.struct (P.fieldsOf t)) := by simp [Program.fieldsOf, hpu]
        rw [run_equalIn_struct w d t _ _ hpu' hst']
        have hf : P.fieldsOf t = fields := by simp [Program.fieldsOf, hpu]
        rw [hf]
        clear hpu' hf hpu hur hu
        generalize fields.toList = fs at he ⊢
        induction fs generalizing b with
        | nil => injection he with he; subst he; simp [Op.eqFields]
        | cons f fs ihf =>
          rw [allE_cons, bnd_eq_ok] at he
          obtain ⟨c, hc, he⟩ := he
          rw [sel_eq] at hc
          simp only [Op.eqFields]
          by_cases hn : f.name = "_"
          · have : (f.name == "_") = true := by simpa using hn
            rw [this, if_pos rfl] at hc
            injection hc with hc
            subst hc
            rw [sel_true] at he
            rw [if_neg (by simpa using hn)]
            exact ihf _ he
          · have : (f.name == "_") = false := by simpa using hn
            rw [this, if_neg Bool.false_ne_true, bnd_eq_ok] at hc
            obtain ⟨a, ha, hc⟩ := hc
            rw [bnd_eq_ok] at hc
            obtain ⟨a2, ha2, hc⟩ := hc
            obtain ⟨p1, hp1, hv1⟩ := part_sound (w := w) ha hxs
            obtain ⟨p2, hp2, hv2⟩ := part_sound (w := w) ha2 hys
            rw [if_pos (by simpa using hn)]
            simp only [Sem.run_bind, hp1, hp2, Result.andThen_ok, ih _ _ _ _ _ _ hc hv1 hv2]
            cases c with
            | true => rw [sel_true] at he; simpa using ihf _ he
            | false => rw [sel_false] at he; injection he with he; subst he; simp
    case h_12 =>
      rename_i len elem xs ys xs' hxs ys' hys
      rw [bnd_eq_ok] at he
      obtain ⟨k, hk, he⟩ := he
      simp only [Op.equalIn, Sem.run_bind, hur, Result.andThen_ok, tsize_run hk]
      rw [Std.Legacy.Range.forIn_eq_forIn_range']
      simp only [Std.Legacy.Range.size, Nat.sub_zero, Nat.add_sub_cancel, Nat.div_one]
      rw [← List.range_eq_range']
      generalize List.range len = l at he ⊢
      induction l generalizing b with
      | nil => injection he with he; subst he; simp
      | cons i l ihl =>
        rw [allE_cons, bnd_eq_ok] at he
        obtain ⟨c, hc, he⟩ := he
        rw [bnd_eq_ok] at hc
        obtain ⟨a, ha, hc⟩ := hc
        rw [bnd_eq_ok] at hc
        obtain ⟨a2, ha2, hc⟩ := hc
        obtain ⟨p1, hp1, hv1⟩ := part_sound (w := w) ha hxs
        obtain ⟨p2, hp2, hv2⟩ := part_sound (w := w) ha2 hys
        simp only [List.forIn_cons, Sem.run_bind, hp1, hp2, Result.andThen_ok, ih _ _ _ _ _ _ hc hv1 hv2]
        cases c with
        | true => rw [sel_true] at he; simpa using ihl _ he
        | false => rw [sel_false] at he; injection he with he; subst he; simp
    all_goals (simp only [Op.equalIn, Sem.run_bind, hur, Result.andThen_ok]; rfl)
end
end Go.AM
