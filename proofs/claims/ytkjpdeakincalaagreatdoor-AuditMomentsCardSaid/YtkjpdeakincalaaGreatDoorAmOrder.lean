/- What the plan's check says. -/
import Derived.Test.YtkjpdeakincalaaGreatDoorAmPlan
set_option linter.unusedVariables false
namespace Go.AM
section
variable {P : Program} {call : CallF} {ops : Array Oper} {anc : T Nat}

/-! ### The order is fit -/
theorem testBit_lor_pow (s i j : Nat) : (Nat.lor s (2 ^ i)).testBit j = (s.testBit j || decide (i = j)) := by
  show (s ||| 2 ^ i).testBit j = _
  rw [Nat.testBit_or, Nat.testBit_two_pow]

theorem readyIn_spec {seen : Nat} {o : Oper} (h : readyIn seen o = true) : ∀ e ∈ o.after, Region.binds .any e = true → seen.testBit e.on = true := by
  intro e he hb
  have := Array.all_eq_true_iff_forall_mem.1 h e he
  simpa [hb] using this

structure Fit (P : Program) (ops : Array Oper) (anc : T Nat) (l : List (Oper × Nat)) (seen : Nat) : Prop where
  unseen : ∀ p ∈ l, seen.testBit p.2 = false
  pairs : l.Pairwise fun p q => p.2 ≠ q.2 ∧ pairOk P ops anc p q = true
  ready : ∀ L p R, l = L ++ p :: R → ∀ e ∈ p.1.after, Region.binds .any e = true → seen.testBit e.on = true ∨ ∃ q ∈ L, q.2 = e.on
  all : ∀ i, i < ops.size → seen.testBit i = true ∨ ∃ q ∈ l, q.2 = i

theorem orderOk_fit : ∀ (l : List (Oper × Nat)) (seen : Nat), orderOk P ops anc l seen = true → Fit P ops anc l seen
  | [], seen, h => by
    refine ⟨by simp, .nil, fun L p R e => by simp at e, fun i hi => .inl ?_⟩
    simp only [orderOk, beq_eq, decide_eq_true_eq] at h
    rw [h, Nat.testBit_two_pow_sub_one]
    simpa using hi
  | p :: l, seen, h => by
    simp only [orderOk, Bool.and_eq_true, Bool.not_eq_true'] at h
    obtain ⟨⟨⟨h1, h2⟩, h3⟩, h4⟩ := h
    have f := orderOk_fit l _ h4
    have hne : ∀ q ∈ l, p.2 ≠ q.2 ∧ seen.testBit q.2 = false := by
      intro q hq
      have := f.unseen q hq
      rw [testBit_lor_pow, Bool.or_eq_false_iff, decide_eq_false_iff_not] at this
      exact ⟨this.2, this.1⟩
    refine ⟨?_, ?_, ?_, ?_⟩
    · intro q hq
      rcases List.mem_cons.1 hq with rfl | hq
      · exact h1
      · exact (hne q hq).2
    · exact .cons (fun q hq => ⟨(hne q hq).1, List.all_eq_true.1 h3 q hq⟩) f.pairs
    · intro L q R e x hx hb
      cases L with
      | nil =>
        injection e with e _
        subst e
        exact .inl (readyIn_spec h2 x hx hb)
      | cons y L =>
        injection e with e1 e2
        subst e1
        rcases f.ready L q R e2 x hx hb with h | ⟨z, hz, h⟩
        · rw [testBit_lor_pow, Bool.or_eq_true, decide_eq_true_eq] at h
          rcases h with h | h
          · exact .inl h
          · exact .inr ⟨p, by simp, h⟩
        · exact .inr ⟨z, by simp [hz], h⟩
    · intro i hi
      rcases f.all i hi with h | ⟨z, hz, h⟩
      · rw [testBit_lor_pow, Bool.or_eq_true, decide_eq_true_eq] at h
        rcases h with h | h
        · exact .inl h
        · exact .inr ⟨p, by simp, h⟩
      · exact .inr ⟨z, by simp [hz], h⟩

theorem pickIn_mem {seen : Nat} : ∀ (l : List (Oper × Nat)) (best : Option (Oper × Nat)) (p : Oper × Nat), pickIn P seen l best = some p → p ∈ l ∨ best = some p
  | [], best, p, h => .inr h
  | q :: l, best, p, h => by
    simp only [pickIn, sel_eq] at h
    split at h
    · split at h
      · rcases pickIn_mem l _ p h with h | h
        · exact .inl (by simp [h])
        · cases best with
          | none => simp at h; exact .inl (by simp [h])
          | some b => exact .inr h
      · injection h with h
        exact .inl (by simp [h])
    · rcases pickIn_mem l _ p h with h | h
      · exact .inl (by simp [h])
      · exact .inr h

theorem orderIn_mem : ∀ (f : Nat) (l : List (Oper × Nat)) (seen : Nat) (p : Oper × Nat), p ∈ orderIn P f l seen → p ∈ l
  | 0, l, seen, p, h => by cases h
  | f + 1, l, seen, p, h => by
    simp only [orderIn] at h
    cases hq : pickIn P seen l none with
    | none => rw [hq] at h; cases h
    | some q =>
      rw [hq] at h
      rcases List.mem_cons.1 h with rfl | h
      · exact (pickIn_mem l none p hq).resolve_right (by simp)
      · exact (List.mem_filter.1 (orderIn_mem f _ _ p h)).1

theorem orderOf_mem {p : Oper × Nat} (h : p ∈ orderOf P ops) : ops[p.2]? = some p.1 := by
  have := orderIn_mem _ _ _ _ h
  have := List.mem_zipIdx' (x := p.1) (i := p.2) this
  rw [Array.getElem?_eq_some_iff]
  exact ⟨by simpa using this.1, by simpa using this.2.symm⟩

/-! ### Whom each waits for -/
theorem ancOf_bit {acc : T Nat} {o : Oper} {i : Nat} (h : (ancOf acc o).testBit i = true) :
    ∃ e ∈ o.after, Region.binds .any e = true ∧ (i = e.on ∨ ((T.get acc e.on).getD 0).testBit i = true) := by
  unfold ancOf at h
  have key : ∀ (l : List Edge) (s : Nat), (l.foldl (fun s e => sel (Region.binds .any e) (s ||| (2 ^ e.on ||| (T.get acc e.on).getD 0)) s) s).testBit i = true →
      s.testBit i = true ∨ ∃ e ∈ l, Region.binds .any e = true ∧ (i = e.on ∨ ((T.get acc e.on).getD 0).testBit i = true) := by
    intro l
    induction l with
    | nil => intro s h; exact .inl h
    | cons e l ih =>
      intro s h
      rw [List.foldl_cons] at h
      rcases ih _ h with h | ⟨e', he', hb, h⟩
      · rw [sel_eq] at h
        split at h
        · rename_i hb
          rw [Nat.testBit_or, Nat.testBit_or, Nat.testBit_two_pow, Bool.or_eq_true, Bool.or_eq_true, decide_eq_true_eq] at h
          rcases h with h | h | h
          · exact .inl h
          · exact .inr ⟨e, by simp, hb, .inl h.symm⟩
          · exact .inr ⟨e, by simp, hb, .inr h⟩
        · exact .inl h
      · exact .inr ⟨e', by simp [he'], hb, h⟩
  rcases key _ _ h with h | ⟨e, he, hb, h⟩
  · simp at h
  · exact ⟨e, by simpa using he, hb, h⟩

/-- All that an operation waits for is done. -/
def Rdy (D : Nat → Bool) (o : Oper) : Prop := ∀ e ∈ o.after, Region.binds .any e = true → D e.on = true

theorem ancsIn_done {D : Nat → Bool} (dc : ∀ i o, ops[i]? = some o → D i = true → Rdy D o) :
    ∀ (l : List (Oper × Nat)) (acc : T Nat), (∀ p ∈ l, ops[p.2]? = some p.1) →
    (∀ j m, T.get acc j = some m → ∀ o, ops[j]? = some o → Rdy D o → ∀ i, m.testBit i = true → D i = true) → (∀ j m, T.get acc j = some m → ∃ o, ops[j]? = some o) →
    ∀ j m, T.get (ancsIn l acc) j = some m → ∀ o, ops[j]? = some o → Rdy D o → ∀ i, m.testBit i = true → D i = true
  | [], acc, _, hacc, _ => hacc
  | p :: l, acc, hl, hacc, hin => by
    refine ancsIn_done dc l _ (fun q hq => hl q (by simp [hq])) ?_ ?_
    · intro j m hj o ho hr i hi
      rw [T.get_set] at hj
      by_cases e : j = p.2
      · rw [if_pos e] at hj
        injection hj with hj
        subst hj; subst e
        have e1 : p.1 = o := by
          have := hl p (by simp)
          rw [this] at ho
          injection ho
        obtain ⟨x, hx, hb, h⟩ := ancOf_bit hi
        have hx' : x ∈ o.after := by rw [← e1]; exact hx
        have hd := hr x hx' hb
        rcases h with rfl | h
        · exact hd
        · cases hm : T.get acc x.on with
          | none => rw [hm] at h; simp at h
          | some m =>
            rw [hm] at h
            obtain ⟨o2, ho2⟩ := hin _ _ hm
            exact hacc _ _ hm o2 ho2 (dc _ _ ho2 hd) i h
      · rw [if_neg e] at hj
        exact hacc j m hj o ho hr i hi
    · intro j m hj
      rw [T.get_set] at hj
      by_cases e : j = p.2
      · subst e; exact ⟨_, hl p (by simp)⟩
      · rw [if_neg e] at hj; exact hin j m hj

theorem waitsFor_done {D : Nat → Bool} (dc : ∀ i o, ops[i]? = some o → D i = true → Rdy D o) {l : List (Oper × Nat)} (hl : ∀ p ∈ l, ops[p.2]? = some p.1)
    {j i : Nat} {o : Oper} (ho : ops[j]? = some o) (hr : Rdy D o) (hw : waitsFor (ancsIn l .leaf) j i = true) : D i = true := by
  unfold waitsFor at hw
  cases hm : T.get (ancsIn l .leaf) j with
  | none => rw [hm] at hw; simp at hw
  | some m =>
    rw [hm] at hw
    exact ancsIn_done dc l .leaf hl (fun j m h => by cases h) (fun j m h => by cases h) j m hm o ho hr i hw

/-! ### The run along the plan -/
structure Trace (P : Program) (call : CallF) (ops : Array Oper) (tr : List Stp) (d d' : Drawn) : Prop where
  chain : Chain P call ops tr d.tm d.heap d'.tm d'.heap
  evs : d'.evs = d.evs ++ (tr.filter Stp.hard).map (·.i)
  hs : d'.hs = d.hs ++ (tr.filter Stp.hard).map (·.h')
  msOld : ∀ m ∈ d.ms, m ∈ d'.ms
  ms : ∀ m ∈ d'.ms, m ∈ d.ms ∨ ∃ x ∈ tr, x.hard = false ∧ x.i = m.i ∧ x.h.next = m.id ∧ x.h.next < x.h'.next ∧ x.h'.get m.id = some m.o
  msAll : ∀ x ∈ tr, x.hard = false → x.h' ≠ x.h → ∃ m ∈ d'.ms, m.i = x.i
  csOld : ∀ c ∈ d.cs, c ∈ d'.cs
  cs : ∀ x ∈ tr, x.hard = false → isAlloc P x.o.op = false → ⟨x.o, x.i, x.tm, x.v⟩ ∈ d'.cs

theorem madeOf_spec {i id : Nat} {h : AHeap} {m : Mad} (hm : m ∈ madeOf i id h) : m.i = i ∧ m.id = id ∧ id < h.next ∧ h.get id = some m.o := by
  unfold madeOf at hm
  rw [sel_eq, blt_eq] at hm
  split at hm
  · rename_i hlt
    cases hg : h.get id with
    | none => rw [hg] at hm; cases hm
    | some o =>
      rw [hg] at hm
      rw [List.mem_singleton] at hm
      subst hm
      exact ⟨rfl, rfl, by simpa using hlt, rfl⟩
  · cases hm

theorem madeOf_new {i : Nat} {h : AHeap} {o : AObj} : (⟨i, h.next, o⟩ : Mad) ∈ madeOf i h.next (h.new o) := by
  unfold madeOf
  rw [sel_eq, blt_eq, if_pos (by simp), AHeap.get_new, if_pos rfl]
  simp

theorem drawStep_spec {p : Oper × Nat} {d d' : Drawn} (hq : drawStep P call ops p d = .ok d') :
    ∃ x : Stp, x.o = p.1 ∧ x.i = p.2 ∧ Trace P call ops [x] d d' := by
  unfold drawStep at hq
  obtain ⟨r, hr, hq⟩ := bnd_eq_ok.1 hq
  refine ⟨⟨p.1, p.2, d.tm, d.heap, r.1, r.2⟩, rfl, rfl, ?_⟩
  rw [sel_eq, sel_eq] at hq
  by_cases hh : isHard p.1.op = true
  · rw [if_pos hh] at hq
    injection hq with hq
    subst hq
    have hx : Stp.hard ⟨p.1, p.2, d.tm, d.heap, r.1, r.2⟩ = true := hh
    refine ⟨⟨rfl, rfl, hr, rfl, rfl⟩, by simp [hx], by simp [hx], fun m hm => hm, fun m hm => .inl hm, ?_, fun c hc => hc, ?_⟩
    · intro x hm hne; rw [List.mem_singleton] at hm; subst hm; rw [hx] at hne; cases hne
    · intro x hm hne; rw [List.mem_singleton] at hm; subst hm; rw [hx] at hne; cases hne
  · have hh : isHard p.1.op = false := by simpa using hh
    rw [if_neg (by simp [hh])] at hq
    have hx : Stp.hard ⟨p.1, p.2, d.tm, d.heap, r.1, r.2⟩ = false := hh
    by_cases hal : isAlloc P p.1.op = true
    · rw [if_pos hal] at hq
      injection hq with hq
      subst hq
      refine ⟨⟨rfl, rfl, hr, rfl, rfl⟩, by simp [hx], by simp [hx], fun m hm => by simp [hm], ?_, ?_, fun c hc => hc, ?_⟩
      · intro m hm
        rcases List.mem_append.1 hm with hm | hm
        · exact .inl hm
        · obtain ⟨h1, h2, h3, h4⟩ := madeOf_spec hm
          exact .inr ⟨_, by simp, hx, h1.symm, h2.symm, h3, by rw [h2]; exact h4⟩
      · intro x hm _ hne
        rw [List.mem_singleton] at hm
        subst hm
        rcases one_soft hh hr with e | ⟨_, obj, e⟩
        · exact absurd e hne
        · refine ⟨⟨p.2, d.heap.next, obj⟩, ?_, rfl⟩
          refine List.mem_append.2 (.inr ?_)
          rw [e]
          exact madeOf_new
      · intro x hm _ hna
        rw [List.mem_singleton] at hm
        subst hm
        rw [hal] at hna
        cases hna
    · have hal : isAlloc P p.1.op = false := by simpa using hal
      rw [if_neg (by simp [hal])] at hq
      injection hq with hq
      subst hq
      have e : r.2 = d.heap := by
        rcases one_soft hh hr with e | ⟨hal', _⟩
        · exact e
        · rw [hal] at hal'; cases hal'
      refine ⟨⟨rfl, rfl, hr, rfl, e.symm⟩, by simp [hx], by simp [hx], fun m hm => hm, fun m hm => .inl hm, ?_, fun c hc => by simp [hc], ?_⟩
      · intro x hm _ hne
        rw [List.mem_singleton] at hm
        subst hm
        exact absurd e hne
      · intro x hm _ _
        rw [List.mem_singleton] at hm
        subst hm
        simp

theorem drawRun_spec : ∀ (l : List (Oper × Nat)) {d d' : Drawn}, drawRun P call ops l d = .ok d' → ∃ tr : List Stp, tr.map (fun x => (x.o, x.i)) = l ∧ Trace P call ops tr d d'
  | [], d, d', hq => by
    injection hq with hq
    subst hq
    exact ⟨[], rfl, ⟨rfl, rfl⟩, by simp, by simp, fun m hm => hm, fun m hm => .inl hm, by simp, fun c hc => hc, by simp⟩
  | p :: l, d, d', hq => by
    unfold drawRun at hq
    obtain ⟨d1, h1, hq⟩ := bnd_eq_ok.1 hq
    obtain ⟨x, e1, e2, t1⟩ := drawStep_spec h1
    obtain ⟨tr, e3, t2⟩ := drawRun_spec l hq
    refine ⟨x :: tr, by simp [e1, e2, e3], ?_⟩
    refine ⟨Chain.append (l1 := [x]).2 ⟨_, _, t1.chain, t2.chain⟩, ?_, ?_, fun m hm => t2.msOld m (t1.msOld m hm), ?_, ?_, fun c hc => t2.csOld c (t1.csOld c hc), ?_⟩
    · rw [t2.evs, t1.evs, List.append_assoc, ← List.map_append, ← List.filter_append]; rfl
    · rw [t2.hs, t1.hs, List.append_assoc, ← List.map_append, ← List.filter_append]; rfl
    · intro m hm
      rcases t2.ms m hm with hm | ⟨y, hy, h⟩
      · rcases t1.ms m hm with hm | ⟨y, hy, h⟩
        · exact .inl hm
        · rw [List.mem_singleton] at hy; subst hy; exact .inr ⟨y, by simp, h⟩
      · exact .inr ⟨y, by simp [hy], h⟩
    · intro y hy hh hne
      rcases List.mem_cons.1 hy with rfl | hy
      · obtain ⟨m, hm, e⟩ := t1.msAll y (by simp) hh hne
        exact ⟨m, t2.msOld m hm, e⟩
      · exact t2.msAll y hy hh hne
    · intro y hy hh hne
      rcases List.mem_cons.1 hy with rfl | hy
      · exact t2.csOld _ (t1.cs y (by simp) hh hne)
      · exact t2.cs y hy hh hne
end
end Go.AM
