/- A region whose order is open: in whatever order it is gone through, what comes of it is what comes of the plan. -/
import Derived.Test.YtkjpdeakincalaaGreatDoorAmOrder
set_option linter.unusedVariables false
namespace Go.AM

/-! ### Memory as a relation -/
structure SimR (ρ : Rho) (S : Nat → Prop) (G : Nat → AObj → Prop) (w : World) : Prop where
  dom : ∀ b o, G b o → S b
  obj : ∀ b o, G b o → ∃ x, w.heap[(ρ b).id]? = some x ∧ ObjR ρ S b o x
  inj : ∀ b b' o o', G b o → G b' o' → (ρ b).id = (ρ b').id → b = b'

def ImR (ρ : Rho) (G : Nat → AObj → Prop) (k : Nat) : Prop := ∃ b o, G b o ∧ (ρ b).id = k

structure ExtR (ρ : Rho) (S : Nat → Prop) (G : Nat → AObj → Prop) (w : World) (ρ' : Rho) (S' : Nat → Prop) (G' : Nat → AObj → Prop) (w' : World) : Prop where
  agree : Agree S ρ ρ'
  sub : Sub S S'
  os : w'.os = w.os
  tape : w'.tape = w.tape
  output : w'.output = w.output
  size : w.heap.size ≤ w'.heap.size
  kept : ∀ k, k < w.heap.size → ¬ ImR ρ G k → w'.heap[k]? = w.heap[k]?
  old : ∀ k, k < w.heap.size → ImR ρ' G' k → ImR ρ G k

theorem ExtR.trans {ρ ρ1 ρ2 : Rho} {n n1 n2 : Nat → Prop} {h h1 h2 : Nat → AObj → Prop} {w w1 w2 : World} (a : ExtR ρ n h w ρ1 n1 h1 w1) (b : ExtR ρ1 n1 h1 w1 ρ2 n2 h2 w2) : ExtR ρ n h w ρ2 n2 h2 w2 :=
  ⟨fun x hx => (b.agree x (a.sub x hx)).trans (a.agree x hx), fun x hx => b.sub x (a.sub x hx), b.os.trans a.os, b.tape.trans a.tape, b.output.trans a.output,
    Nat.le_trans a.size b.size,
    fun k hk hn => (b.kept k (Nat.lt_of_lt_of_le hk a.size) fun i => hn (a.old k hk i)).trans (a.kept k hk hn),
    fun k hk i => a.old k hk (b.old k (Nat.lt_of_lt_of_le hk a.size) i)⟩

theorem ExtR.weak {ρ ρ1 : Rho} {n n1 : Nat → Prop} {h h1 h2 : Nat → AObj → Prop} {w w1 : World} (a : ExtR ρ n h w ρ1 n1 h1 w1) (hs : ∀ b o, h2 b o → h1 b o) : ExtR ρ n h w ρ1 n1 h2 w1 :=
  ⟨a.agree, a.sub, a.os, a.tape, a.output, a.size, a.kept, fun k hk ⟨b, o, hb, e⟩ => a.old k hk ⟨b, o, hs b o hb, e⟩⟩

theorem SimR.weak {ρ : Rho} {S : Nat → Prop} {G G' : Nat → AObj → Prop} {w : World} (s : SimR ρ S G w) (hs : ∀ b o, G' b o → G b o) : SimR ρ S G' w :=
  ⟨fun b o h => s.dom b o (hs b o h), fun b o h => s.obj b o (hs b o h), fun b b' o o' h h' => s.inj b b' o o' (hs _ _ h) (hs _ _ h')⟩

theorem SimR.toSim {lim : Nat} {ρ : Rho} {S : Nat → Prop} {G : Nat → AObj → Prop} {w : World} {M : AHeap} (s : SimR ρ S G w) (hM : ∀ b o, M.get b = some o → G b o) (low : ∀ b o, M.get b = some o → b < M.next)
    (fresh : ∀ b, S b → b < M.next ∨ lim ≤ b) (sy : SY ρ M.next) : Sim lim ρ S M w :=
  ⟨fresh, fun b o h => s.dom b o (hM b o h), fun b o h => s.obj b o (hM b o h), fun b b' o o' h h' => s.inj b b' o o' (hM _ _ h) (hM _ _ h'), low, sy⟩

/-- A block is made under a name of its own. -/
theorem SimR.new {ρ : Rho} {S : Nat → Prop} {G G' : Nat → AObj → Prop} {w : World} (s : SimR ρ S G w) {id d : Nat} {o : AObj} {x : Obj} {blk : Blk} (hid : ¬ S id) (hb : blk.id = w.heap.size)
    (ho : ObjR (upd ρ id blk) (ins S id) id o x) (hG : ∀ b o', G' b o' → (b ≠ id ∧ G b o') ∨ (b = id ∧ o' = o)) : SimR (upd ρ id blk) (ins S id) G' (({ w with drawn := d } : World).alloc x) := by
  have hag := agree_upd ρ S id blk hid
  have lt : ∀ {b : Nat} {o : AObj}, G b o → (ρ b).id < w.heap.size := fun hb => by
    obtain ⟨y, hy, _⟩ := s.obj _ _ hb
    exact (Array.getElem?_eq_some_iff.1 hy).1
  refine ⟨fun b o' h => ?_, fun b o' h => ?_, fun b b' o1 o2 h h' he => ?_⟩
  · rcases hG b o' h with ⟨_, h⟩ | ⟨h, _⟩
    · exact .inl (s.dom _ _ h)
    · exact .inr h
  · rcases hG b o' h with ⟨_, h⟩ | ⟨rfl, rfl⟩
    · obtain ⟨y, hy, hr⟩ := s.obj _ _ h
      refine ⟨y, ?_, hr.mono hag (sub_ins _ _) (s.dom _ _ h)⟩
      rw [hag b (s.dom _ _ h)]
      have := lt h
      simp only [World.alloc, Array.getElem?_push]
      rw [if_neg (by omega)]
      exact hy
    · refine ⟨x, ?_, ho⟩
      rw [upd_same, hb]
      show (w.heap.push x)[w.heap.size]? = some x
      simp
  · rcases hG b o1 h with ⟨_, h⟩ | ⟨rfl, rfl⟩
    · rcases hG b' o2 h' with ⟨_, h'⟩ | ⟨rfl, rfl⟩
      · rw [hag _ (s.dom _ _ h), hag _ (s.dom _ _ h')] at he
        exact s.inj _ _ _ _ h h' he
      · have := lt h
        rw [upd_same, hag _ (s.dom _ _ h)] at he
        omega
    · rcases hG b' o2 h' with ⟨_, h'⟩ | ⟨rfl, rfl⟩
      · have := lt h'
        rw [upd_same, hag _ (s.dom _ _ h')] at he
        omega
      · rfl

theorem ExtR.new {ρ : Rho} {S : Nat → Prop} {G G' : Nat → AObj → Prop} {w : World} (s : SimR ρ S G w) {id d : Nat} {o : AObj} {x : Obj} {blk : Blk} (hid : ¬ S id) (hb : blk.id = w.heap.size)
    (hG : ∀ b o', G' b o' → (b ≠ id ∧ G b o') ∨ (b = id ∧ o' = o)) : ExtR ρ S G w (upd ρ id blk) (ins S id) G' (({ w with drawn := d } : World).alloc x) := by
  have hag := agree_upd ρ S id blk hid
  refine ⟨hag, sub_ins _ _, rfl, rfl, rfl, by simp, fun k hk _ => ?_, ?_⟩
  · simp only [World.alloc, Array.getElem?_push]
    rw [if_neg (by omega)]
  · rintro k hk ⟨c, oc, hc, he⟩
    rcases hG c oc hc with ⟨_, h⟩ | ⟨rfl, _⟩
    · rw [hag _ (s.dom _ _ h)] at he
      exact ⟨c, oc, h, he⟩
    · rw [upd_same] at he; omega

/-- A hard step over a part of memory. -/
theorem SimR.hard {lim : Nat} {ρ ρ' : Rho} {S S' : Nat → Prop} {G G' : Nat → AObj → Prop} {w w' : World} {H H' : AHeap} (s : SimR ρ S G w) (sH : Sim lim ρ S H w) (hH : ∀ b o, H.get b = some o → G b o)
    (sH' : Sim lim ρ' S' H' w') (he : Ext ρ S H w ρ' S' H' w') (hG : ∀ b o, G' b o → H'.get b = some o ∨ (G b o ∧ H.next ≤ b)) : SimR ρ' S' G' w' ∧ ExtR ρ S G w ρ' S' G' w' := by
  have lt : ∀ {b : Nat} {o : AObj}, G b o → (ρ b).id < w.heap.size := fun hb => by
    obtain ⟨y, hy, _⟩ := s.obj _ _ hb
    exact (Array.getElem?_eq_some_iff.1 hy).1
  -- a block outside is not one of the heap's
  have out : ∀ {b : Nat} {o : AObj}, G b o → H.next ≤ b → ¬ Im ρ H (ρ b).id := by
    rintro b o hb hle ⟨c, oc, hc, e⟩
    have := s.inj _ _ _ _ (hH _ _ hc) hb e
    have := sH.low _ _ hc
    omega
  have imp : ∀ {k : Nat}, Im ρ H k → ImR ρ G k := fun ⟨c, oc, hc, e⟩ => ⟨c, oc, hH _ _ hc, e⟩
  have key : ∀ {b c : Nat} {o oc : AObj}, H'.get b = some o → G c oc → H.next ≤ c → (ρ' b).id ≠ (ρ' c).id := by
    intro b c o oc hb hc hle e
    rw [he.agree c (s.dom _ _ hc)] at e
    exact out hc hle (he.old _ (lt hc) ⟨b, o, hb, e⟩)
  refine ⟨⟨fun b o h => ?_, fun b o h => ?_, fun b b' o o' h h' e => ?_⟩, he.agree, he.sub, he.os, he.tape, he.output, he.size, fun k hk hn => he.kept k hk (fun i => hn (imp i)), ?_⟩
  · rcases hG b o h with h | ⟨h, _⟩
    · exact sH'.dom _ _ h
    · exact he.sub _ (s.dom _ _ h)
  · rcases hG b o h with h | ⟨h, hle⟩
    · exact sH'.obj _ _ h
    · obtain ⟨y, hy, hr⟩ := s.obj _ _ h
      refine ⟨y, ?_, hr.mono he.agree he.sub (s.dom _ _ h)⟩
      rw [he.agree b (s.dom _ _ h), he.kept _ (lt h) (out h hle)]
      exact hy
  · rcases hG b o h with h | ⟨h, hle⟩
    · rcases hG b' o' h' with h' | ⟨h', hle'⟩
      · exact sH'.inj _ _ _ _ h h' e
      · exact absurd e (key h h' hle')
    · rcases hG b' o' h' with h' | ⟨h', hle'⟩
      · exact absurd e.symm (key h' h hle)
      · rw [he.agree _ (s.dom _ _ h), he.agree _ (s.dom _ _ h')] at e
        exact s.inj _ _ _ _ h h' e
  · rintro k hk ⟨b, o, hb, e⟩
    rcases hG b o hb with hb | ⟨hb, _⟩
    · exact imp (he.old k hk ⟨b, o, hb, e⟩)
    · rw [he.agree _ (s.dom _ _ hb)] at e
      exact ⟨b, o, hb, e⟩

/-! ### The plan -/
def DC (ops : Array Oper) (D : Nat → Bool) : Prop := ∀ i o, ops[i]? = some o → D i = true → Rdy D o

/-- Memory when those in D are done: the plan's heap behind the last hard one that is done, and what was made ahead of time. -/
def Gd (D : Nat → Bool) (H : AHeap) (B : List Stp) (b : Nat) (o : AObj) : Prop :=
  H.get b = some o ∨ ∃ x ∈ B, D x.i = true ∧ x.hard = false ∧ b = x.h.next ∧ x.h' = x.h.new o

/-- Where the plan stands: A is behind, B lies ahead; no hard one of B is done, all of A are. -/
structure At (P : Program) (call : CallF) (ops : Array Oper) (tr : List Stp) (tm0 : Tm) (h0 : AHeap) (tmN : Tm) (hN : AHeap) (D : Nat → Bool) (A B : List Stp) (TA : Tm) (H : AHeap) : Prop where
  split : tr = A ++ B
  chA : Chain P call ops A tm0 h0 TA H
  chB : Chain P call ops B TA H tmN hN
  hardA : ∀ x ∈ A, x.hard = true → D x.i = true
  hardB : ∀ x ∈ B, x.hard = true → D x.i = false
  endA : ∀ A' e, A = A' ++ [e] → e.hard = true

structure Pl (P : Program) (call : CallF) (ops : Array Oper) (anc : T Nat) (tr : List Stp) (tm0 : Tm) (h0 : AHeap) (tmN : Tm) (hN : AHeap) : Prop where
  chain : Chain P call ops tr tm0 h0 tmN hN
  at_ : ∀ x ∈ tr, ops[x.i]? = some x.o
  pairs : tr.Pairwise fun x y => x.i ≠ y.i ∧ pairOk P ops anc (x.o, x.i) (y.o, y.i) = true
  ready : ∀ L x R, tr = L ++ x :: R → ∀ e ∈ x.o.after, Region.binds .any e = true → ∃ y ∈ L, y.i = e.on
  all : ∀ i, i < ops.size → ∃ x ∈ tr, x.i = i
  waits : ∀ D, DC ops D → ∀ x ∈ tr, Rdy D x.o → ∀ i, waitsFor anc x.i i = true → D i = true
  meet : ∀ D A B TA H, DC ops D → At P call ops tr tm0 h0 tmN hN D A B TA H → (∀ b o, H.get b = some o → b < H.next) → ∀ x ∈ tr, x.hard = false → isAlloc P x.o.op = false →
    wanted ops x.o x.tm = true → Rdy D x.o → D x.i = false →
    ∃ M h2, (∀ b o, M.get b = some o → Gd D H B b o) ∧ (∀ b o, M.get b = some o → b < M.next) ∧ H.next ≤ M.next ∧ (cop P x.o.op).run x.tm M = .ok (.val x.v h2)

section
variable {P : Program} {call : CallF} {ops : Array Oper} {anc : T Nat} {tr : List Stp} {tm0 tmN : Tm} {h0 hN : AHeap}

theorem clash_false {a b : Oper} (h : clash ops a b = false) : (∀ d, a.dst = some d → d ∉ readsOf ops b ∧ b.dst ≠ some d) ∧ (∀ d, b.dst = some d → d ∉ readsOf ops a) := by
  unfold clash at h
  rw [Bool.or_eq_false_iff] at h
  refine ⟨fun d hd => ?_, fun d hd => ?_⟩
  · rw [hd] at h
    simpa using h.1
  · rw [hd] at h
    simpa using h.2

theorem Pl.uniq (pl : Pl P call ops anc tr tm0 h0 tmN hN) {x y : Stp} (hx : x ∈ tr) (hy : y ∈ tr) (e : x.i = y.i) : x = y := by
  obtain ⟨i, hi, rfl⟩ := List.getElem_of_mem hx
  obtain ⟨j, hj, rfl⟩ := List.getElem_of_mem hy
  have hp := List.pairwise_iff_getElem.1 pl.pairs
  rcases Nat.lt_trichotomy i j with h | h | h
  · exact absurd e (hp i j hi hj h).1
  · subst h; rfl
  · exact absurd e.symm (hp j i hj hi h).1

/-- Two of the plan, one ahead of the other. -/
theorem Pl.pair (pl : Pl P call ops anc tr tm0 h0 tmN hN) {L R : List Stp} {x : Stp} (e : tr = L ++ x :: R) :
    (∀ y ∈ L, y.i ≠ x.i ∧ pairOk P ops anc (y.o, y.i) (x.o, x.i) = true) ∧ (∀ y ∈ R, x.i ≠ y.i ∧ pairOk P ops anc (x.o, x.i) (y.o, y.i) = true) := by
  have hp := pl.pairs
  rw [e, List.pairwise_append, List.pairwise_cons] at hp
  exact ⟨fun y hy => hp.2.2 y hy x (by simp), hp.2.1.1⟩

theorem pairOk_spec {p q : Oper × Nat} (h : pairOk P ops anc p q = true) : waitsFor anc q.2 p.2 = true ∨ (clash ops p.1 q.1 = false ∧ ((isAlloc P p.1.op || isHard p.1.op) && isHard q.1.op) = false) := by
  unfold pairOk at h
  simpa only [Bool.or_eq_true, Bool.and_eq_true, Bool.not_eq_true'] using h

/-- What an operation reads is there already. -/
theorem Pl.reads (pl : Pl P call ops anc tr tm0 h0 tmN hN) {D : Nat → Bool} (dc : DC ops D) {x : Stp} (hx : x ∈ tr) (hr : Rdy D x.o) (hd : D x.i = false) :
    ∀ t ∈ readsOf ops x.o, (foldT D tr tm0).get t = x.tm.get t := by
  intro t ht
  obtain ⟨L, R, e⟩ := List.append_of_mem hx
  obtain ⟨hL, hR⟩ := pl.pair e
  obtain ⟨tm1, h1, c1, e1, _⟩ := (e ▸ pl.chain).one
  rw [e1, c1.tmps, e, foldT_append]
  show (foldT D R (if D x.i then _ else _)).get t = _
  rw [if_neg (by simp [hd])]
  rw [foldT_get]
  · refine foldT_get2 rfl rfl ?_
    intro y hy hne hdst
    have hDy : D y.i = false := by simpa using hne
    rcases pairOk_spec (hL y hy).2 with h | ⟨h, _⟩
    · have := pl.waits D dc x hx hr _ h
      rw [hDy] at this; cases this
    · exact ((clash_false h).1 t hdst).1 ht
  · intro y hy hDy hdst
    have hyt : y ∈ tr := by rw [e]; simp [hy]
    rcases pairOk_spec (hR y hy).2 with h | ⟨h, _⟩
    · have := pl.waits D dc y hyt (dc _ _ (pl.at_ y hyt) hDy) _ h
      rw [hd] at this; cases this
    · exact (clash_false h).2 t hdst ht

theorem Pl.cop_eq (pl : Pl P call ops anc tr tm0 h0 tmN hN) {D : Nat → Bool} (dc : DC ops D) {x : Stp} (hx : x ∈ tr) (hr : Rdy D x.o) (hd : D x.i = false) (M : AHeap) :
    (cop P x.o.op).run (foldT D tr tm0) M = (cop P x.o.op).run x.tm M :=
  cop_congr fun t ht => pl.reads dc hx hr hd t (List.mem_append_left _ ht)

theorem Pl.wanted_eq (pl : Pl P call ops anc tr tm0 h0 tmN hN) {D : Nat → Bool} (dc : DC ops D) {x : Stp} (hx : x ∈ tr) (hr : Rdy D x.o) (hd : D x.i = false) :
    wanted ops x.o (foldT D tr tm0) = wanted ops x.o x.tm :=
  wanted_congr fun t ht => pl.reads dc hx hr hd t ht

/-- One more is done. -/
def more (D : Nat → Bool) (j : Nat) (i : Nat) : Bool := D i || decide (i = j)

theorem more_of {D : Nat → Bool} {j i : Nat} (h : D i = true) : more D j i = true := by simp [more, h]
theorem more_self {D : Nat → Bool} {j : Nat} : more D j j = true := by simp [more]
theorem more_ne {D : Nat → Bool} {j i : Nat} (h : i ≠ j) : more D j i = D i := by simp [more, h]

theorem DC.more {D : Nat → Bool} (dc : DC ops D) {j : Nat} {o : Oper} (ho : ops[j]? = some o) (hr : Rdy D o) : DC ops (more D j) := by
  intro i o' ho' hi e he hb
  by_cases h : i = j
  · subst h
    rw [ho] at ho'
    injection ho' with ho'
    subst ho'
    exact more_of (hr e he hb)
  · rw [more_ne h] at hi
    exact more_of (dc i o' ho' hi e he hb)

theorem Pl.put (pl : Pl P call ops anc tr tm0 h0 tmN hN) {D : Nat → Bool} (dc : DC ops D) {x : Stp} (hx : x ∈ tr) (hd : D x.i = false) :
    Same (foldT (more D x.i) tr tm0) ((foldT D tr tm0).put x.o.dst x.v) := by
  obtain ⟨L, R, e⟩ := List.append_of_mem hx
  obtain ⟨hL, hR⟩ := pl.pair e
  rw [e, foldT_append, foldT_append]
  show Same (foldT (more D x.i) R (if more D x.i x.i then _ else _)) ((foldT D R (if D x.i then _ else _)).put _ _)
  rw [if_pos more_self, if_neg (by simp [hd])]
  rw [foldT_congr (D := more D x.i) (D' := D) (l := L) (fun y hy => more_ne (hL y hy).1), foldT_congr (D := more D x.i) (D' := D) (l := R) (fun y hy => more_ne (fun h => (hR y hy).1 h.symm))]
  refine foldT_put fun y hy hDy k hk hky => ?_
  have hyt : y ∈ tr := by rw [e]; simp [hy]
  rcases pairOk_spec (hR y hy).2 with h | ⟨h, _⟩
  · have := pl.waits D dc y hyt (dc _ _ (pl.at_ y hyt) hDy) _ h
    rw [hd] at this; cases this
  · exact ((clash_false h).1 k hk).2 hky
end
end Go.AM
