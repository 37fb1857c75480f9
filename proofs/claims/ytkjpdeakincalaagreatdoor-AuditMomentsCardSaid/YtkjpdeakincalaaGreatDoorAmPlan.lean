/- The plan of a region whose order is open, and the run along it. -/
import Derived.Test.YtkjpdeakincalaaGreatDoorAmRun
import Derived.Orders
set_option linter.unusedVariables false
namespace Go.AM

structure Stp where
  o : Oper
  i : Nat
  tm : Tm
  h : AHeap
  v : AVal
  h' : AHeap

def Stp.hard (x : Stp) : Bool := isHard x.o.op

def Chain (P : Program) (call : CallF) (ops : Array Oper) : List Stp → Tm → AHeap → Tm → AHeap → Prop
  | [], tm, h, tm', h' => tm' = tm ∧ h' = h
  | x :: l, tm, h, tm', h' => x.tm = tm ∧ x.h = h ∧ one P call ops x.o tm h = .ok (x.v, x.h') ∧ Chain P call ops l (tm.put x.o.dst x.v) x.h' tm' h'

section
variable {P : Program} {call : CallF} {ops : Array Oper} {tm tm' : Tm} {h h' : AHeap}

theorem Chain.append : ∀ {l1 l2 : List Stp} {tm : Tm} {h : AHeap}, Chain P call ops (l1 ++ l2) tm h tm' h' ↔ ∃ tm1 h1, Chain P call ops l1 tm h tm1 h1 ∧ Chain P call ops l2 tm1 h1 tm' h'
  | [], l2, tm, h => ⟨fun c => ⟨tm, h, ⟨rfl, rfl⟩, c⟩, fun ⟨_, _, ⟨e1, e2⟩, c⟩ => by subst e1; subst e2; exact c⟩
  | x :: l1, l2, tm, h => by
    constructor
    · rintro ⟨a, b, c, d⟩
      obtain ⟨tm1, h1, d1, d2⟩ := Chain.append.1 d
      exact ⟨tm1, h1, ⟨a, b, c, d1⟩, d2⟩
    · rintro ⟨tm1, h1, ⟨a, b, c, d1⟩, d2⟩
      exact ⟨a, b, c, Chain.append.2 ⟨tm1, h1, d1, d2⟩⟩

theorem Chain.next (hc : CallOK P call) : ∀ {l : List Stp} {tm : Tm} {h : AHeap}, Chain P call ops l tm h tm' h' → h.next ≤ h'.next
  | [], tm, h, ⟨_, e⟩ => by subst e; exact Nat.le_refl _
  | x :: l, tm, h, ⟨_, _, c, d⟩ => Nat.le_trans (one_next hc c) (Chain.next hc d)

theorem Chain.one {x : Stp} {l1 l2 : List Stp} (c : Chain P call ops (l1 ++ x :: l2) tm h tm' h') :
    ∃ tm1 h1, Chain P call ops l1 tm h tm1 h1 ∧ x.tm = tm1 ∧ x.h = h1 ∧ one P call ops x.o x.tm x.h = .ok (x.v, x.h') ∧ Chain P call ops l2 (x.tm.put x.o.dst x.v) x.h' tm' h' := by
  obtain ⟨tm1, h1, c1, e1, e2, c2, c3⟩ := Chain.append.1 c
  subst e1; subst e2
  exact ⟨_, _, c1, rfl, rfl, c2, c3⟩

theorem Chain.mem (hc : CallOK P call) {x : Stp} {l : List Stp} (c : Chain P call ops l tm h tm' h') (hx : x ∈ l) : h.next ≤ x.h.next ∧ x.h.next ≤ x.h'.next ∧ x.h'.next ≤ h'.next := by
  obtain ⟨l1, l2, rfl⟩ := List.append_of_mem hx
  obtain ⟨tm1, h1, c1, e1, e2, c2, c3⟩ := c.one
  subst e2
  exact ⟨c1.next hc, one_next hc c2, c3.next hc⟩

/-- A step that is not hard makes one block or none. -/
theorem one_soft {o : Oper} {v : AVal} (hs : isHard o.op = false) (hq : one P call ops o tm h = .ok (v, h')) : h' = h ∨ (isAlloc P o.op = true ∧ ∃ obj, h' = h.new obj) := by
  unfold one at hq
  rw [sel_eq] at hq
  split at hq
  · obtain ⟨r, hr, hq⟩ := bnd_eq_ok.1 hq
    by_cases hal : isAlloc P o.op = true
    · obtain ⟨v1, obj, rfl, _⟩ := cop_made (P := P) (o := o) hal hr
      injection hq with hq
      injection hq with _ e2
      exact .inr ⟨hal, obj, e2.symm⟩
    · obtain ⟨v1, rfl⟩ := cop_read_val (by simpa using hal) hs hr
      injection hq with hq
      injection hq with _ e2
      exact .inl e2.symm
  · injection hq with hq
    injection hq with _ e2
    exact .inl e2.symm

theorem Chain.soft {l : List Stp} {x : Stp} (c : Chain P call ops l tm h tm' h') (hx : x ∈ l) (hs : x.hard = false) : x.h' = x.h ∨ (isAlloc P x.o.op = true ∧ ∃ obj, x.h' = x.h.new obj) := by
  obtain ⟨l1, l2, rfl⟩ := List.append_of_mem hx
  obtain ⟨tm1, h1, c1, e1, e2, c2, c3⟩ := c.one
  exact one_soft hs c2

/-- Along a piece without a hard step: what is there was there, or was made. -/
theorem Chain.span : ∀ {l : List Stp} {tm : Tm} {h : AHeap}, Chain P call ops l tm h tm' h' → (∀ x ∈ l, x.hard = false) → ∀ b o, h'.get b = some o →
    h.get b = some o ∨ ∃ x ∈ l, b = x.h.next ∧ x.h' = x.h.new o
  | [], tm, h, ⟨_, e⟩, _, b, o, hb => by subst e; exact .inl hb
  | x :: l, tm, h, ⟨e1, e2, c, d⟩, hs, b, o, hb => by
    rcases Chain.span d (fun y hy => hs y (by simp [hy])) b o hb with hb | ⟨y, hy, h1, h2⟩
    · rcases one_soft (hs x (by simp)) c with e | ⟨_, obj, e⟩
      · rw [e] at hb; exact .inl hb
      · rw [e, AHeap.get_new] at hb
        by_cases eb : b = h.next
        · rw [if_pos eb] at hb
          injection hb with hb
          subst hb
          subst e2
          exact .inr ⟨x, by simp, eb, e⟩
        · rw [if_neg eb] at hb; exact .inl hb
    · exact .inr ⟨y, by simp [hy], h1, h2⟩

/-- Where nothing is made and nothing is hard, the heap stays. -/
theorem Chain.still : ∀ {l : List Stp} {tm : Tm} {h : AHeap}, Chain P call ops l tm h tm' h' → (∀ x ∈ l, x.h' = x.h) → h' = h ∧ ∀ x ∈ l, x.h = h
  | [], tm, h, ⟨_, e⟩, _ => ⟨e, fun x hx => by cases hx⟩
  | x :: l, tm, h, ⟨e1, e2, c, d⟩, hs => by
    obtain ⟨h1, h2⟩ := Chain.still d (fun y hy => hs y (by simp [hy]))
    have e3 : x.h' = h := (hs x (by simp)).trans e2
    refine ⟨h1.trans e3, fun y hy => ?_⟩
    rcases List.mem_cons.1 hy with rfl | hy
    · exact e2
    · exact (h2 y hy).trans e3

/-- Two blocks that were made in turn. -/
theorem Chain.pair (hc : CallOK P call) : ∀ {l : List Stp} {tm : Tm} {h : AHeap}, Chain P call ops l tm h tm' h' → l.Pairwise fun x y => x.h'.next ≤ y.h.next
  | [], _, _, _ => .nil
  | x :: l, tm, h, ⟨e1, e2, c, d⟩ => .cons (fun y hy => (d.mem hc hy).1) (Chain.pair hc d)

/-! ### The temporaries of those that are done -/
noncomputable def foldT (D : Nat → Bool) : List Stp → Tm → Tm
  | [], tm => tm
  | x :: l, tm => foldT D l (if D x.i then tm.put x.o.dst x.v else tm)

def Same (t t' : Tm) : Prop := t.n = t'.n ∧ ∀ i, t.get i = t'.get i

theorem Same.refl (t : Tm) : Same t t := ⟨rfl, fun _ => rfl⟩
theorem Same.symm {t t' : Tm} (s : Same t t') : Same t' t := ⟨s.1.symm, fun i => (s.2 i).symm⟩
theorem Same.trans {t t' t'' : Tm} (s : Same t t') (s' : Same t' t'') : Same t t'' := ⟨s.1.trans s'.1, fun i => (s.2 i).trans (s'.2 i)⟩
theorem Same.put {t t' : Tm} (s : Same t t') (d : Option Nat) (v : AVal) : Same (t.put d v) (t'.put d v) := by
  cases d with
  | none => exact s
  | some d =>
    refine ⟨by rw [Tm.put_n, Tm.put_n, s.1], fun i => ?_⟩
    rw [Tm.get_put, Tm.get_put, s.1, s.2]

theorem Same.comm (t : Tm) {d e : Option Nat} (v u : AVal) (hne : ∀ k, d = some k → e ≠ some k) : Same ((t.put d v).put e u) ((t.put e u).put d v) := by
  cases d with
  | none => exact Same.refl _
  | some d =>
    cases e with
    | none => exact Same.refl _
    | some e =>
      have hne' : e ≠ d := fun h => hne d rfl (by rw [h])
      refine ⟨by simp only [Tm.put_n], fun i => ?_⟩
      simp only [Tm.get_put, Tm.put_n]
      by_cases h1 : i = e
      · subst h1
        have : ¬ (d < t.n ∧ i = d) := fun h => hne' h.2
        simp [this]
      · have : ¬ (e < t.n ∧ i = e) := fun h => h1 h.2
        simp [this]

theorem TmR.same {ρ : Rho} {S : Nat → Prop} {t t' : Tm} {tmps : Array Value} (h : TmR ρ S t tmps) (s : Same t t') : TmR ρ S t' tmps :=
  ⟨h.size.trans s.1, fun i => by rw [← s.2 i]; exact h.get i⟩

theorem foldT_same (D : Nat → Bool) : ∀ (l : List Stp) {t t' : Tm}, Same t t' → Same (foldT D l t) (foldT D l t')
  | [], _, _, s => s
  | x :: l, t, t', s => by
    refine foldT_same D l ?_
    split
    · exact s.put _ _
    · exact s

theorem foldT_append (D : Nat → Bool) : ∀ (l1 l2 : List Stp) (t : Tm), foldT D (l1 ++ l2) t = foldT D l2 (foldT D l1 t)
  | [], _, _ => rfl
  | _ :: l1, l2, t => foldT_append D l1 l2 _

theorem foldT_congr {D D' : Nat → Bool} : ∀ {l : List Stp} {t : Tm}, (∀ x ∈ l, D x.i = D' x.i) → foldT D l t = foldT D' l t
  | [], _, _ => rfl
  | x :: l, t, h => by
    show foldT D l (if D x.i then _ else _) = foldT D' l (if D' x.i then _ else _)
    rw [h x (by simp)]
    exact foldT_congr fun y hy => h y (by simp [hy])

/-- A write goes behind those that write elsewhere. -/
theorem foldT_put {D : Nat → Bool} {d : Option Nat} {v : AVal} : ∀ {l : List Stp} {t : Tm}, (∀ y ∈ l, D y.i = true → ∀ k, d = some k → y.o.dst ≠ some k) → Same (foldT D l (t.put d v)) ((foldT D l t).put d v)
  | [], _, _ => Same.refl _
  | y :: l, t, h => by
    show Same (foldT D l (if D y.i then _ else _)) ((foldT D l (if D y.i then _ else _)).put d v)
    by_cases hy : D y.i = true
    · rw [if_pos hy, if_pos hy]
      exact (foldT_same D l (Same.comm t v y.v (h y (by simp) hy))).trans (foldT_put fun z hz => h z (by simp [hz]))
    · rw [if_neg hy, if_neg hy]
      exact foldT_put fun z hz => h z (by simp [hz])

/-- A temporary that none of them writes. -/
theorem foldT_get {D : Nat → Bool} {k : Nat} : ∀ {l : List Stp} {t : Tm}, (∀ y ∈ l, D y.i = true → y.o.dst ≠ some k) → (foldT D l t).get k = t.get k
  | [], _, _ => rfl
  | y :: l, t, h => by
    show (foldT D l (if D y.i then _ else _)).get k = _
    rw [foldT_get fun z hz => h z (by simp [hz])]
    split
    · rename_i hy
      have := h y (by simp) hy
      cases hd : y.o.dst with
      | none => rfl
      | some d => rw [Tm.get_put, if_neg]; rintro ⟨_, e⟩; exact this (by rw [hd, e])
    · rfl

/-- Two ways through: a temporary that only those write who are in both. -/
theorem foldT_get2 {D D' : Nat → Bool} {k : Nat} : ∀ {l : List Stp} {t t' : Tm}, t.n = t'.n → t.get k = t'.get k → (∀ y ∈ l, D y.i ≠ D' y.i → y.o.dst ≠ some k) → (foldT D l t).get k = (foldT D' l t').get k
  | [], _, _, _, e, _ => e
  | y :: l, t, t', hn, e, h => by
    show (foldT D l (if D y.i then _ else _)).get k = (foldT D' l (if D' y.i then _ else _)).get k
    have key : ∀ (a : Tm), y.o.dst ≠ some k → (a.put y.o.dst y.v).get k = a.get k := by
      intro a hne
      cases hd : y.o.dst with
      | none => rfl
      | some d => rw [Tm.get_put, if_neg]; rintro ⟨_, e⟩; exact hne (by rw [hd, e])
    refine foldT_get2 ?_ ?_ (fun z hz => h z (by simp [hz]))
    · split <;> split <;> simp only [Tm.put_n, hn]
    · by_cases hd : D y.i = D' y.i
      · rw [hd]
        split
        · cases hdd : y.o.dst with
          | none => exact e
          | some d => rw [Tm.get_put, Tm.get_put, hn, e]
        · exact e
      · have hne := h y (by simp) hd
        split <;> split <;> simp only [key _ hne, e]

theorem Chain.tmps : ∀ {l : List Stp} {tm : Tm} {h : AHeap}, Chain P call ops l tm h tm' h' → tm' = foldT (fun _ => true) l tm
  | [], _, _, ⟨e, _⟩ => e
  | x :: l, tm, h, ⟨_, _, _, d⟩ => by
    rw [Chain.tmps d]; rfl
end
end Go.AM
