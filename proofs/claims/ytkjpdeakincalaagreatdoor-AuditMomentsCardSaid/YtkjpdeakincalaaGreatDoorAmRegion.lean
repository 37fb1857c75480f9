/- A region whose order is open: the whole of it. -/
import Derived.Test.YtkjpdeakincalaaGreatDoorAmSteps
set_option linter.unusedVariables false
namespace Go.AM

section
variable {P : Program} {call : CallF} {ops : Array Oper} {anc : T Nat} {tr : List Stp} {tm0 tmN : Tm} {h0 hN : AHeap}

theorem besides_spec {i : Nat} {base : AHeap} {b : Nat} {o : AObj} : ∀ {ms : List Mad} {t : T AObj}, T.get (besides anc i base ms t) b = some o →
    T.get t b = some o ∨ ∃ m ∈ ms, waitsFor anc i m.i = true ∧ base.next ≤ m.id ∧ b = m.id ∧ o = m.o
  | [], t, h => .inl h
  | m :: ms, t, h => by
    unfold besides at h
    rcases besides_spec h with h | ⟨m', hm', h⟩
    · rw [sel_eq] at h
      split at h
      · rename_i hc
        rw [Bool.and_eq_true, ble_eq, decide_eq_true_eq] at hc
        rw [T.get_set] at h
        by_cases e : b = m.id
        · rw [if_pos e] at h
          injection h with h
          exact .inr ⟨m, by simp, hc.1, hc.2, e, h.symm⟩
        · rw [if_neg e] at h; exact .inl h
      · exact .inl h
    · exact .inr ⟨m', by simp [hm'], h⟩

theorem countBits_le (m : Nat) : ∀ (l : List Nat), countBits m l ≤ l.length
  | [] => Nat.le_refl _
  | i :: l => by
    have := countBits_le m l
    simp only [countBits, sel_eq, List.length_cons]
    split <;> omega

theorem countBits_append (m : Nat) : ∀ (l l' : List Nat), countBits m (l ++ l') = countBits m l + countBits m l'
  | [], l' => by simp [countBits]
  | i :: l, l' => by
    show _ + countBits m (l ++ l') = _
    rw [countBits_append m l l']
    show _ = (sel (m.testBit i) 1 0 + countBits m l) + _
    omega

theorem countBits_zero (m : Nat) : ∀ (l : List Nat), (∀ i ∈ l, m.testBit i = false) → countBits m l = 0
  | [], _ => rfl
  | i :: l, h => by
    show sel (m.testBit i) 1 0 + countBits m l = 0
    rw [h i (by simp), countBits_zero m l (fun j hj => h j (by simp [hj]))]
    rfl

/-- The heap behind the last hard one that is done is among those that a read may meet. -/
theorem mayMeet_mem {D : Nat → Bool} {A B : List Stp} {TA : Tm} {H : AHeap} (at_ : At P call ops tr tm0 h0 tmN hN D A B TA H) {i : Nat}
    (hw : ∀ j, waitsFor anc i j = true → D j = true) (hn : ∀ x ∈ A, x.hard = true → waitsFor anc x.i i = false) :
    H ∈ mayMeet anc i ((tr.filter Stp.hard).map (·.i)) (h0 :: (tr.filter Stp.hard).map (·.h')) := by
  have hs : (h0 :: (tr.filter Stp.hard).map (·.h'))[(A.filter Stp.hard).length]? = some H := by
    rw [at_.split, List.filter_append, List.map_append]
    rcases List.eq_nil_or_concat A with e | ⟨A', e, eA⟩
    · have hc := at_.chA
      rw [e] at hc ⊢
      obtain ⟨_, h2⟩ := hc
      simp [h2]
    · rw [List.concat_eq_append] at eA
      have he := at_.endA A' e eA
      have hc := at_.chA
      rw [eA] at hc ⊢
      obtain ⟨_, _, _, _, _, _, _, h2⟩ := hc.one
      rw [List.filter_append]
      simp [he, h2]
  have lo : countBits ((T.get anc i).getD 0) ((tr.filter Stp.hard).map (·.i)) ≤ (A.filter Stp.hard).length := by
    rw [at_.split, List.filter_append, List.map_append, countBits_append, countBits_zero _ ((B.filter Stp.hard).map (·.i))]
    · have := countBits_le ((T.get anc i).getD 0) ((A.filter Stp.hard).map (·.i))
      simpa using this
    · intro j hj
      obtain ⟨x, hx, rfl⟩ := List.mem_map.1 hj
      obtain ⟨hx, hh⟩ := List.mem_filter.1 hx
      cases hb : ((T.get anc i).getD 0).testBit x.i with
      | false => rfl
      | true =>
        have h1 := hw x.i hb
        rw [at_.hardB x hx hh] at h1
        cases h1
  have hi : (A.filter Stp.hard).length ≤ (((tr.filter Stp.hard).map (·.i)).filter fun e => !waitsFor anc e i).length := by
    rw [at_.split, List.filter_append, List.map_append, List.filter_append, List.length_append]
    have : ((A.filter Stp.hard).map (·.i)).filter (fun e => !waitsFor anc e i) = (A.filter Stp.hard).map (·.i) := by
      rw [List.filter_eq_self]
      intro j hj
      obtain ⟨x, hx, rfl⟩ := List.mem_map.1 hj
      obtain ⟨hx, hh⟩ := List.mem_filter.1 hx
      rw [hn x hx hh]; rfl
    rw [this, List.length_map]
    omega
  unfold mayMeet
  refine List.mem_iff_getElem?.2 ⟨(A.filter Stp.hard).length - countBits ((T.get anc i).getD 0) ((tr.filter Stp.hard).map (·.i)), ?_⟩
  rw [List.getElem?_take, if_pos (by omega), List.getElem?_drop]
  rw [show countBits ((T.get anc i).getD 0) ((tr.filter Stp.hard).map (·.i)) + ((A.filter Stp.hard).length - countBits ((T.get anc i).getD 0) ((tr.filter Stp.hard).map (·.i))) = (A.filter Stp.hard).length by omega]
  exact hs

/-- Each read yields what it yields along the plan, in whatever memory it meets. -/
theorem meet_of (hc : CallOK P call) {d : Drawn} (t : Trace P call ops tr ⟨tm0, h0, [], [h0], [], []⟩ d) (at_ : ∀ x ∈ tr, ops[x.i]? = some x.o)
    (waits : ∀ D, DC ops D → ∀ x ∈ tr, Rdy D x.o → ∀ i, waitsFor anc x.i i = true → D i = true) (hchk : ((d.evs.isEmpty && d.ms.isEmpty) || checkAll P ops anc d) = true)
    {D : Nat → Bool} {A B : List Stp} {TA : Tm} {H : AHeap} (dc : DC ops D) (pa : At P call ops tr tm0 h0 d.tm d.heap D A B TA H) (low : ∀ b o, H.get b = some o → b < H.next) {x : Stp} (hx : x ∈ tr) (hs : x.hard = false)
    (hal : isAlloc P x.o.op = false) (hwt : wanted ops x.o x.tm = true) (hr : Rdy D x.o) (hd : D x.i = false) :
    ∃ M h2, (∀ b o, M.get b = some o → Gd D H B b o) ∧ (∀ b o, M.get b = some o → b < M.next) ∧ H.next ≤ M.next ∧ (cop P x.o.op).run x.tm M = .ok (.val x.v h2) := by
  have chain : Chain P call ops tr tm0 h0 d.tm d.heap := t.chain
  rw [Bool.or_eq_true, Bool.and_eq_true, List.isEmpty_iff, List.isEmpty_iff] at hchk
  rcases hchk with ⟨he, hm⟩ | hchk
  · have nohard : ∀ y ∈ tr, y.hard = false := by
      intro y hy
      have h1 := t.evs
      rw [he] at h1
      simp only [List.nil_append] at h1
      cases hh : y.hard with
      | false => rfl
      | true =>
        have : y ∈ tr.filter Stp.hard := List.mem_filter.2 ⟨hy, hh⟩
        have := List.mem_map_of_mem (f := (·.i)) this
        rw [← h1] at this
        cases this
    have nomade : ∀ y ∈ tr, y.h' = y.h := by
      intro y hy
      by_cases hh : y.h' = y.h
      · exact hh
      · obtain ⟨m, hm', _⟩ := t.msAll y hy (nohard y hy) hh
        rw [hm] at hm'; cases hm'
    have e1 := (chain.still nomade).2 x hx
    have e2 := (pa.chA.still (fun y hy => nomade y (by rw [pa.split]; simp [hy]))).1
    obtain ⟨L, R, eLR⟩ := List.append_of_mem hx
    obtain ⟨_, _, _, _, _, hone, _⟩ := (eLR ▸ chain).one
    unfold one at hone
    rw [sel_eq, if_pos hwt] at hone
    obtain ⟨r, hrun, hone⟩ := bnd_eq_ok.1 hone
    obtain ⟨v, rfl⟩ := cop_read_val hal hs hrun
    injection hone with hone
    injection hone with ev _
    subst ev
    have e3 : x.h = H := e1.trans e2.symm
    exact ⟨x.h, x.h, fun b o hb => .inl (by rw [← e3]; exact hb), fun b o hb => by rw [e3] at hb ⊢; exact low b o hb, Nat.le_of_eq (by rw [e3]), hrun⟩
  · have hcs := t.cs x hx hs hal
    have h1 := List.all_eq_true.1 hchk _ hcs
    have hmem : H ∈ mayMeet anc x.i d.evs d.hs := by
      rw [t.evs, t.hs]
      refine mayMeet_mem pa (fun j hj => waits D dc x hx hr j hj) (fun y hy hh => ?_)
      cases hb : waitsFor anc y.i x.i with
      | false => rfl
      | true =>
        have hyt : y ∈ tr := by rw [pa.split]; simp [hy]
        have := waits D dc y hyt (dc _ _ (at_ y hyt) (pa.hardA y hy hh)) _ hb
        rw [hd] at this; cases this
    have h2 := List.all_eq_true.1 h1 _ hmem
    unfold again at h2
    dsimp only at h2
    rw [sel_eq, if_pos hwt] at h2
    unfold sameVal at h2
    split at h2
    · rename_i v' h' hrun
      have ev := aeq_eq _ _ h2
      refine ⟨meets anc x.i d.ms d.heap.next H, h', ?_, ?_, pa.chB.next hc, by rw [ev]; exact hrun⟩
      · intro b o hb
        rcases besides_spec hb with hb | ⟨m, hm, h3, h4, rfl, rfl⟩
        · exact .inl hb
        · rcases t.ms m hm with hm | ⟨y, hy, g1, g2, g3, g4, g5⟩
          · cases hm
          · have hDy : D y.i = true := by rw [g2]; exact waits D dc x hx hr _ h3
            have hyB : y ∈ B := by
              have hy' := hy
              rw [pa.split, List.mem_append] at hy'
              refine hy'.resolve_left fun hA => ?_
              have := (pa.chA.mem hc hA).2.2
              omega
            refine .inr ⟨y, hyB, hDy, g1, g3.symm, ?_⟩
            rcases chain.soft hy g1 with e | ⟨_, obj, e⟩
            · rw [e] at g4; omega
            · rw [e, ← g3, AHeap.get_new, if_pos rfl] at g5
              injection g5 with g5
              rw [e, g5]
      · intro b o hb
        show b < d.heap.next
        have hHN := pa.chB.next hc
        rcases besides_spec hb with hb | ⟨m, hm, h3, h4, rfl, rfl⟩
        · have := low b o hb; omega
        · rcases t.ms m hm with hm | ⟨y, hy, g1, g2, g3, g4, g5⟩
          · cases hm
          · have := (chain.mem hc hy).2.2
            have hdn : (⟨tm0, h0, [], [h0], [], []⟩ : Drawn).heap = h0 := rfl
            omega
    · cases h2

/-- The first that is not. -/
theorem first_not {α : Type} {p : α → Bool} : ∀ {l : List α}, (∃ x ∈ l, p x = false) → ∃ L x R, l = L ++ x :: R ∧ p x = false ∧ ∀ y ∈ L, p y = true
  | [], h => by obtain ⟨x, hx, _⟩ := h; cases hx
  | a :: l, h => by
    cases ha : p a with
    | false => exact ⟨[], a, l, rfl, ha, by simp⟩
    | true =>
      obtain ⟨x, hx, hp⟩ := h
      rcases List.mem_cons.1 hx with rfl | hx
      · rw [ha] at hp; cases hp
      · obtain ⟨L, y, R, e, h1, h2⟩ := first_not ⟨x, hx, hp⟩
        refine ⟨a :: L, y, R, by rw [e]; rfl, h1, fun z hz => ?_⟩
        rcases List.mem_cons.1 hz with rfl | hz
        · exact ha
        · exact h2 z hz

theorem filter_le {α : Type} {p q : α → Bool} : ∀ {l : List α}, (∀ x ∈ l, q x = true → p x = true) → (l.filter q).length ≤ (l.filter p).length
  | [], _ => Nat.le_refl _
  | a :: l, h => by
    have := filter_le (l := l) (fun x hx => h x (by simp [hx]))
    have ha := h a (by simp)
    rw [List.filter_cons, List.filter_cons]
    cases hq : q a <;> cases hp : p a
    · exact this
    · exact Nat.le_succ_of_le this
    · rw [hq, hp] at ha; exact absurd (ha rfl) (by simp)
    · exact Nat.succ_le_succ this

theorem filter_lt {α : Type} {p q : α → Bool} : ∀ {l : List α}, (∀ x ∈ l, q x = true → p x = true) → (∃ x ∈ l, p x = true ∧ q x = false) → (l.filter q).length < (l.filter p).length
  | [], _, h => by obtain ⟨x, hx, _⟩ := h; cases hx
  | a :: l, h, hx => by
    obtain ⟨x, hx, h1, h2⟩ := hx
    have hl : ∀ x ∈ l, q x = true → p x = true := fun x hx => h x (by simp [hx])
    have ha := h a (by simp)
    rw [List.filter_cons, List.filter_cons]
    rcases List.mem_cons.1 hx with e | hx
    · rw [← e, h1, h2]
      exact Nat.lt_succ_of_le (filter_le hl)
    · have := filter_lt hl ⟨x, hx, h1, h2⟩
      cases hq : q a <;> cases hp : p a
      · exact this
      · exact Nat.lt_succ_of_lt this
      · rw [hq, hp] at ha; exact absurd (ha rfl) (by simp)
      · exact Nat.succ_lt_succ this

variable {ρ0 : Rho} {S0 : Nat → Prop} {w0 : World} {ds : List Deferred} {lim : Nat}

/-- All are done. -/
theorem Inv.done (hc : CallOK P call) (pl : Pl P call ops anc tr tm0 h0 tmN hN) (fresh : ∀ b, S0 b → b < h0.next ∨ lim ≤ b) {D : Nat → Bool} {A B : List Stp} {TA : Tm} {H : AHeap} {ρ : Rho} {S : Nat → Prop} {a : Act} {w : World}
    (I : Inv P call ops tr tm0 h0 tmN hN ρ0 S0 w0 ds D A B TA H ρ S a w) (hall : ∀ x ∈ tr, D x.i = true) :
    Sim lim ρ S hN w ∧ Ext ρ0 S0 h0 w0 ρ S hN w ∧ TmR ρ S tmN a.tmps ∧ a.defers = ds := by
  have hB : ∀ y ∈ B, y ∈ tr := fun y hy => by rw [I.at_.split]; simp [hy]
  have soft : ∀ y ∈ B, y.hard = false := by
    intro y hy
    cases hh : y.hard with
    | false => rfl
    | true =>
      have := I.at_.hardB y hy hh
      rw [hall y (hB y hy)] at this; cases this
  have hspan := I.at_.chB.span soft
  have hHN := I.at_.chB.next hc
  have h0H := I.at_.chA.next hc
  have hG : ∀ b o, hN.get b = some o → Gd D H B b o := by
    intro b o hb
    rcases hspan b o hb with h | ⟨y, hy, h1, h2⟩
    · exact .inl h
    · exact .inr ⟨y, hy, hall y (hB y hy), soft y hy, h1, h2⟩
  have low : ∀ b o, hN.get b = some o → b < hN.next := by
    intro b o hb
    rcases hspan b o hb with h | ⟨y, hy, h1, h2⟩
    · have := I.low _ _ h; omega
    · have := (I.at_.chB.mem hc hy).2.2
      rw [h2] at this
      simp at this
      omega
  have bnd : ∀ b, S b → S0 b ∨ (h0.next ≤ b ∧ b < hN.next) := by
    intro b hb
    rcases I.bound b hb with h | h | ⟨y, hy, _, _, h3, h4⟩
    · exact .inl h
    · exact .inr ⟨h.1, by omega⟩
    · have := I.at_.chB.mem hc hy
      exact .inr ⟨by omega, by omega⟩
  refine ⟨I.sim.toSim hG low ?_ ⟨Nat.le_trans I.sy.seven hHN, I.sy.zero, I.sy.lt⟩, ⟨I.ext.agree, I.ext.sub, bnd, by omega, I.ext.os, I.ext.tape, I.ext.output, I.ext.size, ?_, ?_⟩, ?_, I.defers⟩
  · intro b hb
    rcases bnd b hb with h | h
    · rcases fresh b h with h | h
      · left; omega
      · right; exact h
    · left; exact h.2
  · rintro k hk hn
    exact I.ext.kept k hk (fun ⟨b, o, hb, e⟩ => hn ⟨b, o, hb, e⟩)
  · rintro k hk ⟨b, o, hb, e⟩
    obtain ⟨c, oc, hc', e'⟩ := I.ext.old k hk ⟨b, o, hG b o hb, e⟩
    exact ⟨c, oc, hc', e'⟩
  · have := I.tms
    rw [foldT_congr (D := D) (D' := fun _ => true) (fun x hx => hall x hx), ← pl.chain.tmps] at this
    exact this

theorem ready_spec {listed : Array Bool} (hsz : listed.size = ops.size) {j : Nat} (hj : j ∈ Region.ready .any ops listed) :
    listed.getD j false = false ∧ j < ops.size ∧ ∃ o, ops[j]? = some o ∧ Rdy (fun i => listed.getD i false) o := by
  obtain ⟨h0, o, ho, h⟩ := mem_ready.1 hj
  have hlt := (Array.getElem?_eq_some_iff.1 ho).1
  refine ⟨?_, hlt, o, ho, h⟩
  have hl : j < listed.size := by omega
  simpa [Array.getD, hl] using h0

theorem more_listed {listed : Array Bool} {j : Nat} (hj : j < listed.size) : (fun i => (listed.setIfInBounds j true).getD i false) = more (fun i => listed.getD i false) j := by
  funext i
  unfold more
  by_cases e : i = j
  · subst e
    simp [hj]
  · simp only [Array.getD_eq_getD_getElem?]
    rw [Array.getElem?_setIfInBounds_ne (Ne.symm e)]
    simp [e]

theorem wpAny_of (hc : CallOK P call) (pl : Pl P call ops anc tr tm0 h0 tmN hN) (hlim : hN.next ≤ lim) (fresh : ∀ b, S0 b → b < h0.next ∨ lim ≤ b) {Q : Exit → Act → World → Prop}
    (hk : ∀ ρ' S' a' w', Sim lim ρ' S' hN w' → Ext ρ0 S0 h0 w0 ρ' S' hN w' → TmR ρ' S' tmN a'.tmps → a'.defers = ds → Q .normal a' w') :
    ∀ (fuel : Nat) (listed : Array Bool) (A B : List Stp) (TA : Tm) (H : AHeap) (ρ : Rho) (S : Nat → Prop) (a : Act) (w : World), listed.size = ops.size →
      Inv P call ops tr tm0 h0 tmN hN ρ0 S0 w0 ds (fun i => listed.getD i false) A B TA H ρ S a w → ((List.range ops.size).filter fun i => !listed.getD i false).length ≤ fuel → wpAny P .any ops Q fuel listed a w := by
  have fin : ∀ (listed : Array Bool) (A B : List Stp) (TA : Tm) (H : AHeap) (ρ : Rho) (S : Nat → Prop) (a : Act) (w : World), listed.size = ops.size →
      Inv P call ops tr tm0 h0 tmN hN ρ0 S0 w0 ds (fun i => listed.getD i false) A B TA H ρ S a w → Region.ready .any ops listed = [] → Q .normal a w := by
    intro listed A B TA H ρ S a w hsz I hr
    have hall : ∀ x ∈ tr, listed.getD x.i false = true := by
      intro x hx
      cases hd : listed.getD x.i false with
      | true => rfl
      | false =>
        exfalso
        obtain ⟨L, y, R, e, h1, h2⟩ := first_not (p := fun x : Stp => listed.getD x.i false) ⟨x, hx, hd⟩
        have hy : y ∈ tr := by rw [e]; simp
        have ho := pl.at_ y hy
        have hlt := (Array.getElem?_eq_some_iff.1 ho).1
        have : y.i ∈ Region.ready .any ops listed := by
          refine mem_ready.2 ⟨?_, y.o, ho, ?_⟩
          · have hl : y.i < listed.size := by omega
            simpa [Array.getD, hl] using h1
          · intro x' hx' hb
            obtain ⟨z, hz, hze⟩ := pl.ready L y R e x' hx' hb
            rw [← hze]
            exact h2 z hz
        rw [hr] at this
        cases this
    obtain ⟨h1, h2, h3, h4⟩ := I.done hc pl fresh hall
    exact hk _ _ _ _ h1 h2 h3 h4
  intro fuel
  induction fuel with
  | zero =>
    intro listed A B TA H ρ S a w hsz I hf
    have hr : Region.ready .any ops listed = [] := by
      rw [List.eq_nil_iff_forall_not_mem]
      intro j hj
      obtain ⟨h1, h2, o, ho, h3⟩ := ready_spec hsz hj
      have : j ∈ (List.range ops.size).filter fun i => !listed.getD i false := List.mem_filter.2 ⟨List.mem_range.2 h2, by rw [h1]; rfl⟩
      have := List.length_pos_of_mem this
      omega
    exact ⟨hr, fin listed A B TA H ρ S a w hsz I hr⟩
  | succ fuel ih =>
    intro listed A B TA H ρ S a w hsz I hf
    refine ⟨fin listed A B TA H ρ S a w hsz I, fun j hj => ?_⟩
    obtain ⟨h1, h2, o, ho, h3⟩ := ready_spec hsz hj
    obtain ⟨x, hx, rfl⟩ := pl.all j h2
    have ex := pl.at_ x hx
    rw [ho] at ex
    injection ex with ex
    subst ex
    refine I.step hc pl hlim fresh hx h3 h1 (fun A' B' TA' H' ρ' S' a' w' I' => ?_)
    have hml := more_listed (listed := listed) (j := x.i) (by omega)
    rw [← hml] at I'
    refine ih _ A' B' TA' H' ρ' S' a' w' (by simpa using hsz) I' ?_
    have hlt : ((List.range ops.size).filter fun i => !(listed.setIfInBounds x.i true).getD i false).length < ((List.range ops.size).filter fun i => !listed.getD i false).length := by
      refine filter_lt (fun y hy h => ?_) ⟨x.i, List.mem_range.2 h2, by rw [h1]; rfl, ?_⟩
      · have := congrFun hml y
        rw [this] at h
        cases hd : listed.getD y false with
        | false => rfl
        | true => rw [more_of (D := fun i => listed.getD i false) hd] at h; cases h
      · have := congrFun hml x.i
        rw [this, more_self]
        rfl
    omega
end

/-- A region whose order is open. -/
theorem drawOps_wp {P : Program} {call : CallF} {ops : Array Oper} (hc : CallOK P call) {tm : Tm} {h : AHeap} {st : St} (hq : drawOps P call ops tm h = .ok st) :
    h.next ≤ st.heap.next ∧ ∀ {lim : Nat} {ρ : Rho} {S : Nat → Prop} {w : World} {a : Act} {Q : Exit → Act → World → Prop}, st.heap.next ≤ lim → Sim lim ρ S h w → TmR ρ S tm a.tmps →
      (∀ ρ' S' a' w', Sim lim ρ' S' st.heap w' → Ext ρ S h w ρ' S' st.heap w' → TmR ρ' S' st.tm a'.tmps → a'.defers = a.defers → Q .normal a' w') →
      wpAny P .any ops Q ops.size (Array.replicate ops.size false) a w := by
  unfold drawOps at hq
  simp only [planOf] at hq
  rw [sel_eq_ok] at hq
  obtain ⟨hgood, hq⟩ := hq
  obtain ⟨d, hrun, hq⟩ := bnd_eq_ok.1 hq
  unfold drawEnd at hq
  rw [sel_eq_ok] at hq
  obtain ⟨hchk, hq⟩ := hq
  injection hq with hq
  subst hq
  obtain ⟨tr, etr, t⟩ := drawRun_spec _ hrun
  have fit := orderOk_fit _ _ hgood
  have at_ : ∀ x ∈ tr, ops[x.i]? = some x.o := by
    intro x hx
    have : (x.o, x.i) ∈ orderOf P ops := by rw [← etr]; exact List.mem_map_of_mem (f := fun x : Stp => (x.o, x.i)) hx
    exact orderOf_mem this
  have waits : ∀ D, DC ops D → ∀ x ∈ tr, Rdy D x.o → ∀ i, waitsFor (ancsIn (orderOf P ops) .leaf) x.i i = true → D i = true := by
    intro D dc x hx hr i hw
    exact waitsFor_done dc (fun p hp => orderOf_mem hp) (at_ x hx) hr hw
  have chain : Chain P call ops tr tm h d.tm d.heap := t.chain
  have pl : Pl P call ops (ancsIn (orderOf P ops) .leaf) tr tm h d.tm d.heap := by
    refine ⟨chain, at_, ?_, ?_, ?_, waits, fun D A B TA H dc pa low x hx hs hal hwt hr hd => meet_of hc t at_ waits hchk dc pa low hx hs hal hwt hr hd⟩
    · have := fit.pairs
      rw [← etr, List.pairwise_map] at this
      rw [← etr]
      exact this
    · intro L x R e x' hx' hb
      have h1 : orderOf P ops = L.map (fun x => (x.o, x.i)) ++ (x.o, x.i) :: R.map (fun x => (x.o, x.i)) := by rw [← etr, e]; simp
      rcases fit.ready _ _ _ h1 x' hx' hb with h | ⟨q, hq, h⟩
      · simp at h
      · obtain ⟨y, hy, rfl⟩ := List.mem_map.1 hq
        exact ⟨y, hy, h⟩
    · intro i hi
      rcases fit.all i hi with h | ⟨q, hq, h⟩
      · simp at h
      · rw [← etr] at hq
        obtain ⟨y, hy, rfl⟩ := List.mem_map.1 hq
        exact ⟨y, hy, h⟩
  refine ⟨chain.next hc, ?_⟩
  intro lim ρ S w a Q hlim s ht hk
  have hD : (fun i => (Array.replicate ops.size false).getD i false) = fun _ => false := by
    funext i
    simp only [Array.getD_eq_getD_getElem?, Array.getElem?_replicate]
    split <;> rfl
  have hG : ∀ b o, Gd (fun _ => false) h tr b o → h.get b = some o := by
    rintro b o (h | ⟨x, _, h, _⟩)
    · exact h
    · cases h
  have e0 : foldT (fun _ => false) tr tm = tm := by
    have : ∀ (l : List Stp) (t : Tm), foldT (fun _ => false) l t = t := by
      intro l
      induction l with
      | nil => intro t; rfl
      | cons x l ih => intro t; exact ih t
    exact this tr tm
  refine wpAny_of hc pl hlim s.fresh hk ops.size _ [] tr tm h ρ S a w (by simp) ?_ ?_
  · rw [hD]
    refine ⟨⟨rfl, ⟨rfl, rfl⟩, chain, by simp, by simp, by simp⟩, fun i o _ h => (by cases h), s.low, fun b hb => .inl hb, ⟨fun b o hb => s.dom b o (hG b o hb), fun b o hb => s.obj b o (hG b o hb), fun b b' o o' hb hb' => s.inj b b' o o' (hG b o hb) (hG b' o' hb')⟩, ?_, ?_, rfl, s.sy⟩
    · exact ⟨Agree.refl _ _, fun _ h => h, rfl, rfl, rfl, Nat.le_refl _, fun _ _ _ => rfl, fun k hk ⟨b, o, hb, e⟩ => ⟨b, o, hG b o hb, e⟩⟩
    · rw [e0]; exact ht
  · refine Nat.le_trans (List.length_filter_le _ _) ?_
    rw [List.length_range]
    exact Nat.le_refl _
end Go.AM
