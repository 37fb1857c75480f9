/- One operation of a region whose order is open. -/
import Derived.Test.YtkjpdeakincalaaGreatDoorAmDraw
set_option linter.unusedVariables false
namespace Go.AM

structure Inv (P : Program) (call : CallF) (ops : Array Oper) (tr : List Stp) (tm0 : Tm) (h0 : AHeap) (tmN : Tm) (hN : AHeap) (ρ0 : Rho) (S0 : Nat → Prop) (w0 : World) (ds : List Deferred)
    (D : Nat → Bool) (A B : List Stp) (TA : Tm) (H : AHeap) (ρ : Rho) (S : Nat → Prop) (a : Act) (w : World) : Prop where
  at_ : At P call ops tr tm0 h0 tmN hN D A B TA H
  dc : DC ops D
  low : ∀ b o, H.get b = some o → b < H.next
  bound : ∀ b, S b → S0 b ∨ (h0.next ≤ b ∧ b < H.next) ∨ ∃ x ∈ B, D x.i = true ∧ x.hard = false ∧ b = x.h.next ∧ x.h.next < x.h'.next
  sim : SimR ρ S (Gd D H B) w
  ext : ExtR ρ0 S0 (fun b o => h0.get b = some o) w0 ρ S (Gd D H B) w
  tms : TmR ρ S (foldT D tr tm0) a.tmps
  defers : a.defers = ds
  sy : SY ρ H.next

section
variable {P : Program} {call : CallF} {ops : Array Oper} {anc : T Nat} {tr : List Stp} {tm0 tmN : Tm} {h0 hN : AHeap} {ρ0 : Rho} {S0 : Nat → Prop} {w0 : World} {ds : List Deferred}
  {D : Nat → Bool} {A B : List Stp} {TA : Tm} {H : AHeap} {ρ : Rho} {S : Nat → Prop} {a : Act} {w : World} {lim : Nat}

theorem AHeap.new_inj {h : AHeap} {o o' : AObj} (e : h.new o = h.new o') : o = o' := by
  have h1 := AHeap.get_new h o h.next
  rw [e, AHeap.get_new, if_pos rfl, if_pos rfl] at h1
  injection h1 with h1
  exact h1.symm

theorem Inv.read (pl : Pl P call ops anc tr tm0 h0 tmN hN) (I : Inv P call ops tr tm0 h0 tmN hN ρ0 S0 w0 ds D A B TA H ρ S a w) {x : Stp} (hx : x ∈ tr) (hs : x.hard = false) (hst : x.h' = x.h)
    (hr : Rdy D x.o) (hd : D x.i = false) {v : Value} (hv : VR ρ S x.v v) : Inv P call ops tr tm0 h0 tmN hN ρ0 S0 w0 ds (more D x.i) A B TA H ρ S (a.put x.o.dst v) w := by
  have hB : ∀ y ∈ B, y ∈ tr := fun y hy => by rw [I.at_.split]; simp [hy]
  have hG : ∀ b o, Gd (more D x.i) H B b o → Gd D H B b o := by
    rintro b o (h | ⟨y, hy, h1, h2, h3, h4⟩)
    · exact .inl h
    · by_cases e : y.i = x.i
      · have := pl.uniq (hB y hy) hx e
        subst this
        have := congrArg AHeap.next (hst.symm.trans h4)
        simp at this
      · rw [more_ne e] at h1; exact .inr ⟨y, hy, h1, h2, h3, h4⟩
  refine ⟨⟨I.at_.split, I.at_.chA, I.at_.chB, fun y hy h => more_of (I.at_.hardA y hy h), fun y hy h => ?_, I.at_.endA⟩, I.dc.more (pl.at_ x hx) hr, I.low, ?_, I.sim.weak hG, I.ext.weak hG, ?_, ?_, ?_⟩
  · rw [more_ne, I.at_.hardB y hy h]
    intro e
    have := pl.uniq (hB y hy) hx e
    subst this
    rw [hs] at h; cases h
  · intro b hb
    rcases I.bound b hb with h | h | ⟨y, hy, h1, h2⟩
    · exact .inl h
    · exact .inr (.inl h)
    · exact .inr (.inr ⟨y, hy, more_of h1, h2⟩)
  · exact (I.tms.put hv x.o.dst).same (pl.put I.dc hx hd).symm
  · rw [Act.put_defers]; exact I.defers
  · exact I.sy

theorem Inv.inB (hc : CallOK P call) (pl : Pl P call ops anc tr tm0 h0 tmN hN) (I : Inv P call ops tr tm0 h0 tmN hN ρ0 S0 w0 ds D A B TA H ρ S a w) {x : Stp} (hx : x ∈ tr) (hal : isAlloc P x.o.op = true ∨ x.hard = true)
    (hd : D x.i = false) : x ∈ B := by
  have hm := hx
  rw [I.at_.split, List.mem_append] at hm
  refine hm.resolve_left fun hA => ?_
  rcases List.eq_nil_or_concat A with e | ⟨A', e, eA⟩
  · rw [e] at hA; cases hA
  · rw [List.concat_eq_append] at eA
    have he := I.at_.endA A' e eA
    have hDe := I.at_.hardA e (by rw [eA]; simp) he
    have het : e ∈ tr := by rw [I.at_.split, eA]; simp
    have hne : x ≠ e := fun h => by rw [h] at hd; rw [hDe] at hd; cases hd
    have hA' : x ∈ A' := by
      rw [eA] at hA
      rcases List.mem_append.1 hA with h | h
      · exact h
      · exact absurd (List.mem_singleton.1 h) hne
    have hp := pl.pairs
    rw [I.at_.split, eA, List.append_assoc, List.pairwise_append] at hp
    rcases pairOk_spec (hp.2.2 x hA' e (by simp)).2 with h | ⟨_, h⟩
    · have := pl.waits D I.dc e het (I.dc _ _ (pl.at_ e het) hDe) _ h
      rw [hd] at this; cases this
    · have he' : isHard e.o.op = true := he
      simp only [he', Bool.and_true, Bool.or_eq_false_iff] at h
      rcases hal with h1 | h1
      · rw [h1] at h; exact absurd h.1 (by simp)
      · have h1' : isHard x.o.op = true := h1
        rw [h1'] at h; exact absurd h.2 (by simp)

theorem Inv.made (hc : CallOK P call) (pl : Pl P call ops anc tr tm0 h0 tmN hN) (hlim : hN.next ≤ lim) (fresh : ∀ b, S0 b → b < h0.next ∨ lim ≤ b) (I : Inv P call ops tr tm0 h0 tmN hN ρ0 S0 w0 ds D A B TA H ρ S a w)
    {x : Stp} (hx : x ∈ tr) (hs : x.hard = false) (hal : isAlloc P x.o.op = true) {obj : AObj} (hst : x.h' = x.h.new obj) (hr : Rdy D x.o) (hd : D x.i = false) :
    ¬ S x.h.next ∧ ∀ (blk : Blk) (y : Obj) (d : Nat) (v : Value), blk.id = w.heap.size → VR (upd ρ x.h.next blk) (ins S x.h.next) x.v v → ObjR (upd ρ x.h.next blk) (ins S x.h.next) x.h.next obj y →
      Inv P call ops tr tm0 h0 tmN hN ρ0 S0 w0 ds (more D x.i) A B TA H (upd ρ x.h.next blk) (ins S x.h.next) (a.put x.o.dst v) (({ w with drawn := d } : World).alloc y) := by
  have hB : ∀ y ∈ B, y ∈ tr := fun y hy => by rw [I.at_.split]; simp [hy]
  have hxB := I.inB hc pl hx (.inl hal) hd
  have hlt : x.h.next < x.h'.next := by rw [hst]; simp
  have mx := pl.chain.mem hc hx
  have mB := I.at_.chB.mem hc hxB
  have hne : ∀ y ∈ B, y ≠ x → y.h.next < y.h'.next → y.h.next ≠ x.h.next := by
    intro y hy hyx hyl e
    have hp := I.at_.chB.pair hc
    obtain ⟨i, hi, rfl⟩ := List.getElem_of_mem hy
    obtain ⟨j, hj, rfl⟩ := List.getElem_of_mem hxB
    have hp := List.pairwise_iff_getElem.1 hp
    rcases Nat.lt_trichotomy i j with h | h | h
    · have := hp i j hi hj h; omega
    · subst h; exact hyx rfl
    · have := hp j i hj hi h; omega
  have hnS : ¬ S x.h.next := by
    intro h
    rcases I.bound _ h with h | h | ⟨y, hy, h1, h2, h3, h4⟩
    · rcases fresh _ h with h | h
      · omega
      · omega
    · omega
    · refine hne y hy ?_ h4 h3.symm
      rintro rfl
      rw [hd] at h1; cases h1
  refine ⟨hnS, fun blk y d v hid hv ho => ?_⟩
  have hG : ∀ b o', Gd (more D x.i) H B b o' → (b ≠ x.h.next ∧ Gd D H B b o') ∨ (b = x.h.next ∧ o' = obj) := by
    rintro b o' (h | ⟨z, hz, h1, h2, h3, h4⟩)
    · have := I.low _ _ h
      exact .inl ⟨by omega, .inl h⟩
    · by_cases e : z = x
      · subst e
        exact .inr ⟨h3, (AHeap.new_inj (hst.symm.trans h4)).symm⟩
      · have hzi : z.i ≠ x.i := fun hh => e (pl.uniq (hB z hz) hx hh)
        rw [more_ne hzi] at h1
        refine .inl ⟨?_, .inr ⟨z, hz, h1, h2, h3, h4⟩⟩
        rw [h3]
        exact hne z hz e (by rw [h4]; simp)
  have hag := agree_upd ρ S x.h.next blk hnS
  refine ⟨⟨I.at_.split, I.at_.chA, I.at_.chB, fun y hy h => more_of (I.at_.hardA y hy h), fun y hy h => ?_, I.at_.endA⟩, I.dc.more (pl.at_ x hx) hr, I.low, ?_, I.sim.new hnS hid ho hG, I.ext.trans (ExtR.new I.sim hnS hid hG), ?_, ?_, ?_⟩
  · rw [more_ne, I.at_.hardB y hy h]
    intro e
    have := pl.uniq (hB y hy) hx e
    subst this
    rw [hs] at h; cases h
  · intro b hb
    rcases hb with hb | hb
    · rcases I.bound b hb with h | h | ⟨y, hy, h1, h2⟩
      · exact .inl h
      · exact .inr (.inl h)
      · exact .inr (.inr ⟨y, hy, more_of h1, h2⟩)
    · exact .inr (.inr ⟨x, hxB, more_self, hs, hb, hlt⟩)
  · exact ((I.tms.mono hag (sub_ins _ _)).put hv x.o.dst).same (pl.put I.dc hx hd).symm
  · rw [Act.put_defers]; exact I.defers
  · exact I.sy.upd mB.1 blk (Nat.le_refl _)

theorem Inv.hard (hc : CallOK P call) (pl : Pl P call ops anc tr tm0 h0 tmN hN) (hlim : hN.next ≤ lim) (fresh : ∀ b, S0 b → b < h0.next ∨ lim ≤ b) (I : Inv P call ops tr tm0 h0 tmN hN ρ0 S0 w0 ds D A B TA H ρ S a w)
    {x : Stp} (hx : x ∈ tr) (hs : x.hard = true) (hr : Rdy D x.o) (hd : D x.i = false) :
    Sim x.h'.next ρ S x.h w ∧ ∀ (ρ' : Rho) (S' : Nat → Prop) (v : Value) (w' : World), VR ρ' S' x.v v → Sim x.h'.next ρ' S' x.h' w' → Ext ρ S x.h w ρ' S' x.h' w' →
      ∃ A' B' TA' H', Inv P call ops tr tm0 h0 tmN hN ρ0 S0 w0 ds (more D x.i) A' B' TA' H' ρ' S' (a.put x.o.dst v) w' := by
  have hB : ∀ y ∈ B, y ∈ tr := fun y hy => by rw [I.at_.split]; simp [hy]
  have hxB := I.inB hc pl hx (.inr hs) hd
  have mx := pl.chain.mem hc hx
  have hA0 := I.at_.chA.next hc
  obtain ⟨B1, B2, eB⟩ := List.append_of_mem hxB
  have hsx : isHard x.o.op = true := hs
  have pr : ∀ y ∈ B1, pairOk P ops anc (y.o, y.i) (x.o, x.i) = true := by
    have hp := pl.pairs
    rw [I.at_.split, eB, List.pairwise_append, List.pairwise_append] at hp
    exact fun y hy => (hp.2.1.2.2 y hy x (by simp)).2
  have soft1 : ∀ y ∈ B1, y.hard = false := by
    intro y hy
    cases hh : y.hard with
    | false => rfl
    | true =>
      have hyd := I.at_.hardB y (by rw [eB]; simp [hy]) hh
      rcases pairOk_spec (pr y hy) with h | ⟨_, h⟩
      · have := pl.waits D I.dc x hx hr _ h
        rw [hyd] at this; cases this
      · have hh' : isHard y.o.op = true := hh
        simp only [hsx, hh', Bool.or_true, Bool.and_true] at h
        cases h
  have done1 : ∀ y ∈ B1, isAlloc P y.o.op = true → D y.i = true := by
    intro y hy hal
    rcases pairOk_spec (pr y hy) with h | ⟨_, h⟩
    · exact pl.waits D I.dc x hx hr _ h
    · simp only [hsx, hal, Bool.true_or, Bool.and_true] at h
      cases h
  have cB := I.at_.chB
  rw [eB] at cB
  obtain ⟨tm1, h1, c1, e1, e2, c2, c3⟩ := cB.one
  subst e2; subst e1
  have hspan : ∀ b o, x.h.get b = some o → H.get b = some o ∨ ∃ y ∈ B1, D y.i = true ∧ y.hard = false ∧ b = y.h.next ∧ y.h' = y.h.new o := by
    intro b o hb
    rcases c1.span soft1 b o hb with h | ⟨y, hy, h1, h2⟩
    · exact .inl h
    · refine .inr ⟨y, hy, done1 y hy ?_, soft1 y hy, h1, h2⟩
      rcases c1.soft hy (soft1 y hy) with e | ⟨h, _⟩
      · have := congrArg AHeap.next (e.symm.trans h2)
        simp at this
      · exact h
  have hHx := c1.next hc
  have hM : ∀ b o, x.h.get b = some o → Gd D H B b o := by
    intro b o hb
    rcases hspan b o hb with h | ⟨y, hy, h⟩
    · exact .inl h
    · exact .inr ⟨y, by rw [eB]; simp [hy], h⟩
  have lowx : ∀ b o, x.h.get b = some o → b < x.h.next := by
    intro b o hb
    rcases hspan b o hb with h | ⟨y, hy, _, _, h1, h2⟩
    · have := I.low _ _ h; omega
    · have := (c1.mem hc hy).2.2
      rw [h2] at this
      simp at this
      omega
  have hfresh : ∀ b, S b → b < x.h.next ∨ x.h'.next ≤ b := by
    intro b hb
    rcases I.bound b hb with h | h | ⟨y, hy, h1, h2, h3, h4⟩
    · rcases fresh _ h with h | h
      · left; omega
      · right; omega
    · left; omega
    · rw [eB] at hy
      rcases List.mem_append.1 hy with hy | hy
      · have := (c1.mem hc hy).2.2
        left; omega
      · rcases List.mem_cons.1 hy with rfl | hy
        · rw [hs] at h2; cases h2
        · have := (c3.mem hc hy).1
          right; omega
  have sx : Sim x.h'.next ρ S x.h w := I.sim.toSim hM lowx hfresh ⟨Nat.le_trans I.sy.seven hHx, I.sy.zero, I.sy.lt⟩
  refine ⟨sx, fun ρ' S' v w' hv sx' he => ⟨A ++ (B1 ++ [x]), B2, x.tm.put x.o.dst x.v, x.h', ?_⟩⟩
  have ne2 : ∀ y ∈ B2, y.i ≠ x.i := by
    intro y hy e
    have hp := pl.pairs
    rw [I.at_.split, eB, List.pairwise_append, List.pairwise_append, List.pairwise_cons] at hp
    exact (hp.2.1.2.1.1 y hy).1 e.symm
  have hG : ∀ b o, Gd (more D x.i) x.h' B2 b o → x.h'.get b = some o ∨ (Gd D H B b o ∧ x.h.next ≤ b) := by
    rintro b o (h | ⟨y, hy, h1, h2, h3, h4⟩)
    · exact .inl h
    · rw [more_ne (ne2 y hy)] at h1
      refine .inr ⟨.inr ⟨y, by rw [eB]; simp [hy], h1, h2, h3, h4⟩, ?_⟩
      have := (c3.mem hc hy).1
      omega
  obtain ⟨s', ex'⟩ := I.sim.hard sx hM sx' he hG
  refine ⟨⟨by rw [I.at_.split, eB]; simp, Chain.append.2 ⟨_, _, I.at_.chA, Chain.append.2 ⟨_, _, c1, ⟨rfl, rfl, c2, rfl, rfl⟩⟩⟩, c3, ?_, ?_, ?_⟩, I.dc.more (pl.at_ x hx) hr, sx'.low, ?_, s', I.ext.trans ex', ?_, ?_, sx'.sy⟩
  · intro y hy h
    rcases List.mem_append.1 hy with hy | hy
    · exact more_of (I.at_.hardA y hy h)
    · rcases List.mem_append.1 hy with hy | hy
      · rw [soft1 y hy] at h; cases h
      · rw [List.mem_singleton] at hy; subst hy; exact more_self
  · intro y hy h
    rw [more_ne (ne2 y hy)]
    exact I.at_.hardB y (by rw [eB]; simp [hy]) h
  · intro A' e eA
    rw [← List.append_assoc] at eA
    have := List.append_inj_right' eA rfl
    injection this with this _
    subst this
    exact hs
  · intro b hb
    rcases he.new b hb with hb | hb
    · rcases I.bound b hb with h | h | ⟨y, hy, h1, h2, h3, h4⟩
      · exact .inl h
      · exact .inr (.inl ⟨h.1, by omega⟩)
      · rw [eB] at hy
        rcases List.mem_append.1 hy with hy | hy
        · have := c1.mem hc hy
          exact .inr (.inl ⟨by omega, by omega⟩)
        · rcases List.mem_cons.1 hy with rfl | hy
          · rw [hs] at h2; cases h2
          · exact .inr (.inr ⟨y, hy, more_of h1, h2, h3, h4⟩)
    · exact .inr (.inl ⟨by omega, hb.2⟩)
  · exact ((I.tms.mono he.agree he.sub).put hv x.o.dst).same (pl.put I.dc hx hd).symm
  · rw [Act.put_defers]; exact I.defers

/-- One operation, whichever is ready. -/
theorem Inv.step (hc : CallOK P call) (pl : Pl P call ops anc tr tm0 h0 tmN hN) (hlim : hN.next ≤ lim) (fresh : ∀ b, S0 b → b < h0.next ∨ lim ≤ b) (I : Inv P call ops tr tm0 h0 tmN hN ρ0 S0 w0 ds D A B TA H ρ S a w)
    {x : Stp} (hx : x ∈ tr) (hr : Rdy D x.o) (hd : D x.i = false) {K : Act → World → Prop} {Q : Exit → Act → World → Prop}
    (hk : ∀ A' B' TA' H' ρ' S' a' w', Inv P call ops tr tm0 h0 tmN hN ρ0 S0 w0 ds (more D x.i) A' B' TA' H' ρ' S' a' w' → K a' w') : wpOp P ops Q x.i K a w := by
  unfold wpOp
  rw [pl.at_ x hx]
  dsimp only
  obtain ⟨L, R, eLR⟩ := List.append_of_mem hx
  obtain ⟨_, _, _, _, _, hone, _⟩ := (eLR ▸ pl.chain).one
  have hw : Region.wanted x.o (yielded ops a.tmps) = wanted ops x.o x.tm := (Go.AM.wanted_eq I.tms ops x.o).trans (pl.wanted_eq I.dc hx hr hd)
  rw [hw]
  have soft := fun hh : x.hard = false => pl.chain.soft hx hh
  unfold one at hone
  rw [sel_eq] at hone
  by_cases hwt : wanted ops x.o x.tm = true
  · rw [if_pos hwt] at hone ⊢
    left
    obtain ⟨r, hrun, hone⟩ := bnd_eq_ok.1 hone
    have hrun' : (cop P x.o.op).run (foldT D tr tm0) x.h = .ok r := (pl.cop_eq I.dc hx hr hd x.h).trans hrun
    cases hh : x.hard with
    | true =>
      obtain ⟨sx, hstep⟩ := I.hard hc pl hlim fresh hx hh hr hd
      refine hard_wp hc sx I.tms hh hrun' hone (Nat.le_refl _) ?_
      intro ρ' S' v w' hv hs' he
      obtain ⟨A', B', TA', H', I'⟩ := hstep ρ' S' v w' hv hs' he
      exact hk _ _ _ _ _ _ _ _ I'
    | false =>
      by_cases hal : isAlloc P x.o.op = true
      · obtain ⟨v1, obj, rfl, hm⟩ := cop_made (P := P) (o := x.o) hal hrun'
        injection hone with hone
        injection hone with e1 e2
        obtain ⟨hn, hstep⟩ := I.made hc pl hlim fresh hx hh hal e2.symm hr hd
        refine (hm a ρ S w I.tms).wp hn ?_
        intro blk y d v hid hv ho
        rw [e1] at hv
        exact hk _ _ _ _ _ _ _ _ (hstep blk y d v hid hv ho)
      · have hal : isAlloc P x.o.op = false := by simpa using hal
        obtain ⟨M, h2, m1, m2, m4, m3⟩ := pl.meet D A B TA H I.dc I.at_ I.low x hx hh hal hwt hr hd
        have sM : Sim 0 ρ S M w := I.sim.toSim m1 m2 (fun b _ => .inr (Nat.zero_le _)) ⟨Nat.le_trans I.sy.seven m4, I.sy.zero, I.sy.lt⟩
        rw [← pl.cop_eq I.dc hx hr hd M] at m3
        obtain ⟨v1, e, hrd⟩ := cop_read sM I.tms hal hh m3
        injection e with e1 e2
        subst e1
        have hst : x.h' = x.h := by
          rcases soft hh with h | ⟨h, _⟩
          · exact h
          · rw [hal] at h; cases h
        exact hrd.wp fun v hv => hk _ _ _ _ _ _ _ _ (I.read pl hx hh hst hr hd hv)
  · rw [if_neg hwt] at hone ⊢
    injection hone with hone
    injection hone with e1 e2
    cases hh : x.hard with
    | true =>
      obtain ⟨sx, hstep⟩ := I.hard hc pl hlim fresh hx hh hr hd
      obtain ⟨A', B', TA', H', I'⟩ := hstep ρ S undef w (by rw [← e1]; exact .undef) (by rw [← e2] at sx ⊢; exact sx) (by rw [← e2]; exact Ext.refl _ _ _ _)
      exact hk _ _ _ _ _ _ _ _ I'
    | false => exact hk _ _ _ _ _ _ _ _ (I.read pl hx hh e2.symm hr hd (by rw [← e1]; exact .undef))
end
end Go.AM
