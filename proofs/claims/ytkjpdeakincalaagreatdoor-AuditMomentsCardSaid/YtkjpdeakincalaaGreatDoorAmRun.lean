/- Operations in their regions, and calls. -/
import Derived.Test.YtkjpdeakincalaaGreatDoorAmOpsO
import Derived.LoopN
import Derived.Tactics
namespace Go.AM

/-- A call from this world comes back. -/
def DoesF (P : Program) (f : FuncId) (xs : List Value) (w : World) (R : Value → World → Prop) : Prop :=
  match (callFunc f xs.toArray).run P w with
  | .ok (.enter g ys) w' => Calls P g ys w' fun | .returned v, w'' => R v w'' | _, _ => False
  | .ok (.value v) w' => R v w'
  | .ok (.row row ys) w' => Rows P row ys w' R
  | _ => False

structure CallOK (P : Program) (call : CallF) : Prop where
  next : ∀ f args h v h', call f args h = .ok (v, h') → h.next ≤ h'.next
  does : ∀ f args h v h', call f args h = .ok (v, h') → ∀ (lim : Nat) (ρ : Rho) (S : Nat → Prop) (w : World) (xs : List Value), h'.next ≤ lim → Sim lim ρ S h w → VRs ρ S args xs →
    DoesF P f xs w fun x w' => ∃ ρ' S', VR ρ' S' v x ∧ Sim lim ρ' S' h' w' ∧ Ext ρ S h w ρ' S' h' w'

section
variable {lim : Nat} {P : Program} {call : CallF} {ρ : Rho} {S : Nat → Prop} {h h' : AHeap} {w : World} {a : Act} {tm : Tm} {ops : Array Oper} {o : Oper} {v : AVal}
  {K : Act → World → Prop} {Q : Exit → Act → World → Prop}

theorem DoesF.wp {f : FuncId} {xs : List Value} {R : Value → World → Prop} (he : (execOp a.eval o).run P w = (callFunc f xs.toArray).run P w) (hd : DoesF P f xs w R)
    (hk : ∀ x w', R x w' → K (a.put o.dst x) w') : o.wp P a w K Q := by
  unfold Oper.wp
  rw [he]
  unfold DoesF at hd
  generalize (callFunc f xs.toArray).run P w = r at hd
  cases r with
  | halt x w' => exact hd.elim
  | ok nx w' =>
    cases nx <;> dsimp only at hd <;> try exact hd.elim
    · exact hk _ _ hd
    · refine Calls.mono hd fun e w'' he => ?_
      cases e with
      | returned v => exact hk _ _ he
      | panicked c => exact he.elim
      | outgrown => exact he.elim
    · exact Rows.mono hd hk

theorem SemN.wp (hn : SemN lim P (execOp a.eval o) ρ S h w v h') (hk : ∀ ρ' S' x w', VR ρ' S' v x → Sim lim ρ' S' h' w' → Ext ρ S h w ρ' S' h' w' → K (a.put o.dst x) w') : o.wp P a w K Q := by
  obtain ⟨ρ', S', w', hr, hs, he⟩ := hn
  unfold Oper.wp
  rcases hr with ⟨x, hx, hv⟩ | ⟨hx, rfl⟩
  · rw [hx]; exact hk _ _ _ _ hv hs he
  · rw [hx]; exact hk _ _ _ _ .undef hs he

theorem ReadR.wp (hr : ReadR P o a ρ S w v) (hk : ∀ x, VR ρ S v x → K (a.put o.dst x) w) : o.wp P a w K Q := by
  obtain ⟨x, hx, hv⟩ := hr
  unfold Oper.wp
  rw [hx]
  exact hk _ hv

theorem MadeR.wp {id : Nat} {obj : AObj} (hm : MadeR P o a ρ S id w v obj) (hid : ¬ S id)
    (hk : ∀ (blk : Blk) (y : Obj) (d : Nat) (x : Value), blk.id = w.heap.size → VR (upd ρ id blk) (ins S id) v x → ObjR (upd ρ id blk) (ins S id) id obj y →
      K (a.put o.dst x) (({ w with drawn := d } : World).alloc y)) : o.wp P a w K Q := by
  obtain ⟨blk, y, d, x, h1, h2, h3, h4⟩ := hm hid
  unfold Oper.wp
  rw [h2]
  exact hk _ _ _ _ h1 h3 h4

theorem wanted_eq (ht : TmR ρ S tm a.tmps) (ops : Array Oper) (o : Oper) : Region.wanted o (yielded ops a.tmps) = wanted ops o tm := by
  unfold Region.wanted wanted
  cases o.guard with
  | none => rfl
  | some p =>
    obtain ⟨j, want⟩ := p
    dsimp only
    unfold yielded
    cases (ops[j]?).bind (·.dst) with
    | none => rfl
    | some d =>
      dsimp only [Option.bind_some]
      have hv := ht.get d
      rw [Array.getD_eq_getD_getElem?] at hv
      cases hd : a.tmps[d]? with
      | none =>
        rw [hd] at hv
        generalize tm.get d = y at hv
        simp only [Option.getD_none, undef] at hv
        cases hv <;> rfl
      | some x =>
        rw [hd] at hv
        simp only [Option.getD_some] at hv
        generalize tm.get d = y at hv
        cases hv <;> rfl

theorem one_next (hc : CallOK P call) (hq : one P call ops o tm h = .ok (v, h')) : h.next ≤ h'.next := by
  unfold one at hq
  rw [sel_eq] at hq
  split at hq
  · obtain ⟨r, hr, hq⟩ := bnd_eq_ok.1 hq
    by_cases hh : isHard o.op = true
    · cases r with
      | val v1 h1 =>
        injection hq with hq
        injection hq with _ hq
        subst hq
        exact cop_hard_next hh hr
      | call f args => exact hc.next _ _ _ _ _ hq
    · have hh : isHard o.op = false := by simpa using hh
      by_cases hal : isAlloc P o.op = true
      · obtain ⟨v1, obj, rfl, _⟩ := cop_made (P := P) (o := o) hal hr
        injection hq with hq
        injection hq with _ hq
        subst hq
        simp
      · have hal : isAlloc P o.op = false := by simpa using hal
        obtain ⟨v1, rfl⟩ := cop_read_val hal hh hr
        injection hq with hq
        injection hq with _ hq
        subst hq
        exact Nat.le_refl _
  · injection hq with hq
    injection hq with _ hq
    subst hq
    exact Nat.le_refl _

/-- A hard operation, over a heap of its own. -/
theorem hard_wp (hc : CallOK P call) (s : Sim lim ρ S h w) (ht : TmR ρ S tm a.tmps) (hh : isHard o.op = true) {r : AR} (hr : (cop P o.op).run tm h = .ok r) (hq : done call h r = .ok (v, h')) (hlim : h'.next ≤ lim)
    (hk : ∀ ρ' S' x w', VR ρ' S' v x → Sim lim ρ' S' h' w' → Ext ρ S h w ρ' S' h' w' → K (a.put o.dst x) w') : o.wp P a w K Q := by
  rcases cop_hard s ht hh hr with ⟨v1, h1, rfl, hs⟩ | ⟨f, args, xs, rfl, hxs, he⟩
  · injection hq with hq
    injection hq with e1 e2
    subst e1; subst e2
    exact (hs hlim).wp hk
  · refine DoesF.wp he (hc.does f args h v h' hq lim ρ S w xs hlim s hxs) ?_
    rintro x w' ⟨ρ', S', hv, hs, he⟩
    exact hk _ _ _ _ hv hs he

/-- One operation where it stands. -/
theorem one_wp (hc : CallOK P call) (s : Sim lim ρ S h w) (ht : TmR ρ S tm a.tmps) (hq : one P call ops o tm h = .ok (v, h')) (hlim : h'.next ≤ lim)
    (hk : ∀ ρ' S' x w', VR ρ' S' v x → Sim lim ρ' S' h' w' → Ext ρ S h w ρ' S' h' w' → K (a.put o.dst x) w') :
    (Region.wanted o (yielded ops a.tmps) = true ∧ o.wp P a w K Q) ∨ (Region.wanted o (yielded ops a.tmps) = false ∧ K (a.put o.dst undef) w) := by
  rw [wanted_eq ht]
  unfold one at hq
  rw [sel_eq] at hq
  split at hq
  · rename_i hw
    refine .inl ⟨hw, ?_⟩
    obtain ⟨r, hr, hq⟩ := bnd_eq_ok.1 hq
    by_cases hh : isHard o.op = true
    · exact hard_wp hc s ht hh hr hq hlim hk
    · have hh : isHard o.op = false := by simpa using hh
      by_cases hal : isAlloc P o.op = true
      · obtain ⟨v1, obj, rfl, hm⟩ := cop_made (P := P) (o := o) hal hr
        injection hq with hq
        injection hq with e1 e2
        subst e1; subst e2
        have hl : h.next < lim := by simp at hlim; omega
        refine (hm a ρ S w ht).wp (s.notNext hl) ?_
        intro blk y d x hid hv ho
        exact hk _ _ _ _ hv ((s.drawn d).new hl hid ho) ((Ext.drawn ρ S h w d).trans (Ext.made (s.drawn d) hl hid))
      · have hal : isAlloc P o.op = false := by simpa using hal
        obtain ⟨v1, rfl, hrd⟩ := cop_read s ht hal hh hr
        injection hq with hq
        injection hq with e1 e2
        subst e1; subst e2
        exact hrd.wp fun x hv => hk _ _ _ _ hv s (Ext.refl _ _ _ _)
  · rename_i hw
    injection hq with hq
    injection hq with e1 e2
    subst e1; subst e2
    exact .inr ⟨by simpa using hw, hk _ _ _ _ .undef s (Ext.refl _ _ _ _)⟩

/-! ### A region in its order -/
theorem seqOps_cons (o : Oper) (l : List Oper) : seqOps P call ops (o :: l) tm h = bnd (one P call ops o tm h) fun p => seqOps P call ops l (tm.put o.dst p.1) p.2 := rfl

theorem seqOps_next (hc : CallOK P call) : ∀ (l : List Oper) {tm : Tm} {h : AHeap} {st : St}, seqOps P call ops l tm h = .ok st → h.next ≤ st.heap.next
  | [], tm, h, st, hq => by injection hq with hq; subst hq; exact Nat.le_refl _
  | o :: l, tm, h, st, hq => by
    rw [seqOps_cons] at hq
    obtain ⟨p, hp, hq⟩ := bnd_eq_ok.1 hq
    exact Nat.le_trans (one_next hc hp) (seqOps_next hc l hq)

/-- What is known behind a piece of code. -/
def Post (lim : Nat) (ρ : Rho) (S : Nat → Prop) (h : AHeap) (w : World) (ds : List Deferred) (s' : St) (e : Exit) : Exit → Act → World → Prop := fun e' a' w' =>
  e' = e ∧ a'.defers = ds ∧ ∃ ρ' S', Sim lim ρ' S' s'.heap w' ∧ Ext ρ S h w ρ' S' s'.heap w' ∧ TmR ρ' S' s'.tm a'.tmps

theorem seqOps_wp (hc : CallOK P call) : ∀ (l : List Oper) (k : Nat) {tm : Tm} {h : AHeap} {st : St} {ρ : Rho} {S : Nat → Prop} {w : World} {a : Act},
    ops.toList.drop k = l → seqOps P call ops l tm h = .ok st → st.heap.next ≤ lim → Sim lim ρ S h w → TmR ρ S tm a.tmps →
    (∀ ρ' S' a' w', Sim lim ρ' S' st.heap w' → Ext ρ S h w ρ' S' st.heap w' → TmR ρ' S' st.tm a'.tmps → a'.defers = a.defers → Q .normal a' w') →
    wpOps P ops Q (List.range' k l.length) a w := by
  intro l
  induction l with
  | nil =>
    intro k tm h st ρ S w a hl hq hlim s ht hk
    injection hq with hq
    subst hq
    exact hk ρ S a w s (Ext.refl _ _ _ _) ht rfl
  | cons o l ih =>
    intro k tm h st ρ S w a hl hq hlim s ht hk
    rw [seqOps_cons] at hq
    obtain ⟨p, hp, hq⟩ := bnd_eq_ok.1 hq
    have ho : ops[k]? = some o := by
      have := congrArg (fun l => l[0]?) hl
      simpa using this
    have hl' : ops.toList.drop (k + 1) = l := by
      rw [← List.drop_drop, hl]; rfl
    have hstep := one_wp (P := P) (Q := Q) (K := wpOps P ops Q (List.range' (k + 1) l.length)) hc s ht hp (Nat.le_trans (seqOps_next hc l hq) hlim) (fun ρ' S' x w' hv hs he => by
      refine ih (k + 1) hl' hq hlim hs ((ht.mono he.agree he.sub).put hv o.dst) ?_
      intro ρ2 S2 a2 w2 h1 h2 h3 h4
      refine hk ρ2 S2 a2 w2 h1 (he.trans h2) h3 ?_
      rw [h4, Act.put_defers])
    show wpOps P ops Q (k :: List.range' (k + 1) l.length) a w
    simp only [wpOps, ho]
    rcases hstep with ⟨hw, hs⟩ | ⟨hw, hs⟩
    · rw [if_pos hw]; exact .inl hs
    · rw [if_neg (by simp [hw])]; exact hs
end
end Go.AM
