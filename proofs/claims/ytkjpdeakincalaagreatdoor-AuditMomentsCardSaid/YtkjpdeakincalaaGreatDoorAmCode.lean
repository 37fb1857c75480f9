/- Code and calls: what the abstract machine computes is what the model computes. -/
import Derived.Test.YtkjpdeakincalaaGreatDoorAmRegion
import Derived.Scope
set_option linter.unusedVariables false
namespace Go.AM

def toExit : Ex → Exit
  | .normal => .normal
  | .exit id => .exit id
  | .goto l => .goto l
  | .ret => .ret

/-- What is asked of the program's table. -/
structure AmFair (P : Program) : Prop where
  mixed : P.follows .mixedOrders = true
  named : ∀ (f : FuncId) (fn : Func), P.funcs[f]? = some fn → fn.body.isSome = true → (fn.name == "runtime.NumGoroutine") = false

structure CodeOK (P : Program) (code : Code → St → E (Ex × St)) : Prop where
  next : ∀ c s e s', code c s = .ok (e, s') → s.heap.next ≤ s'.heap.next
  wp : ∀ c s e s', code c s = .ok (e, s') → ∀ (lim : Nat) (ρ : Rho) (S : Nat → Prop) (a : Act) (w : World), s'.heap.next ≤ lim → Sim lim ρ S s.heap w → TmR ρ S s.tm a.tmps →
    c.wp P (Post lim ρ S s.heap w a.defers s' (toExit e)) a w
  rounds : ∀ b s e s', code (.loop b) s = .ok (e, s') → ∃ m, ∀ (lim : Nat) (ρ : Rho) (S : Nat → Prop) (a : Act) (w : World), s'.heap.next ≤ lim → Sim lim ρ S s.heap w → TmR ρ S s.tm a.tmps →
    Code.rounds P b (Post lim ρ S s.heap w a.defers s' (toExit e)) m a w

section
variable {P : Program} {F : Fns} {lim : Nat} {ρ : Rho} {S : Nat → Prop} {a : Act} {w : World}

theorem Post.trans {h h1 : AHeap} {w1 w' : World} {ds : List Deferred} {s' : St} {e e' : Exit} {a' : Act} {ρ1 : Rho} {S1 : Nat → Prop} (he : Ext ρ S h w ρ1 S1 h1 w1)
    (p : Post lim ρ1 S1 h1 w1 ds s' e e' a' w') : Post lim ρ S h w ds s' e e' a' w' := by
  obtain ⟨h1, h2, ρ', S', h3, h4, h5⟩ := p
  exact ⟨h1, h2, ρ', S', h3, he.trans h4, h5⟩

theorem rounds_mono {c : Code} {Q Q' : Exit → Act → World → Prop} (hq : ∀ e a w, Q e a w → Q' e a w) : ∀ (m : Nat) {a : Act} {w : World}, Code.rounds P c Q m a w → Code.rounds P c Q' m a w
  | 0, _, _, h => h
  | m + 1, a, w, h => by
    refine wp_mono h fun e a w h => ?_
    cases e <;> first | exact rounds_mono hq m h | exact hq _ _ _ h

theorem okN_eq {x : E St} {r : Ex × St} (h : okN x = .ok r) : ∃ s, x = .ok s ∧ r = (.normal, s) := by
  obtain ⟨s, hs, h⟩ := bnd_eq_ok.1 h
  injection h with h
  exact ⟨s, hs, h.symm⟩

theorem codeSeq_eq {x y : Code} {s : St} {r : Ex × St} (h : codeSeq F x y s = .ok r) :
    (∃ s1, F.code x s = .ok (.normal, s1) ∧ F.code y s1 = .ok r) ∨ (F.code x s = .ok r ∧ r.1 ≠ .normal) := by
  obtain ⟨q, hq, h⟩ := bnd_eq_ok.1 h
  obtain ⟨e, s1⟩ := q
  cases e <;> simp only at h
  · exact .inl ⟨s1, hq, h⟩
  all_goals
    injection h with h
    subst h
    exact .inr ⟨hq, by simp⟩

theorem codeLoop_eq {x : Code} {s : St} {r : Ex × St} (h : codeLoop F x s = .ok r) :
    (∃ s1, F.code x s = .ok (.normal, s1) ∧ F.code (.loop x) s1 = .ok r) ∨ (F.code x s = .ok r ∧ r.1 ≠ .normal) := by
  obtain ⟨q, hq, h⟩ := bnd_eq_ok.1 h
  obtain ⟨e, s1⟩ := q
  cases e <;> simp only at h
  · exact .inl ⟨s1, hq, h⟩
  all_goals
    injection h with h
    subst h
    exact .inr ⟨hq, by simp⟩

theorem codeBlock_eq {id : Nat} {x : Code} {s : St} {r : Ex × St} (h : codeBlock F id x s = .ok r) :
    ∃ e s1, F.code x s = .ok (e, s1) ∧ ((e = .exit id ∧ r = (.normal, s1)) ∨ (e ≠ .exit id ∧ r = (e, s1))) := by
  obtain ⟨q, hq, h⟩ := bnd_eq_ok.1 h
  obtain ⟨e, s1⟩ := q
  refine ⟨e, s1, hq, ?_⟩
  cases e <;> simp only at h
  case exit id' =>
    rw [sel_eq, beq_eq] at h
    by_cases e : id' = id
    · rw [if_pos (by simp [e])] at h
      injection h with h
      exact .inl ⟨by rw [e], h.symm⟩
    · rw [if_neg (by simp [e])] at h
      injection h with h
      exact .inr ⟨by simp [e], h.symm⟩
  all_goals
    injection h with h
    exact .inr ⟨by simp, h.symm⟩

theorem codeScope_eq {x : Code} {s : St} {r : Ex × St} (h : codeScope F x s = .ok r) : F.code x s = .ok r ∧ ∀ l, r.1 ≠ .goto l := by
  obtain ⟨q, hq, h⟩ := bnd_eq_ok.1 h
  obtain ⟨e, s1⟩ := q
  cases e <;> simp only at h
  case goto l => cases h
  all_goals
    injection h with h
    subst h
    exact ⟨hq, by simp⟩

theorem region_wp (hf : AmFair P) (hc : CallOK P F.call) {ops : Array Oper} {draw : Bool} {s s' : St} {e : Ex} (hq : codeRegion P F ops draw s = .ok (e, s')) :
    s.heap.next ≤ s'.heap.next ∧ ∀ {lim : Nat} {ρ : Rho} {S : Nat → Prop} {a : Act} {w : World} (id : Nat), s'.heap.next ≤ lim → Sim lim ρ S s.heap w → TmR ρ S s.tm a.tmps →
      (Code.region id ops draw).wp P (Post lim ρ S s.heap w a.defers s' (toExit e)) a w := by
  obtain ⟨st, hst, e1⟩ := okN_eq hq
  injection e1 with e1 e2
  subst e1; subst e2
  cases draw with
  | true =>
    obtain ⟨h1, h2⟩ := drawOps_wp hc hst
    refine ⟨h1, fun {lim ρ S a w} id hlim sm ht => ?_⟩
    refine wp_region_any hf.mixed (h2 hlim (sm.drawn (w.drawn + 1)) ht ?_)
    intro ρ' S' a' w' h3 h4 h5 h6
    exact ⟨rfl, h6, ρ', S', h3, (Ext.drawn ρ S s.heap w (w.drawn + 1)).trans h4, h5⟩
  | false =>
    refine ⟨seqOps_next hc _ hst, fun {lim ρ S a w} id hlim sm ht => ?_⟩
    refine wp_region ?_
    rw [List.range_eq_range', show ops.size = ops.toList.length by simp]
    refine seqOps_wp hc ops.toList 0 rfl hst hlim sm ht ?_
    intro ρ' S' a' w' h3 h4 h5 h6
    exact ⟨rfl, h6, ρ', S', h3, h4, h5⟩

theorem step_next (hf : AmFair P) (hF : CodeOK P F.code) (hc : CallOK P F.call) : ∀ (c : Code) (s : St) (e : Ex) (s' : St), codeStep P F c s = .ok (e, s') → s.heap.next ≤ s'.heap.next := by
  intro c s e s' hq
  cases c <;> simp only [codeStep] at hq <;> try (cases hq; done)
  case skip => injection hq with hq; injection hq with _ hq; subst hq; exact Nat.le_refl _
  case label => injection hq with hq; injection hq with _ hq; subst hq; exact Nat.le_refl _
  case exit => injection hq with hq; injection hq with _ hq; subst hq; exact Nat.le_refl _
  case goto => injection hq with hq; injection hq with _ hq; subst hq; exact Nat.le_refl _
  case ret => injection hq with hq; injection hq with _ hq; subst hq; exact Nat.le_refl _
  case region id ops draw => exact (region_wp hf hc hq).1
  case seq x y =>
    rcases codeSeq_eq hq with ⟨s1, h1, h2⟩ | ⟨h1, _⟩
    · exact Nat.le_trans (hF.next _ _ _ _ h1) (hF.next _ _ _ _ h2)
    · exact hF.next _ _ _ _ h1
  case cond c x y =>
    obtain ⟨v, hv, hq⟩ := bnd_eq_ok.1 hq
    obtain ⟨t, ht, hq⟩ := bnd_eq_ok.1 hq
    rw [sel_eq] at hq
    split at hq <;> exact hF.next _ _ _ _ hq
  case block id x =>
    obtain ⟨e1, s1, h1, h2⟩ := codeBlock_eq hq
    rcases h2 with ⟨_, h2⟩ | ⟨_, h2⟩ <;> (injection h2 with _ h2; subst h2; exact hF.next _ _ _ _ h1)
  case loop x =>
    rcases codeLoop_eq hq with ⟨s1, h1, h2⟩ | ⟨h1, _⟩
    · exact Nat.le_trans (hF.next _ _ _ _ h1) (hF.next _ _ _ _ h2)
    · exact hF.next _ _ _ _ h1
  case scope x => exact hF.next _ _ _ _ (codeScope_eq hq).1

theorem loop_rounds (hF : CodeOK P F.code) {b : Code} {s s' : St} {e : Ex} (hq : codeLoop F b s = .ok (e, s')) :
    ∃ m, ∀ (lim : Nat) (ρ : Rho) (S : Nat → Prop) (a : Act) (w : World), s'.heap.next ≤ lim → Sim lim ρ S s.heap w → TmR ρ S s.tm a.tmps → Code.rounds P b (Post lim ρ S s.heap w a.defers s' (toExit e)) m a w := by
  rcases codeLoop_eq hq with ⟨s1, h1, h2⟩ | ⟨h1, hne⟩
  · obtain ⟨m, hm⟩ := hF.rounds _ _ _ _ h2
    refine ⟨m + 1, fun lim ρ S a w hlim sm ht => ?_⟩
    have hw := hF.wp _ _ _ _ h1 lim ρ S a w (Nat.le_trans (hF.next _ _ _ _ h2) hlim) sm ht
    refine wp_mono hw fun e' a' w' h => ?_
    obtain ⟨rfl, hd, ρ1, S1, g1, g2, g3⟩ := h
    refine rounds_mono (fun e2 a2 w2 p => ?_) m (hm lim ρ1 S1 a' w' hlim g1 g3)
    rw [hd] at p
    exact Post.trans g2 p
  · refine ⟨1, fun lim ρ S a w hlim sm ht => wp_mono (hF.wp _ _ _ _ h1 lim ρ S a w hlim sm ht) fun e' a' w' h => ?_⟩
    obtain ⟨rfl, h⟩ := h
    cases e with
    | normal => exact absurd rfl hne
    | exit id => exact ⟨rfl, h⟩
    | goto l => exact ⟨rfl, h⟩
    | ret => exact ⟨rfl, h⟩

theorem step_wp (hf : AmFair P) (hF : CodeOK P F.code) (hc : CallOK P F.call) : ∀ (c : Code) (s : St) (e : Ex) (s' : St), codeStep P F c s = .ok (e, s') →
    ∀ (lim : Nat) (ρ : Rho) (S : Nat → Prop) (a : Act) (w : World), s'.heap.next ≤ lim → Sim lim ρ S s.heap w → TmR ρ S s.tm a.tmps → c.wp P (Post lim ρ S s.heap w a.defers s' (toExit e)) a w := by
  intro c s e s' hq lim ρ S a w hlim sm ht
  have here : ∀ {e0 : Ex}, (Except.ok (e0, s) : E (Ex × St)) = .ok (e, s') → Post lim ρ S s.heap w a.defers s' (toExit e) (toExit e0) a w := by
    intro e0 h
    injection h with h
    injection h with h1 h2
    subst h1; subst h2
    exact ⟨rfl, rfl, ρ, S, sm, Ext.refl _ _ _ _, ht⟩
  cases c <;> simp only [codeStep] at hq <;> try (cases hq; done)
  case skip => exact wp_skip (here hq)
  case label => exact wp_label (here hq)
  case exit => exact wp_exit (here hq)
  case goto => exact wp_goto (here hq)
  case ret => exact wp_ret (here hq)
  case region id ops draw => exact (region_wp hf hc hq).2 id hlim sm ht
  case seq x y =>
    rcases codeSeq_eq hq with ⟨s1, h1, h2⟩ | ⟨h1, hne⟩
    · refine wp_seq (wp_mono (hF.wp _ _ _ _ h1 lim ρ S a w (Nat.le_trans (hF.next _ _ _ _ h2) hlim) sm ht) fun e' a' w' h => ?_)
      obtain ⟨rfl, hd, ρ1, S1, g1, g2, g3⟩ := h
      refine wp_mono (hF.wp _ _ _ _ h2 lim ρ1 S1 a' w' hlim g1 g3) fun e2 a2 w2 p => ?_
      rw [hd] at p
      exact Post.trans g2 p
    · refine wp_seq (wp_mono (hF.wp _ _ _ _ h1 lim ρ S a w hlim sm ht) fun e' a' w' h => ?_)
      obtain ⟨rfl, h⟩ := h
      cases e with
      | normal => exact absurd rfl hne
      | exit id => exact ⟨rfl, h⟩
      | goto l => exact ⟨rfl, h⟩
      | ret => exact ⟨rfl, h⟩
  case cond c x y =>
    obtain ⟨v, hv, hq⟩ := bnd_eq_ok.1 hq
    obtain ⟨t, htv, hq⟩ := bnd_eq_ok.1 hq
    have hx := ev_VR ht hv
    cases v <;> simp only [asB] at htv <;> try contradiction
    injection htv with htv
    subst htv
    generalize hy : a.eval c = y at hx
    cases hx
    refine wp_cond hy ?_
    rw [sel_eq] at hq
    split at hq
    · rename_i hb; rw [if_pos hb]; exact hF.wp _ _ _ _ hq lim ρ S a w hlim sm ht
    · rename_i hb; rw [if_neg hb]; exact hF.wp _ _ _ _ hq lim ρ S a w hlim sm ht
  case block id x =>
    obtain ⟨e1, s1, h1, h2⟩ := codeBlock_eq hq
    have hs : s1 = s' := by rcases h2 with ⟨_, h2⟩ | ⟨_, h2⟩ <;> (injection h2 with _ h2; exact h2.symm)
    subst hs
    refine wp_block (wp_mono (hF.wp _ _ _ _ h1 lim ρ S a w hlim sm ht) fun e' a' w' h => ?_)
    obtain ⟨rfl, h⟩ := h
    rcases h2 with ⟨he, h2⟩ | ⟨he, h2⟩
    · subst he
      injection h2 with h2 _
      subst h2
      show Exit.inBlock id _ (.exit id) a' w'
      unfold Exit.inBlock
      dsimp only
      rw [if_pos rfl]
      exact ⟨rfl, h⟩
    · injection h2 with h2 _
      subst h2
      cases e with
      | normal => exact ⟨rfl, h⟩
      | exit id' =>
        show Exit.inBlock id _ (.exit id') a' w'
        unfold Exit.inBlock
        dsimp only
        rw [if_neg (fun hh => he (by rw [hh]))]
        exact ⟨rfl, h⟩
      | goto l => exact ⟨rfl, h⟩
      | ret => exact ⟨rfl, h⟩
  case loop x =>
    obtain ⟨m, hm⟩ := loop_rounds hF hq
    exact wp_loop_rounds m (hm lim ρ S a w hlim sm ht)
  case scope x =>
    obtain ⟨h1, h2⟩ := codeScope_eq hq
    refine wp_scope_straight (wp_mono (hF.wp _ _ _ _ h1 lim ρ S a w hlim sm ht) fun e' a' w' h => ?_)
    obtain ⟨rfl, h⟩ := h
    cases e with
    | normal => exact ⟨rfl, h⟩
    | exit id => exact ⟨rfl, h⟩
    | goto l => exact absurd rfl (h2 l)
    | ret => exact ⟨rfl, h⟩

theorem step_code (hf : AmFair P) (hF : CodeOK P F.code) (hc : CallOK P F.call) : CodeOK P (codeStep P F) :=
  ⟨step_next hf hF hc, step_wp hf hF hc, fun b s e s' hq => loop_rounds hF hq⟩

/-! ### Calls -/
theorem frame_TmR {vs : List AVal} {xs : List Value} (hv : VRs ρ S vs xs) (k : Nat) : TmR ρ S (frame vs k) (xs.toArray ++ Array.replicate (k - xs.toArray.size) undef) := by
  refine ⟨?_, fun i => ?_⟩
  · have := hv.length
    simp [frame]
    omega
  · show VR ρ S (content [aundef] (fromList 0 vs .leaf) i) _
    rw [content_fromList]
    have hl := hv.length
    by_cases hi : i < vs.length
    · rw [if_pos ⟨by omega, by omega⟩]
      obtain ⟨x, hx, hvx⟩ := hv.get i vs[i] (by simp [hi])
      have e : (xs.toArray ++ Array.replicate (k - xs.toArray.size) undef).getD i undef = x := by
        rw [Array.getD_eq_getD_getElem?, Array.getElem?_append_left (by simp; omega)]
        simp [hx]
      rw [e]
      have : vs.getD (i - 0) aundef = vs[i] := by simp [List.getD, hi]
      rw [this]
      exact hvx
    · rw [if_neg (by omega)]
      have e : (xs.toArray ++ Array.replicate (k - xs.toArray.size) undef).getD i undef = undef := by
        rw [Array.getD_eq_getD_getElem?, Array.getElem?_append_right (by simp; omega)]
        rw [Array.getElem?_replicate]
        split <;> rfl
      rw [e]
      exact .undef

theorem mapM_results {h : AHeap} {tm : Tm} {tmps : Array Value} (sm : Sim lim ρ S h w) (ht : TmR ρ S tm tmps) : ∀ (l : List ResultVar) (vs : List AVal), mapE (resultOf P tm h) l = .ok vs →
    ∃ xs : List Value, (l.mapM (fun (r : ResultVar) => (match r with
      | .tmp t => pure (tmps.getD t undef)
      | .cell a t => do Go.loadVar t (← asAddr (tmps.getD a undef)) : Sem Value))).run P w = .ok xs w ∧ VRs ρ S vs xs := by
  intro l
  induction l with
  | nil => intro vs h; injection h with h; subst h; exact ⟨[], rfl, .nil⟩
  | cons r l ih =>
    intro vs hq
    rw [mapE_cons] at hq
    obtain ⟨v, hv, hq⟩ := bnd_eq_ok.1 hq
    obtain ⟨us, hus, hq⟩ := bnd_eq_ok.1 hq
    injection hq with hq
    subst hq
    obtain ⟨xs, hxs, hvs⟩ := ih us hus
    have hr : ∃ x, ((match r with
      | .tmp t => pure (tmps.getD t undef)
      | .cell a t => do Go.loadVar t (← asAddr (tmps.getD a undef)) : Sem Value)).run P w = .ok x w ∧ VR ρ S v x := by
      cases r with
      | tmp t =>
        injection hv with hv
        subst hv
        exact ⟨_, rfl, ht.get t⟩
      | cell c t =>
        obtain ⟨agg, hagg, hv⟩ := bnd_eq_ok.1 hv
        obtain ⟨k, hk, hv⟩ := bnd_eq_ok.1 hv
        have hx := ht.get c
        obtain ⟨x, hx1, hx2⟩ := loadVar_sound hagg hk hx hv sm
        refine ⟨x, ?_, hx2⟩
        show Sem.run P (do Go.loadVar t (← asAddr (tmps.getD c undef))) w = _
        generalize tmps.getD c undef = y at hx hx1
        generalize tm.get c = u at hx hv
        cases hx <;> simp only [Go.AM.loadVar] at hv <;> try contradiction
        exact hx1
    obtain ⟨x, hx, hvx⟩ := hr
    refine ⟨x :: xs, ?_, .cons _ _ _ _ hvx hvs⟩
    rw [List.mapM_cons]
    simp only [Sem.run_bind, hx, Result.andThen_ok, hxs, Sem.run_pure]

theorem results_sound {fn : Func} {s : St} {v : AVal} {h' : AHeap} {tmps : Array Value} (hq : results P fn s = .ok (v, h')) (sm : Sim lim ρ S s.heap w) (ht : TmR ρ S s.tm tmps) :
    h' = s.heap ∧ ∃ x, (Go.results fn tmps).run P w = .ok x w ∧ VR ρ S v x := by
  unfold results at hq
  obtain ⟨vs, hvs, hq⟩ := bnd_eq_ok.1 hq
  obtain ⟨xs, hxs, hv⟩ := mapM_results (P := P) sm ht _ _ hvs
  have hrun : ∀ x, x = (if h : xs.toArray.size = 1 then xs.toArray[0] else .tuple xs.toArray) → (Go.results fn tmps).run P w = .ok x w := by
    rintro x rfl
    unfold Go.results
    rw [Array.mapM_eq_mapM_toList]
    simp only [Sem.run_bind, Sem.run_map]
    erw [hxs]
    rfl
  have hl := hv.length
  split at hq
  · rename_i v1
    injection hq with hq
    injection hq with h1 h2
    subst h1
    cases hv with
    | cons _ x _ _ hx hn =>
      cases hn
      exact ⟨h2.symm, x, hrun x (by simp), hx⟩
  · rename_i hne
    injection hq with hq
    injection hq with h1 h2
    subst h1
    refine ⟨h2.symm, .tuple xs.toArray, hrun _ ?_, .tuple _ _ hv⟩
    rw [dif_neg]
    intro e
    match vs, hl, hne with
    | [], hl, _ => simp at e; rw [e] at hl; cases hl
    | [v], _, hne => exact hne v rfl
    | _ :: _ :: _, hl, _ => simp at e; rw [e] at hl; simp at hl

/-- Contracts. -/
def CtrOK (P : Program) (C : Ctr) : Prop := ∀ f g, C f = some g →
  (∀ args h v h', g args h = .ok (v, h') → h.next ≤ h'.next) ∧
  (∀ args h v h', g args h = .ok (v, h') → ∀ (lim : Nat) (ρ : Rho) (S : Nat → Prop) (w : World) (xs : List Value), h'.next ≤ lim → Sim lim ρ S h w → VRs ρ S args xs →
    DoesF P f xs w fun x w' => ∃ ρ' S', VR ρ' S' v x ∧ Sim lim ρ' S' h' w' ∧ Ext ρ S h w ρ' S' h' w')

theorem callBody_calls (hF : CodeOK P F.code) {f : FuncId} {fn : Func} {body : Code} {args : List AVal} {h : AHeap} {v : AVal} {h' : AHeap} (hfn : P.funcs[f]? = some fn) (hb : fn.body = some body)
    (hq : callBody P F fn body args h = .ok (v, h')) : h.next ≤ h'.next ∧ ∀ (lim : Nat) (ρ : Rho) (S : Nat → Prop) (w : World) (xs : List Value), h'.next ≤ lim → Sim lim ρ S h w → VRs ρ S args xs →
      Calls P f xs.toArray w fun | .returned x, w' => ∃ ρ' S', VR ρ' S' v x ∧ Sim lim ρ' S' h' w' ∧ Ext ρ S h w ρ' S' h' w' | _, _ => False := by
  unfold callBody at hq
  obtain ⟨⟨e, s1⟩, hcode, hq⟩ := bnd_eq_ok.1 hq
  have hres : results P fn s1 = .ok (v, h') ∧ (e = .ret ∨ e = .normal) := by
    cases e <;> simp only at hq <;> first | exact ⟨hq, .inl rfl⟩ | exact ⟨hq, .inr rfl⟩ | cases hq
  have hh : h' = s1.heap := by
    unfold results at hres
    obtain ⟨vs, _, hr⟩ := bnd_eq_ok.1 hres.1
    split at hr <;> (injection hr with hr; injection hr with _ hr; exact hr.symm)
  subst hh
  refine ⟨hF.next _ _ _ _ hcode, fun lim ρ S w xs hlim sm hv => ?_⟩
  refine calls_of_wp hfn hb ?_
  refine wp_mono (hF.wp _ _ _ _ hcode lim ρ S ⟨xs.toArray ++ Array.replicate (fn.ntmps - xs.toArray.size) undef, []⟩ w hlim sm (frame_TmR hv fn.ntmps)) fun e' a' w' p => ?_
  obtain ⟨rfl, hd, ρ', S', g1, g2, g3⟩ := p
  obtain ⟨_, x, hx, hvx⟩ := results_sound hres.1 g1 g3
  rcases hres.2 with rfl | rfl
  · exact ⟨hd, x, hx, ρ', S', hvx, g1, g2⟩
  · exact ⟨hd, x, hx, ρ', S', hvx, g1, g2⟩

theorem run_program (w : World) : (program : Sem Program).run P w = .ok P w := rfl

theorem callFunc_body (hf : AmFair P) {f : FuncId} {fn : Func} (hfn : P.funcs[f]? = some fn) (hb : fn.body.isSome = true) (xs : Array Value) (w : World) : (callFunc f xs).run P w = .ok (.enter f xs) w := by
  have hn := hf.named f fn hfn hb
  have hb' : fn.body.isNone = false := by cases h : fn.body <;> simp_all
  unfold callFunc
  simp only [Sem.run_bind, run_program, Result.andThen_ok, hfn, hn, hb', Bool.false_eq_true, if_false, Sem.run_pure]

theorem step_call (hf : AmFair P) (hF : CodeOK P F.code) {C : Ctr} (hC : CtrOK P C) : CallOK P (callStep P C F) := by
  have key : ∀ f args h v h', callStep P C F f args h = .ok (v, h') → (∃ g, C f = some g ∧ g args h = .ok (v, h')) ∨
      (∃ fn body, P.funcs[f]? = some fn ∧ fn.body = some body ∧ callBody P F fn body args h = .ok (v, h')) := by
    intro f args h v h' hq
    unfold callStep at hq
    split at hq
    · rename_i g hg
      exact .inl ⟨g, hg, hq⟩
    · obtain ⟨fn, hfn, hq⟩ := bnd_eq_ok.1 hq
      obtain ⟨body, hb, hq⟩ := bnd_eq_ok.1 hq
      exact .inr ⟨fn, body, opt_eq_ok.1 hfn, opt_eq_ok.1 hb, hq⟩
  refine ⟨fun f args h v h' hq => ?_, fun f args h v h' hq lim ρ S w xs hlim sm hv => ?_⟩
  · rcases key f args h v h' hq with ⟨g, hg, hq⟩ | ⟨fn, body, hfn, hb, hq⟩
    · exact (hC f g hg).1 _ _ _ _ hq
    · exact (callBody_calls hF hfn hb hq).1
  · rcases key f args h v h' hq with ⟨g, hg, hq⟩ | ⟨fn, body, hfn, hb, hq⟩
    · exact (hC f g hg).2 _ _ _ _ hq lim ρ S w xs hlim sm hv
    · unfold DoesF
      rw [callFunc_body hf hfn (by rw [hb]; rfl)]
      exact (callBody_calls hF hfn hb hq).2 lim ρ S w xs hlim sm hv

theorem evalF_ok (hf : AmFair P) {C : Ctr} (hC : CtrOK P C) : ∀ n, CodeOK P (evalF P C n).code ∧ CallOK P (evalF P C n).call
  | 0 => ⟨⟨fun _ _ _ _ h => (by cases h), fun _ _ _ _ h => (by cases h), fun _ _ _ _ h => (by cases h)⟩, ⟨fun _ _ _ _ _ h => (by cases h), fun _ _ _ _ _ h => (by cases h)⟩⟩
  | n + 1 => by
    obtain ⟨h1, h2⟩ := evalF_ok hf hC n
    exact ⟨step_code (F := evalF P C n) hf h1 h2, step_call (F := evalF P C n) hf h1 hC⟩

/-- What the abstract machine computes for a call is what the call answers. -/
theorem evalF_calls (hf : AmFair P) {C : Ctr} (hC : CtrOK P C) {n : Nat} {f : FuncId} {args : List AVal} {h : AHeap} {v : AVal} {h' : AHeap} (hq : (evalF P C n).call f args h = .ok (v, h'))
    {ρ : Rho} {S : Nat → Prop} {w : World} {xs : List Value} (sm : Sim h'.next ρ S h w) (hv : VRs ρ S args xs) :
    DoesF P f xs w fun x w' => ∃ ρ' S', VR ρ' S' v x ∧ Sim h'.next ρ' S' h' w' ∧ Ext ρ S h w ρ' S' h' w' :=
  (evalF_ok hf hC n).2.does _ _ _ _ _ hq _ _ _ _ _ (Nat.le_refl _) sm hv
end
end Go.AM
