/- Operations, ninth part: ranging; append, copy, clear, len; conversions. -/
import Derived.Test.YtkjpdeakincalaaGreatDoorAmOpsH
namespace Go.AM
section
variable {lim : Nat} {P : Program} {ρ : Rho} {h h' : AHeap} {w : World} {n : Nat → Prop}

/-- A new block of another make, or cells: all that is asked. -/
theorem SemV.made (s : Sim lim ρ n h w) (hlim : h.next < lim) {o : AObj} {x : Obj} {sm : Sem Value} {v : AVal} {v' : Value} {blk : Blk} (hid : blk.id = w.heap.size)
    (hr : sm.run P w = .ok v' (w.alloc x)) (hv : VR (upd ρ h.next blk) (ins n h.next) v v') (ho : ObjR (upd ρ h.next blk) (ins n h.next) h.next o x) :
    SemV lim P sm ρ n h w v (h.new o) :=
  ⟨_, _, _, _, hr, hv, s.new hlim hid ho, Ext.made s hlim hid⟩

theorem range_sound (s : Sim lim ρ n h w) (hlim : h'.next ≤ lim) {t : TypeId} {u : TypeDesc} {x v : AVal} {x' : Value} (hu : uty P t = .ok u)
    (hk : (u = .string ∧ ∃ l, x = .str l) ∨ ((∃ k e, u = .map k e) ∧ ∀ l, x ≠ .str l)) (hq : rangeOp x h = .ok (v, h')) (hx : VR ρ n x x') : SemV lim P (Instr.range t x') ρ n h w v h' := by
  have key : ∀ (o : AObj) (it : Obj), h' = h.new o → v = .ptr h.next 0 → ObjR (upd ρ h.next ⟨w.heap.size, 0, 1⟩) (ins n h.next) h.next o it →
      (Instr.range t x').run P w = .ok (.pointer (some ⟨w.heap.size, 0, none⟩)) (w.alloc it) → SemV lim P (Instr.range t x') ρ n h w v h' := by
    intro o it e1 e2 ho hr
    subst e1; subst e2
    exact SemV.made s hlim (blk := ⟨w.heap.size, 0, 1⟩) rfl hr (ptr_new _ _ _ _) ho
  rcases hk with ⟨rfl, l, rfl⟩ | ⟨⟨k, e, rfl⟩, hns⟩
  · cases hx
    simp only [rangeOp, Except.ok.injEq, Prod.mk.injEq] at hq
    refine key _ (.stringIter ⟨l.toArray⟩ 0) hq.2.symm hq.1.symm (.siter l 0) ?_
    simp only [Instr.range, Sem.run_bind, uty_run hu, Result.andThen_ok, Sem.run_pure, run_newObj]
    rfl
  · cases hx <;> simp only [rangeOp] at hq <;> try contradiction
    · exact absurd rfl (hns _)
    · rename_i m hm
      rw [bnd_eq_ok] at hq
      obtain ⟨p, hp, hq⟩ := hq
      simp only [Except.ok.injEq, Prod.mk.injEq] at hq
      obtain ⟨es', hgr, hw, hent⟩ := getMap_sound s hp
      have hnn : m ≠ h.next := fun e => by
        have := s.fresh _ hm
        have h2 : h.next + 1 ≤ lim := by rw [← hq.2] at hlim; simpa using hlim
        omega
      refine key _ (.mapIter (some (ρ m).id) p.2 #[] p.2) hq.2.symm hq.1.symm ?_ ?_
      · have := ObjR.miter (ρ := upd ρ h.next ⟨w.heap.size, 0, 1⟩) (n := ins n h.next) (b := h.next) m p.2 [] p.2 (.inl hm)
        rw [upd_other _ _ _ _ hnn] at this
        exact this
      · simp only [Instr.range, Sem.run_bind, uty_run hu, Result.andThen_ok, Sem.run_pure, run_getObj_map hw, run_newObj]
        rfl
    · simp only [Except.ok.injEq, Prod.mk.injEq] at hq
      refine key _ (.mapIter none 0 #[] 0) hq.2.symm hq.1.symm (.miterNil 0 [] 0) ?_
      simp only [Instr.range, Sem.run_bind, uty_run hu, Result.andThen_ok, Sem.run_pure, run_newObj]
      rfl

theorem run_getObj_iter {r : Nat} {o : Obj} (hy : w.heap[r]? = some o) (hc : ∀ a b c, o ≠ .cells a b c) : (getObj r).run P w = .ok o w := by
  cases o with
  | cells a b c => exact absurd rfl (hc a b c)
  | _ => simp [getObj, Sem.run, hy]

theorem filter_contains (es : Array MapEntry) (seen : List Nat) : (es.filter fun e => !seen.toArray.contains e.born).toList = es.toList.filter fun e => !seen.contains e.born := by
  simp

theorem next_sound (s : Sim lim ρ n h w) {isString : Bool} {it v : AVal} {it' : Value} {ty : TypeId} (hq : nextOp isString it h = .ok (v, h')) (hx : VR ρ n it it') :
    SemV lim P (Instr.next it' isString ty) ρ n h w v h' := by
  cases hx <;> simp only [nextOp] at hq <;> try contradiction
  rename_i r o hr
  cases o with
  | succ o => cases hq
  | zero =>
    simp only at hq
    split at hq
    · -- a text
      rename_i l pos hg
      obtain ⟨y, hy, ho⟩ := s.obj r _ hg
      cases ho
      rw [sel_eq_ok] at hq
      obtain ⟨rfl, hq⟩ := hq
      have hsz : (ByteArray.mk l.toArray).size = l.length := by simp [ByteArray.size]
      have hget : (getObj (ρ r).id).run P w = .ok (.stringIter ⟨l.toArray⟩ pos) w := run_getObj_iter hy (by simp)
      rw [sel_eq, blt_eq] at hq
      by_cases hp : pos < l.length
      · rw [decide_eq_true hp, if_pos rfl] at hq
        injection hq with hq
        injection hq with hv hh
        subst hv; subst hh
        obtain ⟨h1, h2⟩ := s.setObj hg (o' := .siter l (pos + (decodeAt l pos).2)) (x' := .stringIter ⟨l.toArray⟩ (pos + (decodeAt l pos).2)) (.siter _ _)
        refine ⟨ρ, n, _, _, ?_, .tuple _ _ (.cons _ _ _ _ (.bool true) (.cons _ _ _ _ (.int .i64 (Int.ofNat pos)) (.cons _ _ _ _ (.int .i32 (Int.ofNat (decodeAt l pos).1)) .nil))), h1, h2⟩
        simp only [Instr.next, Sem.run_bind, hget, Result.andThen_ok, hsz, if_pos hp, run_setObj_of hy (by simp), Sem.run_pure, decodeAt]
        rfl
      · rw [decide_eq_false hp, if_neg Bool.false_ne_true] at hq
        injection hq with hq
        injection hq with hv hh
        subst hv; subst hh
        refine ⟨ρ, n, w, _, ?_, .tuple _ _ (.cons _ _ _ _ (.bool false) .nil), s, Ext.refl _ _ _ _⟩
        simp only [Instr.next, Sem.run_bind, hget, Result.andThen_ok, hsz, if_neg hp, Sem.run_pure]
    · -- no map
      rename_i since seen st hg
      obtain ⟨y, hy, ho⟩ := s.obj r _ hg
      cases ho
      have hget : (getObj (ρ r).id).run P w = .ok (.mapIter none since seen.toArray st) w := run_getObj_iter hy (by simp)
      cases isString with
      | true => cases hq
      | false =>
        rw [sel_false] at hq
        injection hq with hq
        injection hq with hv hh
        subst hv; subst hh
        refine ⟨ρ, n, w, _, ?_, .tuple _ _ (.cons _ _ _ _ (.bool false) .nil), s, Ext.refl _ _ _ _⟩
        simp only [Instr.next, Sem.run_bind, hget, Result.andThen_ok, Sem.run_pure]
    · -- a map
      rename_i m since seen last hg
      obtain ⟨y, hy, ho⟩ := s.obj r _ hg
      cases ho
      rename_i hmn
      have hget : (getObj (ρ r).id).run P w = .ok (.mapIter (some (ρ m).id) since seen.toArray last) w := run_getObj_iter hy (by simp)
      cases isString with
      | true => cases hq
      | false =>
        rw [sel_false, bnd_eq_ok] at hq
        obtain ⟨p, hp, hq⟩ := hq
        obtain ⟨es', hgr, hw, hent⟩ := getMap_sound s hp
        unfold nextMap at hq
        rw [sel_eq] at hq
        split at hq
        · cases hq
        · rename_i hgone
          have hall : (es'.all fun e => decide (e.born ≥ last)) = (p.1.all fun e => Nat.ble last e.2.2) := by
            rw [← Array.all_toList, ← hent.all (fun b => decide (b ≥ last))]
            congr 1
            funext e
            rw [ble_eq]
          have hemp : es'.isEmpty = p.1.isEmpty := by
            have e1 : es'.isEmpty = es'.toList.isEmpty := by simp
            have e2 : ∀ {a : List (AVal × AVal × Nat)} {b : List MapEntry}, EntR ρ n a b → b.isEmpty = a.isEmpty := fun hh => by cases hh <;> rfl
            exact e1.trans (e2 hent)
          have hgone' : ¬ ((!seen.toArray.isEmpty && !es'.isEmpty && es'.all fun e => decide (e.born ≥ last)) = true) := by
            rw [hall, hemp]
            simpa using hgone
          have hleft := hent.filter (fun b => !seen.contains b)
          have hforced : ∀ w : World, (choose (.mapNext 1)).run P w = .ok 0 w := fun w => by simp [choose, Sem.run, Question.forced]
          split at hq
          · rename_i hl
            rw [hl] at hleft
            injection hq with hq
            injection hq with hv hh
            subst hv; subst hh
            have hl0 : (es'.filter fun e => !seen.toArray.contains e.born) = #[] := by
              apply Array.ext'
              rw [filter_contains]
              cases hf : (es'.toList.filter fun e => !seen.contains e.born) with
              | nil => rfl
              | cons a l => rw [hf] at hleft; cases hleft
            refine ⟨ρ, n, w, _, ?_, .tuple _ _ (.cons _ _ _ _ (.bool false) .nil), s, Ext.refl _ _ _ _⟩
            simp only [Instr.next, Sem.run_bind, hget, Result.andThen_ok, run_getObj_map hw]
            rw [if_neg hgone', hl0]
            simp [hforced]
          · rename_i e hl
            rw [hl] at hleft
            rw [sel_eq_ok, blt_eq, decide_eq_true_eq] at hq
            obtain ⟨hsince, hq⟩ := hq
            injection hq with hq
            injection hq with hv hh
            subst hv; subst hh
            obtain ⟨e', hl1, hk', hv', hb'⟩ : ∃ e' : MapEntry, (es'.filter fun e => !seen.toArray.contains e.born) = #[e'] ∧ VR ρ n e.1 e'.key ∧ VR ρ n e.2.1 e'.val ∧ e'.born = e.2.2 := by
              cases hf : (es'.toList.filter fun e => !seen.contains e.born) with
              | nil => rw [hf] at hleft; cases hleft
              | cons a l =>
                rw [hf] at hleft
                cases hleft with
                | cons k v c _ _ _ h1 h2 h3 h4 =>
                  cases h4
                  exact ⟨a, by apply Array.ext'; rw [filter_contains, hf], h1, h2, h3⟩
            obtain ⟨h1, h2⟩ := s.setObj hg (o' := .miter (some m) since (seen ++ [e.2.2]) p.2) (x' := .mapIter (some (ρ m).id) since (seen ++ [e.2.2]).toArray p.2) (.miter _ _ _ _ hmn)
            refine ⟨ρ, n, _, _, ?_, .tuple _ _ (.cons _ _ _ _ (.bool true) (.cons _ _ _ _ hk' (.cons _ _ _ _ hv' .nil))), h1, h2⟩
            have hlt : e'.born < since := by rw [hb']; exact hsince
            have hge : ¬ (since ≤ e'.born) := by omega
            simp only [Instr.next, Sem.run_bind, hget, Result.andThen_ok, run_getObj_map hw]
            rw [if_neg hgone', hl1]
            have hcand : ((if (#[e'].filter fun x => decide (x.born < since)).isEmpty = true then #[none] else #[]) ++
                Array.map some ((#[e'].filter fun x => decide (x.born < since)) ++ (#[e'].filter fun x => decide (x.born ≥ since)))) = #[some e'] := by
              simp [hlt, hge]
            rw [hcand]
            simp only [List.size_toArray, List.length_cons, List.length_nil, Nat.zero_add, Sem.run_bind, hforced, Result.andThen_ok, List.getElem?_toArray, List.getElem?_cons_zero, run_setObj_of hy (by simp), Sem.run_pure]
            rw [hb']
            simp
          · cases hq
    · cases hq
end
end Go.AM
