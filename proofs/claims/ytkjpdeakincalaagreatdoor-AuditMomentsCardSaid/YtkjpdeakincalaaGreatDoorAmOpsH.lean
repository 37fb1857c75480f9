/- Operations, eighth part: what is done with maps and iterators. -/
import Derived.Test.YtkjpdeakincalaaGreatDoorAmOpsG
namespace Go.AM
section
variable {lim : Nat} {P : Program} {ρ : Rho} {h h' : AHeap} {w : World} {n : Nat → Prop}

theorem getMap_sound (s : Sim lim ρ n h w) {r : Nat} {p : List (AVal × AVal × Nat) × Nat} (hg : getMap h r = .ok p) :
    ∃ es' : Array MapEntry, h.get r = some (.map p.1 p.2) ∧ w.heap[(ρ r).id]? = some (.map es' p.2) ∧ EntR ρ n p.1 es'.toList := by
  unfold getMap at hg
  split at hg
  · rename_i es c hgr
    injection hg with hg
    subst hg
    obtain ⟨y, hy, hr⟩ := s.obj r _ hgr
    cases hr
    rename_i es' he
    exact ⟨es', hgr, hy, he⟩
  · cases hg

theorem run_getObj_map {r : Nat} {es : Array MapEntry} {c : Nat} (hy : w.heap[r]? = some (.map es c)) : (getObj r).run P w = .ok (.map es c) w := by
  simp [getObj, Sem.run, hy]

theorem run_setObj_of {r : Nat} {o o' : Obj} (hy : w.heap[r]? = some o') (hc : ∀ a b c, o' ≠ .cells a b c) : (setObj r o).run P w = .ok () { w with heap := w.heap.setIfInBounds r o } := by
  cases o' with
  | cells a b c => exact absurd rfl (hc a b c)
  | _ => simp [setObj, Sem.run, hy]

/-- A block of another make is turned. -/
theorem Sim.setObj (s : Sim lim ρ n h w) {b : Nat} {o o' : AObj} {x' : Obj} (hb : h.get b = some o) (ho : ObjR ρ n b o' x') :
    Sim lim ρ n (h.put b o') { w with heap := w.heap.setIfInBounds (ρ b).id x' } ∧ Ext ρ n h w ρ n (h.put b o') { w with heap := w.heap.setIfInBounds (ρ b).id x' } := by
  have hlt := s.lt hb
  have hat : ({ w with heap := w.heap.setIfInBounds (ρ b).id x' } : World).heap[(ρ b).id]? = some x' := by
    simp [hlt]
  have hoth : ∀ k, k ≠ (ρ b).id → ({ w with heap := w.heap.setIfInBounds (ρ b).id x' } : World).heap[k]? = w.heap[k]? := by
    intro k hk
    simp only [Array.getElem?_setIfInBounds]
    rw [if_neg (Ne.symm hk)]
  exact ⟨s.put hb ho hat hoth, Ext.put hb rfl rfl rfl (by simp) hoth⟩

theorem mapOf_sound (s : Sim lim ρ n h w) {m : AVal} {m' : Value} {es : List (AVal × AVal × Nat)} (hm : mapOf m h = .ok es) (hv : VR ρ n m m') :
    ∃ es' : Array MapEntry, EntR ρ n es es'.toList ∧ (match m' with
      | .map none => es' = #[]
      | .map (some r) => ∃ c, w.heap[r]? = some (.map es' c)
      | _ => False) := by
  cases hv <;> simp only [mapOf] at hm <;> try contradiction
  · rename_i r hr
    rw [bnd_eq_ok] at hm
    obtain ⟨p, hp, hm⟩ := hm
    injection hm with hm
    subst hm
    obtain ⟨es', h1, h2, h3⟩ := getMap_sound s hp
    exact ⟨es', h3, p.2, h2⟩
  · injection hm with hm
    subst hm
    exact ⟨#[], .nil, rfl⟩

theorem lookup_sound (s : Sim lim ρ n h w) {t : TypeId} {ke : TypeId × TypeId} {q : KeyQ} {zero m k v : AVal} {m' k' : Value} {ok : Bool} (hk : keyOf P t = .ok ke) (hq : keyQ P ke.1 = .ok q)
    (hz : tzero P ke.2 = .ok zero) (hl : lookup P q zero m k ok h = .ok v) (hm : VR ρ n m m') (hkv : VR ρ n k k') : SemP P (Instr.lookup t m' k' ok) ρ n w v := by
  unfold lookup at hl
  rw [bnd_eq_ok] at hl
  obtain ⟨es, hes, hl⟩ := hl
  rw [bnd_eq_ok] at hl
  obtain ⟨r, hr, hl⟩ := hl
  obtain ⟨es', hent, hcase⟩ := mapOf_sound s hes hm
  obtain ⟨hck, r', hfr, hfound, hat⟩ := findIn_sound s hq hkv hent hr es'.isEmpty
  obtain ⟨z, hzr, hzv⟩ := tzero_run hz w
  have start : (Instr.lookup t m' k' ok).run P w = ((Instr.findKey ke.1 k' es'.toList).run P w).andThen fun f w' =>
      (match f with
        | some (_, v) => (pure (v, true) : Sem (Value × Bool))
        | none => do pure (← Go.zeroValue ke.2, false)).run P w' |>.andThen fun p w'' => .ok (if ok then .tuple #[p.1, .bool p.2] else p.1) w'' := by
    have fin : ∀ f : Option (Nat × Value), (match f with
          | some (_, v) => do
            let (v, ok') ← (pure (v, true) : Sem (Value × Bool))
            pure (if ok = true then Value.tuple #[v, Value.bool ok'] else v)
          | none => do
            let d ← Go.zeroValue ke.2
            let (v, ok') ← (pure (d, false) : Sem (Value × Bool))
            pure (if ok = true then Value.tuple #[v, Value.bool ok'] else v)).run P w =
        ((match f with
        | some (_, v) => (pure (v, true) : Sem (Value × Bool))
        | none => do pure (← Go.zeroValue ke.2, false)).run P w).andThen fun p w'' => .ok (if ok then .tuple #[p.1, .bool p.2] else p.1) w'' := by
      intro f
      cases f with
      | none => simp only [Sem.run_bind, hzr, Result.andThen_ok, Sem.run_pure]
      | some p => rfl
    unfold Instr.lookup
    simp only [Sem.run_bind, uty_run (keyOf_eq hk), Result.andThen_ok]
    cases hm <;> simp only [mapOf] at hes <;> try contradiction
    · obtain ⟨c, hc⟩ := hcase
      simp only [Sem.run_bind, run_getObj_map hc, Result.andThen_ok, Sem.run_pure, hck, hfr]
      exact fin r'
    · simp only at hcase
      subst hcase
      simp only [Sem.run_bind, Result.andThen_ok, Sem.run_pure, hck, hfr]
      exact fin r'
  rw [SemP, start, hfr]
  simp only [Result.andThen_ok]
  cases r with
  | none =>
    simp only [FoundR] at hfound
    subst hfound
    simp only [Sem.run_bind, hzr, Result.andThen_ok, Sem.run_pure]
    simp only at hl
    injection hl with hl
    subst hl
    cases ok with
    | true => exact ⟨_, rfl, .tuple _ _ (.cons _ _ _ _ (hzv _ _) (.cons _ _ _ _ (.bool _) .nil))⟩
    | false => exact ⟨_, rfl, hzv _ _⟩
  | some p =>
    obtain ⟨i, e⟩ := p
    obtain ⟨_, e', he', hrr⟩ := hfound
    subst hrr
    simp only [Sem.run_pure, Result.andThen_ok]
    simp only at hl
    injection hl with hl
    subst hl
    obtain ⟨e2, he2, _, hv2, _⟩ := hent.get i e (hat i e rfl)
    have : e2 = e' := by
      simp only [Nat.sub_zero] at he'
      rw [he2] at he'
      exact Option.some.inj he'
    subst this
    cases ok with
    | true => exact ⟨_, rfl, .tuple _ _ (.cons _ _ _ _ hv2 (.cons _ _ _ _ (.bool _) .nil))⟩
    | false => exact ⟨_, rfl, hv2⟩

theorem sameBits_simple1 {v : AVal} {x : Value} (hs : simple1 v = true) (hv : VR ρ n v x) (d : Nat) : Instr.sameBits d x x = true := by
  cases hv <;> simp only [simple1] at hs <;> try contradiction
  all_goals cases d <;> simp [Instr.sameBits, beq_toListBytes]

theorem sameBits_all : ∀ {cs : List AVal} {xs : List Value}, VRs ρ n cs xs → (cs.all simple1) = true → ∀ d, ((xs.zip xs).all fun p => Instr.sameBits d p.1 p.2) = true
  | _, _, .nil, _, _ => rfl
  | _, _, .cons v x vs xs hv hvs, hs, d => by
    rw [List.all_cons, Bool.and_eq_true] at hs
    rw [List.zip_cons_cons, List.all_cons, sameBits_simple1 hs.1 hv d, sameBits_all hvs hs.2 d]; rfl

theorem sameBits_simple {v : AVal} {x : Value} (hs : simple v = true) (hv : VR ρ n v x) : Instr.sameBits 10000 x x = true := by
  cases hv <;> simp only [simple] at hs
  all_goals first
    | (rename_i cs xs hxs
       show Instr.sameBits (9999 + 1) _ _ = true
       unfold Instr.sameBits
       simp only [List.size_toArray, beq_self_eq_true, Bool.true_and]
       exact sameBits_all hxs hs 9999)
    | exact sameBits_simple1 (ρ := ρ) (n := n) hs (by constructor <;> assumption) 10000

theorem mapUpdate_sound (s : Sim lim ρ n h w) {t : TypeId} {ke : TypeId × TypeId} {q : KeyQ} {m k v : AVal} {m' k' v' : Value} (hk : keyOf P t = .ok ke) (hq : keyQ P ke.1 = .ok q)
    (hl : mapUpdate P q m k v h = .ok h') (hm : VR ρ n m m') (hkv : VR ρ n k k') (hvv : VR ρ n v v') :
    ∃ w', (Instr.mapUpdate t m' k' v').run P w = .ok () w' ∧ Sim lim ρ n h' w' ∧ Ext ρ n h w ρ n h' w' := by
  cases hm <;> simp only [mapUpdate] at hl <;> try contradiction
  rename_i r hr
  rw [bnd_eq_ok] at hl
  obtain ⟨p, hp, hl⟩ := hl
  rw [bnd_eq_ok] at hl
  obtain ⟨f, hf, hl⟩ := hl
  obtain ⟨es', hgr, hw, hent⟩ := getMap_sound s hp
  obtain ⟨hck, r', hfr, hfound, hat⟩ := findIn_sound s hq hkv hent hf false
  cases f with
  | none =>
    simp only [FoundR] at hfound
    subst hfound
    simp only at hl
    injection hl with hl
    subst hl
    obtain ⟨h1, h2⟩ := s.setObj hgr (o' := .map (p.1 ++ [(k, v, p.2)]) (p.2 + 1)) (x' := .map (es'.push { key := k', val := v', born := p.2 }) (p.2 + 1))
      (.map _ _ _ (by simpa using hent.append (.cons k v p.2 [] { key := k', val := v', born := p.2 } [] hkv hvv rfl .nil)))
    refine ⟨_, ?_, h1, h2⟩
    simp only [Instr.mapUpdate, Sem.run_bind, uty_run (keyOf_eq hk), Result.andThen_ok, run_getObj_map hw, hck, hfr]
    exact run_setObj_of hw (by simp)
  | some ie =>
    obtain ⟨i, e⟩ := ie
    obtain ⟨_, e', he', hrr⟩ := hfound
    subst hrr
    simp only at hl
    rw [sel_eq_ok, Bool.and_eq_true] at hl
    obtain ⟨⟨hsimple, hae⟩, hl⟩ := hl
    injection hl with hl
    subst hl
    obtain ⟨e2, he2, hk2, _, hb2⟩ := hent.get i e (hat i e rfl)
    have e22 : e2 = e' := by
      simp only [Nat.sub_zero] at he'
      rw [he2] at he'
      exact Option.some.inj he'
    subst e22
    have hkeq : e2.key = k' := by
      have := aeq_eq _ _ hae
      rw [this] at hk2
      exact hk2.det hkv
    obtain ⟨h1, h2⟩ := s.setObj hgr (o' := .map (p.1.set i (k, v, e.2.2)) p.2) (x' := .map (es'.modify i fun e => { e with key := k', val := v' }) p.2)
      (.map _ _ _ (by
        have := hent.set i k v e.2.2 { e2 with key := k', val := v' } hkv hvv hb2
        have hmod : (es'.modify i fun e => { e with key := k', val := v' }).toList = es'.toList.set i { e2 with key := k', val := v' } := by
          rw [Array.toList_modify]
          apply List.ext_getElem?
          intro j
          rw [List.getElem?_modify, List.getElem?_set]
          by_cases hj : i = j
          · subst hj
            have hlt := (List.getElem?_eq_some_iff.1 he2).1
            simp only [if_true, he2, hlt]
            rfl
          · simp [hj]
        rw [hmod]
        exact this))
    refine ⟨_, ?_, h1, h2⟩
    have hstay : (((es'[i]?).map (·.key)).getD k') = k' := by
      rw [Array.getElem?_toList] at he2
      rw [he2]
      simp [hkeq]
    have hkt : (Instr.keyThatStays k' k').run P w = .ok k' w := by
      unfold Instr.keyThatStays
      rw [if_pos (sameBits_simple hsimple hkv)]
      rfl
    simp only [Instr.mapUpdate, Sem.run_bind, uty_run (keyOf_eq hk), Result.andThen_ok, run_getObj_map hw, hck, hfr, hstay, hkt]
    exact run_setObj_of hw (by simp)

theorem mapDelete_sound (s : Sim lim ρ n h w) {t : TypeId} {ke : TypeId × TypeId} {q : KeyQ} {m k : AVal} {m' k' : Value} {ts : Array TypeId} {ty : TypeId} (hts : ts[0]? = some t)
    (hk : keyOf P t = .ok ke) (hq : keyQ P ke.1 = .ok q) (hl : mapDelete P q m k h = .ok h') (hm : VR ρ n m m') (hkv : VR ρ n k k') :
    ∃ w', (Builtin.delete_ ts ty #[m', k']).run P w = .ok (.tuple #[]) w' ∧ Sim lim ρ n h' w' ∧ Ext ρ n h w ρ n h' w' := by
  cases hm <;> simp only [mapDelete] at hl <;> try contradiction
  case map r hr =>
    rw [bnd_eq_ok] at hl
    obtain ⟨p, hp, hl⟩ := hl
    rw [bnd_eq_ok] at hl
    obtain ⟨f, hf, hl⟩ := hl
    obtain ⟨es', hgr, hw, hent⟩ := getMap_sound s hp
    obtain ⟨hck, r', hfr, hfound, hat⟩ := findIn_sound s hq hkv hent hf es'.isEmpty
    cases f with
    | none =>
      simp only [FoundR] at hfound
      subst hfound
      simp only at hl
      injection hl with hl
      subst hl
      have hset : ({ w with heap := w.heap.setIfInBounds (ρ r).id (.map es' p.2) } : World) = w := by
        have : w.heap.setIfInBounds (ρ r).id (.map es' p.2) = w.heap := by
          apply Array.ext_getElem?
          intro j
          rw [Array.getElem?_setIfInBounds]
          by_cases hj : (ρ r).id = j
          · subst hj
            have := s.lt hgr
            rw [if_pos rfl, if_pos this, hw]
          · rw [if_neg hj]
        rw [this]
      refine ⟨w, ?_, s, Ext.refl _ _ _ _⟩
      simp only [Builtin.delete_, hts, Sem.run_bind, List.getElem?_toArray, List.getElem?_cons_zero, List.getElem?_cons_succ, uty_run (keyOf_eq hk), Result.andThen_ok, run_getObj_map hw, hck, hfr, run_setObj_of hw (o := .map es' p.2) (by simp), hset, Sem.run_pure]
    | some ie =>
      obtain ⟨i, e⟩ := ie
      obtain ⟨_, e', he', hrr⟩ := hfound
      subst hrr
      simp only at hl
      injection hl with hl
      subst hl
      obtain ⟨h1, h2⟩ := s.setObj hgr (o' := .map (p.1.eraseIdx i) p.2) (x' := .map (es'.eraseIdxIfInBounds i) p.2)
        (.map _ _ _ (by
          have hlt : i < es'.size := by
            have := (List.getElem?_eq_some_iff.1 he').1
            simpa using this
          rw [Array.eraseIdxIfInBounds, dif_pos hlt, Array.toList_eraseIdx]
          exact hent.eraseIdx i))
      refine ⟨_, ?_, h1, h2⟩
      simp only [Builtin.delete_, hts, Sem.run_bind, List.getElem?_toArray, List.getElem?_cons_zero, List.getElem?_cons_succ, uty_run (keyOf_eq hk), Result.andThen_ok, run_getObj_map hw, hck, hfr, run_setObj_of hw (by simp), Sem.run_pure]
  case nilMap =>
    rw [bnd_eq_ok] at hl
    obtain ⟨⟨⟩, hc, hl⟩ := hl
    injection hl with hl
    subst hl
    have hck : (Instr.checkKey true 10000 ke.1 k').run P w = .ok () w := by
      unfold keyQ at hq
      rw [bnd_eq_ok] at hq
      obtain ⟨kk, hkk, hq⟩ := hq
      injection hq with hq
      subst hq
      exact checkKey_sound hkk hc hkv true
    refine ⟨w, ?_, s, Ext.refl _ _ _ _⟩
    simp only [Builtin.delete_, hts, Sem.run_bind, List.getElem?_toArray, List.getElem?_cons_zero, List.getElem?_cons_succ, uty_run (keyOf_eq hk), Result.andThen_ok, hck, Sem.run_pure]
end
end Go.AM
