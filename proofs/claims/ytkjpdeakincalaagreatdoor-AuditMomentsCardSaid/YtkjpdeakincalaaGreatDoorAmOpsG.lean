/- Operations, seventh part: maps, ranging. -/
import Derived.Test.YtkjpdeakincalaaGreatDoorAmOpsF
namespace Go.AM
section
variable {lim : Nat} {P : Program} {ρ : Rho} {h h' : AHeap} {w : World} {n : Nat → Prop}

theorem EntR.length : ∀ {es : List (AVal × AVal × Nat)} {es' : List MapEntry}, EntR ρ n es es' → es.length = es'.length
  | _, _, .nil => rfl
  | _, _, .cons _ _ _ _ _ _ _ _ _ hs => by simp [EntR.length hs]

theorem EntR.append : ∀ {es fs : List (AVal × AVal × Nat)} {es' fs' : List MapEntry}, EntR ρ n es es' → EntR ρ n fs fs' → EntR ρ n (es ++ fs) (es' ++ fs')
  | _, _, _, _, .nil, h => h
  | _, _, _, _, .cons k v c _ e _ hk hv hc hs, h => .cons k v c _ e _ hk hv hc (EntR.append hs h)

theorem EntR.get : ∀ {es : List (AVal × AVal × Nat)} {es' : List MapEntry} (_ : EntR ρ n es es') (i : Nat) (e : AVal × AVal × Nat), es[i]? = some e →
    ∃ e', es'[i]? = some e' ∧ VR ρ n e.1 e'.key ∧ VR ρ n e.2.1 e'.val ∧ e'.born = e.2.2
  | _, _, .nil, i, e, h => by simp at h
  | _, _, .cons k v c es e es' hk hv hc hs, i, x, h => by
    cases i with
    | zero => simp at h; subst h; exact ⟨e, by simp, hk, hv, hc⟩
    | succ i => simp at h; simpa using EntR.get hs i x h

theorem EntR.set : ∀ {es : List (AVal × AVal × Nat)} {es' : List MapEntry} (_ : EntR ρ n es es') (i : Nat) (k v : AVal) (c : Nat) (e : MapEntry),
    VR ρ n k e.key → VR ρ n v e.val → e.born = c → EntR ρ n (es.set i (k, v, c)) (es'.set i e)
  | _, _, .nil, i, k, v, c, e, _, _, _ => .nil
  | _, _, .cons k0 v0 c0 es e0 es' hk0 hv0 hc0 hs, i, k, v, c, e, hk, hv, hc => by
    cases i with
    | zero => exact .cons k v c es e es' hk hv hc hs
    | succ i => exact .cons k0 v0 c0 _ e0 _ hk0 hv0 hc0 (EntR.set hs i k v c e hk hv hc)

theorem EntR.eraseIdx : ∀ {es : List (AVal × AVal × Nat)} {es' : List MapEntry} (_ : EntR ρ n es es') (i : Nat), EntR ρ n (es.eraseIdx i) (es'.eraseIdx i)
  | _, _, .nil, i => by simp; exact .nil
  | _, _, .cons k0 v0 c0 es e0 es' hk0 hv0 hc0 hs, i => by
    cases i with
    | zero => exact hs
    | succ i => exact .cons k0 v0 c0 _ e0 _ hk0 hv0 hc0 (EntR.eraseIdx hs i)

theorem EntR.filter (p : Nat → Bool) : ∀ {es : List (AVal × AVal × Nat)} {es' : List MapEntry}, EntR ρ n es es' → EntR ρ n (es.filter fun e => p e.2.2) (es'.filter fun e => p e.born)
  | _, _, .nil => .nil
  | _, _, .cons k v c es e es' hk hv hc hs => by
    subst hc
    rw [List.filter_cons, List.filter_cons]
    cases p e.born with
    | true => exact .cons k v _ _ e _ hk hv rfl (EntR.filter p hs)
    | false => exact EntR.filter p hs

theorem EntR.all (p : Nat → Bool) : ∀ {es : List (AVal × AVal × Nat)} {es' : List MapEntry}, EntR ρ n es es' → (es.all fun e => p e.2.2) = (es'.all fun e => p e.born)
  | _, _, .nil => rfl
  | _, _, .cons k v c es e es' hk hv hc hs => by
    subst hc
    rw [List.all_cons, List.all_cons, EntR.all p hs]

/-! ### Keys -/
theorem plainKind_check (empty : Bool) (d : Nat) {t : TypeId} {u : TypeDesc} (hu : uty P t = .ok u) (hp : plainKind u = true) (v : Value) :
    (Instr.checkKey empty (d + 1) t v).run P w = .ok () w := by
  unfold Instr.checkKey
  simp only [Sem.run_bind, uty_run hu, Result.andThen_ok]
  cases u <;> simp [plainKind] at hp <;> cases v <;> rfl

/-- A type's make, by how its keys are asked. -/
theorem keyKind_eq {t : TypeId} {kk : KK} (hk : keyKind P t = .ok kk) :
    (kk = .int ∧ ∃ k, uty P t = .ok (.int k)) ∨ (kk = .str ∧ uty P t = .ok .string) ∨ (kk = .bool ∧ uty P t = .ok .bool) ∨
      (∃ fs, kk = .struct fs.toList ∧ uty P t = .ok (.struct fs) ∧ ∀ f ∈ fs.toList, ∃ u, uty P f.type = .ok u ∧ plainKind u = true ∧ f.name ≠ "_") := by
  unfold keyKind at hk
  rw [bnd_eq_ok] at hk
  obtain ⟨u, hu, hk⟩ := hk
  cases u <;> simp only at hk <;> try contradiction
  case int k => injection hk with hk; exact .inl ⟨hk.symm, _, hu⟩
  case string => injection hk with hk; exact .inr (.inl ⟨hk.symm, hu⟩)
  case bool => injection hk with hk; exact .inr (.inr (.inl ⟨hk.symm, hu⟩))
  case struct fs =>
    rw [bnd_eq_ok] at hk
    obtain ⟨good, hg, hk⟩ := hk
    rw [sel_eq_ok] at hk
    obtain ⟨rfl, hk⟩ := hk
    injection hk with hk
    refine .inr (.inr (.inr ⟨fs, hk.symm, hu, ?_⟩))
    generalize fs.toList = l at hg
    clear hk
    induction l with
    | nil => intro f hf; cases hf
    | cons f0 l ih =>
      rw [allE_cons, bnd_eq_ok] at hg
      obtain ⟨b, hb, hg⟩ := hg
      rw [bnd_eq_ok] at hb
      obtain ⟨u, hu1, hb⟩ := hb
      injection hb with hb
      cases b with
      | false => rw [sel_false] at hg; cases hg
      | true =>
        rw [sel_true] at hg
        intro f hf
        rcases List.mem_cons.1 hf with rfl | hf
        · simp only [Bool.and_eq_true, bne_iff_ne, ne_eq] at hb
          exact ⟨u, hu1, hb.1, hb.2⟩
        · exact ih hg f hf

theorem checkKey_sound {t : TypeId} {kk : KK} {k : AVal} {k' : Value} (hk : keyKind P t = .ok kk) (hc : checkKey P kk k = .ok ()) (hv : VR ρ n k k') (empty : Bool) :
    (Instr.checkKey empty 10000 t k').run P w = .ok () w := by
  rcases keyKind_eq hk with ⟨rfl, i, hu⟩ | ⟨rfl, hu⟩ | ⟨rfl, hu⟩ | ⟨fs, rfl, hu, hfs⟩
  · exact plainKind_check empty 9999 hu rfl k'
  · exact plainKind_check empty 9999 hu rfl k'
  · exact plainKind_check empty 9999 hu rfl k'
  · cases hv <;> simp only [checkKey] at hc <;> try contradiction
    rename_i cs xs hxs
    rw [bnd_eq_ok] at hc
    obtain ⟨b, hb, _⟩ := hc
    show (Instr.checkKey empty (9999 + 1) t _).run P w = _
    unfold Instr.checkKey
    simp only [Sem.run_bind, uty_run hu, Result.andThen_ok]
    rw [← Array.forIn_toList]
    generalize fs.toList = l at hb hfs ⊢
    clear hk hu
    induction l generalizing b with
    | nil => simp
    | cons f l ih =>
      rw [allE_cons, bnd_eq_ok] at hb
      obtain ⟨c, hc1, hb⟩ := hb
      rw [bnd_eq_ok] at hc1
      obtain ⟨a, ha, hc1⟩ := hc1
      injection hc1 with hc1
      subst hc1
      rw [sel_true] at hb
      obtain ⟨p, hp, _⟩ := part_sound (w := w) ha hxs
      obtain ⟨u, hu, hpk, hn⟩ := hfs f (List.mem_cons_self ..)
      simp only [List.forIn_cons, Sem.run_bind]
      rw [if_pos hn]
      simp only [Sem.run_bind, hp, Result.andThen_ok, plainKind_check empty 9998 hu hpk, Sem.run_pure]
      exact ih _ hb (fun g hg => hfs g (List.mem_cons_of_mem _ hg))

/-- Plain keys are compared at once. -/
theorem sameNow_sound {t : TypeId} {kk : KK} {u : TypeDesc} {a b : AVal} {a' b' : Value} {r : Bool} (hk : keyKind P t = .ok kk) (hu : uty P t = .ok u) (hpl : plainKind u = true)
    (hr : sameKey P t kk h a b = .ok r) (ha : VR ρ n a a') (hb : VR ρ n b b') : Instr.sameNow u a' b' = some r := by
  rcases keyKind_eq hk with ⟨rfl, i, hu'⟩ | ⟨rfl, hu'⟩ | ⟨rfl, hu'⟩ | ⟨fs, rfl, hu', hfs⟩
  · rw [hu] at hu'; injection hu' with hu'; subst hu'
    cases ha <;> simp only [sameKey, sameInt] at hr <;> try contradiction
    cases hb <;> simp only at hr <;> try contradiction
    rw [sel_eq_ok, kindEq_eq, decide_eq_true_eq] at hr
    obtain ⟨rfl, hr⟩ := hr
    injection hr with hr
    subst hr
    simp [Instr.sameNow, int_beq]
  · rw [hu] at hu'; injection hu' with hu'; subst hu'
    cases ha <;> simp only [sameKey, sameStr] at hr <;> try contradiction
    cases hb <;> simp only at hr <;> try contradiction
    injection hr with hr
    subst hr
    simp [Instr.sameNow, beq_toListBytes, strEq_beq]
  · rw [hu] at hu'; injection hu' with hu'; subst hu'
    cases ha <;> simp only [sameKey, sameBool] at hr <;> try contradiction
    cases hb <;> simp only at hr <;> try contradiction
    injection hr with hr
    subst hr
    simp [Instr.sameNow]
  · rw [hu] at hu'; injection hu' with hu'; subst hu'; simp [plainKind] at hpl

/-- What is found: the entry's place. -/
def FoundR (r : Option (Nat × (AVal × AVal × Nat))) (es' : List MapEntry) (i0 : Nat) (r' : Option (Nat × Value)) : Prop :=
  match r with
  | none => r' = none
  | some (i, _) => i0 ≤ i ∧ ∃ e', es'[i - i0]? = some e' ∧ r' = some (i, e'.val)

theorem findKey_plain {q : KeyQ} {u : TypeDesc} (hk : keyKind P q.t = .ok q.kk) (hu : uty P q.t = .ok u) (hpl : plainKind u = true) {k : AVal} {k' : Value} (hv : VR ρ n k k') :
    ∀ {es : List (AVal × AVal × Nat)} {es' : List MapEntry} (_ : EntR ρ n es es') (i : Nat) (r : Option (Nat × (AVal × AVal × Nat))), findKey P q h k es i = .ok r →
    ∃ r', Instr.findNow u k' es' i = some r' ∧ FoundR r es' i r' ∧ (∀ j e, r = some (j, e) → es[j - i]? = some e)
  | _, _, .nil, i, r, hf => by
    simp only [findKey, Except.ok.injEq] at hf
    subst hf
    exact ⟨none, rfl, rfl, fun j e he => by cases he⟩
  | _, _, .cons k0 v0 c0 es e0 es' hk0 hv0 hc0 hs, i, r, hf => by
    simp only [findKey] at hf
    rw [bnd_eq_ok] at hf
    obtain ⟨b, hb, hf⟩ := hf
    have hnow := sameNow_sound hk hu hpl hb hv hk0
    cases b with
    | true =>
      rw [sel_true] at hf
      injection hf with hf
      subst hf
      exact ⟨some (i, e0.val), by simp [Instr.findNow, hnow], ⟨Nat.le_refl _, e0, by simp, rfl⟩, fun j e he => by injection he with he; injection he with h1 h2; subst h1; subst h2; simp⟩
    | false =>
      rw [sel_false] at hf
      obtain ⟨r', hr', hfr, hes⟩ := findKey_plain hk hu hpl hv hs (i + 1) r hf
      refine ⟨r', by simp [Instr.findNow, hnow, hr'], ?_, ?_⟩
      · cases r with
        | none => exact hfr
        | some p =>
          obtain ⟨j, e⟩ := p
          obtain ⟨hle, e', he', hrr⟩ := hfr
          refine ⟨by omega, e', ?_, hrr⟩
          obtain ⟨m, rfl⟩ : ∃ m, j = i + 1 + m := ⟨j - (i + 1), by omega⟩
          rw [show i + 1 + m - i = m + 1 by omega]
          rw [show i + 1 + m - (i + 1) = m by omega] at he'
          simpa using he'
      · intro j e he
        have h1 := hes j e he
        subst he
        obtain ⟨hle, _⟩ := hfr
        obtain ⟨m, rfl⟩ : ∃ m, j = i + 1 + m := ⟨j - (i + 1), by omega⟩
        rw [show i + 1 + m - i = m + 1 by omega]
        rw [show i + 1 + m - (i + 1) = m by omega] at h1
        simpa using h1

theorem findKey_struct (s : Sim lim ρ n h w) {q : KeyQ} {fs : List Field} (hkk : q.kk = .struct fs) {k : AVal} {k' : Value} (hv : VR ρ n k k') :
    ∀ {es : List (AVal × AVal × Nat)} {es' : List MapEntry} (_ : EntR ρ n es es') (i : Nat) (r : Option (Nat × (AVal × AVal × Nat))), findKey P q h k es i = .ok r →
    ∃ r', (Instr.findAsking q.t k' es' i).run P w = .ok r' w ∧ FoundR r es' i r' ∧ (∀ j e, r = some (j, e) → es[j - i]? = some e)
  | _, _, .nil, i, r, hf => by
    simp only [findKey, Except.ok.injEq] at hf
    subst hf
    exact ⟨none, rfl, rfl, fun j e he => by cases he⟩
  | _, _, .cons k0 v0 c0 es e0 es' hk0 hv0 hc0 hs, i, r, hf => by
    simp only [findKey] at hf
    rw [bnd_eq_ok] at hf
    obtain ⟨b, hb, hf⟩ := hf
    rw [hkk] at hb
    have heq : (Op.equal q.t k' e0.key).run P w = .ok b w := equal_sound s _ _ _ _ _ _ _ hb hv hk0
    cases b with
    | true =>
      rw [sel_true] at hf
      injection hf with hf
      subst hf
      exact ⟨some (i, e0.val), by simp [Instr.findAsking, heq], ⟨Nat.le_refl _, e0, by simp, rfl⟩, fun j e he => by injection he with he; injection he with h1 h2; subst h1; subst h2; simp⟩
    | false =>
      rw [sel_false] at hf
      obtain ⟨r', hr', hfr, hes⟩ := findKey_struct s hkk hv hs (i + 1) r hf
      refine ⟨r', by simp [Instr.findAsking, heq, hr'], ?_, ?_⟩
      · cases r with
        | none => exact hfr
        | some p =>
          obtain ⟨j, e⟩ := p
          obtain ⟨hle, e', he', hrr⟩ := hfr
          refine ⟨by omega, e', ?_, hrr⟩
          obtain ⟨m, rfl⟩ : ∃ m, j = i + 1 + m := ⟨j - (i + 1), by omega⟩
          rw [show i + 1 + m - i = m + 1 by omega]
          rw [show i + 1 + m - (i + 1) = m by omega] at he'
          simpa using he'
      · intro j e he
        have h1 := hes j e he
        subst he
        obtain ⟨hle, _⟩ := hfr
        obtain ⟨m, rfl⟩ : ∃ m, j = i + 1 + m := ⟨j - (i + 1), by omega⟩
        rw [show i + 1 + m - i = m + 1 by omega]
        rw [show i + 1 + m - (i + 1) = m by omega] at h1
        simpa using h1

theorem findIn_sound (s : Sim lim ρ n h w) {t : TypeId} {q : KeyQ} (hq : keyQ P t = .ok q) {k : AVal} {k' : Value} (hv : VR ρ n k k') {es : List (AVal × AVal × Nat)} {es' : List MapEntry}
    (he : EntR ρ n es es') {r : Option (Nat × (AVal × AVal × Nat))} (hf : findIn P q h k es = .ok r) (empty : Bool) :
    (Instr.checkKey empty 10000 t k').run P w = .ok () w ∧ ∃ r', (Instr.findKey t k' es').run P w = .ok r' w ∧ FoundR r es' 0 r' ∧ (∀ j e, r = some (j, e) → es[j]? = some e) := by
  unfold keyQ at hq
  rw [bnd_eq_ok] at hq
  obtain ⟨kk, hkk, hq⟩ := hq
  injection hq with hq
  subst hq
  unfold findIn at hf
  rw [bnd_eq_ok] at hf
  obtain ⟨⟨⟩, hc, hf⟩ := hf
  refine ⟨checkKey_sound hkk hc hv empty, ?_⟩
  have plain : ∀ u, uty P t = .ok u → plainKind u = true → ∃ r', (Instr.findKey t k' es').run P w = .ok r' w ∧ FoundR r es' 0 r' ∧ (∀ j e, r = some (j, e) → es[j]? = some e) := by
    intro u hu hpl
    obtain ⟨r', h1, h2, h3⟩ := findKey_plain (q := ⟨t, kk⟩) hkk hu hpl hv he 0 r hf
    exact ⟨r', by simp [Instr.findKey, uty_run hu, h1], h2, h3⟩
  rcases keyKind_eq hkk with ⟨rfl, i, hu⟩ | ⟨rfl, hu⟩ | ⟨rfl, hu⟩ | ⟨fs, rfl, hu, hfs⟩
  · exact plain _ hu rfl
  · exact plain _ hu rfl
  · exact plain _ hu rfl
  · obtain ⟨r', h1, h2, h3⟩ := findKey_struct s (q := ⟨t, .struct fs.toList⟩) rfl hv he 0 r hf
    refine ⟨r', ?_, h2, h3⟩
    simp only [Instr.findKey, Sem.run_bind, uty_run hu, Result.andThen_ok]
    cases he with
    | nil =>
      simp only [Instr.findAsking, Sem.run_pure, Result.ok.injEq, and_true] at h1
      subst h1
      simp [Instr.findNow]
    | cons k0 v0 c0 es e0 es' hk0 hv0 hc0 hs =>
      have : Instr.findNow (.struct fs) k' (e0 :: es') 0 = none := by
        simp [Instr.findNow, Instr.sameNow]
      rw [this]
      exact h1
end
end Go.AM
