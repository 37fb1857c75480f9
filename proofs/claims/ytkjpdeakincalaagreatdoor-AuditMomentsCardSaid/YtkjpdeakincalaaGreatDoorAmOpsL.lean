/- Operations, twelfth part: copy, clear, len, min, max, conversions; what makes a block. -/
import Derived.Test.YtkjpdeakincalaaGreatDoorAmOpsK
namespace Go.AM
section
variable {lim : Nat} {P : Program} {ρ : Rho} {h h' : AHeap} {w : World} {n : Nat → Prop}

theorem lenB_sound (s : Sim lim ρ n h w) {t : TypeId} {ts : Array TypeId} {ty : TypeId} {args : Array Value} {k : LK} {x v : AVal} {x' : Value} (hts : ts[0]? = some t) (hk : lenKind P t = .ok k)
    (hq : lenOp k x h = .ok v) (hx : VR ρ n x x') (ha : args[0]? = some x') : SemP P (Builtin.len_ ts ty args) ρ n w v := by
  unfold lenKind at hk
  rw [bnd_eq_ok] at hk
  obtain ⟨u, hu, hk⟩ := hk
  cases u <;> simp only at hk <;> try contradiction
  case array m e =>
    injection hk with hk
    subst hk
    injection hq with hq
    subst hq
    exact ⟨goInt m, by simp only [Builtin.len_, hts, ha, Sem.run_bind, uty_run hu, Result.andThen_ok, Sem.run_pure], .int _ _⟩
  case pointer a =>
    rw [bnd_eq_ok] at hk
    obtain ⟨u2, hu2, hk⟩ := hk
    cases u2 <;> simp only at hk <;> try contradiction
    rename_i m e
    injection hk with hk
    subst hk
    injection hq with hq
    subst hq
    exact ⟨goInt m, by simp only [Builtin.len_, hts, ha, Sem.run_bind, uty_run hu, uty_run hu2, Result.andThen_ok, Sem.run_pure], .int _ _⟩
  case string =>
    injection hk with hk
    subst hk
    cases hx <;> simp only [lenOp] at hq <;> try contradiction
    rename_i l
    injection hq with hq
    subst hq
    exact ⟨goInt (ByteArray.mk l.toArray).size, by simp only [Builtin.len_, hts, ha, Sem.run_bind, uty_run hu, Result.andThen_ok, Sem.run_pure], by simp [ByteArray.size]; exact .int _ _⟩
  case slice e =>
    injection hk with hk
    subst hk
    cases hx <;> simp only [lenOp] at hq <;> try contradiction
    all_goals
      injection hq with hq
      subst hq
      exact ⟨_, by simp only [Builtin.len_, hts, ha, Sem.run_bind, uty_run hu, Result.andThen_ok, Sem.run_pure]; rfl, .int _ _⟩
  case map kt et =>
    injection hk with hk
    subst hk
    cases hx <;> simp only [lenOp] at hq <;> try contradiction
    · rename_i r hr
      rw [bnd_eq_ok] at hq
      obtain ⟨p, hp, hq⟩ := hq
      injection hq with hq
      subst hq
      obtain ⟨es', hgr, hw, hent⟩ := getMap_sound s hp
      have hl : es'.size = p.1.length := by have := hent.length; simpa using this.symm
      exact ⟨goInt es'.size, by simp only [Builtin.len_, hts, ha, Sem.run_bind, uty_run hu, Result.andThen_ok, Sem.run_pure, run_getObj_map hw], by rw [hl]; exact .int _ _⟩
    · injection hq with hq
      subst hq
      exact ⟨goInt 0, by simp only [Builtin.len_, hts, ha, Sem.run_bind, uty_run hu, Result.andThen_ok, Sem.run_pure], .int _ _⟩

theorem copy_sound (s : Sim lim ρ n h w) {ts : Array TypeId} {dT e ty : TypeId} {size : Nat} {d x v : AVal} {d' x' : Value} (hts : ts[0]? = some dT) (he : elemOfSlice P dT = .ok e) (hs : tsize P e = .ok size)
    (hq : copyOp size d x h = .ok (v, h')) (hd : VR ρ n d d') (hx : VR ρ n x x') : SemV lim P (Builtin.copy_ ts ty #[d', x']) ρ n h w v h' := by
  unfold copyOp at hq
  rw [bnd_eq_ok] at hq
  obtain ⟨ns, hns, hq⟩ := hq
  rw [bnd_eq_ok] at hq
  obtain ⟨nd, hnd, hq⟩ := hq
  rw [bnd_eq_ok] at hq
  obtain ⟨cs, hcs, hq⟩ := hq
  have hk : (Builtin.lenOf x').run P w = .ok ns w := lenOf_sound hns hx
  obtain ⟨xs, hxs, hrun⟩ := firstCells_sound (P := P) s hcs hx
  have start : ∀ (base : Option Addr) (dLen dCap : Nat), d' = .slice base dLen dCap → dLen = nd → (Builtin.copy_ ts ty #[d', x']).run P w =
      ((match base with | some a => Go.storeCells a xs | none => pure ()).run P w).andThen fun _ w' => .ok (goInt (Nat.min ns nd)) w' := by
    rintro base dLen dCap rfl rfl
    simp only [Builtin.copy_, hts, List.getElem?_toArray, List.getElem?_cons_zero, List.getElem?_cons_succ, Sem.run_bind, uty_run (elemOfSlice_eq he), Result.andThen_ok, tsize_run hs, hk, hrun]
    cases base with
    | none => rfl
    | some a => simp only [Sem.run_bind, Sem.run_pure]
  cases hd <;> simp only at hq <;> try contradiction
  case slice b o l c hb =>
    rw [bnd_eq_ok] at hq
    obtain ⟨h1, hst, hq⟩ := hq
    injection hq with hq
    injection hq with hv hh
    subst hv; subst hh
    simp only [lenOf, Except.ok.injEq] at hnd
    obtain ⟨w', hr, hs', he', _⟩ := storeCells_sound (P := P) (o := o) cs xs 0 (by simpa using hst) s hxs
    refine ⟨ρ, n, w', _, ?_, .int _ _, hs', he'⟩
    rw [start _ _ _ rfl hnd]
    simp only [hr, Result.andThen_ok]
    rfl
  case nilSlice l c =>
    injection hq with hq
    injection hq with hv hh
    subst hv; subst hh
    simp only [lenOf, Except.ok.injEq] at hnd
    refine ⟨ρ, n, w, _, ?_, .int _ _, s, Ext.refl _ _ _ _⟩
    rw [start _ _ _ rfl hnd]
    rfl
  case gsl b o l hb hl =>
    rw [bnd_eq_ok] at hq
    obtain ⟨h1, hst, hq⟩ := hq
    injection hq with hq
    injection hq with hv hh
    subst hv; subst hh
    simp only [lenOf, Except.ok.injEq] at hnd
    obtain ⟨w', hr, hs', he', _⟩ := storeCells_sound (P := P) (o := o) cs xs 0 (by simpa using hst) s hxs
    refine ⟨ρ, n, w', _, ?_, .int _ _, hs', he'⟩
    rw [start _ _ _ rfl hnd]
    simp only [hr, Result.andThen_ok]
    rfl

theorem clear_sound (s : Sim lim ρ n h w) {ts : Array TypeId} {t ty : TypeId} {u : TypeDesc} {x v : AVal} {x' : Value} (hts : ts[0]? = some t) (hu : uty P t = .ok u)
    (hq : clearOp x h = .ok (v, h')) (hx : VR ρ n x x') : SemV lim P (Builtin.clear_ ts ty #[x']) ρ n h w v h' := by
  cases hx <;> simp only [clearOp] at hq <;> try contradiction
  case nilSlice l c =>
    injection hq with hq
    injection hq with hv hh
    subst hv; subst hh
    refine ⟨ρ, n, w, _, ?_, .tuple [] [] .nil, s, Ext.refl _ _ _ _⟩
    simp only [Builtin.clear_, hts, List.getElem?_toArray, List.getElem?_cons_zero, Sem.run_bind, uty_run hu, Result.andThen_ok]
    rfl
  case map r hr =>
    rw [bnd_eq_ok] at hq
    obtain ⟨p, hp, hq⟩ := hq
    injection hq with hq
    injection hq with hv hh
    subst hv; subst hh
    obtain ⟨es', hgr, hw, hent⟩ := getMap_sound s hp
    obtain ⟨h1, h2⟩ := s.setObj hgr (o' := .map [] p.2) (x' := .map #[] p.2) (.map _ _ _ .nil)
    refine ⟨ρ, n, _, _, ?_, .tuple [] [] .nil, h1, h2⟩
    simp only [Builtin.clear_, hts, List.getElem?_toArray, List.getElem?_cons_zero, Sem.run_bind, uty_run hu, Result.andThen_ok, run_getObj_map hw, run_setObj_of hw (o := .map #[] p.2) (by simp), Sem.run_pure]
  case nilMap =>
    injection hq with hq
    injection hq with hv hh
    subst hv; subst hh
    refine ⟨ρ, n, w, _, ?_, .tuple [] [] .nil, s, Ext.refl _ _ _ _⟩
    simp only [Builtin.clear_, hts, List.getElem?_toArray, List.getElem?_cons_zero, Sem.run_bind, uty_run hu, Result.andThen_ok]
    rfl

theorem minmax_sound {mx : Bool} {a b v : AVal} {a' b' : Value} (hq : minmax mx a b = .ok v) (ha : VR ρ n a a') (hb : VR ρ n b b') :
    SemP P (if mx then Builtin.max2 a' b' else Builtin.min2 a' b') ρ n w v := by
  unfold minmax at hq
  split at hq
  · cases ha; cases hb
    injection hq with hq
    subst hq
    cases mx
    · refine ⟨_, ?_, .int _ _⟩
      simp only [Bool.false_eq_true, if_false, Builtin.min2, Sem.run_pure, sel_false]
      rw [sel_eq, ilt_eq]
      simp only [decide_eq_true_eq]
    · refine ⟨_, ?_, .int _ _⟩
      simp only [if_true, Builtin.max2, Sem.run_pure, sel_true]
      rw [sel_eq, ilt_eq]
      simp only [decide_eq_true_eq]
  · cases hq

theorem foldMM_sound {mx : Bool} : ∀ (l : List AVal) (l' : List Value) (a : AVal) (a' : Value) (v : AVal), foldMM mx a l = .ok v → VR ρ n a a' → VRs ρ n l l' →
    SemP P (l'.foldlM (if mx then Builtin.max2 else Builtin.min2) a') ρ n w v
  | [], _, a, a', v, hq, ha, hl => by
    cases hl
    injection hq with hq
    subst hq
    exact ⟨a', rfl, ha⟩
  | b :: l, _, a, a', v, hq, ha, hl => by
    cases hl with
    | cons _ b' _ l' hb hl =>
      simp only [foldMM] at hq
      rw [bnd_eq_ok] at hq
      obtain ⟨z, hz, hq⟩ := hq
      obtain ⟨z', hz', hzv⟩ := minmax_sound (P := P) (w := w) hz ha hb
      obtain ⟨r, hr, hv⟩ := foldMM_sound l l' z z' v hq hzv hl
      refine ⟨r, ?_, hv⟩
      rw [List.foldlM_cons]
      simp only [Sem.run_bind]
      have : ((if mx = true then Builtin.max2 else Builtin.min2) a' b').run P w = .ok z' w := by
        cases mx <;> simpa using hz'
      rw [this]
      exact hr
end
end Go.AM
