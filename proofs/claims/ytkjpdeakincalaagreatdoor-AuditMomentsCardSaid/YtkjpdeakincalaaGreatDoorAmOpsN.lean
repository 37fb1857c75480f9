/- Each operation of the text: a read; what makes a block; what may turn memory; a call. -/
import Derived.Test.YtkjpdeakincalaaGreatDoorAmOpsM
namespace Go.AM
section
variable {lim : Nat} {P : Program} {ρ : Rho} {h h' : AHeap} {w : World} {n : Nat → Prop} {a : Act} {tm : Tm}

theorem evo_run {tm : Tm} {x : Operand} {o : Option Operand} {f : AVal → E AR} {g : Option AVal → E AR} {r : AR} (_ : bnd (ev x tm) f = .ok r) (hq : bnd (evo tm o) g = .ok r) :
    ∃ v, evo tm o = .ok v ∧ g v = .ok r := bnd_eq_ok.1 hq

theorem evs_args {l : Array Operand} {vs : List AVal} (ht : TmR ρ n tm a.tmps) (he : evs tm l.toList = .ok vs) : ∃ xs : List Value, l.map a.eval = xs.toArray ∧ VRs ρ n vs xs := by
  refine ⟨l.toList.map a.eval, ?_, evs_VR ht he⟩
  apply Array.ext'
  simp

theorem evps_args {l : Array (Nat × Operand)} {vs : List (Nat × AVal)} (ht : TmR ρ n tm a.tmps) (he : evps tm l.toList = .ok vs) :
    VRps ρ n vs (l.map fun p => (p.1, a.eval p.2)).toList := by
  have := evps_VR ht he
  simpa using this

theorem copSlice_read (s : Sim lim ρ n h w) (ht : TmR ρ n tm a.tmps) {o : Oper} {t : TypeId} {x : Operand} {lo hi mx : Option Operand} (ho : o.op = .slice t x lo hi mx)
    {r : AR} (hq : (copSlice P t x lo hi mx).run tm h = .ok r) : ∃ v, r = .val v h ∧ ReadR P o a ρ n w v := by
  have hex : execOp a.eval o = (do pure (.value (← Instr.sliceAt t (a.eval x) (lo.map a.eval) (hi.map a.eval) (mx.map a.eval)))) := by simp only [execOp, ho]
  unfold copSlice at hq
  obtain ⟨u, hu, hq⟩ := pre_run hq
  simp only at hq
  cases u <;> simp only at hq <;> try exact (no_run hq).elim
  case string =>
    obtain ⟨vx, hvx, hq⟩ := bnd_eq_ok.1 hq
    obtain ⟨vlo, hlo, hq⟩ := bnd_eq_ok.1 hq
    obtain ⟨vhi, hhi, hq⟩ := bnd_eq_ok.1 hq
    obtain ⟨vmx, hmx, hq⟩ := bnd_eq_ok.1 hq
    rw [sel_eq_ok] at hq
    obtain ⟨hk, hq⟩ := hq
    obtain ⟨v, hv, rfl⟩ := okV_eq hq
    refine ⟨v, rfl, ReadR.of hex ?_⟩
    have hx := ev_VR ht hvx
    cases vx <;> simp only at hk <;> try contradiction
    rename_i l
    generalize a.eval x = y at hx
    cases hx
    exact sliceStr_sound hu hv (evo_VR ht hlo) (evo_VR ht hhi) (evo_VR ht hmx)
  case slice e =>
    obtain ⟨size, hs, hq⟩ := pre_run hq
    obtain ⟨vx, hvx, hq⟩ := bnd_eq_ok.1 hq
    obtain ⟨vlo, hlo, hq⟩ := bnd_eq_ok.1 hq
    obtain ⟨vhi, hhi, hq⟩ := bnd_eq_ok.1 hq
    obtain ⟨vmx, hmx, hq⟩ := bnd_eq_ok.1 hq
    rw [sel_eq_ok] at hq
    obtain ⟨hk, hq⟩ := hq
    obtain ⟨v, hv, rfl⟩ := okV_eq hq
    refine ⟨v, rfl, ReadR.of hex ?_⟩
    exact sliceOp_slice s hu hs (fun l e => by subst e; cases hk) (fun b o e => by subst e; cases hk) hv (ev_VR ht hvx) (evo_VR ht hlo) (evo_VR ht hhi) (evo_VR ht hmx)
  case array len e =>
    obtain ⟨size, hs, hq⟩ := pre_run hq
    obtain ⟨vx, hvx, hq⟩ := bnd_eq_ok.1 hq
    obtain ⟨vlo, hlo, hq⟩ := bnd_eq_ok.1 hq
    obtain ⟨vhi, hhi, hq⟩ := bnd_eq_ok.1 hq
    obtain ⟨vmx, hmx, hq⟩ := bnd_eq_ok.1 hq
    rw [sel_eq_ok] at hq
    obtain ⟨hk, hq⟩ := hq
    obtain ⟨v, hv, rfl⟩ := okV_eq hq
    refine ⟨v, rfl, ReadR.of hex ?_⟩
    have hx := ev_VR ht hvx
    cases vx <;> simp only at hk <;> try contradiction
    exact sliceOp_array hu hs hv hx (evo_VR ht hlo) (evo_VR ht hhi) (evo_VR ht hmx)

theorem execOp_builtin {o : Oper} {c : Call} {b : Builtin} (ho : o.op = .call c) (hc : c.callee = .builtin b) :
    (execOp a.eval o).run P w = (Go.builtin b c.argTypes o.type (c.args.map fun | .const _ => true | _ => false) (c.args.map a.eval)).run P w := by
  simp only [execOp, ho, resolve, hc, Sem.run_bind, Sem.run_pure, Result.andThen_ok, invoke]
  rfl

theorem args1 {c : Call} {x : Operand} (h : c.args.toList = [x]) : c.args.map a.eval = #[a.eval x] := by
  apply Array.ext'; simp [h]
theorem args2 {c : Call} {x y : Operand} (h : c.args.toList = [x, y]) : c.args.map a.eval = #[a.eval x, a.eval y] := by
  apply Array.ext'; simp [h]
theorem types1 {c : Call} {t : TypeId} {ts : List TypeId} (h : c.argTypes.toList = t :: ts) : c.argTypes[0]? = some t := by
  rw [← Array.getElem?_toList, h]; rfl
theorem types2 {c : Call} {t u : TypeId} {ts : List TypeId} (h : c.argTypes.toList = t :: u :: ts) : c.argTypes[1]? = some u := by
  rw [← Array.getElem?_toList, h]; rfl

theorem copBuiltin_read (s : Sim lim ρ n h w) (ht : TmR ρ n tm a.tmps) {o : Oper} {c : Call} {b : Builtin} (ho : o.op = .call c) (hc : c.callee = .builtin b)
    (hb : b = .len ∨ b = .min ∨ b = .max) {r : AR} (hq : (copBuiltin P b c.argTypes.toList c.args.toList).run tm h = .ok r) : ∃ v, r = .val v h ∧ ReadR P o a ρ n w v := by
  have fin : ∀ {s' : Sem Value} {v : AVal}, Go.builtin b c.argTypes o.type (c.args.map fun | .const _ => true | _ => false) (c.args.map a.eval) = (do pure (.value (← s'))) → SemP P s' ρ n w v → ReadR P o a ρ n w v := by
    rintro s' v he ⟨x, hx, hv⟩
    exact ⟨x, by rw [execOp_builtin ho hc, he]; simp only [Sem.run_bind, hx, Result.andThen_ok]; rfl, hv⟩
  unfold copBuiltin at hq
  split at hq <;> try (exfalso; rcases hb with hb | hb | hb <;> cases hb; done)
  · rename_i t ts x hts has
    obtain ⟨k, hk, hq⟩ := pre_run hq
    obtain ⟨vx, hx, hq⟩ := with1_run hq
    obtain ⟨v, hv, rfl⟩ := okV_eq hq
    exact ⟨v, rfl, fin rfl (lenB_sound s (types1 hts) hk hv (ev_VR ht hx) (by rw [args1 has]; rfl))⟩
  · rename_i x xs has
    obtain ⟨l, hl, hq⟩ := withL_run hq
    obtain ⟨ys, hys, hvs⟩ := evs_args (l := c.args) ht (by rw [has]; exact hl)
    cases l with
    | nil => cases hq
    | cons y l =>
      simp only at hq
      obtain ⟨v, hv, rfl⟩ := okV_eq hq
      refine ⟨v, rfl, fin rfl ?_⟩
      cases hvs with
      | cons _ y' _ l' hy hl' =>
        have := foldMM_sound (P := P) (w := w) l l' y y' v hv hy hl'
        simp only [Bool.false_eq_true, if_false] at this
        show SemP P (Builtin.min_ _ _ (c.args.map a.eval)) ρ n w v
        rw [hys]
        exact this
  · rename_i x xs has
    obtain ⟨l, hl, hq⟩ := withL_run hq
    obtain ⟨ys, hys, hvs⟩ := evs_args (l := c.args) ht (by rw [has]; exact hl)
    cases l with
    | nil => cases hq
    | cons y l =>
      simp only at hq
      obtain ⟨v, hv, rfl⟩ := okV_eq hq
      refine ⟨v, rfl, fin rfl ?_⟩
      cases hvs with
      | cons _ y' _ l' hy hl' =>
        have := foldMM_sound (P := P) (w := w) l l' y y' v hv hy hl'
        simp only [if_true] at this
        show SemP P (Builtin.max_ _ _ (c.args.map a.eval)) ρ n w v
        rw [hys]
        exact this
  · exact (no_run hq).elim

/-- An operation that only reads. -/
theorem cop_read (s : Sim lim ρ n h w) (ht : TmR ρ n tm a.tmps) {o : Oper} (hna : isAlloc P o.op = false) (hnh : isHard o.op = false)
    {r : AR} (hq : (cop P o.op).run tm h = .ok r) : ∃ v, r = .val v h ∧ ReadR P o a ρ n w v := by
  cases ho : o.op <;> rw [ho] at hq hna hnh <;> simp only [cop] at hq <;> (try exact (no_run hq).elim) <;> (try simp only [isHard] at hnh) <;> (try simp only [isAlloc] at hna) <;> (try contradiction)
  case move x =>
    obtain ⟨v, hv, hq⟩ := with1_run hq
    injection hq with hq
    exact ⟨v, hq.symm, a.eval x, by simp only [execOp, ho]; rfl, ev_VR ht hv⟩
  case assign x =>
    obtain ⟨v, hv, hq⟩ := with1_run hq
    injection hq with hq
    exact ⟨v, hq.symm, a.eval x, by simp only [execOp, ho]; rfl, ev_VR ht hv⟩
  case pick c x y =>
    obtain ⟨vc, vx, vy, hc, hx, hy, hq⟩ := with3_run hq
    unfold pickOp at hq
    split at hq
    · rename_i t
      injection hq with hq
      subst hq
      have hcv := ev_VR ht hc
      have hxv := ev_VR ht hx
      have hyv := ev_VR ht hy
      refine ⟨_, rfl, if t then a.eval x else a.eval y, ?_, ?_⟩
      · generalize he : a.eval c = z at hcv
        cases hcv
        simp only [execOp, ho, he, asBool, Sem.run_bind, Sem.run_pure, Result.andThen_ok]
      · cases t
        · exact hyv
        · exact hxv
    · cases hq
  case build t ps =>
    have hex : execOp a.eval o = (do pure (.value (← Instr.build t (ps.map fun p => (p.1, a.eval p.2))))) := by simp only [execOp, ho]
    unfold copBuild at hq
    obtain ⟨z, hz, hq⟩ := pre_run hq
    obtain ⟨u, hu, hq⟩ := pre_run hq
    cases u <;> simp only at hq <;> try exact (no_run hq).elim
    · rename_i len e
      obtain ⟨size, hs, hq⟩ := pre_run hq
      obtain ⟨l, hl, hq⟩ := withPs_run hq
      obtain ⟨v, hv, rfl⟩ := okV_eq hq
      exact ⟨v, rfl, ReadR.of hex (buildOp_array hz hu hs hv (evps_args ht hl))⟩
    · rename_i fs
      obtain ⟨places, hp, hq⟩ := pre_run hq
      obtain ⟨l, hl, hq⟩ := withPs_run hq
      obtain ⟨v, hv, rfl⟩ := okV_eq hq
      exact ⟨v, rfl, ReadR.of hex (buildOp_struct hz hu hp hv (evps_args ht hl))⟩
  case load t x =>
    obtain ⟨agg, hagg, hq⟩ := pre_run hq
    obtain ⟨k, hk, hq⟩ := pre_run hq
    obtain ⟨vx, hx, hq⟩ := with1_run hq
    obtain ⟨v, hv, rfl⟩ := okV_eq hq
    exact ⟨v, rfl, ReadR.of (by simp only [execOp, ho]) (loadVar_sound hagg hk (ev_VR ht hx) hv s)⟩
  case nilCheck x =>
    obtain ⟨vx, hx, hq⟩ := with1_run hq
    have hxv := ev_VR ht hx
    generalize he : a.eval x = y at hxv
    cases hxv with
    | func fn f c f' c' hf hc =>
      cases fn <;> simp only [nilCheck] at hq <;> try contradiction
      injection hq with hq
      subst hq
      exact ⟨_, rfl, _, by simp only [execOp, ho, he]; rfl, .func _ _ _ _ _ hf hc⟩
    | nilPtr => cases hq
    | nilIface => cases hq
    | nilFunc => cases hq
    | _ =>
      injection hq with hq
      subst hq
      exact ⟨_, rfl, _, by simp only [execOp, ho, he]; rfl, by constructor <;> assumption⟩
  case binOp op t x y ty =>
    obtain ⟨vx, vy, hx, hy, hq⟩ := with2_run hq
    obtain ⟨v, hv, rfl⟩ := okV_eq hq
    exact ⟨v, rfl, ReadR.of (by simp only [execOp, ho]) (binOp_sound s hv (ev_VR ht hx) (ev_VR ht hy))⟩
  case unOp op t x =>
    obtain ⟨vx, hx, hq⟩ := with1_run hq
    obtain ⟨v, hv, rfl⟩ := okV_eq hq
    exact ⟨v, rfl, ReadR.of (by simp only [execOp, ho]) (unOp_sound hv (ev_VR ht hx))⟩
  case convert sT dT x => exact copConvert_read s ht ho (by simpa [isAlloc] using hna) hq
  case makeInterface t x =>
    obtain ⟨u, hu, hq⟩ := pre_run hq
    split at hq
    · exact (no_run hq).elim
    · rename_i hni
      obtain ⟨vx, hx, hq⟩ := with1_run hq
      injection hq with hq
      subst hq
      refine ⟨_, rfl, ReadR.of (s := Instr.makeInterface t (a.eval x)) (by simp only [execOp, ho]) ⟨_, ?_, .iface _ _ _ (ev_VR ht hx)⟩⟩
      simp only [Instr.makeInterface, Sem.run_bind, uty_run hu, Result.andThen_ok]
      cases u <;> first | rfl | exact absurd rfl (hni _)
  case makeFunc fn first captured =>
    obtain ⟨l1, hl1, hq⟩ := bnd_eq_ok.1 hq
    obtain ⟨l2, hl2, hq⟩ := bnd_eq_ok.1 hq
    injection hq with hq
    subst hq
    obtain ⟨x1, e1, hv1⟩ := evs_args ht hl1
    obtain ⟨x2, e2, hv2⟩ := evs_args ht hl2
    refine ⟨_, rfl, ReadR.of (s := Instr.makeFunc fn (first.map a.eval) (captured.map a.eval)) (by simp only [execOp, ho]) ⟨_, ?_, .func _ _ _ _ _ hv1 hv2⟩⟩
    rw [e1, e2]
    rfl
  case slice t x lo hi mx => exact copSlice_read s ht ho hq
  case fieldAddr sT x f =>
    unfold copFieldAddr at hq
    obtain ⟨fd, hf, hq⟩ := pre_run hq
    obtain ⟨k, hk, hq⟩ := pre_run hq
    obtain ⟨_, hg, hq⟩ := pre_run hq
    obtain ⟨vx, hx, hq⟩ := with1_run hq
    obtain ⟨v, hv, rfl⟩ := okV_eq hq
    have hg := guardE_eq_ok.1 hg
    simp only [Bool.not_eq_true', beq_eq, decide_eq_false_iff_not] at hg
    exact ⟨v, rfl, ReadR.of (by simp only [execOp, ho]) (fieldAddr_sound hf hk hg hv (ev_VR ht hx))⟩
  case field sT x f =>
    unfold copField at hq
    obtain ⟨fd, hf, hq⟩ := pre_run hq
    obtain ⟨agg, hagg, hq⟩ := pre_run hq
    obtain ⟨k, hk, hq⟩ := pre_run hq
    obtain ⟨vx, hx, hq⟩ := with1_run hq
    obtain ⟨v, hv, rfl⟩ := okV_eq hq
    exact ⟨v, rfl, ReadR.of (by simp only [execOp, ho]) (fieldOp_sound hf hagg hk hv (ev_VR ht hx))⟩
  case indexAddr t x i =>
    unfold copIndexAddr at hq
    obtain ⟨u, hu, hq⟩ := pre_run hq
    cases u <;> simp only at hq <;> try exact (no_run hq).elim
    · rename_i e
      obtain ⟨size, hs, hq⟩ := pre_run hq
      obtain ⟨vx, vi, hx, hi, hq⟩ := with2_run hq
      split at hq
      · cases hq
      · obtain ⟨v, hv, rfl⟩ := okV_eq hq
        exact ⟨v, rfl, ReadR.of (by simp only [execOp, ho]) (indexAddr_slice hu hs hv (ev_VR ht hx) (ev_VR ht hi))⟩
    · rename_i len e
      obtain ⟨size, hs, hq⟩ := pre_run hq
      obtain ⟨vx, vi, hx, hi, hq⟩ := with2_run hq
      split at hq
      · obtain ⟨v, hv, rfl⟩ := okV_eq hq
        exact ⟨v, rfl, ReadR.of (by simp only [execOp, ho]) (indexAddr_array hu hs hv (ev_VR ht hx) (ev_VR ht hi) ⟨_, _, rfl⟩)⟩
      · cases hq
  case index t x i =>
    unfold copIndex at hq
    obtain ⟨u, hu, hq⟩ := pre_run hq
    cases u <;> simp only at hq <;> try exact (no_run hq).elim
    · obtain ⟨vx, vi, hx, hi, hq⟩ := with2_run hq
      obtain ⟨v, hv, rfl⟩ := okV_eq hq
      exact ⟨v, rfl, ReadR.of (by simp only [execOp, ho]) (indexStr_sound hu hv (ev_VR ht hx) (ev_VR ht hi))⟩
    · rename_i len e
      obtain ⟨agg, hagg, hq⟩ := pre_run hq
      obtain ⟨size, hs, hq⟩ := pre_run hq
      obtain ⟨vx, vi, hx, hi, hq⟩ := with2_run hq
      obtain ⟨v, hv, rfl⟩ := okV_eq hq
      exact ⟨v, rfl, ReadR.of (by simp only [execOp, ho]) (indexArr_sound hu hagg hs hv (ev_VR ht hx) (ev_VR ht hi))⟩
  case lookup t m k ok =>
    unfold copLookup at hq
    obtain ⟨ke, hk, hq⟩ := pre_run hq
    obtain ⟨q, hkq, hq⟩ := pre_run hq
    obtain ⟨zero, hz, hq⟩ := pre_run hq
    obtain ⟨vm, vk, hm, hkv, hq⟩ := with2_run hq
    obtain ⟨v, hv, rfl⟩ := okV_eq hq
    exact ⟨v, rfl, ReadR.of (by simp only [execOp, ho]) (lookup_sound s hk hkq hz hv (ev_VR ht hm) (ev_VR ht hkv))⟩
  case extract t i =>
    obtain ⟨vx, hx, hq⟩ := with1_run hq
    unfold extractOp at hq
    split at hq
    · rename_i vs
      obtain ⟨v, hv, rfl⟩ := okV_eq hq
      have hxv := ev_VR ht hx
      generalize he : a.eval t = y at hxv
      cases hxv
      rename_i xs hxs
      obtain ⟨z, hz, hzv⟩ := hxs.get i v (opt_eq_ok.1 hv)
      refine ⟨v, rfl, ReadR.of (s := Instr.extract (a.eval t) i) (by simp only [execOp, ho]) ⟨z, ?_, hzv⟩⟩
      rw [he]
      have : xs.toArray[i]? = some z := by simpa using hz
      simp only [Instr.extract, this, Sem.run_pure]
    · cases hq
  case call c =>
    unfold copCall at hq
    split at hq
    · rename_i b hb
      refine copBuiltin_read s ht ho hb ?_ hq
      cases c with
      | mk callee args argTypes =>
        simp only at hb
        subst hb
        cases b <;> first | exact .inl rfl | exact .inr (.inl rfl) | exact .inr (.inr rfl) | cases hnh
    · rename_i f hf
      cases c with
      | mk callee args argTypes =>
        simp only at hf
        subst hf
        cases hnh
    · exact (no_run hq).elim

/-! ### What makes a block -/
/-- What an operation yields that makes a block, wherever it comes. -/
def MadeR (P : Program) (o : Oper) (a : Act) (ρ : Rho) (n : Nat → Prop) (id : Nat) (w : World) (v : AVal) (obj : AObj) : Prop :=
  ¬ n id → ∃ (blk : Blk) (x : Obj) (d : Nat) (v' : Value), blk.id = w.heap.size ∧ (execOp a.eval o).run P w = .ok (.value v') (({ w with drawn := d } : World).alloc x) ∧
    VR (upd ρ id blk) (ins n id) v v' ∧ ObjR (upd ρ id blk) (ins n id) id obj x

theorem MadeR.of {o : Oper} {s : Sem Value} {id : Nat} {v : AVal} {obj : AObj} (he : execOp a.eval o = (do pure (.value (← s)))) (hs : AllocR P s ρ n id w v obj) : MadeR P o a ρ n id w v obj := by
  intro hid
  obtain ⟨blk, x, d, v', h1, h2, h3, h4⟩ := hs hid
  exact ⟨blk, x, d, v', h1, by rw [he]; simp only [Sem.run_bind, h2, Result.andThen_ok]; rfl, h3, h4⟩

/-- An operation that makes a block of its own: what it yields hangs on no memory. -/
theorem cop_made {o : Oper} (hal : isAlloc P o.op = true) {r : AR} (hq : (cop P o.op).run tm h = .ok r) :
    ∃ v obj, r = .val v (h.new obj) ∧ ∀ (a : Act) (ρ : Rho) (n : Nat → Prop) (w : World), TmR ρ n tm a.tmps → MadeR P o a ρ n h.next w v obj := by
  cases ho : o.op <;> rw [ho] at hq hal <;> simp only [isAlloc] at hal <;> (try contradiction) <;> simp only [cop] at hq
  case alloc e =>
    obtain ⟨z, hz, hq⟩ := pre_run hq
    injection hq with hq
    exact ⟨_, _, hq.symm, fun a ρ n w ht => MadeR.of (by simp only [execOp, ho]) (alloc_alloc hz h.next)⟩
  case box e x =>
    obtain ⟨v, hv, hq⟩ := with1_run hq
    injection hq with hq
    exact ⟨_, _, hq.symm, fun a ρ n w ht => MadeR.of (by simp only [execOp, ho]) (box_alloc (ev_VR ht hv) h.next)⟩
  case buildSlice t len ps =>
    unfold copBuildSlice at hq
    obtain ⟨e, he, hq⟩ := pre_run hq
    obtain ⟨size, hs, hq⟩ := pre_run hq
    obtain ⟨_, hg, hq⟩ := pre_run hq
    obtain ⟨zero, hz, hq⟩ := pre_run hq
    obtain ⟨_, hg2, hq⟩ := pre_run hq
    obtain ⟨l, hl, hq⟩ := withPs_run hq
    obtain ⟨v, h1, hb, rfl⟩ := okVH_eq hq
    unfold buildSlice at hb
    obtain ⟨cs, hcs, hb⟩ := bnd_eq_ok.1 hb
    injection hb with hb
    injection hb with hv hh
    subst hv; subst hh
    have hg := guardE_eq_ok.1 hg
    rw [ble_eq, decide_eq_true_eq] at hg
    have hg2 := guardE_eq_ok.1 hg2
    simp only [Bool.not_eq_true', beq_eq, decide_eq_false_iff_not] at hg2
    rw [sel_eq, beq_eq] at hz
    simp only [decide_eq_true_eq] at hz
    exact ⟨_, _, rfl, fun a ρ n w ht => MadeR.of (by simp only [execOp, ho]) (buildSlice_alloc he hs hg hg2 hz (opt_eq_ok.1 hcs) (evps_args ht hl) h.next)⟩
  case convert sT dT x =>
    unfold copConvert at hq
    obtain ⟨us, hus, hq⟩ := pre_run hq
    obtain ⟨ud, hud, hq⟩ := pre_run hq
    have hpu : P.underlying dT = some ud := opt_eq_ok.1 hud
    rw [hpu] at hal
    cases ud <;> simp only at hal <;> try contradiction
    rename_i e
    cases us <;> simp only at hq <;> try exact (no_run hq).elim
    obtain ⟨ue, hue, hq⟩ := pre_run hq
    split at hq
    · obtain ⟨v, hv, hq⟩ := with1_run hq
      split at hq
      · rename_i l
        injection hq with hq
        refine ⟨_, _, hq.symm, fun a ρ n w ht => MadeR.of (s := Go.convert sT dT (a.eval x)) (by simp only [execOp, ho]) ?_⟩
        have hx := ev_VR ht hv
        generalize a.eval x = y at hx
        cases hx
        intro hid
        obtain ⟨blk, x, d, v', h1, h2, h3, h4⟩ := stringToBytes_alloc (P := P) (ρ := ρ) (n := n) (w := w) (e := e) l h.next hid
        refine ⟨blk, x, d, v', h1, ?_, h3, h4⟩
        simp only [Go.convert, Sem.run_bind, uty_run hus, uty_run hud, Result.andThen_ok, uty_run hue]
        exact h2
      · cases hq
    · exact (no_run hq).elim
  case makeMap t r =>
    cases r with
    | none =>
      simp only at hq
      injection hq with hq
      exact ⟨_, _, hq.symm, fun a ρ n w ht => MadeR.of (s := Instr.makeMap t none) (by simp only [execOp, ho]; rfl) (makeMap_alloc (fun x hx => by cases hx) h.next)⟩
    | some x =>
      simp only at hq
      obtain ⟨ke, hk, hq⟩ := pre_run hq
      obtain ⟨v, hv, hq⟩ := with1_run hq
      obtain ⟨i, hi, hq⟩ := bnd_eq_ok.1 hq
      injection hq with hq
      refine ⟨_, _, hq.symm, fun a ρ n w ht => MadeR.of (s := Instr.makeMap t (some (a.eval x))) (by simp only [execOp, ho]; rfl) (makeMap_alloc (fun y hy => ?_) h.next)⟩
      injection hy with hy
      subst hy
      obtain ⟨k, hk2⟩ := asI_eq hi (ev_VR ht hv)
      exact ⟨⟨_, _, keyOf_eq hk⟩, k, i, hk2⟩
  case makeSlice t l c =>
    unfold copMakeSlice at hq
    obtain ⟨e, he, hq⟩ := pre_run hq
    obtain ⟨size, hs, hq⟩ := pre_run hq
    obtain ⟨bytes, hb, hq⟩ := pre_run hq
    obtain ⟨zero, hz, hq⟩ := pre_run hq
    obtain ⟨vl, vc, hl, hc, hq⟩ := with2_run hq
    obtain ⟨v, h1, hm, rfl⟩ := okVH_eq hq
    unfold makeSlice at hm
    obtain ⟨i, hi, hm⟩ := bnd_eq_ok.1 hm
    obtain ⟨j, hj, hm⟩ := bnd_eq_ok.1 hm
    cases i with
    | negSucc i => cases hm
    | ofNat i =>
      cases j with
      | negSucc j => cases hm
      | ofNat j =>
        simp only at hm
        rw [sel_eq_ok] at hm
        obtain ⟨hcond, hm⟩ := hm
        simp only [Bool.and_eq_true, ble_eq, blt_eq, decide_eq_true_eq] at hcond
        injection hm with hm
        injection hm with hv hh
        subst hv; subst hh
        refine ⟨_, _, rfl, fun a ρ n w ht => MadeR.of (s := Instr.makeSlice t (a.eval l) (a.eval c)) (by simp only [execOp, ho]) ?_⟩
        obtain ⟨k1, e1⟩ := asI_eq hi (ev_VR ht hl)
        obtain ⟨k2, e2⟩ := asI_eq hj (ev_VR ht hc)
        rw [e1, e2]
        exact makeSlice_alloc he hs hb hz hcond.1.1 hcond.1.2 hcond.2 h.next

/-! ### What may turn memory, and calls -/
theorem SemN.congr {s s' : Sem Next} {v : AVal} (he : s.run P w = s'.run P w) (hs : SemN lim P s' ρ n h w v h') : SemN lim P s ρ n h w v h' := by
  unfold SemN at hs ⊢
  rw [he]
  exact hs

theorem copBuiltin_hard (s : Sim lim ρ n h w) (ht : TmR ρ n tm a.tmps) {o : Oper} {c : Call} {b : Builtin} (ho : o.op = .call c) (hc : c.callee = .builtin b)
    (hb : b ≠ .len ∧ b ≠ .min ∧ b ≠ .max) {r : AR} (hq : (copBuiltin P b c.argTypes.toList c.args.toList).run tm h = .ok r) :
    ∃ v h', r = .val v h' ∧ (h'.next ≤ lim → SemN lim P (execOp a.eval o) ρ n h w v h') := by
  have fin : ∀ {s' : Sem Value} {v : AVal} {h' : AHeap}, Go.builtin b c.argTypes o.type (c.args.map fun | .const _ => true | _ => false) (c.args.map a.eval) = (do pure (.value (← s'))) →
      SemV lim P s' ρ n h w v h' → SemN lim P (execOp a.eval o) ρ n h w v h' := by
    intro s' v h' he hs
    exact SemN.congr (s' := do pure (.value (← s'))) (by rw [execOp_builtin ho hc, he]) hs.toN
  unfold copBuiltin at hq
  split at hq
  · -- append
    rename_i sT xT sx xx hts has
    obtain ⟨e, he, hq⟩ := pre_run hq
    obtain ⟨size, hs, hq⟩ := pre_run hq
    obtain ⟨bytes, hby, hq⟩ := pre_run hq
    obtain ⟨zero, hz, hq⟩ := pre_run hq
    obtain ⟨ux, hux, hq⟩ := pre_run hq
    split at hq
    · exact (no_run hq).elim
    · rename_i hni
      obtain ⟨_, hg, hq⟩ := pre_run hq
      obtain ⟨vs, vx, hvs, hvx, hq⟩ := with2_run hq
      obtain ⟨v, h1, hap, rfl⟩ := okVH_eq hq
      have hg := guardE_eq_ok.1 hg
      simp only [Bool.not_eq_true', beq_eq, decide_eq_false_iff_not] at hg
      refine ⟨v, h1, rfl, fun hlim => fin (s' := Builtin.append_ c.argTypes o.type (c.args.map a.eval)) rfl ?_⟩
      rw [args2 has]
      exact append_sound s hlim ⟨types1 hts, elemOfSlice_eq he, hs, hby, hg, ⟨xT, ux, types2 hts, hux, fun k e => hni k e⟩, hz⟩ hap (ev_VR ht hvs) (ev_VR ht hvx)
  · -- copy
    rename_i dT _ dx sx hts has
    obtain ⟨e, he, hq⟩ := pre_run hq
    obtain ⟨size, hs, hq⟩ := pre_run hq
    obtain ⟨vd, vs, hvd, hvs, hq⟩ := with2_run hq
    obtain ⟨v, h1, hcp, rfl⟩ := okVH_eq hq
    refine ⟨v, h1, rfl, fun _ => fin (s' := Builtin.copy_ c.argTypes o.type (c.args.map a.eval)) rfl ?_⟩
    rw [args2 has]
    exact copy_sound s (types1 hts) he hs hcp (ev_VR ht hvd) (ev_VR ht hvs)
  · -- clear
    rename_i t x hts has
    obtain ⟨u, hu, hq⟩ := pre_run hq
    obtain ⟨vx, hvx, hq⟩ := with1_run hq
    obtain ⟨v, h1, hcp, rfl⟩ := okVH_eq hq
    refine ⟨v, h1, rfl, fun _ => fin (s' := Builtin.clear_ c.argTypes o.type (c.args.map a.eval)) rfl ?_⟩
    rw [args1 has]
    exact clear_sound s (types1 hts) hu hcp (ev_VR ht hvx)
  · exact absurd rfl hb.1
  · -- delete
    rename_i t _ mx kx hts has
    obtain ⟨ke, hk, hq⟩ := pre_run hq
    obtain ⟨q, hkq, hq⟩ := pre_run hq
    obtain ⟨vm, vk, hvm, hvk, hq⟩ := with2_run hq
    obtain ⟨h1, hd, hq⟩ := bnd_eq_ok.1 hq
    injection hq with hq
    subst hq
    refine ⟨_, h1, rfl, fun _ => fin (s' := Builtin.delete_ c.argTypes o.type (c.args.map a.eval)) rfl ?_⟩
    rw [args2 has]
    obtain ⟨w', hr, hs', he'⟩ := mapDelete_sound s (ts := c.argTypes) (ty := o.type) (types1 hts) hk hkq hd (ev_VR ht hvm) (ev_VR ht hvk)
    exact ⟨ρ, n, w', _, hr, .tuple [] [] .nil, hs', he'⟩
  · exact absurd rfl hb.2.1
  · exact absurd rfl hb.2.2
  · exact (no_run hq).elim

/-- What a call of a function value runs. -/
theorem execOp_callValue {o : Oper} {c : Call} {fx : Operand} (ho : o.op = .call c) (hc : c.callee = .value fx) {f : FuncId} {first captured : Array Value} (hf : a.eval fx = .func (.func f) first captured) :
    (execOp a.eval o).run P w = (callFunc f ((first ++ c.args.map a.eval) ++ captured)).run P w := by
  simp only [execOp, ho, resolve, hc, hf, Deferred.ofValue, Sem.run_bind, Sem.run_pure, Result.andThen_ok, invoke]

/-- An operation that may turn memory, or a call. -/
theorem cop_hard (s : Sim lim ρ n h w) (ht : TmR ρ n tm a.tmps) {o : Oper} (hh : isHard o.op = true) {r : AR} (hq : (cop P o.op).run tm h = .ok r) :
    (∃ v h', r = .val v h' ∧ (h'.next ≤ lim → SemN lim P (execOp a.eval o) ρ n h w v h')) ∨
    (∃ f args xs, r = .call f args ∧ VRs ρ n args xs ∧ (execOp a.eval o).run P w = (callFunc f xs.toArray).run P w) := by
  cases ho : o.op <;> rw [ho] at hq hh <;> simp only [cop] at hq <;> (try exact (no_run hq).elim) <;> (try (simp only [isHard] at hh; contradiction))
  case store t x y =>
    obtain ⟨k, hk, hq⟩ := pre_run hq
    obtain ⟨vx, vy, hx, hy, hq⟩ := with2_run hq
    obtain ⟨h1, hst, rfl⟩ := okH_eq hq
    exact .inl ⟨_, h1, rfl, fun _ => SemN.congr (by simp only [execOp, ho]) (storeVar_sound hk (ev_VR ht hx) (ev_VR ht hy) hst s)⟩
  case mapUpdate t m k x =>
    unfold copMapUpdate at hq
    obtain ⟨ke, hk, hq⟩ := pre_run hq
    obtain ⟨q, hkq, hq⟩ := pre_run hq
    obtain ⟨vm, vk, vx, hm, hkv, hx, hq⟩ := with3_run hq
    obtain ⟨h1, hst, rfl⟩ := okH_eq hq
    obtain ⟨w', hr, hs', he'⟩ := mapUpdate_sound s hk hkq hst (ev_VR ht hm) (ev_VR ht hkv) (ev_VR ht hx)
    exact .inl ⟨_, h1, rfl, fun _ => SemN.congr (by simp only [execOp, ho]) (SemN.skip hr hs' he')⟩
  case insert t m k x =>
    unfold copMapUpdate at hq
    obtain ⟨ke, hk, hq⟩ := pre_run hq
    obtain ⟨q, hkq, hq⟩ := pre_run hq
    obtain ⟨vm, vk, vx, hm, hkv, hx, hq⟩ := with3_run hq
    obtain ⟨h1, hst, rfl⟩ := okH_eq hq
    obtain ⟨w', hr, hs', he'⟩ := mapUpdate_sound s hk hkq hst (ev_VR ht hm) (ev_VR ht hkv) (ev_VR ht hx)
    exact .inl ⟨_, h1, rfl, fun _ => SemN.congr (by simp only [execOp, ho]) (SemN.skip hr hs' he')⟩
  case range t x =>
    unfold copRange at hq
    obtain ⟨u, hu, hq⟩ := pre_run hq
    split at hq
    · obtain ⟨vx, hx, hq⟩ := with1_run hq
      split at hq
      · rename_i l
        obtain ⟨v, h1, hr, rfl⟩ := okVH_eq hq
        exact .inl ⟨v, h1, rfl, fun hlim => SemN.congr (by simp only [execOp, ho]) (range_sound s hlim hu (.inl ⟨rfl, l, rfl⟩) hr (ev_VR ht hx)).toN⟩
      · cases hq
    · obtain ⟨vx, hx, hq⟩ := with1_run hq
      split at hq
      · cases hq
      · rename_i hns
        obtain ⟨v, h1, hr, rfl⟩ := okVH_eq hq
        exact .inl ⟨v, h1, rfl, fun hlim => SemN.congr (by simp only [execOp, ho]) (range_sound s hlim hu (.inr ⟨⟨_, _, rfl⟩, fun l e => hns l e⟩) hr (ev_VR ht hx)).toN⟩
    · exact (no_run hq).elim
  case next it isString =>
    obtain ⟨vx, hx, hq⟩ := with1_run hq
    obtain ⟨v, h1, hr, rfl⟩ := okVH_eq hq
    exact .inl ⟨v, h1, rfl, fun _ => SemN.congr (by simp only [execOp, ho]) (next_sound s (ty := o.type) hr (ev_VR ht hx)).toN⟩
  case call c =>
    unfold copCall at hq
    split at hq
    · rename_i b hb
      refine .inl (copBuiltin_hard s ht ho hb ?_ hq)
      cases c with
      | mk callee args argTypes =>
        simp only at hb
        subst hb
        refine ⟨?_, ?_, ?_⟩ <;> rintro rfl <;> cases hh
    · rename_i fx hf
      obtain ⟨args, hargs, hq⟩ := bnd_eq_ok.1 hq
      obtain ⟨fv, hfv, hq⟩ := bnd_eq_ok.1 hq
      unfold callValue at hq
      split at hq
      · rename_i f first captured
        injection hq with hq
        subst hq
        obtain ⟨xs, hxs, hvs⟩ := evs_args (l := c.args) ht hargs
        have hfx := ev_VR ht hfv
        generalize he : a.eval fx = y at hfx
        cases hfx
        rename_i f' c' h1 h2
        refine .inr ⟨f, _, (f' ++ xs) ++ c', rfl, (h1.append hvs).append h2, ?_⟩
        rw [execOp_callValue ho hf he, hxs]
        simp
      · cases hq
    · exact (no_run hq).elim
end
end Go.AM
