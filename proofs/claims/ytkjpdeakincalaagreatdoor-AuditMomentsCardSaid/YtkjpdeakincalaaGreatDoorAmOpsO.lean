/- An operation looks at its operands alone; numbers of blocks only grow. -/
import Derived.Test.YtkjpdeakincalaaGreatDoorAmOpsN
namespace Go.AM
section
variable {P : Program} {tm tm' : Tm} {h : AHeap}

theorem evs_congr : ∀ {l : List Operand}, (∀ x ∈ l, ev x tm = ev x tm') → evs tm l = evs tm' l
  | [], _ => rfl
  | x :: l, hl => by
    show bnd (ev x tm) (fun v => bnd (evs tm l) fun vs => .ok (v :: vs)) = bnd (ev x tm') (fun v => bnd (evs tm' l) fun vs => .ok (v :: vs))
    rw [hl x (by simp), evs_congr (l := l) (fun y hy => hl y (by simp [hy]))]

theorem evps_congr : ∀ {l : List (Nat × Operand)}, (∀ x ∈ l.map (·.2), ev x tm = ev x tm') → evps tm l = evps tm' l
  | [], _ => rfl
  | p :: l, hl => by
    show bnd (ev p.2 tm) (fun v => bnd (evps tm l) fun vs => .ok ((p.1, v) :: vs)) = bnd (ev p.2 tm') (fun v => bnd (evps tm' l) fun vs => .ok ((p.1, v) :: vs))
    rw [hl p.2 (by simp), evps_congr (l := l) (fun y hy => hl y (by simp at hy ⊢; exact .inr hy))]

theorem evo_congr {o : Option Operand} (ho : ∀ x ∈ o, ev x tm = ev x tm') : evo tm o = evo tm' o := by
  cases o with
  | none => rfl
  | some x => show bnd (ev x tm) _ = bnd (ev x tm') _; rw [ho x rfl]

theorem pre_congr {α : Type} {x : E α} {f : α → Cop} (hf : ∀ a, (f a).run tm h = (f a).run tm' h) : (pre x f).run tm h = (pre x f).run tm' h := by
  cases x with
  | error e => rfl
  | ok a => exact hf a

theorem no_congr {why : String} : (Cop.no why).run tm h = (Cop.no why).run tm' h := rfl
theorem with1_congr {x : Operand} {f : AVal → AHeap → E AR} (hx : ev x tm = ev x tm') : (with1 x f).run tm h = (with1 x f).run tm' h := by
  show bnd (ev x tm) _ = bnd (ev x tm') _; rw [hx]
theorem with2_congr {x y : Operand} {f : AVal → AVal → AHeap → E AR} (hx : ev x tm = ev x tm') (hy : ev y tm = ev y tm') : (with2 x y f).run tm h = (with2 x y f).run tm' h := by
  show bnd (ev x tm) (fun a => bnd (ev y tm) _) = bnd (ev x tm') (fun a => bnd (ev y tm') _); rw [hx, hy]
theorem with3_congr {x y z : Operand} {f : AVal → AVal → AVal → AHeap → E AR} (hx : ev x tm = ev x tm') (hy : ev y tm = ev y tm') (hz : ev z tm = ev z tm') : (with3 x y z f).run tm h = (with3 x y z f).run tm' h := by
  show bnd (ev x tm) (fun a => bnd (ev y tm) fun b => bnd (ev z tm) _) = bnd (ev x tm') (fun a => bnd (ev y tm') fun b => bnd (ev z tm') _); rw [hx, hy, hz]
theorem withL_congr {l : List Operand} {f : List AVal → AHeap → E AR} (hx : ∀ x ∈ l, ev x tm = ev x tm') : (withL l f).run tm h = (withL l f).run tm' h := by
  show bnd (evs tm l) _ = bnd (evs tm' l) _; rw [evs_congr hx]
theorem withPs_congr {l : List (Nat × Operand)} {f : List (Nat × AVal) → AHeap → E AR} (hx : ∀ x ∈ l.map (·.2), ev x tm = ev x tm') : (withPs l f).run tm h = (withPs l f).run tm' h := by
  show bnd (evps tm l) _ = bnd (evps tm' l) _; rw [evps_congr hx]

theorem copSlice_congr {t : TypeId} {x : Operand} {lo hi mx : Option Operand} (hx : ev x tm = ev x tm') (hlo : ∀ y ∈ lo, ev y tm = ev y tm') (hhi : ∀ y ∈ hi, ev y tm = ev y tm') (hmx : ∀ y ∈ mx, ev y tm = ev y tm') :
    (copSlice P t x lo hi mx).run tm h = (copSlice P t x lo hi mx).run tm' h := by
  unfold copSlice
  refine pre_congr fun u => ?_
  cases u <;> first
    | exact no_congr
    | (dsimp only; rw [hx, evo_congr hlo, evo_congr hhi, evo_congr hmx])
    | (refine pre_congr fun _ => ?_; dsimp only; rw [hx, evo_congr hlo, evo_congr hhi, evo_congr hmx])

theorem copConvert_congr {s d : TypeId} {x : Operand} (hx : ev x tm = ev x tm') : (copConvert P s d x).run tm h = (copConvert P s d x).run tm' h := by
  unfold copConvert
  refine pre_congr fun us => pre_congr fun ud => ?_
  cases us <;> cases ud <;> first
    | exact no_congr
    | exact with1_congr hx
    | (refine pre_congr fun ue => ?_; cases ue <;> try exact no_congr
       rename_i k; cases k <;> first | exact no_congr | exact with1_congr hx)

theorem copBuiltin_congr {b : Builtin} {ts : List TypeId} {args : List Operand} (hx : ∀ x ∈ args, ev x tm = ev x tm') : (copBuiltin P b ts args).run tm h = (copBuiltin P b ts args).run tm' h := by
  unfold copBuiltin
  split
  · refine pre_congr fun _ => pre_congr fun _ => pre_congr fun _ => pre_congr fun _ => pre_congr fun u => ?_
    cases u <;> first
      | exact no_congr
      | (refine pre_congr fun _ => ?_; exact with2_congr (hx _ (by simp)) (hx _ (by simp)))
  · exact pre_congr fun _ => pre_congr fun _ => with2_congr (hx _ (by simp)) (hx _ (by simp))
  · exact pre_congr fun _ => with1_congr (hx _ (by simp))
  · exact pre_congr fun _ => with1_congr (hx _ (by simp))
  · exact pre_congr fun _ => pre_congr fun _ => with2_congr (hx _ (by simp)) (hx _ (by simp))
  · exact withL_congr hx
  · exact withL_congr hx
  · exact no_congr

theorem cop_congr' {op : Op} (hx : ∀ x ∈ op.operands, ev x tm = ev x tm') : (cop P op).run tm h = (cop P op).run tm' h := by
  cases op <;> simp only [Op.operands] at hx <;> simp only [cop] <;> first
    | exact no_congr
    | exact with1_congr (hx _ (by simp))
    | exact with2_congr (hx _ (by simp)) (hx _ (by simp))
    | exact with3_congr (hx _ (by simp)) (hx _ (by simp)) (hx _ (by simp))
    | exact pre_congr fun _ => pre_congr fun _ => with1_congr (hx _ (by simp))
    | exact pre_congr fun _ => with2_congr (hx _ (by simp)) (hx _ (by simp))
    | exact pre_congr fun _ => rfl
    | exact copConvert_congr (hx _ (by simp))
    | skip
  case build t ps =>
    unfold copBuild
    refine pre_congr fun _ => pre_congr fun u => ?_
    cases u <;> first
      | exact no_congr
      | exact pre_congr fun _ => withPs_congr (fun x h => hx x (by simpa using h))
  case buildSlice t n ps =>
    unfold copBuildSlice
    exact pre_congr fun _ => pre_congr fun _ => pre_congr fun _ => pre_congr fun _ => pre_congr fun _ => withPs_congr (fun x h => hx x (by simpa using h))
  case makeInterface t x =>
    refine pre_congr fun u => ?_
    cases u <;> first
      | exact no_congr
      | exact with1_congr (hx _ (by simp))
  case makeFunc fn first captured =>
    show bnd (evs tm _) (fun a => bnd (evs tm _) _) = bnd (evs tm' _) (fun a => bnd (evs tm' _) _)
    rw [evs_congr (fun x h => hx x (by simp at h ⊢; exact .inl h)), evs_congr (l := captured.toList) (fun x h => hx x (by simp at h ⊢; exact .inr h))]
  case makeMap t r =>
    cases r with
    | none => rfl
    | some x => exact pre_congr fun _ => with1_congr (hx _ (by simp))
  case makeSlice t l c =>
    unfold copMakeSlice
    exact pre_congr fun _ => pre_congr fun _ => pre_congr fun _ => pre_congr fun _ => with2_congr (hx _ (by simp)) (hx _ (by simp))
  case slice t x lo hi mx =>
    exact copSlice_congr (hx _ (by simp)) (fun y h => hx y (by simp [Option.mem_def.1 h])) (fun y h => hx y (by simp [Option.mem_def.1 h])) (fun y h => hx y (by simp [Option.mem_def.1 h]))
  case fieldAddr s x f =>
    unfold copFieldAddr
    exact pre_congr fun _ => pre_congr fun _ => pre_congr fun _ => with1_congr (hx _ (by simp))
  case field s x f =>
    unfold copField
    exact pre_congr fun _ => pre_congr fun _ => pre_congr fun _ => with1_congr (hx _ (by simp))
  case indexAddr t x i =>
    unfold copIndexAddr
    refine pre_congr fun u => ?_
    cases u <;> first
      | exact no_congr
      | exact pre_congr fun _ => with2_congr (hx _ (by simp)) (hx _ (by simp))
  case index t x i =>
    unfold copIndex
    refine pre_congr fun u => ?_
    cases u <;> first
      | exact no_congr
      | exact with2_congr (hx _ (by simp)) (hx _ (by simp))
      | exact pre_congr fun _ => pre_congr fun _ => with2_congr (hx _ (by simp)) (hx _ (by simp))
  case lookup t m k ok =>
    unfold copLookup
    exact pre_congr fun _ => pre_congr fun _ => pre_congr fun _ => with2_congr (hx _ (by simp)) (hx _ (by simp))
  case mapUpdate t m k x =>
    unfold copMapUpdate
    exact pre_congr fun _ => pre_congr fun _ => with3_congr (hx _ (by simp)) (hx _ (by simp)) (hx _ (by simp))
  case insert t m k x =>
    unfold copMapUpdate
    exact pre_congr fun _ => pre_congr fun _ => with3_congr (hx _ (by simp)) (hx _ (by simp)) (hx _ (by simp))
  case range t x =>
    unfold copRange
    refine pre_congr fun u => ?_
    cases u <;> first
      | exact no_congr
      | exact with1_congr (hx _ (by simp))
  case call c =>
    simp only [Call.operands] at hx
    unfold copCall
    split
    · exact copBuiltin_congr (fun x h => hx x (by simp at h ⊢; exact .inr h))
    · rename_i f hf
      rw [hf] at hx
      dsimp only
      rw [evs_congr (l := c.args.toList) (fun x h => hx x (by simp at h ⊢; exact .inr h)), hx f (by simp)]
    · exact no_congr

theorem cop_congr {op : Op} (hx : ∀ t ∈ tmpsOf op.operands, tm.get t = tm'.get t) : (cop P op).run tm h = (cop P op).run tm' h := by
  refine cop_congr' fun x hm => ?_
  cases x with
  | tmp t =>
    show Except.ok (tm.get t) = Except.ok (tm'.get t)
    rw [hx t (by unfold tmpsOf; rw [List.mem_filterMap]; exact ⟨.tmp t, by simpa using hm, rfl⟩)]
  | _ => rfl

theorem wanted_congr {ops : Array Oper} {o : Oper} (hx : ∀ t ∈ readsOf ops o, tm.get t = tm'.get t) : wanted ops o tm = wanted ops o tm' := by
  unfold wanted
  cases hg : o.guard with
  | none => rfl
  | some p =>
    obtain ⟨j, want⟩ := p
    dsimp only
    cases hd : (ops[j]?).bind (·.dst) with
    | none => rfl
    | some d =>
      dsimp only
      rw [hx d (by unfold readsOf; rw [hg]; simp [hd])]

/-! ### Numbers of blocks -/
theorem storeCell_next {h' : AHeap} {b i : Nat} {v : AVal} (hs : storeCell h b i v = .ok h') : h'.next = h.next := by
  unfold storeCell at hs
  rw [sel_eq_ok] at hs
  obtain ⟨o, _, hs⟩ := bnd_eq_ok.1 hs.2
  injection hs with hs
  subst hs
  rfl

theorem storeCells_next {b : Nat} : ∀ (vs : List AVal) (i : Nat) {h h' : AHeap}, storeCells h b i vs = .ok h' → h'.next = h.next
  | [], i, h, h', hs => by injection hs with hs; subst hs; rfl
  | v :: vs, i, h, h', hs => by
    rw [storeCells_cons] at hs
    obtain ⟨h1, hs1, hs2⟩ := bnd_eq_ok.1 hs
    exact (storeCells_next vs _ hs2).trans (storeCell_next hs1)

theorem storeVar_next {h' : AHeap} {k : Nat} {a v : AVal} (hs : storeVar k a v h = .ok h') : h'.next = h.next := by
  unfold storeVar at hs
  split at hs
  · rw [sel_eq_ok] at hs
    exact storeCells_next _ _ hs.2
  · cases hs

theorem mapUpdate_next {h' : AHeap} {q : KeyQ} {m k v : AVal} (hs : mapUpdate P q m k v h = .ok h') : h'.next = h.next := by
  unfold mapUpdate at hs
  split at hs
  · obtain ⟨p, _, hs⟩ := bnd_eq_ok.1 hs
    obtain ⟨f, _, hs⟩ := bnd_eq_ok.1 hs
    split at hs
    · rw [sel_eq_ok] at hs
      have := hs.2
      injection this with this
      subst this
      rfl
    · injection hs with hs
      subst hs
      rfl
  · cases hs

theorem mapDelete_next {h' : AHeap} {q : KeyQ} {m k : AVal} (hs : mapDelete P q m k h = .ok h') : h'.next = h.next := by
  unfold mapDelete at hs
  split at hs
  · obtain ⟨p, _, hs⟩ := bnd_eq_ok.1 hs
    injection hs with hs
    subst hs
    rfl
  · obtain ⟨p, _, hs⟩ := bnd_eq_ok.1 hs
    obtain ⟨f, _, hs⟩ := bnd_eq_ok.1 hs
    split at hs <;> (injection hs with hs; subst hs; rfl)
  · cases hs

theorem rangeOp_next {h' : AHeap} {x v : AVal} (hs : rangeOp x h = .ok (v, h')) : h.next ≤ h'.next := by
  unfold rangeOp at hs
  split at hs
  · injection hs with hs; injection hs with _ hs; subst hs; simp
  · injection hs with hs; injection hs with _ hs; subst hs; simp
  · obtain ⟨p, _, hs⟩ := bnd_eq_ok.1 hs
    injection hs with hs; injection hs with _ hs; subst hs; simp
  · cases hs

theorem nextMap_next {h' : AHeap} {r m since last c : Nat} {seen : List Nat} {es : List (AVal × AVal × Nat)} {v : AVal} (hs : nextMap r m since seen last es c h = .ok (v, h')) : h'.next = h.next := by
  unfold nextMap at hs
  generalize (!seen.isEmpty && !es.isEmpty && es.all (fun e => Nat.ble last e.2.2)) = g at hs
  cases g
  · change (match es.filter fun e => !seen.contains e.2.2 with
      | [] => Except.ok (AVal.tuple [.bool false], h)
      | [e] => sel (Nat.blt e.2.2 since) (.ok (.tuple [.bool true, e.1, e.2.1], h.put r (.miter (some m) since (seen ++ [e.2.2]) c))) (.error "next: a new entry")
      | _ => .error "next: the order is open") = .ok (v, h') at hs
    split at hs
    · injection hs with hs; injection hs with _ hs; subst hs; rfl
    · rw [sel_eq_ok] at hs
      have := hs.2
      injection this with hs; injection hs with _ hs; subst hs; rfl
    · cases hs
  · cases hs

theorem nextOp_next {h' : AHeap} {b : Bool} {x v : AVal} (hs : nextOp b x h = .ok (v, h')) : h'.next = h.next := by
  unfold nextOp at hs
  split at hs
  · split at hs
    · rw [sel_eq_ok] at hs
      have hs := hs.2
      rw [sel_eq] at hs
      split at hs <;> (injection hs with hs; injection hs with _ hs; subst hs; rfl)
    · cases b
      · injection hs with hs; injection hs with _ hs; subst hs; rfl
      · cases hs
    · cases b
      · obtain ⟨p, _, hs⟩ := bnd_eq_ok.1 hs
        exact nextMap_next hs
      · cases hs
    · cases hs
  · cases hs

theorem regrow_next {h' : AHeap} {e : TypeId} {size bytes n cap : Nat} {zero all : List AVal} {v : AVal} (hs : regrow e size bytes zero n cap all h = .ok (v, h')) : h.next ≤ h'.next := by
  unfold regrow at hs
  rw [sel_eq_ok] at hs
  have hs := hs.2
  injection hs with hs; injection hs with _ hs; subst hs; simp

theorem append_next {h' : AHeap} {e : TypeId} {size bytes : Nat} {zero : List AVal} {s x v : AVal} (hs : append e size bytes zero s x h = .ok (v, h')) : h.next ≤ h'.next := by
  unfold append at hs
  obtain ⟨n, _, hs⟩ := bnd_eq_ok.1 hs
  obtain ⟨new, _, hs⟩ := bnd_eq_ok.1 hs
  split at hs
  · unfold appendSlice at hs
    rw [sel_eq] at hs
    split at hs
    · obtain ⟨h1, h2, hs⟩ := bnd_eq_ok.1 hs
      injection hs with hs; injection hs with _ hs; subst hs
      rw [storeCells_next _ _ h2]; exact Nat.le_refl _
    · obtain ⟨old, _, hs⟩ := bnd_eq_ok.1 hs
      exact regrow_next hs
  · unfold appendNil at hs
    rw [sel_eq] at hs
    split at hs
    · injection hs with hs; injection hs with _ hs; subst hs; exact Nat.le_refl _
    · exact regrow_next hs
  · unfold appendGrown at hs
    split at hs
    · rw [sel_eq_ok] at hs
      have hs := hs.2
      rw [sel_eq] at hs
      split at hs
      · obtain ⟨h1, h2, hs⟩ := bnd_eq_ok.1 hs
        injection hs with hs; injection hs with _ hs; subst hs
        rw [storeCells_next _ _ h2]; exact Nat.le_refl _
      · rw [sel_eq_ok] at hs
        have hs := hs.2
        rw [sel_eq_ok] at hs
        have hs := hs.2
        injection hs with hs; injection hs with _ hs; subst hs; simp
    · cases hs
  · cases hs

theorem copyOp_next {h' : AHeap} {size : Nat} {d s v : AVal} (hs : copyOp size d s h = .ok (v, h')) : h'.next = h.next := by
  unfold copyOp at hs
  obtain ⟨ns, _, hs⟩ := bnd_eq_ok.1 hs
  obtain ⟨nd, _, hs⟩ := bnd_eq_ok.1 hs
  obtain ⟨cs, _, hs⟩ := bnd_eq_ok.1 hs
  split at hs
  · obtain ⟨h1, h2, hs⟩ := bnd_eq_ok.1 hs
    injection hs with hs; injection hs with _ hs; subst hs
    exact storeCells_next _ _ h2
  · injection hs with hs; injection hs with _ hs; subst hs; rfl
  · obtain ⟨h1, h2, hs⟩ := bnd_eq_ok.1 hs
    injection hs with hs; injection hs with _ hs; subst hs
    exact storeCells_next _ _ h2
  · cases hs

theorem clearOp_next {h' : AHeap} {x v : AVal} (hs : clearOp x h = .ok (v, h')) : h'.next = h.next := by
  unfold clearOp at hs
  split at hs
  · injection hs with hs; injection hs with _ hs; subst hs; rfl
  · injection hs with hs; injection hs with _ hs; subst hs; rfl
  · obtain ⟨p, _, hs⟩ := bnd_eq_ok.1 hs
    injection hs with hs; injection hs with _ hs; subst hs; rfl
  · cases hs

theorem okV_next {h' : AHeap} {x : E AVal} {v : AVal} (hq : okV h x = .ok (.val v h')) : h' = h := by
  obtain ⟨v', _, e⟩ := okV_eq hq
  injection e

theorem cop_hard_next {tm : Tm} {o : Op} (hh : isHard o = true) {v : AVal} {h' : AHeap} (hq : (cop P o).run tm h = .ok (.val v h')) : h.next ≤ h'.next := by
  cases ho : o <;> rw [ho] at hq hh <;> simp only [cop] at hq <;> (try exact (no_run hq).elim) <;> (try (simp only [isHard] at hh; contradiction))
  case store t x y =>
    obtain ⟨k, hk, hq⟩ := pre_run hq
    obtain ⟨vx, vy, hx, hy, hq⟩ := with2_run hq
    obtain ⟨h1, hst, e⟩ := okH_eq hq
    injection e with _ e; subst e
    exact Nat.le_of_eq (storeVar_next hst).symm
  case mapUpdate t m k x =>
    unfold copMapUpdate at hq
    obtain ⟨ke, hk, hq⟩ := pre_run hq
    obtain ⟨q, hkq, hq⟩ := pre_run hq
    obtain ⟨vm, vk, vx, hm, hkv, hx, hq⟩ := with3_run hq
    obtain ⟨h1, hst, e⟩ := okH_eq hq
    injection e with _ e; subst e
    exact Nat.le_of_eq (mapUpdate_next hst).symm
  case insert t m k x =>
    unfold copMapUpdate at hq
    obtain ⟨ke, hk, hq⟩ := pre_run hq
    obtain ⟨q, hkq, hq⟩ := pre_run hq
    obtain ⟨vm, vk, vx, hm, hkv, hx, hq⟩ := with3_run hq
    obtain ⟨h1, hst, e⟩ := okH_eq hq
    injection e with _ e; subst e
    exact Nat.le_of_eq (mapUpdate_next hst).symm
  case range t x =>
    unfold copRange at hq
    obtain ⟨u, hu, hq⟩ := pre_run hq
    split at hq
    · obtain ⟨vx, hx, hq⟩ := with1_run hq
      split at hq
      · obtain ⟨v1, h1, hr, e⟩ := okVH_eq hq
        injection e with _ e; subst e
        exact rangeOp_next hr
      · cases hq
    · obtain ⟨vx, hx, hq⟩ := with1_run hq
      split at hq
      · cases hq
      · obtain ⟨v1, h1, hr, e⟩ := okVH_eq hq
        injection e with _ e; subst e
        exact rangeOp_next hr
    · exact (no_run hq).elim
  case next it isString =>
    obtain ⟨vx, hx, hq⟩ := with1_run hq
    obtain ⟨v1, h1, hr, e⟩ := okVH_eq hq
    injection e with _ e; subst e
    exact Nat.le_of_eq (nextOp_next hr).symm
  case call c =>
    unfold copCall at hq
    split at hq
    · unfold copBuiltin at hq
      split at hq
      · obtain ⟨e, he, hq⟩ := pre_run hq
        obtain ⟨size, hs, hq⟩ := pre_run hq
        obtain ⟨bytes, hby, hq⟩ := pre_run hq
        obtain ⟨zero, hz, hq⟩ := pre_run hq
        obtain ⟨ux, hux, hq⟩ := pre_run hq
        split at hq
        · exact (no_run hq).elim
        · obtain ⟨_, hg, hq⟩ := pre_run hq
          obtain ⟨vs, vx, hvs, hvx, hq⟩ := with2_run hq
          obtain ⟨v1, h1, hap, e⟩ := okVH_eq hq
          injection e with _ e; subst e
          exact append_next hap
      · obtain ⟨e, he, hq⟩ := pre_run hq
        obtain ⟨size, hs, hq⟩ := pre_run hq
        obtain ⟨vd, vs, hvd, hvs, hq⟩ := with2_run hq
        obtain ⟨v1, h1, hcp, e⟩ := okVH_eq hq
        injection e with _ e; subst e
        exact Nat.le_of_eq (copyOp_next hcp).symm
      · obtain ⟨u, hu, hq⟩ := pre_run hq
        obtain ⟨vx, hvx, hq⟩ := with1_run hq
        obtain ⟨v1, h1, hcp, e⟩ := okVH_eq hq
        injection e with _ e; subst e
        exact Nat.le_of_eq (clearOp_next hcp).symm
      · obtain ⟨k, hk, hq⟩ := pre_run hq
        obtain ⟨vx, hx, hq⟩ := with1_run hq
        rw [okV_next hq]; exact Nat.le_refl _
      · obtain ⟨ke, hk, hq⟩ := pre_run hq
        obtain ⟨q, hkq, hq⟩ := pre_run hq
        obtain ⟨vm, vk, hvm, hvk, hq⟩ := with2_run hq
        obtain ⟨h1, hd, hq⟩ := bnd_eq_ok.1 hq
        injection hq with hq
        injection hq with _ hq
        subst hq
        exact Nat.le_of_eq (mapDelete_next hd).symm
      · obtain ⟨l, hl, hq⟩ := withL_run hq
        split at hq
        · rw [okV_next hq]; exact Nat.le_refl _
        · cases hq
      · obtain ⟨l, hl, hq⟩ := withL_run hq
        split at hq
        · rw [okV_next hq]; exact Nat.le_refl _
        · cases hq
      · exact (no_run hq).elim
    · obtain ⟨args, hargs, hq⟩ := bnd_eq_ok.1 hq
      obtain ⟨fv, hfv, hq⟩ := bnd_eq_ok.1 hq
      unfold callValue at hq
      split at hq
      · cases hq
      · cases hq
    · exact (no_run hq).elim

theorem okV_val {x : E AVal} {r : AR} (hq : okV h x = .ok r) : ∃ v, r = .val v h := by
  obtain ⟨v, _, e⟩ := okV_eq hq
  exact ⟨v, e⟩

theorem ok_val {v : AVal} {r : AR} (hq : (Except.ok (AR.val v h) : E AR) = .ok r) : ∃ v, r = .val v h := by
  injection hq with hq
  exact ⟨v, hq.symm⟩

/-- A read leaves the heap as it is. -/
theorem cop_read_val {tm : Tm} {o : Op} (hna : isAlloc P o = false) (hnh : isHard o = false) {r : AR} (hq : (cop P o).run tm h = .ok r) : ∃ v, r = .val v h := by
  cases ho : o <;> rw [ho] at hq hna hnh <;> simp only [cop] at hq <;> (try exact (no_run hq).elim) <;> (try simp only [isHard] at hnh) <;> (try simp only [isAlloc] at hna) <;> (try contradiction)
  case move x =>
    obtain ⟨v, hv, hq⟩ := with1_run hq
    exact ok_val hq
  case assign x =>
    obtain ⟨v, hv, hq⟩ := with1_run hq
    exact ok_val hq
  case pick c x y =>
    obtain ⟨vc, vx, vy, hc, hx, hy, hq⟩ := with3_run hq
    unfold pickOp at hq
    split at hq
    · exact ok_val hq
    · cases hq
  case build t ps =>
    unfold copBuild at hq
    obtain ⟨z, hz, hq⟩ := pre_run hq
    obtain ⟨u, hu, hq⟩ := pre_run hq
    cases u <;> simp only at hq <;> try exact (no_run hq).elim
    all_goals
      obtain ⟨size, hs, hq⟩ := pre_run hq
      obtain ⟨l, hl, hq⟩ := withPs_run hq
      exact okV_val hq
  case load t x =>
    obtain ⟨agg, hagg, hq⟩ := pre_run hq
    obtain ⟨k, hk, hq⟩ := pre_run hq
    obtain ⟨vx, hx, hq⟩ := with1_run hq
    exact okV_val hq
  case nilCheck x =>
    obtain ⟨vx, hx, hq⟩ := with1_run hq
    unfold nilCheck at hq
    split at hq <;> first | exact ok_val hq | cases hq
  case binOp op t x y ty =>
    obtain ⟨vx, vy, hx, hy, hq⟩ := with2_run hq
    exact okV_val hq
  case unOp op t x =>
    obtain ⟨vx, hx, hq⟩ := with1_run hq
    exact okV_val hq
  case convert sT dT x =>
    have hna : isAlloc P (.convert sT dT x) = false := by simpa [isAlloc] using hna
    unfold copConvert at hq
    obtain ⟨us, hus, hq⟩ := pre_run hq
    obtain ⟨ud, hud, hq⟩ := pre_run hq
    have hpu : P.underlying dT = some ud := opt_eq_ok.1 hud
    simp only [isAlloc, hpu] at hna
    cases us <;> cases ud <;> simp only at hq hna <;> (try exact (no_run hq).elim) <;> (try contradiction)
    all_goals first
      | (obtain ⟨vx, hx, hq⟩ := with1_run hq
         split at hq
         · exact ok_val hq
         · cases hq)
      | (obtain ⟨ue, hue, hq⟩ := pre_run hq
         split at hq
         · obtain ⟨vx, hx, hq⟩ := with1_run hq
           split at hq
           · cases hq
           · obtain ⟨k, hk, hq⟩ := bnd_eq_ok.1 hq
             obtain ⟨cs, hcs, hq⟩ := bnd_eq_ok.1 hq
             obtain ⟨l, hl, hq⟩ := bnd_eq_ok.1 hq
             exact ok_val hq
         · exact (no_run hq).elim)
  case makeInterface t x =>
    obtain ⟨u, hu, hq⟩ := pre_run hq
    split at hq
    · exact (no_run hq).elim
    · obtain ⟨vx, hx, hq⟩ := with1_run hq
      exact ok_val hq
  case makeFunc fn first captured =>
    obtain ⟨l1, hl1, hq⟩ := bnd_eq_ok.1 hq
    obtain ⟨l2, hl2, hq⟩ := bnd_eq_ok.1 hq
    exact ok_val hq
  case slice t x lo hi mx =>
    unfold copSlice at hq
    obtain ⟨u, hu, hq⟩ := pre_run hq
    simp only at hq
    cases u <;> simp only at hq <;> try exact (no_run hq).elim
    all_goals first
      | (obtain ⟨vx, hvx, hq⟩ := bnd_eq_ok.1 hq
         obtain ⟨vlo, hlo, hq⟩ := bnd_eq_ok.1 hq
         obtain ⟨vhi, hhi, hq⟩ := bnd_eq_ok.1 hq
         obtain ⟨vmx, hmx, hq⟩ := bnd_eq_ok.1 hq
         rw [sel_eq_ok] at hq
         exact okV_val hq.2)
      | (obtain ⟨size, hs, hq⟩ := pre_run hq
         obtain ⟨vx, hvx, hq⟩ := bnd_eq_ok.1 hq
         obtain ⟨vlo, hlo, hq⟩ := bnd_eq_ok.1 hq
         obtain ⟨vhi, hhi, hq⟩ := bnd_eq_ok.1 hq
         obtain ⟨vmx, hmx, hq⟩ := bnd_eq_ok.1 hq
         rw [sel_eq_ok] at hq
         exact okV_val hq.2)
  case fieldAddr sT x f =>
    unfold copFieldAddr at hq
    obtain ⟨fd, hf, hq⟩ := pre_run hq
    obtain ⟨k, hk, hq⟩ := pre_run hq
    obtain ⟨_, hg, hq⟩ := pre_run hq
    obtain ⟨vx, hx, hq⟩ := with1_run hq
    exact okV_val hq
  case field sT x f =>
    unfold copField at hq
    obtain ⟨fd, hf, hq⟩ := pre_run hq
    obtain ⟨agg, hagg, hq⟩ := pre_run hq
    obtain ⟨k, hk, hq⟩ := pre_run hq
    obtain ⟨vx, hx, hq⟩ := with1_run hq
    exact okV_val hq
  case indexAddr t x i =>
    unfold copIndexAddr at hq
    obtain ⟨u, hu, hq⟩ := pre_run hq
    cases u <;> simp only at hq <;> try exact (no_run hq).elim
    all_goals
      obtain ⟨size, hs, hq⟩ := pre_run hq
      obtain ⟨vx, vi, hx, hi, hq⟩ := with2_run hq
      split at hq <;> first | cases hq; done | exact okV_val hq
  case index t x i =>
    unfold copIndex at hq
    obtain ⟨u, hu, hq⟩ := pre_run hq
    cases u <;> simp only at hq <;> try exact (no_run hq).elim
    · obtain ⟨vx, vi, hx, hi, hq⟩ := with2_run hq
      exact okV_val hq
    · obtain ⟨agg, hagg, hq⟩ := pre_run hq
      obtain ⟨size, hs, hq⟩ := pre_run hq
      obtain ⟨vx, vi, hx, hi, hq⟩ := with2_run hq
      exact okV_val hq
  case lookup t m k ok =>
    unfold copLookup at hq
    obtain ⟨ke, hk, hq⟩ := pre_run hq
    obtain ⟨q, hkq, hq⟩ := pre_run hq
    obtain ⟨zero, hz, hq⟩ := pre_run hq
    obtain ⟨vm, vk, hm, hkv, hq⟩ := with2_run hq
    exact okV_val hq
  case extract t i =>
    obtain ⟨vx, hx, hq⟩ := with1_run hq
    unfold extractOp at hq
    split at hq
    · exact okV_val hq
    · cases hq
  case call c =>
    unfold copCall at hq
    split at hq
    · rename_i b hb
      cases c with
      | mk callee args argTypes =>
        simp only at hb
        subst hb
        unfold copBuiltin at hq
        split at hq
        all_goals first
          | contradiction
          | (obtain ⟨k, hk, hq⟩ := pre_run hq
             obtain ⟨vx, hx, hq⟩ := with1_run hq
             exact okV_val hq)
          | (obtain ⟨l, hl, hq⟩ := withL_run hq
             split at hq
             · exact okV_val hq
             · cases hq)
          | exact (no_run hq).elim
    · rename_i f hf
      cases c with
      | mk callee args argTypes =>
        simp only at hf
        subst hf
        cases hnh
    · exact (no_run hq).elim
end
end Go.AM
