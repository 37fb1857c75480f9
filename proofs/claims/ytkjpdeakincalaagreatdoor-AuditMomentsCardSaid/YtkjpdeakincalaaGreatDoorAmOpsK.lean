/- Operations, eleventh part: append, copy, clear. -/
import Derived.Test.YtkjpdeakincalaaGreatDoorAmOpsJ
namespace Go.AM
section
variable {lim : Nat} {P : Program} {ρ : Rho} {h h' : AHeap} {w : World} {n : Nat → Prop}

theorem rowOk_eq {k : Nat} {cs : List AVal} (hr : rowOk k cs = true) : cs.length = k ∧ ∀ c ∈ cs, c.scalar = true := by
  simp only [rowOk, Bool.and_eq_true, beq_eq, decide_eq_true_eq, List.all_eq_true] at hr
  exact ⟨hr.2, hr.1⟩

theorem VRs.scalars : ∀ {cs : List AVal} {xs : List Value}, VRs ρ n cs xs → (∀ c ∈ cs, c.scalar = true) → ∀ x ∈ xs, (∀ c, x ≠ .agg c) ∧ (∀ c, x ≠ .tuple c)
  | _, _, .nil, _, x, hx => by cases hx
  | _, _, .cons v y vs xs hv hvs, hs, x, hx => by
    rcases List.mem_cons.1 hx with rfl | hx
    · exact hv.scalar_cells (hs v (List.mem_cons_self ..))
    · exact VRs.scalars hvs (fun c hc => hs c (List.mem_cons_of_mem _ hc)) x hx

/-- The result of a new row of open capacity. -/
theorem gsl_new (ρ : Rho) (n : Nat → Prop) (b : Nat) (blk : Blk) (k : Nat) (hk : k ≤ blk.cap) : VR (upd ρ b blk) (ins n b) (.gsl b 0 k) (.slice (some ⟨blk.id, 0, none⟩) k blk.cap) := by
  have := VR.gsl (ρ := upd ρ b blk) (n := ins n b) b 0 k (.inr rfl) (by rw [upd_same]; simp; exact hk)
  rw [upd_same] at this
  simpa using this

theorem regrow_sound (s : Sim lim ρ n h w) (hlim : h'.next ≤ lim) {ts : Array TypeId} {sT e ty : TypeId} {size bytes : Nat} {zero : List AVal} (ht : AppTypes P ts sT e size bytes zero)
    {base : Option Addr} {sLen sCap k : Nat} {x' : Value} {old new : List AVal} {ov nv : List Value} {v : AVal}
    (hq : regrow e size bytes zero (sLen + k) sCap (old ++ new) h = .ok (v, h')) (hgt : ¬ sLen + k ≤ sCap)
    (hk : ∀ w : World, (Builtin.lenOf x').run P w = .ok k w) (hov : VRs ρ n old ov) (hnv : VRs ρ n new nv)
    (hold : (Builtin.firstCells size sLen (.slice base sLen sCap)).run P { w with drawn := w.drawn + 1 } = .ok ov.toArray { w with drawn := w.drawn + 1 })
    (hnew : (Builtin.firstCells size k x').run P w = .ok nv.toArray w) (hnew' : (Builtin.firstCells size k x').run P { w with drawn := w.drawn + 1 } = .ok nv.toArray { w with drawn := w.drawn + 1 }) :
    SemV lim P (Builtin.append_ ts ty #[.slice base sLen sCap, x']) ρ n h w v h' := by
  unfold regrow at hq
  rw [sel_eq_ok] at hq
  obtain ⟨hcond, hq⟩ := hq
  simp only [Bool.and_eq_true, ble_eq, decide_eq_true_eq] at hcond
  obtain ⟨⟨hb1, _⟩, hrow⟩ := hcond
  injection hq with hq
  injection hq with hv hh
  subst hv; subst hh
  obtain ⟨hlen, _⟩ := rowOk_eq hrow
  obtain ⟨z, hz1, hz2, hz3, hz4⟩ := zeroFor_eq ht.hzero
  obtain ⟨c, zx, hc, hzx, hr⟩ := (append_run (ty := ty) ht (base := base) hk hnew).2 hgt hb1 ov.toArray hold hnew'
  have hlim' : h.next < lim := by have := hlim; simp at this; omega
  have s' := s.drawn (w.drawn + 1)
  have hblk : (Blk.mk w.heap.size c size).id = w.heap.size := rfl
  have hag := agree_upd ρ n h.next (Blk.mk w.heap.size c size) (s.notNext hlim')
  have hobj := grown_obj (ρ := upd ρ h.next ⟨w.heap.size, c, size⟩) (n := ins n h.next) (b := h.next) (e := e) (k := sLen + k) (size := size) (zs := zero) (cap := c)
    (rest := Builtin.zeroCells zx (c - (sLen + k))) ((hov.append hnv).mono hag (sub_ins _ _)) hlen (by omega) hc (by rw [zeroCells_size, hzx]) (by rw [upd_same]; exact ⟨rfl, rfl⟩)
  have e1 : (ov ++ nv).toArray = ov.toArray ++ nv.toArray := by simp
  rw [e1] at hobj
  refine ⟨_, _, _, _, hr, gsl_new ρ n h.next ⟨w.heap.size, c, size⟩ (sLen + k) hc, s'.new hlim' hblk hobj, ?_⟩
  exact (Ext.drawn ρ n h w (w.drawn + 1)).trans (Ext.made s' hlim' hblk)

theorem append_sound (s : Sim lim ρ n h w) (hlim : h'.next ≤ lim) {ts : Array TypeId} {sT e ty : TypeId} {size bytes : Nat} {zero : List AVal} (ht : AppTypes P ts sT e size bytes zero)
    {sv x v : AVal} {sv' x' : Value} (hq : append e size bytes zero sv x h = .ok (v, h')) (hs : VR ρ n sv sv') (hx : VR ρ n x x') :
    SemV lim P (Builtin.append_ ts ty #[sv', x']) ρ n h w v h' := by
  obtain ⟨z, hz1, hz2, hz3, hz4⟩ := zeroFor_eq ht.hzero
  unfold append at hq
  rw [bnd_eq_ok] at hq
  obtain ⟨k, hk, hq⟩ := hq
  rw [bnd_eq_ok] at hq
  obtain ⟨new, hnew, hq⟩ := hq
  have hk' : ∀ w : World, (Builtin.lenOf x').run P w = .ok k w := fun w => lenOf_sound hk hx
  obtain ⟨nv, hnv, hnr⟩ := firstCells_sound (P := P) s hnew hx
  obtain ⟨nv2, hnv2, hnr2⟩ := firstCells_sound (P := P) (s.drawn (w.drawn + 1)) hnew hx
  obtain rfl : nv2 = nv := hnv2.det hnv
  cases hs <;> simp only at hq <;> try contradiction
  case slice b o len cap hb =>
    unfold appendSlice at hq
    rw [sel_eq, ble_eq] at hq
    by_cases hle : len + k ≤ cap
    · rw [decide_eq_true hle, if_pos rfl, bnd_eq_ok] at hq
      obtain ⟨h1, hst, hq⟩ := hq
      injection hq with hq
      injection hq with hv hh
      subst hv; subst hh
      obtain ⟨w', hrun, hs', he, _⟩ := storeCells_sound (P := P) (o := o + len * size) new nv2 0 (by simpa using hst) s hnv
      refine ⟨ρ, n, w', _, ?_, .slice b o (len + k) cap hb, hs', he⟩
      rw [(append_run (ty := ty) ht hk' hnr).1 hle]
      simp only [add_none, hrun, Result.andThen_ok]
    · rw [decide_eq_false hle, if_neg Bool.false_ne_true, bnd_eq_ok] at hq
      obtain ⟨old, hold, hq⟩ := hq
      obtain ⟨ov, hov, hor⟩ := firstCells_sound (P := P) (s.drawn (w.drawn + 1)) hold (VR.slice (ρ := ρ) (n := n) b o len cap hb)
      exact regrow_sound s hlim ht hq hle hk' hov hnv hor hnr hnr2
  case nilSlice len cap =>
    unfold appendNil at hq
    rw [sel_eq, ble_eq] at hq
    by_cases hle : len + k ≤ cap
    · rw [decide_eq_true hle, if_pos rfl] at hq
      injection hq with hq
      injection hq with hv hh
      subst hv; subst hh
      refine ⟨ρ, n, w, _, ?_, .nilSlice (len + k) cap, s, Ext.refl _ _ _ _⟩
      rw [(append_run (ty := ty) ht hk' hnr).1 hle]
      rfl
    · rw [decide_eq_false hle, if_neg Bool.false_ne_true] at hq
      refine regrow_sound s hlim ht (old := []) (ov := []) hq hle hk' .nil hnv ?_ hnr hnr2
      simp [Builtin.firstCells]
  case gsl b o len hb hl =>
    unfold appendGrown at hq
    split at hq
    · rename_i e' blen size' zs t hg
      rw [sel_eq_ok, Bool.and_eq_true, beq_eq, beq_eq, decide_eq_true_eq, decide_eq_true_eq] at hq
      obtain ⟨⟨rfl, rfl⟩, hq⟩ := hq
      obtain ⟨y, hy, hr⟩ := s.obj b _ hg
      cases hr
      rename_i cs fr hf hcl hs0 hsize hcap hc
      rw [sel_eq, ble_eq] at hq
      by_cases hin : o + (len + k) * size ≤ blen * size
      · -- within what is spoken of
        rw [decide_eq_true hin, if_pos rfl, bnd_eq_ok] at hq
        obtain ⟨h1, hst, hq⟩ := hq
        injection hq with hq
        injection hq with hv hh
        subst hv; subst hh
        have hdiv : len + k ≤ blen - o / size := by
          have h1 : o / size * size ≤ o := Nat.div_mul_le_self o size
          have h2 : (len + k + o / size) * size ≤ blen * size := by rw [Nat.add_mul]; omega
          have := Nat.le_of_mul_le_mul_right h2 hs0
          omega
        obtain ⟨w', hrun, hs', he, _⟩ := storeCells_sound (P := P) (o := o + len * size) new nv2 0 (by simpa using hst) s hnv
        refine ⟨ρ, n, w', _, ?_, .gsl b o (len + k) hb (by rw [hsize]; omega), hs', he⟩
        rw [(append_run (ty := ty) ht hk' hnr).1 (by rw [hsize]; omega)]
        simp only [add_none, hrun, Result.andThen_ok]
      · rw [decide_eq_false hin, if_neg Bool.false_ne_true, sel_eq_ok, Bool.and_eq_true, beq_eq, beq_eq, decide_eq_true_eq, decide_eq_true_eq] at hq
        obtain ⟨⟨rfl, rfl⟩, hq⟩ := hq
        rw [sel_eq_ok, Bool.and_eq_true, ble_eq, decide_eq_true_eq] at hq
        obtain ⟨⟨hmax, hrow⟩, hq⟩ := hq
        injection hq with hq
        injection hq with hv hh
        subst hv; subst hh
        obtain ⟨hnlen, hnsc⟩ := rowOk_eq hrow
        have hlim' : h.next < lim := by have := hlim; simp at this; omega
        have hbn : b ≠ h.next := fun e => s.notNext hlim' (e ▸ hb)
        have hnl : nv2.length = k * size := by rw [← hnv.length]; exact hnlen
        have hz0 : 0 / (ρ b).size = 0 := Nat.zero_div _
        have sk := s.kill b
        -- the cells of the row that goes on, in whatever block
        have hcells : ∀ (ρ' : Rho) (n' : Nat → Prop) (ds : Array Value), Agree n ρ ρ' → Sub n n' → (∀ i, i < len * size → ds[i]? = cs[i]?) →
            (∀ i, i < k * size → ds[len * size + i]? = nv2[i]?) → CellsR ρ' n' ((len + k) * size) zs (fromList (len * size) new t) ds := by
          intro ρ' n' ds ha hn h1 h2 i hi
          rw [content_fromList]
          by_cases hlow : i < len * size
          · rw [if_neg (by omega)]
            obtain ⟨x0, hx0, hv0⟩ := hc i hlow
            exact ⟨x0, by rw [h1 i hlow]; exact hx0, hv0.mono ha hn⟩
          · have hi2 : i - len * size < k * size := by rw [Nat.add_mul] at hi; omega
            rw [if_pos (by rw [hnlen]; omega)]
            obtain ⟨x0, hx0, hv0⟩ := hnv.get (i - len * size) (new[i - len * size]'(by rw [hnlen]; exact hi2)) (by rw [List.getElem?_eq_getElem])
            refine ⟨x0, ?_, ?_⟩
            · have := h2 (i - len * size) hi2
              rw [show len * size + (i - len * size) = i by omega] at this
              rw [this]; exact hx0
            · have e1 : new.getD (i - len * size) aundef = new[i - len * size]'(by rw [hnlen]; exact hi2) := by
                simp [List.getD, hnlen, hi2]
              rw [e1]
              exact hv0.mono ha hn
        by_cases hroom : len + k ≤ (ρ b).cap
        · -- in place
          obtain ⟨w', ds, hrun, hw', hdsz, hds, hoth, hwsz, hos, htape, hout⟩ := run_storeCells_raw (P := P) (b := (ρ b).id) (o := len * size) (e := e') (fr := fr) nv2 0 w cs hy
            (by rw [hnl, hcap]; have : (len + k) * size ≤ (ρ b).cap * size := Nat.mul_le_mul_right _ hroom; rw [Nat.add_mul] at this; omega) hf (hnv.scalars hnsc)
          have hag := agree_upd ρ n h.next (ρ b) (s.notNext hlim')
          have hc1 : CellsR (upd ρ h.next (ρ b)) (ins n h.next) ((len + k) * size) zs (fromList (len * size) new t) ds := by
            refine hcells _ _ ds hag (sub_ins _ _) (fun i hi => ?_) (fun i hi => ?_)
            · rw [hds, if_neg (by omega)]
            · rw [hds, if_pos (by omega), show len * size + i - (len * size + 0) = i by omega]
          refine ⟨upd ρ h.next (ρ b), ins n h.next, w', .slice (some ⟨(ρ b).id, 0, none⟩) (len + k) (ρ b).cap, ?_, gsl_new ρ n h.next (ρ b) (len + k) hroom, ?_, ?_⟩
          · have := (append_run (ty := ty) ht (base := some ⟨(ρ b).id, 0, none⟩) (sLen := len) (sCap := (ρ b).cap - 0 / (ρ b).size) hk' hnr).1 (by rw [hz0]; omega)
            rw [this]
            simp only [add_none, Nat.zero_add, hrun, Result.andThen_ok, hz0, Nat.sub_zero]
          · -- the state
            have live : ∀ {c : Nat} {oc : AObj}, ((h.kill b).new (.grown e' (len + k) size zs (fromList (len * size) new t))).get c = some oc → c = h.next ∧ oc = .grown e' (len + k) size zs (fromList (len * size) new t) ∨ c ≠ h.next ∧ c ≠ b ∧ h.get c = some oc := by
              intro c oc hcc
              rw [AHeap.get_new] at hcc
              by_cases e1 : c = (h.kill b).next
              · rw [if_pos e1] at hcc; exact .inl ⟨e1, (Option.some.inj hcc).symm⟩
              · rw [if_neg e1, AHeap.get_kill] at hcc
                by_cases e2 : c = b
                · rw [if_pos e2] at hcc; cases hcc
                · rw [if_neg e2] at hcc; exact .inr ⟨e1, e2, hcc⟩
            refine ⟨fun c hc' => ?_, fun c oc hcc => ?_, fun c oc hcc => ?_, fun c c' oc oc' hcc hcc' he => ?_, fun c oc hcc => ?_, s.sy.upd (Nat.le_refl _) _ (by simp)⟩
            · rcases hc' with hc' | rfl
              · have := s.fresh c hc'; simp; omega
              · left; simp
            · rcases live hcc with ⟨rfl, _⟩ | ⟨_, _, h3⟩
              · exact .inr rfl
              · exact .inl (s.dom _ _ h3)
            · rcases live hcc with ⟨rfl, rfl⟩ | ⟨h1, h2, h3⟩
              · refine ⟨.cells ds e' fr, by rw [upd_same]; exact hw', ?_⟩
                refine .grown e' (len + k) size zs _ ds fr hs0 (by rw [upd_same]; exact hsize) (by rw [upd_same, hdsz]; exact hcap) (by rw [upd_same]; exact hroom) hc1 (by rw [hdsz]; exact hf)
              · obtain ⟨y2, hy2, hr2⟩ := s.obj _ _ h3
                refine ⟨y2, ?_, hr2.mono hag (sub_ins _ _) (s.dom _ _ h3)⟩
                rw [hag _ (s.dom _ _ h3), hoth _ (fun e => h2 (s.inj _ _ _ _ h3 hg e))]
                exact hy2
            · rcases live hcc with ⟨rfl, _⟩ | ⟨h1, h2, h3⟩
              · rcases live hcc' with ⟨rfl, _⟩ | ⟨h1', h2', h3'⟩
                · rfl
                · rw [upd_same, hag _ (s.dom _ _ h3')] at he
                  exact absurd (s.inj _ _ _ _ hg h3' he).symm h2'
              · rcases live hcc' with ⟨rfl, _⟩ | ⟨h1', h2', h3'⟩
                · rw [upd_same, hag _ (s.dom _ _ h3)] at he
                  exact absurd (s.inj _ _ _ _ h3 hg he) h2
                · rw [hag _ (s.dom _ _ h3), hag _ (s.dom _ _ h3')] at he
                  exact s.inj _ _ _ _ h3 h3' he
            · rcases live hcc with ⟨rfl, _⟩ | ⟨h1, h2, h3⟩
              · simp
              · have := s.low _ _ h3
                simp; omega
          · refine ⟨hag, sub_ins _ _, fun c hc' => hc'.imp id (fun e => by simp; omega), by simp, hos, htape, hout, by omega, fun i hi hni => hoth i (fun e => hni ⟨b, _, hg, e.symm⟩), ?_⟩
            rintro i hi ⟨c, oc, hcc, he⟩
            rw [AHeap.get_new] at hcc
            by_cases e1 : c = (h.kill b).next
            · have e1' : c = h.next := e1
              rw [e1', upd_same] at he
              exact ⟨b, _, hg, he⟩
            · rw [if_neg e1, AHeap.get_kill] at hcc
              by_cases e2 : c = b
              · rw [if_pos e2] at hcc; cases hcc
              · rw [if_neg e2] at hcc
                rw [hag _ (s.dom _ _ hcc)] at he
                exact ⟨c, oc, hcc, he⟩
        · -- a new block
          have hlow : len * size ≤ cs.size := by
            rw [hcap]; exact Nat.mul_le_mul_right _ hcl
          have hold : (Builtin.firstCells size len (.slice (some ⟨(ρ b).id, 0, none⟩) len ((ρ b).cap - 0 / (ρ b).size))).run P { w with drawn := w.drawn + 1 } =
              .ok (cs.toList.take (len * size)).toArray { w with drawn := w.drawn + 1 } := by
            have hl2 : (cs.toList.take (len * size)).length = len * size := by simp; omega
            have := run_loadCells_list (P := P) ({ w with drawn := w.drawn + 1 } : World) ⟨(ρ b).id, 0, none⟩ (cs.toList.take (len * size)) (fun j x hj => by
              have hj' : cs[j]? = some x := by
                rw [List.getElem?_take] at hj
                split at hj
                · simpa using hj
                · cases hj
              rw [add_none]
              simp [World.cell?, hy, hj'])
            rw [hl2] at this
            exact this
          obtain ⟨c, zx, hc1, hzx, hr⟩ := (append_run (ty := ty) ht (base := some ⟨(ρ b).id, 0, none⟩) (sLen := len) (sCap := (ρ b).cap - 0 / (ρ b).size) hk' hnr).2 (by rw [hz0]; omega) hmax _ hold hnr2
          have s' := sk.drawn (w.drawn + 1)
          have hblk : (Blk.mk w.heap.size c size).id = w.heap.size := rfl
          have hag := agree_upd ρ n h.next (Blk.mk w.heap.size c size) (s.notNext hlim')
          have hobj : ObjR (upd ρ h.next ⟨w.heap.size, c, size⟩) (ins n h.next) h.next (.grown e' (len + k) size zs (fromList (len * size) new t))
              (.cells ((cs.toList.take (len * size)).toArray ++ nv2.toArray ++ Builtin.zeroCells zx (c - (len + k))) e') := by
            have hl2 : (cs.toList.take (len * size)).length = len * size := by simp; omega
            refine .grown e' (len + k) size zs _ _ (0, 0) hs0 (by rw [upd_same]) ?_ (by rw [upd_same]; exact hc1) (hcells _ _ _ hag (sub_ins _ _) (fun i hi => ?_) (fun i hi => ?_)) (.inl (Nat.le_refl _))
            · rw [upd_same]
              simp only [Array.size_append, List.size_toArray, hl2, hnl, zeroCells_size, hzx]
              rw [← Nat.add_mul, ← Nat.add_mul]
              congr 1
              omega
            · rw [Array.append_assoc, Array.getElem?_append_left (by simp; omega)]
              simp [hi]
            · rw [Array.append_assoc, Array.getElem?_append_right (by simp; omega), Array.getElem?_append_left (by simp; omega)]
              simp only [List.size_toArray, hl2]
              rw [show len * size + i - len * size = i by omega]
              simp
          refine ⟨_, _, _, _, hr, gsl_new ρ n h.next ⟨w.heap.size, c, size⟩ (len + k) hc1, s'.new hlim' hblk hobj, ?_⟩
          exact ((Ext.drawn ρ n h w (w.drawn + 1)).trans (Ext.kill b)).trans (Ext.made s' hlim' hblk)
    · cases hq
end
end Go.AM
