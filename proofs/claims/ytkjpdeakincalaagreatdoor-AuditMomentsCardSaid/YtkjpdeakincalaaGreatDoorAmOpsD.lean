/- Operations, fourth part: structs, arrays, slices. -/
import Derived.Test.YtkjpdeakincalaaGreatDoorAmOpsC
namespace Go.AM

theorem take_set_succ {α : Type} (L : List α) (m : Nat) (x : α) (h : m < L.length) : (L.set m x).take (m + 1) = L.take m ++ [x] := by
  apply List.ext_getElem?; intro j; grind
theorem drop_set_lt {α : Type} (L : List α) (m k : Nat) (x : α) (h : m < k) : (L.set m x).drop k = L.drop k := by
  apply List.ext_getElem?; intro j; grind

theorem fold_set : ∀ (l : List Value) (k off : Nat) (cells : Array Value), off + k + l.length ≤ cells.size →
    ((l.zipIdx k).foldl (fun cs p => cs.setIfInBounds (off + p.2) p.1) cells).toList = cells.toList.take (off + k) ++ (l ++ cells.toList.drop (off + k + l.length))
  | [], k, off, cells, _ => by simp
  | x :: l, k, off, cells, h => by
    simp only [List.length_cons] at h
    rw [List.zipIdx_cons, List.foldl_cons, fold_set l (k + 1) off _ (by simp; omega)]
    simp only [Array.toList_setIfInBounds, List.length_cons]
    have hlen : cells.toList.length = cells.size := Array.length_toList
    rw [show off + (k + 1) = off + k + 1 by omega, take_set_succ _ _ _ (by omega), drop_set_lt _ _ _ _ (by omega), show off + k + (l.length + 1) = off + k + 1 + l.length by omega]
    simp

section
variable {lim : Nat} {P : Program} {ρ : Rho} {h : AHeap} {w : World} {n : Nat → Prop}

theorem fill_sound (place : Nat → Option (Nat × Nat)) : ∀ (ps : List (Nat × AVal)) (qs : List (Nat × Value)) (cs : List AVal) (xs : Array Value) (cs' : List AVal),
    fill place cs ps = some cs' → VRps ρ n ps qs → VRs ρ n cs xs.toList → ∃ xs' : Array Value, Instr.fill place xs qs = some xs' ∧ VRs ρ n cs' xs'.toList
  | [], _, cs, xs, cs', hf, hp, hc => by
    cases hp
    simp only [fill, Option.some.injEq] at hf
    subst hf
    exact ⟨xs, rfl, hc⟩
  | (i, v) :: ps, _, cs, xs, cs', hf, hp, hc => by
    cases hp with
    | cons _ _ x _ qs hv hps =>
      simp only [fill] at hf
      simp only [Instr.fill]
      cases hpl : place i with
      | none => rw [hpl] at hf; cases hf
      | some os =>
        obtain ⟨off, size⟩ := os
        rw [hpl] at hf
        simp only at hf
        rw [sel_eq] at hf
        split at hf
        · rename_i hcond
          simp only [Bool.and_eq_true, beq_eq, ble_eq, decide_eq_true_eq] at hcond
          obtain ⟨h1, h2⟩ := hcond
          have hvc := hv.cells
          have hl1 : x.cells.size = size := by have := hvc.length; simp at this; omega
          have hl2 : cs.length = xs.size := by have := hc.length; simpa using this
          have hn : ¬ ((x.cells.size ≠ size || decide (off + x.cells.size > xs.size)) = true) := by
            simp [hl1]; omega
          simp only [hn]
          refine fill_sound place ps qs _ _ cs' hf hps ?_
          have hfold : (Array.foldl (fun cs p => cs.setIfInBounds (off + p.2) p.1) xs x.cells.zipIdx).toList = xs.toList.take off ++ (x.cells.toList ++ xs.toList.drop (off + size)) := by
            rw [← Array.foldl_toList, Array.toList_zipIdx]
            have := fold_set x.cells.toList 0 off xs (by simp; omega)
            simpa [hl1] using this
          rw [hfold]
          exact (hc.take off).append (hvc.append (hc.drop _))
        · cases hf

theorem placesOf_sound : ∀ (fs : List Field) (places : List (Nat × Nat)), placesOf P fs = .ok places →
    (fs.mapM (fun f => do pure (f.offset, ← Go.sizeOf f.type) : Field → Sem (Nat × Nat))).run P w = .ok places w
  | [], places, hp => by injection hp with hp; subst hp; simp
  | f :: fs, places, hp => by
    unfold placesOf at hp
    rw [mapE_cons, bnd_eq_ok] at hp
    obtain ⟨p, hp1, hp⟩ := hp
    rw [bnd_eq_ok] at hp
    obtain ⟨ps, hps, hp⟩ := hp
    injection hp with hp
    subst hp
    rw [bnd_eq_ok] at hp1
    obtain ⟨k, hk, hp1⟩ := hp1
    injection hp1 with hp1
    subst hp1
    have ih := placesOf_sound fs ps hps
    simp only [List.mapM_cons, Sem.run_bind, tsize_run hk, Result.andThen_ok, Sem.run_pure]
    rw [ih]
    simp

theorem build_sound {zero : AVal} {place : Nat → Option (Nat × Nat)} {ps : List (Nat × AVal)} {qs : Array (Nat × Value)} {v : AVal} {z : Value}
    (hz : VR ρ n zero z) (hb : build zero.cells place ps = .ok v) (hps : VRps ρ n ps qs.toList) :
    ∃ xs : Array Value, Instr.fill place z.cells qs.toList = some xs ∧ VR ρ n v (.agg xs) := by
  unfold build at hb
  rw [bnd_eq_ok] at hb
  obtain ⟨cs, hcs, hb⟩ := hb
  injection hb with hb
  subst hb
  obtain ⟨xs, hx, hv⟩ := fill_sound place ps qs.toList zero.cells z.cells cs (opt_eq_ok.1 hcs) hps hz.cells
  exact ⟨xs, hx, by obtain ⟨l⟩ := xs; exact .agg _ _ hv⟩

theorem buildOp_struct {t : TypeId} {fs : Array Field} {zero : AVal} {places : List (Nat × Nat)} {ps : List (Nat × AVal)} {qs : Array (Nat × Value)} {v : AVal}
    (hz : tzero P t = .ok zero) (hu : uty P t = .ok (.struct fs)) (hp : placesOf P fs.toList = .ok places)
    (hb : build zero.cells (fun i => places[i]?) ps = .ok v) (hps : VRps ρ n ps qs.toList) : SemP P (Instr.build t qs) ρ n w v := by
  obtain ⟨z, hzr, hzv⟩ := tzero_run hz w
  obtain ⟨xs, hx, hv⟩ := build_sound (hzv ρ n) hb hps
  refine ⟨.agg xs, ?_, hv⟩
  simp only [Instr.build, Sem.run_bind, hzr, Result.andThen_ok, uty_run hu]
  rw [Array.mapM_eq_mapM_toList]
  simp only [Sem.run_map, placesOf_sound _ _ hp, Result.andThen_ok]
  have : (fun (x : Nat) => (places.toArray)[x]?) = fun i => places[i]? := by funext i; simp
  rw [this, hx]
  rfl

theorem buildOp_array {t elem : TypeId} {len size : Nat} {zero : AVal} {ps : List (Nat × AVal)} {qs : Array (Nat × Value)} {v : AVal}
    (hz : tzero P t = .ok zero) (hu : uty P t = .ok (.array len elem)) (hs : tsize P elem = .ok size)
    (hb : build zero.cells (fun i => some (i * size, size)) ps = .ok v) (hps : VRps ρ n ps qs.toList) : SemP P (Instr.build t qs) ρ n w v := by
  obtain ⟨z, hzr, hzv⟩ := tzero_run hz w
  obtain ⟨xs, hx, hv⟩ := build_sound (hzv ρ n) hb hps
  refine ⟨.agg xs, ?_, hv⟩
  simp only [Instr.build, Sem.run_bind, hzr, Result.andThen_ok, uty_run hu, tsize_run hs, hx]
  rfl

/-! ### Fields, elements -/
theorem fieldAddr_sound {s : TypeId} {i : Nat} {f : Field} {k : Nat} {x v : AVal} {x' : Value} (hf : fieldOf P s i = .ok f) (hk : tsize P f.type = .ok k) (hk0 : k ≠ 0)
    (hq : fieldAddr f.offset x = .ok v) (hx : VR ρ n x x') : SemP P (Instr.fieldAt s x' i) ρ n w v := by
  obtain ⟨fs, hu, hfs⟩ := fieldOf_eq hf
  cases hx <;> simp only [fieldAddr] at hq <;> try contradiction
  rename_i b o hb
  injection hq with hq
  subst hq
  refine ⟨_, ?_, .ptr _ _ hb⟩
  simp only [Instr.fieldAt, Sem.run_bind, uty_run hu, Result.andThen_ok, hfs, Instr.sureAddr, Sem.run_pure, fieldPlace, tsize_run hk, hk0, if_false, add_none]

theorem fieldOp_sound {s : TypeId} {i : Nat} {f : Field} {k : Nat} {agg : Bool} {x v : AVal} {x' : Value} (hf : fieldOf P s i = .ok f) (ha : tagg P f.type = .ok agg) (hk : tsize P f.type = .ok k)
    (hq : fieldOp agg k f.offset x = .ok v) (hx : VR ρ n x x') : SemP P (Instr.field s x' i) ρ n w v := by
  obtain ⟨fs, hu, hfs⟩ := fieldOf_eq hf
  cases hx <;> simp only [fieldOp] at hq <;> try contradiction
  rename_i cs xs hxs
  have hp : part P f.type cs f.offset = .ok v := by
    unfold part
    rw [ha, bnd_ok, hk, bnd_ok]
    exact hq
  obtain ⟨y, hy, hv⟩ := part_sound (w := w) hp hxs
  refine ⟨y, ?_, hv⟩
  simp only [Instr.field, Sem.run_bind, uty_run hu, Result.andThen_ok, hfs, asAgg, Sem.run_pure, hy]

theorem inRange_some {i : Int} {len j : Nat} (hj : inRange i len = some j) : 0 ≤ i ∧ i < len ∧ i.toNat = j := by
  rw [inRange_eq] at hj
  split at hj
  · rename_i hh; injection hj with hj; exact ⟨hh.1, hh.2, hj⟩
  · cases hj

theorem asI_eq {x : AVal} {x' : Value} {i : Int} (hi : asI x = .ok i) (hx : VR ρ n x x') : ∃ k, x' = .int k i := by
  cases hx <;> simp only [asI] at hi <;> try contradiction
  injection hi with hi
  subst hi
  exact ⟨_, rfl⟩

theorem indexAddr_array {t e : TypeId} {len size : Nat} {x i v : AVal} {x' i' : Value} (hu : uty P t = .ok (.array len e)) (hs : tsize P e = .ok size)
    (hq : indexAddr (some len) size x i = .ok v) (hx : VR ρ n x x') (hi : VR ρ n i i') (hp : ∃ b o, x = .ptr b o) : SemP P (Instr.indexAt t x' i') ρ n w v := by
  obtain ⟨b, o, rfl⟩ := hp
  unfold indexAddr at hq
  rw [bnd_eq_ok] at hq
  obtain ⟨j, hj, hq⟩ := hq
  obtain ⟨k, rfl⟩ := asI_eq hj hi
  simp only at hq
  rw [bnd_eq_ok] at hq
  obtain ⟨m, hm, hq⟩ := hq
  injection hq with hq
  subst hq
  obtain ⟨h0, h1, h2⟩ := inRange_some (show inRange j len = some m from opt_eq_ok.1 hm)
  cases hx
  rename_i hb
  refine ⟨_, ?_, .ptr _ _ hb⟩
  simp only [Instr.indexAt, asIntOf, Sem.run_bind, Sem.run_pure, Result.andThen_ok, uty_run hu, Instr.sureAddr, h0, h1, and_self, if_true, tsize_run hs, add_none, h2]

theorem indexAddr_slice {t e : TypeId} {size : Nat} {x i v : AVal} {x' i' : Value} (hu : uty P t = .ok (.slice e)) (hs : tsize P e = .ok size)
    (hq : indexAddr none size x i = .ok v) (hx : VR ρ n x x') (hi : VR ρ n i i') : SemP P (Instr.indexAt t x' i') ρ n w v := by
  unfold indexAddr at hq
  rw [bnd_eq_ok] at hq
  obtain ⟨j, hj, hq⟩ := hq
  obtain ⟨k, rfl⟩ := asI_eq hj hi
  cases hx <;> simp only at hq <;> try contradiction
  · rename_i b o l c hb
    rw [bnd_eq_ok] at hq
    obtain ⟨m, hm, hq⟩ := hq
    injection hq with hq
    subst hq
    obtain ⟨h0, h1, h2⟩ := inRange_some (opt_eq_ok.1 hm)
    refine ⟨_, ?_, .ptr _ _ hb⟩
    simp only [Instr.indexAt, asIntOf, Sem.run_bind, Sem.run_pure, Result.andThen_ok, uty_run hu, h0, h1, and_self, if_true, tsize_run hs, add_none, h2]
  · rename_i b o l hb hl
    rw [bnd_eq_ok] at hq
    obtain ⟨m, hm, hq⟩ := hq
    injection hq with hq
    subst hq
    obtain ⟨h0, h1, h2⟩ := inRange_some (opt_eq_ok.1 hm)
    refine ⟨_, ?_, .ptr _ _ hb⟩
    simp only [Instr.indexAt, asIntOf, Sem.run_bind, Sem.run_pure, Result.andThen_ok, uty_run hu, h0, h1, and_self, if_true, tsize_run hs, add_none, h2]

theorem indexArr_sound {t e : TypeId} {len size : Nat} {agg : Bool} {x i v : AVal} {x' i' : Value} (hu : uty P t = .ok (.array len e)) (ha : tagg P e = .ok agg) (hs : tsize P e = .ok size)
    (hq : indexArr agg size len x i = .ok v) (hx : VR ρ n x x') (hi : VR ρ n i i') : SemP P (Instr.index t x' i') ρ n w v := by
  cases hx <;> simp only [indexArr] at hq <;> try contradiction
  rename_i cs xs hxs
  rw [bnd_eq_ok] at hq
  obtain ⟨j, hj, hq⟩ := hq
  obtain ⟨k, rfl⟩ := asI_eq hj hi
  rw [bnd_eq_ok] at hq
  obtain ⟨m, hm, hq⟩ := hq
  obtain ⟨h0, h1, h2⟩ := inRange_some (opt_eq_ok.1 hm)
  have hp : part P e cs (m * size) = .ok v := by
    unfold part
    rw [ha, bnd_ok, hs, bnd_ok]
    exact hq
  obtain ⟨y, hy, hv⟩ := part_sound (w := w) hp hxs
  refine ⟨y, ?_, hv⟩
  simp only [Instr.index, asIntOf, Sem.run_bind, Sem.run_pure, Result.andThen_ok, uty_run hu, h0, h1, and_self, if_true, tsize_run hs, h2, hy]

theorem indexStr_sound {t : TypeId} {x i v : AVal} {x' i' : Value} (hu : uty P t = .ok .string) (hq : indexStr x i = .ok v) (hx : VR ρ n x x') (hi : VR ρ n i i') :
    SemP P (Instr.index t x' i') ρ n w v := by
  cases hx <;> simp only [indexStr] at hq <;> try contradiction
  rename_i s
  rw [bnd_eq_ok] at hq
  obtain ⟨j, hj, hq⟩ := hq
  obtain ⟨k, rfl⟩ := asI_eq hj hi
  cases j with
  | negSucc j => cases hq
  | ofNat j =>
    simp only at hq
    rw [bnd_eq_ok] at hq
    obtain ⟨b, hb, hq⟩ := hq
    injection hq with hq
    subst hq
    have hb' := opt_eq_ok.1 hb
    refine ⟨_, ?_, .int _ _⟩
    have h0 : (0 : Int) ≤ Int.ofNat j := by simp
    have hg : (ByteArray.mk s.toArray)[j]? = some b := by
      have hlt := (List.getElem?_eq_some_iff.1 hb').1
      have hlt' : j < (ByteArray.mk s.toArray).size := by simpa [ByteArray.size] using hlt
      rw [getElem?_pos (ByteArray.mk s.toArray) j hlt']
      have e : s[j] = b := (List.getElem?_eq_some_iff.1 hb').2
      exact congrArg some e
    simp only [Instr.index, asIntOf, Sem.run_bind, Sem.run_pure, Result.andThen_ok, uty_run hu]
    rw [if_pos h0]
    show ((match (ByteArray.mk s.toArray)[j]? with | some b => pure (Value.int .u8 b.toNat) | none => boundsPanic k (j : Int) ((ByteArray.mk s.toArray).size) .index) : Sem Value).run P w = _
    rw [hg]
    rfl
end
end Go.AM
