/- Operations, fifth part: making slices, slicing, maps, ranging. -/
import Derived.Test.YtkjpdeakincalaaGreatDoorAmOpsD
import Derived.Lib.Strings
namespace Go.AM
section
variable {lim : Nat} {P : Program} {ρ : Rho} {h h' : AHeap} {w : World} {n : Nat → Prop}

theorem run_askRoom (k : Nat) (w : World) : (askRoom k).run P w = .ok () w := by
  unfold askRoom
  split <;> rfl

theorem zeroFor_eq {t : TypeId} {size : Nat} {zs : List AVal} (hz : zeroFor P t size = .ok zs) : ∃ z, tzero P t = .ok z ∧ zs = z.cells ∧ zs.length = size ∧ size ≠ 0 := by
  unfold zeroFor at hz
  rw [bnd_eq_ok] at hz
  obtain ⟨z, hz1, hz⟩ := hz
  rw [sel_eq_ok] at hz
  obtain ⟨hc, hz⟩ := hz
  injection hz with hz
  simp only [Bool.and_eq_true, beq_eq, decide_eq_true_eq, Bool.not_eq_true', decide_eq_false_iff_not] at hc
  exact ⟨z, hz1, hz.symm, by rw [← hz]; exact hc.1, hc.2⟩

/-- The cells of n zero values. -/
theorem zeroCells_get {z : AVal} {x : Value} (hz : VR ρ n z x) {size : Nat} (hs : z.cells.length = size) (h0 : size ≠ 0) (k i : Nat) (hi : i < k) :
    ∃ y, ((Array.range k).map (fun j => x.cells[j % x.cells.size]!))[i]? = some y ∧ VR ρ n (zeroAt z.cells i) y := by
  have hl : x.cells.size = size := by have := hz.cells.length; simp at this; omega
  have hm : i % size < size := Nat.mod_lt _ (by omega)
  refine ⟨x.cells[i % x.cells.size]!, by simp [hi], ?_⟩
  obtain ⟨y, hy, hv⟩ := hz.cells.get (i % size) (z.cells[i % size]'(by omega)) (by rw [List.getElem?_eq_getElem])
  have e1 : x.cells[i % x.cells.size]! = y := by
    rw [hl]
    rw [Array.getElem?_toList] at hy
    rw [getElem!_def, hy]
  have e2 : zeroAt z.cells i = z.cells[i % size]'(by omega) := by
    unfold zeroAt
    split
    · rename_i z' hzz
      have : size = 1 := by rw [← hs, hzz]; rfl
      subst this
      simp [hzz, Nat.mod_one]
    · simp [List.getD, hs, hm]
  rw [e1, e2]
  exact hv

theorem cellsR_zero {z : AVal} {x : Value} (hz : VR ρ n z x) {size : Nat} (hs : z.cells.length = size) (h0 : size ≠ 0) (k : Nat) :
    CellsR ρ n k z.cells .leaf ((Array.range k).map (fun j => x.cells[j % x.cells.size]!)) := by
  intro i hi
  exact zeroCells_get hz hs h0 k i hi

/-- What makes a block of its own: wherever it comes, under whatever free name. -/
def AllocR (P : Program) (sm : Sem Value) (ρ : Rho) (n : Nat → Prop) (id : Nat) (w : World) (v : AVal) (o : AObj) : Prop :=
  ¬ n id → ∃ (blk : Blk) (x : Obj) (d : Nat) (v' : Value), blk.id = w.heap.size ∧ sm.run P w = .ok v' (({ w with drawn := d } : World).alloc x) ∧
    VR (upd ρ id blk) (ins n id) v v' ∧ ObjR (upd ρ id blk) (ins n id) id o x

theorem AllocR.toV {sm : Sem Value} {v : AVal} {o : AObj} (ha : AllocR P sm ρ n h.next w v o) (s : Sim lim ρ n h w) (hlim : h.next < lim) : SemV lim P sm ρ n h w v (h.new o) := by
  obtain ⟨blk, x, d, v', hid, hr, hv, ho⟩ := ha (s.notNext hlim)
  exact ⟨_, _, _, _, hr, hv, (s.drawn d).new hlim hid ho, (Ext.drawn ρ n h w d).trans (Ext.made (s.drawn d) hlim hid)⟩

theorem ptr_new (ρ : Rho) (n : Nat → Prop) (b : Nat) (blk : Blk) : VR (upd ρ b blk) (ins n b) (.ptr b 0) (.pointer (some ⟨blk.id, 0, none⟩)) := by
  have := VR.ptr (ρ := upd ρ b blk) (n := ins n b) b 0 (.inr rfl)
  rw [upd_same] at this
  exact this

theorem newRow_obj {id : Nat} (hid : ¬ n id) (blk : Blk) (e : TypeId) {vs : List AVal} {xs : Array Value} (hv : VRs ρ n vs xs.toList) :
    ObjR (upd ρ id blk) (ins n id) id (.cells e vs.length [] (fromList 0 vs .leaf)) (.cells xs e) := by
  refine .cells e vs.length [] _ xs (0, 0) (by have := hv.length; simpa using this.symm) ?_ (Nat.le_refl _)
  have := cellsR_fromList (zs := []) (hv.mono (agree_upd ρ n id blk hid) (sub_ins n id))
  simpa using this

theorem alloc_alloc {e : TypeId} {z : AVal} (hz : tzero P e = .ok z) (id : Nat) :
    AllocR P (Instr.alloc e true (.tuple #[])) ρ n id w (.ptr id 0) (.cells e z.cells.length [] (fromList 0 z.cells .leaf)) := by
  intro hid
  obtain ⟨x, hx, hxv⟩ := tzero_run hz w
  refine ⟨⟨w.heap.size, 0, 1⟩, .cells x.cells e, w.drawn, _, rfl, ?_, ptr_new _ _ _ _, newRow_obj hid _ e (hxv ρ n).cells⟩
  simp only [Instr.alloc, Sem.run_bind, hx, Result.andThen_ok, Go.newVar, Go.newRow, run_newObj, Sem.run_pure]
  rfl

theorem box_alloc {e : TypeId} {v : AVal} {x : Value} (hv : VR ρ n v x) (id : Nat) :
    AllocR P (Instr.box e x) ρ n id w (.ptr id 0) (.cells e v.cells.length [] (fromList 0 v.cells .leaf)) := by
  intro hid
  refine ⟨⟨w.heap.size, 0, 1⟩, .cells x.cells e, w.drawn, _, rfl, ?_, ptr_new _ _ _ _, newRow_obj hid _ e hv.cells⟩
  simp only [Instr.box, Sem.run_bind, Go.newVar, Go.newRow, run_newObj, Sem.run_pure, Result.andThen_ok]
  rfl

theorem makeMap_alloc {t : TypeId} {r : Option Value} (hr : ∀ x, r = some x → (∃ k e, uty P t = .ok (.map k e)) ∧ ∃ k i, x = .int k i) (id : Nat) :
    AllocR P (Instr.makeMap t r) ρ n id w (.map id) (.map [] 0) := by
  intro _
  refine ⟨⟨w.heap.size, 0, 1⟩, .map #[] 0, w.drawn, .map (some w.heap.size), rfl, ?_, ?_, .map _ _ _ .nil⟩
  · cases r with
    | none =>
      simp only [Instr.makeMap, Sem.run_bind, run_newObj, Sem.run_pure, Result.andThen_ok]
      rfl
    | some x =>
      obtain ⟨⟨k, e, hu⟩, k2, i, rfl⟩ := hr x rfl
      simp only [Instr.makeMap, Sem.run_bind, uty_run hu, Result.andThen_ok, asInt, asIntOf, run_newObj, Sem.run_pure]
      rfl
  · have := VR.map (ρ := upd ρ id ⟨w.heap.size, 0, 1⟩) (n := ins n id) id (.inr rfl)
    rw [upd_same] at this
    exact this

theorem slice_new (ρ : Rho) (n : Nat → Prop) (b : Nat) (blk : Blk) (l c : Nat) : VR (upd ρ b blk) (ins n b) (.slice b 0 l c) (.slice (some ⟨blk.id, 0, none⟩) l c) := by
  have := VR.slice (ρ := upd ρ b blk) (n := ins n b) b 0 l c (.inr rfl)
  rw [upd_same] at this
  exact this

theorem repeatL_get (zs : List AVal) : ∀ (k i : Nat), i < k * zs.length → (repeatL zs k)[i]? = zs[i % zs.length]?
  | 0, i, h => by simp at h
  | k + 1, i, h => by
    simp only [repeatL]
    by_cases hi : i < zs.length
    · rw [List.getElem?_append_left hi, Nat.mod_eq_of_lt hi]
    · rw [List.getElem?_append_right (by omega), repeatL_get zs k (i - zs.length) (by rw [Nat.add_mul] at h; omega), ← Nat.mod_eq_sub_mod (by omega)]

theorem repeatL_length (zs : List AVal) : ∀ k : Nat, (repeatL zs k).length = k * zs.length
  | 0 => by simp [repeatL]
  | k + 1 => by simp [repeatL, repeatL_length zs k, Nat.add_mul]; omega

theorem repeatL_VRs {z : AVal} {x : Value} (hz : VR ρ n z x) {size : Nat} (hs : z.cells.length = size) (h0 : size ≠ 0) (k : Nat) :
    VRs ρ n (repeatL z.cells k) ((Array.range (k * size)).map (fun j => x.cells[j % x.cells.size]!)).toList := by
  refine VRs.of_get (by simp [repeatL_length, hs]) fun i v hi => ?_
  have hlt : i < k * size := by
    have := (List.getElem?_eq_some_iff.1 hi).1
    rw [repeatL_length, hs] at this
    exact this
  rw [repeatL_get _ _ _ (by rw [hs]; exact hlt), hs] at hi
  obtain ⟨y, hy, hv⟩ := zeroCells_get hz hs h0 (k * size) i hlt
  refine ⟨y, by rw [Array.getElem?_toList]; exact hy, ?_⟩
  have hm : i % size < size := Nat.mod_lt _ (by omega)
  have e2 : zeroAt z.cells i = v := by
    unfold zeroAt
    split
    · rename_i z' hzz
      rw [hzz] at hi hs
      have : size = 1 := by rw [← hs]; rfl
      subst this
      simpa [Nat.mod_one] using hi
    · simp only [List.getD, hs, hi]; rfl
  rw [← e2]
  exact hv

theorem buildSlice_alloc {t e : TypeId} {size len : Nat} {zero cs : List AVal} {ps : List (Nat × AVal)} {qs : Array (Nat × Value)} (he : elemOfSlice P t = .ok e) (hs : tsize P e = .ok size)
    (hmax : len * size ≤ 16777216) (hs0 : size ≠ 0) (hz : (if len * size = 0 then (.ok [] : E (List AVal)) else zeroFor P e size) = .ok zero)
    (hf : fill (fun i => some (i * size, size)) (repeatL zero len) ps = some cs) (hps : VRps ρ n ps qs.toList) (id : Nat) :
    AllocR P (Instr.buildSlice t len qs) ρ n id w (.slice id 0 len len) (.cells e cs.length [] (fromList 0 cs .leaf)) := by
  intro hid
  by_cases h0 : len * size = 0
  · rw [if_pos h0] at hz
    injection hz with hz
    subst hz
    have hlen : len = 0 := by rcases Nat.mul_eq_zero.1 h0 with h | h; exact h; exact absurd h hs0
    subst hlen
    obtain ⟨xs', hx, hv⟩ := fill_sound (ρ := ρ) (n := n) (fun i => some (i * size, size)) ps qs.toList [] #[] cs hf hps .nil
    refine ⟨⟨w.heap.size, 0, 1⟩, .cells xs' e, w.drawn, _, rfl, ?_, slice_new _ _ _ _ _ _, newRow_obj hid _ e hv⟩
    simp only [Instr.buildSlice, Sem.run_bind, uty_run (elemOfSlice_eq he), Result.andThen_ok, tsize_run hs, Nat.zero_mul]
    rw [if_neg (by decide)]
    simp only [if_true, Sem.run_bind, Sem.run_pure, Result.andThen_ok]
    rw [show Array.map (fun x => (#[] : Array Value)[x % (#[] : Array Value).size]!) (Array.range 0) = #[] by simp, hx]
    simp only [Sem.run_bind, Go.newRow, run_newObj, Result.andThen_ok, Sem.run_pure]
    rfl
  · rw [if_neg h0] at hz
    obtain ⟨z, hz1, rfl, hz2, hz3⟩ := zeroFor_eq hz
    obtain ⟨x, hx, hxv⟩ := tzero_run hz1 w
    obtain ⟨xs', hx', hv⟩ := fill_sound (ρ := ρ) (n := n) (fun i => some (i * size, size)) ps qs.toList _ ((Array.range (len * size)).map (fun j => x.cells[j % x.cells.size]!)) cs hf hps (repeatL_VRs (hxv ρ n) hz2 hz3 len)
    refine ⟨⟨w.heap.size, 0, 1⟩, .cells xs' e, w.drawn, _, rfl, ?_, slice_new _ _ _ _ _ _, newRow_obj hid _ e hv⟩
    simp only [Instr.buildSlice, Sem.run_bind, uty_run (elemOfSlice_eq he), Result.andThen_ok, tsize_run hs]
    rw [if_neg (by omega), if_neg h0]
    simp only [Sem.run_bind, hx, Sem.run_pure, Result.andThen_ok, hx', Go.newRow, run_newObj]
    rfl

theorem makeSlice_alloc {t e : TypeId} {size bytes : Nat} {zs : List AVal} {a b : Nat} {k1 k2 : IntKind} (he : elemOfSlice P t = .ok e) (hs : tsize P e = .ok size) (hb : tbytes P e = .ok bytes)
    (hz : zeroFor P e size = .ok zs) (h1 : a ≤ b) (h2 : b < 1099511627776) (h3 : bytes * b ≤ 281474976710656) (id : Nat) :
    AllocR P (Instr.makeSlice t (.int k1 (.ofNat a)) (.int k2 (.ofNat b))) ρ n id w (.slice id 0 a b) (.cells e (b * size) zs .leaf) := by
  intro _
  obtain ⟨z, hz1, rfl, hz2, hz3⟩ := zeroFor_eq hz
  obtain ⟨x, hx, hxv⟩ := tzero_run hz1 w
  obtain ⟨i, hi, hbytes⟩ := tbytes_info hb
  have w1 : IntKind.i64.wrap (Int.ofNat a) = (a : Int) := by
    rw [show (Int.ofNat a : Int) = (a : Int) from rfl]; simp [IntKind.wrap, IntKind.bits, IntKind.signed]; omega
  have w2 : IntKind.i64.wrap (Int.ofNat b) = (b : Int) := by
    rw [show (Int.ofNat b : Int) = (b : Int) from rfl]; simp [IntKind.wrap, IntKind.bits, IntKind.signed]; omega
  let cs : Array Value := (Array.range (b * size)).map (fun j => x.cells[j % x.cells.size]!)
  refine ⟨⟨w.heap.size, 0, 1⟩, .cells cs e, w.drawn, .slice (some ⟨w.heap.size, 0, none⟩) a b, rfl, ?_, slice_new _ _ _ _ _ _,
    .cells e (b * size) z.cells .leaf cs (0, 0) (by simp [cs]) (cellsR_zero (hxv _ _) hz2 hz3 (b * size)) (Nat.le_refl _)⟩
  have t1 : ¬ (decide ((b : Int) < 0) || decide ((bytes : Int) * (b : Int) > 2 ^ 48)) = true := by
    simp only [Bool.or_eq_true, decide_eq_true_eq, not_or]
    refine ⟨by omega, ?_⟩
    have : ((bytes * b : Nat) : Int) = (bytes : Int) * (b : Int) := by simp
    omega
  have t2 : ¬ (a : Int) < 0 := by omega
  have t3 : ¬ (a : Int) > b := by omega
  simp only [Instr.makeSlice, Sem.run_bind, uty_run (elemOfSlice_eq he), Result.andThen_ok, asInt, asIntOf, Sem.run_pure, info_run hi, hbytes, w1, w2]
  simp only [t1, t2, t3, Bool.false_eq_true, if_false, Int.toNat_natCast, tsize_run hs, Sem.run_bind, decide_false, Bool.or_self, Bool.or_false]
  rw [run_askRoom]
  simp only [Result.andThen_ok]
  by_cases h0 : b * size = 0
  · rw [if_pos h0]
    have hc0 : cs = #[] := by simp [cs, h0]
    simp only [Sem.run_bind, Sem.run_pure, Result.andThen_ok, Go.newRow, run_newObj, h0, hc0]
    rw [show Array.map (fun x => (#[] : Array Value)[x % (#[] : Array Value).size]!) (Array.range 0) = #[] by simp]
    rfl
  · rw [if_neg h0]
    simp only [Sem.run_bind, hx, Result.andThen_ok, Sem.run_pure, Go.newRow, run_newObj]
    rfl
end
end Go.AM
