/- Memory: what the abstract machine loads, stores and makes is what the model loads, stores and makes. -/
import Derived.Test.YtkjpdeakincalaaGreatDoorAmRel
import Derived.Laws.World
import Derived.Laws.Cells
namespace Go.AM

theorem AHeap.get_put (h : AHeap) (b : Nat) (o : AObj) (c : Nat) : (h.put b o).get c = if c = b then some o else h.get c := T.get_set h.t b c o
theorem AHeap.get_new (h : AHeap) (o : AObj) (c : Nat) : (h.new o).get c = if c = h.next then some o else h.get c := T.get_set h.t h.next c o
theorem AHeap.get_kill (h : AHeap) (b c : Nat) : (h.kill b).get c = if c = b then none else h.get c := T.get_del h.t b c
@[simp] theorem AHeap.next_put (h : AHeap) (b : Nat) (o : AObj) : (h.put b o).next = h.next := rfl
@[simp] theorem AHeap.next_new (h : AHeap) (o : AObj) : (h.new o).next = h.next + 1 := rfl
@[simp] theorem AHeap.next_kill (h : AHeap) (b : Nat) : (h.kill b).next = h.next := rfl

def upd (ρ : Rho) (b : Nat) (x : Blk) : Rho := fun c => if c = b then x else ρ c
theorem upd_same (ρ : Rho) (b : Nat) (x : Blk) : upd ρ b x b = x := if_pos rfl
theorem upd_other (ρ : Rho) (b c : Nat) (x : Blk) (h : c ≠ b) : upd ρ b x c = ρ c := if_neg h
/-- A set with one block more. -/
def ins (n : Nat → Prop) (b : Nat) : Nat → Prop := fun c => n c ∨ c = b
theorem sub_ins (n : Nat → Prop) (b : Nat) : Sub n (ins n b) := fun _ h => .inl h
theorem SY.upd {ρ : Rho} {k : Nat} (s : SY ρ k) {b : Nat} (hb : k ≤ b) (x : Blk) {k' : Nat} (hk : k ≤ k') : SY (upd ρ b x) k' := by
  have h7 := s.seven
  refine ⟨by omega, ?_, fun r r' h1 h2 => ?_⟩
  · rw [upd_other _ _ _ _ (by omega)]; exact s.zero
  · rw [upd_other _ _ _ _ (by omega), upd_other _ _ _ _ (by omega)]; exact s.lt r r' h1 h2

theorem agree_upd (ρ : Rho) (n : Nat → Prop) (b : Nat) (x : Blk) (hb : ¬ n b) : Agree n ρ (upd ρ b x) := fun c hc => upd_other ρ b c x (fun e => hb (e ▸ hc))

theorem CellsR.mono {ρ ρ' : Rho} {n n' : Nat → Prop} {k : Nat} {zs : List AVal} {t : T AVal} {cs : Array Value} (h : CellsR ρ n k zs t cs) (ha : Agree n ρ ρ') (hn : Sub n n') : CellsR ρ' n' k zs t cs :=
  fun i hi => let ⟨x, hx, hv⟩ := h i hi; ⟨x, hx, hv.mono ha hn⟩

theorem EntR.mono {ρ ρ' : Rho} {n n' : Nat → Prop} (ha : Agree n ρ ρ') (hn : Sub n n') : ∀ {es : List (AVal × AVal × Nat)} {es' : List MapEntry}, EntR ρ n es es' → EntR ρ' n' es es'
  | _, _, .nil => .nil
  | _, _, .cons k v c es e es' hk hv hc hs => .cons k v c es e es' (hk.mono ha hn) (hv.mono ha hn) hc (EntR.mono ha hn hs)

theorem ObjR.mono {ρ ρ' : Rho} {n n' : Nat → Prop} {b : Nat} {o : AObj} {x : Obj} (h : ObjR ρ n b o x) (ha : Agree n ρ ρ') (hn : Sub n n') (hb : n b) : ObjR ρ' n' b o x := by
  cases h with
  | cells e k zs t cs fr hk hc hf => exact .cells e k zs t cs fr hk (hc.mono ha hn) hf
  | grown e len size zs t cs fr hs hsz hk hl hc hf =>
    have e' := ha b hb
    exact .grown e len size zs t cs fr hs (by rw [e']; exact hsz) (by rw [e']; exact hk) (by rw [e']; exact hl) (hc.mono ha hn) hf
  | map es c es' h => exact .map es c es' (h.mono ha hn)
  | siter s pos => exact .siter s pos
  | miterNil since seen st => exact .miterNil since seen st
  | miter m since seen st h => rw [← ha m h]; exact .miter m since seen st (hn m h)

section
variable {lim : Nat} {ρ : Rho} {n : Nat → Prop} {h : AHeap} {w : World}

theorem Sim.lt (s : Sim lim ρ n h w) {b : Nat} {o : AObj} (hb : h.get b = some o) : (ρ b).id < w.heap.size := by
  obtain ⟨x, hx, _⟩ := s.obj b o hb
  exact (Array.getElem?_eq_some_iff.1 hx).1

/-- One block turned. -/
theorem Sim.put {w' : World} (s : Sim lim ρ n h w) {b : Nat} {o o' : AObj} {x' : Obj} (hb : h.get b = some o) (ho : ObjR ρ n b o' x')
    (hat : w'.heap[(ρ b).id]? = some x') (hoth : ∀ k, k ≠ (ρ b).id → w'.heap[k]? = w.heap[k]?) : Sim lim ρ n (h.put b o') w' := by
  refine ⟨s.fresh, fun c oc hc => ?_, fun c oc hc => ?_, fun c c' oc oc' hc hc' he => ?_, fun c oc hc => ?_, s.sy⟩
  · rw [AHeap.get_put] at hc
    by_cases e : c = b
    · subst e; exact s.dom _ _ hb
    · rw [if_neg e] at hc; exact s.dom _ _ hc
  · rw [AHeap.get_put] at hc
    by_cases e : c = b
    · subst e
      rw [if_pos rfl] at hc
      injection hc with hc
      subst hc
      exact ⟨x', hat, ho⟩
    · rw [if_neg e] at hc
      obtain ⟨x, hx, hr⟩ := s.obj _ _ hc
      refine ⟨x, ?_, hr⟩
      rw [hoth _ (fun he => e (s.inj _ _ _ _ hc hb he))]
      exact hx
  · have live : ∀ {d : Nat} {od : AObj}, (h.put b o').get d = some od → ∃ od', h.get d = some od' := by
      intro d od hd
      rw [AHeap.get_put] at hd
      by_cases e : d = b
      · subst e; exact ⟨o, hb⟩
      · rw [if_neg e] at hd; exact ⟨od, hd⟩
    obtain ⟨_, h1⟩ := live hc
    obtain ⟨_, h2⟩ := live hc'
    exact s.inj _ _ _ _ h1 h2 he
  · rw [AHeap.get_put] at hc
    by_cases e : c = b
    · subst e; exact s.low _ _ hb
    · rw [if_neg e] at hc; exact s.low _ _ hc

theorem Im.put {b k : Nat} {o o' : AObj} (hb : h.get b = some o) : Im ρ (h.put b o') k ↔ Im ρ h k := by
  constructor
  · rintro ⟨c, oc, hc, he⟩
    rw [AHeap.get_put] at hc
    by_cases e : c = b
    · subst e; exact ⟨c, o, hb, he⟩
    · rw [if_neg e] at hc; exact ⟨c, oc, hc, he⟩
  · rintro ⟨c, oc, hc, he⟩
    by_cases e : c = b
    · exact ⟨c, o', by rw [AHeap.get_put, if_pos e], he⟩
    · exact ⟨c, oc, by rw [AHeap.get_put, if_neg e]; exact hc, he⟩

theorem Ext.put {w' : World} {b : Nat} {o o' : AObj} (hb : h.get b = some o)
    (hos : w'.os = w.os) (htape : w'.tape = w.tape) (hout : w'.output = w.output) (hsize : w'.heap.size = w.heap.size)
    (hoth : ∀ k, k ≠ (ρ b).id → w'.heap[k]? = w.heap[k]?) : Ext ρ n h w ρ n (h.put b o') w' :=
  ⟨Agree.refl _ _, fun _ h => h, fun _ h => .inl h, Nat.le_refl _, hos, htape, hout, by omega, fun k _ hn => hoth k (fun e => hn ⟨b, o, hb, e.symm⟩), fun k _ i => (Im.put hb).1 i⟩

/-- A new block. -/
theorem Sim.notNext (s : Sim lim ρ n h w) (hlim : h.next < lim) : ¬ n h.next := fun hn => by
  have := s.fresh _ hn
  omega

theorem Sim.new (s : Sim lim ρ n h w) (hlim : h.next < lim) {o : AObj} {x : Obj} {blk : Blk} (hid : blk.id = w.heap.size) (ho : ObjR (upd ρ h.next blk) (ins n h.next) h.next o x) :
    Sim lim (upd ρ h.next blk) (ins n h.next) (h.new o) (w.alloc x) := by
  have hag := agree_upd ρ n h.next blk (s.notNext hlim)
  have old : ∀ {c : Nat} {oc : AObj}, h.get c = some oc → n c := fun hc => s.dom _ _ hc
  refine ⟨fun c hc => ?_, fun c oc hc => ?_, fun c oc hc => ?_, fun c c' oc oc' hc hc' he => ?_, fun c oc hc => ?_, s.sy.upd (Nat.le_refl _) blk (by simp)⟩
  · rcases hc with hc | hc
    · have := s.fresh c hc; simp; omega
    · subst hc; simp
  · rw [AHeap.get_new] at hc
    by_cases e : c = h.next
    · exact .inr e
    · rw [if_neg e] at hc; exact .inl (s.dom _ _ hc)
  · rw [AHeap.get_new] at hc
    by_cases e : c = h.next
    · subst e
      rw [if_pos rfl] at hc
      injection hc with hc
      subst hc
      refine ⟨x, ?_, ho⟩
      rw [upd_same, hid]
      show (w.heap.push x)[w.heap.size]? = some x
      simp
    · rw [if_neg e] at hc
      obtain ⟨y, hy, hr⟩ := s.obj _ _ hc
      refine ⟨y, ?_, hr.mono hag (sub_ins _ _) (old hc)⟩
      rw [hag c (old hc)]
      have := s.lt hc
      simp only [World.alloc, Array.getElem?_push]
      rw [if_neg (by omega)]
      exact hy
  · rw [AHeap.get_new] at hc hc'
    have key : ∀ {d : Nat} {od : AObj}, h.get d = some od → (upd ρ h.next blk d).id < w.heap.size := fun hd => by
      rw [hag _ (s.dom _ _ hd)]; exact s.lt hd
    by_cases e : c = h.next
    · by_cases e' : c' = h.next
      · omega
      · rw [if_neg e'] at hc'
        have := key hc'
        rw [← he, e, upd_same] at this
        omega
    · rw [if_neg e] at hc
      by_cases e' : c' = h.next
      · have := key hc
        rw [he, e', upd_same] at this
        omega
      · rw [if_neg e'] at hc'
        rw [hag _ (s.dom _ _ hc), hag _ (s.dom _ _ hc')] at he
        exact s.inj _ _ _ _ hc hc' he
  · rw [AHeap.get_new] at hc
    by_cases e : c = h.next
    · simp; omega
    · rw [if_neg e] at hc
      have := s.low _ _ hc
      simp; omega

theorem Ext.made (s : Sim lim ρ n h w) (hlim : h.next < lim) {o : AObj} {x : Obj} {blk : Blk} (hid : blk.id = w.heap.size) :
    Ext ρ n h w (upd ρ h.next blk) (ins n h.next) (h.new o) (w.alloc x) := by
  have hag := agree_upd ρ n h.next blk (s.notNext hlim)
  refine ⟨hag, sub_ins _ _, fun b hb => hb.imp id (fun e => by simp; omega), by simp, rfl, rfl, rfl, by simp, fun k hk _ => ?_, ?_⟩
  · simp only [World.alloc, Array.getElem?_push]
    rw [if_neg (by omega)]
  · rintro k hk ⟨c, oc, hc, he⟩
    rw [AHeap.get_new] at hc
    by_cases e : c = h.next
    · rw [e, upd_same] at he; omega
    · rw [if_neg e] at hc
      rw [hag _ (s.dom _ _ hc)] at he
      exact ⟨c, oc, hc, he⟩

/-- A name that dies. -/
theorem Sim.kill (s : Sim lim ρ n h w) (b : Nat) : Sim lim ρ n (h.kill b) w := by
  have key : ∀ {c : Nat} {o : AObj}, (h.kill b).get c = some o → h.get c = some o := by
    intro c o hc
    rw [AHeap.get_kill] at hc
    by_cases e : c = b
    · rw [if_pos e] at hc; cases hc
    · rwa [if_neg e] at hc
  exact ⟨s.fresh, fun c o hc => s.dom c o (key hc), fun c o hc => s.obj c o (key hc), fun c c' o o' hc hc' he => s.inj c c' o o' (key hc) (key hc') he, fun c o hc => s.low c o (key hc), s.sy⟩

theorem Ext.kill (b : Nat) : Ext ρ n h w ρ n (h.kill b) w :=
  ⟨Agree.refl _ _, fun _ h => h, fun _ h => .inl h, Nat.le_refl _, rfl, rfl, rfl, Nat.le_refl _, fun _ _ _ => rfl, fun k _ ⟨c, o, hc, he⟩ => by
    rw [AHeap.get_kill] at hc
    by_cases e : c = b
    · rw [if_pos e] at hc; cases hc
    · rw [if_neg e] at hc; exact ⟨c, o, hc, he⟩⟩

/-! ### Loads -/
theorem loadIn_sound {o : Option AObj} {b i : Nat} {v : AVal} (hl : loadIn i o = .ok v) (s : Sim lim ρ n h w) (hb : h.get b = o) :
    ∃ x, w.cell? ⟨(ρ b).id, i, none⟩ = some x ∧ VR ρ n v x := by
  cases o with
  | none => simp [loadIn] at hl
  | some o =>
    obtain ⟨y, hy, hr⟩ := s.obj b o hb
    cases hr with
    | cells e k zs t cs fr hk hc hf =>
      simp only [loadIn, sel_eq_ok, blt_eq, decide_eq_true_eq] at hl
      obtain ⟨x, hx, hv⟩ := hc i hl.1
      injection hl.2 with hl
      subst hl
      exact ⟨x, by simp [World.cell?, hy, hx], hv⟩
    | grown e len size zs t cs fr hs hsz hk hl' hc hf =>
      simp only [loadIn, sel_eq_ok, blt_eq, decide_eq_true_eq] at hl
      obtain ⟨x, hx, hv⟩ := hc i hl.1
      injection hl.2 with hl
      subst hl
      exact ⟨x, by simp [World.cell?, hy, hx], hv⟩
    | map => simp [loadIn] at hl
    | siter => simp [loadIn] at hl
    | miterNil => simp [loadIn] at hl
    | miter => simp [loadIn] at hl

theorem loadCells_succ (o : Option AObj) (i n : Nat) : loadCells o i (n + 1) = bnd (loadIn i o) fun v => bnd (loadCells o (i + 1) n) fun vs => .ok (v :: vs) := rfl

theorem loadCells_cells {b : Nat} : ∀ (m i : Nat) (vs : List AVal), loadCells (h.get b) i m = .ok vs → Sim lim ρ n h w →
    ∃ xs : List Value, xs.length = m ∧ VRs ρ n vs xs ∧ ∀ j x, xs[j]? = some x → w.cell? ⟨(ρ b).id, i + j, none⟩ = some x := by
  intro m
  induction m with
  | zero =>
    intro i vs hl s
    injection hl with hl
    subst hl
    exact ⟨[], rfl, .nil, fun j x hj => by simp at hj⟩
  | succ m ih =>
    intro i vs hl s
    rw [loadCells_succ, bnd_eq_ok] at hl
    obtain ⟨v, hv, hl⟩ := hl
    rw [bnd_eq_ok] at hl
    obtain ⟨us, hus, hl⟩ := hl
    injection hl with hl
    subst hl
    obtain ⟨x, hx, hvx⟩ := loadIn_sound hv s rfl
    obtain ⟨xs, hlen, hvs, hcell⟩ := ih _ _ hus s
    refine ⟨x :: xs, by simp [hlen], .cons _ _ _ _ hvx hvs, fun j y hj => ?_⟩
    cases j with
    | zero => simp at hj; subst hj; exact hx
    | succ j =>
      simp at hj
      have := hcell j y hj
      rwa [show i + 1 + j = i + (j + 1) by omega] at this

theorem add_none (b o n : Nat) : (Addr.mk b o none).add n = ⟨b, o + n, none⟩ := by
  unfold Addr.add
  split
  · rename_i h; simp [h]
  · rfl

theorem loadCells_sound {P : Program} {b i m : Nat} {vs : List AVal} (hl : loadCells (h.get b) i m = .ok vs) (s : Sim lim ρ n h w) :
    ∃ xs : List Value, VRs ρ n vs xs ∧ xs.length = m ∧ (Go.loadCells ⟨(ρ b).id, i, none⟩ m).run P w = .ok xs.toArray w := by
  obtain ⟨xs, hlen, hvs, hcell⟩ := loadCells_cells m i vs hl s
  refine ⟨xs, hvs, hlen, ?_⟩
  have := run_loadCells_list (P := P) w ⟨(ρ b).id, i, none⟩ xs (fun j x hj => by rw [add_none]; exact hcell j x hj)
  rwa [hlen] at this

/-! ### Stores -/
theorem content_set (zs : List AVal) (t : T AVal) (i : Nat) (v : AVal) (j : Nat) : content zs (t.set i v) j = if j = i then v else content zs t j := by
  have hc : ∀ t' : T AVal, content zs t' j = (T.get t' j).getD (zeroAt zs j) := fun t' => by
    unfold content; cases T.get t' j <;> rfl
  rw [hc, hc, T.get_set]
  by_cases e : j = i
  · rw [if_pos e, if_pos e]; rfl
  · rw [if_neg e, if_neg e]

theorem CellsR.set {k : Nat} {zs : List AVal} {t : T AVal} {cs : Array Value} (hc : CellsR ρ n k zs t cs) {i : Nat} {v : AVal} {x : Value} (hv : VR ρ n v x) :
    CellsR ρ n k zs (t.set i v) (cs.setIfInBounds i x) := by
  intro j hj
  obtain ⟨y, hy, hvy⟩ := hc j hj
  rw [content_set]
  by_cases e : j = i
  · subst e
    refine ⟨x, ?_, by rw [if_pos rfl]; exact hv⟩
    have := (Array.getElem?_eq_some_iff.1 hy).1
    simp [this]
  · refine ⟨y, ?_, by rw [if_neg e]; exact hvy⟩
    rw [Array.getElem?_setIfInBounds, if_neg (Ne.symm e)]
    exact hy

theorem setCell_at {b i : Nat} {cs : Array Value} {e : TypeId} {fr : Nat × Nat} {x : Value} (hy : w.heap[b]? = some (.cells cs e fr)) :
    (w.setCell ⟨b, i, none⟩ x).heap[b]? = some (.cells (cs.setIfInBounds i x) e fr) := by
  simp [World.setCell, Array.getElem?_modify, hy]

theorem setCell_other {b i k : Nat} {x : Value} (hk : k ≠ b) : (w.setCell ⟨b, i, none⟩ x).heap[k]? = w.heap[k]? := by
  simp only [World.setCell, Array.getElem?_modify]
  rw [if_neg (Ne.symm hk)]

theorem run_store_cell {P : Program} {a : Addr} {x u : Value} (h1 : ∀ cs, x ≠ .agg cs) (h2 : ∀ cs, x ≠ .tuple cs) (hc : w.cell? a = some u) (hf : w.frozen? a = false) :
    (Go.store a x).run P w = .ok () (w.setCell a x) := by
  cases x with
  | agg cs => exact absurd rfl (h1 cs)
  | tuple cs => exact absurd rfl (h2 cs)
  | _ => simp [Go.store, Sem.run, hc, hf]

theorem storeCell_sound {P : Program} {b i : Nat} {v : AVal} {x : Value} {h' : AHeap} (hs : storeCell h b i v = .ok h') (s : Sim lim ρ n h w) (hv : VR ρ n v x) :
    (Go.store ⟨(ρ b).id, i, none⟩ x).run P w = .ok () (w.setCell ⟨(ρ b).id, i, none⟩ x) ∧ Sim lim ρ n h' (w.setCell ⟨(ρ b).id, i, none⟩ x) ∧
      Ext ρ n h w ρ n h' (w.setCell ⟨(ρ b).id, i, none⟩ x) ∧ h'.next = h.next := by
  simp only [storeCell, sel_eq_ok] at hs
  obtain ⟨hsc, hs⟩ := hs
  obtain ⟨h1, h2⟩ := hv.scalar_cells hsc
  rw [bnd_eq_ok] at hs
  obtain ⟨o', ho', hs⟩ := hs
  injection hs with hs
  subst hs
  cases ho : h.get b with
  | none => rw [ho] at ho'; simp [storeIn] at ho'
  | some o =>
    rw [ho] at ho'
    obtain ⟨y, hy, hr⟩ := s.obj b o ho
    cases hr with
    | cells e k zs t cs fr hk hc hf =>
      simp only [storeIn, sel_eq_ok, blt_eq, decide_eq_true_eq] at ho'
      obtain ⟨hlt, ho'⟩ := ho'
      injection ho' with ho'
      subst ho'
      obtain ⟨u, hu, _⟩ := hc i hlt
      have hsim := s.put ho (o' := .cells e k zs (t.set i v)) (.cells e k zs (t.set i v) (cs.setIfInBounds i x) fr (by simp [hk]) (hc.set hv) hf)
        (setCell_at (i := i) (x := x) hy) (fun k hk => setCell_other hk)
      refine ⟨run_store_cell h1 h2 (u := u) (by simp [World.cell?, hy, hu]) ?_, hsim, Ext.put ho rfl rfl rfl (by simp [World.setCell]) (fun k hk => setCell_other hk), rfl⟩
      simp only [World.frozen?, hy, thawed] at hf ⊢
      simp; omega
    | grown e len size zs t cs fr hs' hsz hk hl hc hf =>
      simp only [storeIn, sel_eq_ok, blt_eq, decide_eq_true_eq] at ho'
      obtain ⟨hlt, ho'⟩ := ho'
      injection ho' with ho'
      subst ho'
      obtain ⟨u, hu, _⟩ := hc i hlt
      have hsim := s.put ho (o' := .grown e len size zs (t.set i v)) (.grown e len size zs (t.set i v) (cs.setIfInBounds i x) fr hs' hsz (by simp [hk]) hl (hc.set hv) (by simpa using hf))
        (setCell_at (i := i) (x := x) hy) (fun k hk => setCell_other hk)
      refine ⟨run_store_cell h1 h2 (u := u) (by simp [World.cell?, hy, hu]) ?_, hsim, Ext.put ho rfl rfl rfl (by simp [World.setCell]) (fun k hk => setCell_other hk), rfl⟩
      have hi := (Array.getElem?_eq_some_iff.1 hu).1
      simp only [World.frozen?, hy, thawed] at hf ⊢
      simp; omega
    | map => simp [storeIn] at ho'
    | siter => simp [storeIn] at ho'
    | miterNil => simp [storeIn] at ho'
    | miter => simp [storeIn] at ho'

theorem storeCells_cons (b i : Nat) (v : AVal) (vs : List AVal) : storeCells h b i (v :: vs) = bnd (storeCell h b i v) fun h => storeCells h b (i + 1) vs := rfl

theorem storeCells_sound {P : Program} {b o : Nat} : ∀ (vs : List AVal) (xs : List Value) (j : Nat) {h h' : AHeap} {w : World}, storeCells h b (o + j) vs = .ok h' → Sim lim ρ n h w → VRs ρ n vs xs →
    ∃ w', (Go.storeCells ⟨(ρ b).id, o, none⟩ xs j).run P w = .ok () w' ∧ Sim lim ρ n h' w' ∧ Ext ρ n h w ρ n h' w' ∧ h'.next = h.next := by
  intro vs
  induction vs with
  | nil =>
    intro xs j h h' w hs s hv
    injection hs with hs
    subst hs
    cases hv
    exact ⟨w, by simp [Go.storeCells], s, Ext.refl _ _ _ _, rfl⟩
  | cons v vs ih =>
    intro xs j h h' w hs s hv
    cases hv with
    | cons v x vs xs hv hvs =>
      rw [storeCells_cons, bnd_eq_ok] at hs
      obtain ⟨h1, hs1, hs2⟩ := hs
      obtain ⟨hrun, hsim, hext, hnext⟩ := storeCell_sound (P := P) hs1 s hv
      obtain ⟨w', hrun', hsim', hext', hnext'⟩ := ih xs (j + 1) (by rwa [show o + (j + 1) = o + j + 1 by omega]) hsim hvs
      refine ⟨w', ?_, hsim', hext.trans hext', hnext'.trans hnext⟩
      simp only [Go.storeCells, add_none, Sem.run_bind, hrun, Result.andThen_ok]
      exact hrun'

/-! ### New rows -/
theorem fromList_cons (i : Nat) (v : AVal) (vs : List AVal) (t : T AVal) : fromList i (v :: vs) t = fromList (i + 1) vs (t.set i v) := rfl

theorem content_fromList (zs : List AVal) : ∀ (vs : List AVal) (i : Nat) (t : T AVal) (j : Nat),
    content zs (fromList i vs t) j = if i ≤ j ∧ j < i + vs.length then vs.getD (j - i) aundef else content zs t j := by
  intro vs
  induction vs with
  | nil => intro i t j; rw [if_neg (by rintro ⟨a, b⟩; simp at b; omega)]; rfl
  | cons v vs ih =>
    intro i t j
    rw [fromList_cons, ih, content_set]
    by_cases h1 : i + 1 ≤ j ∧ j < i + 1 + vs.length
    · rw [if_pos h1, if_pos (by simp; omega)]
      obtain ⟨k, rfl⟩ : ∃ k, j = i + 1 + k := ⟨j - (i + 1), by omega⟩
      rw [show i + 1 + k - (i + 1) = k by omega, show i + 1 + k - i = k + 1 by omega]
      simp [List.getD]
    · rw [if_neg h1]
      by_cases h2 : j = i
      · subst h2
        rw [if_pos rfl, if_pos (by simp)]
        simp [List.getD]
      · rw [if_neg h2, if_neg (by simp; omega)]

theorem cellsR_fromList {zs vs : List AVal} {xs : List Value} (hv : VRs ρ n vs xs) : CellsR ρ n vs.length zs (fromList 0 vs .leaf) xs.toArray := by
  intro i hi
  rw [content_fromList, if_pos (by omega)]
  obtain ⟨x, hx, hvx⟩ := hv.get i vs[i] (by simp [hi])
  exact ⟨x, by simpa using hx, by simpa [List.getD, hi] using hvx⟩

theorem newRow_sound (s : Sim lim ρ n h w) (hlim : h.next < lim) (e : TypeId) {vs : List AVal} {xs : List Value} (hv : VRs ρ n vs xs) :
    ∃ ρ', Sim lim ρ' (ins n h.next) (newRow h e vs) (w.alloc (.cells xs.toArray e)) ∧ Ext ρ n h w ρ' (ins n h.next) (newRow h e vs) (w.alloc (.cells xs.toArray e)) ∧
      (ρ' h.next).id = w.heap.size := by
  refine ⟨upd ρ h.next ⟨w.heap.size, 0, 1⟩, Sim.new s hlim rfl ?_, Ext.made s hlim rfl, by rw [upd_same]⟩
  refine .cells e vs.length [] _ xs.toArray (0, 0) (by simp [hv.length]) ?_ (Nat.le_refl _)
  exact cellsR_fromList (hv.mono (agree_upd _ _ _ _ (s.notNext hlim)) (sub_ins _ _))
end
end Go.AM
