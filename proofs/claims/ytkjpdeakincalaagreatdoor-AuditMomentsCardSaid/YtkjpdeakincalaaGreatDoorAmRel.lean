/- How values and memory of the abstract machine stand for the model's. -/
import Derived.Test.YtkjpdeakincalaaGreatDoorAmTree
namespace Go.AM

/-- What an abstract block stands for: the block's number; of a block of open capacity how many elements it has, and an element's cells. -/
structure Blk where
  id : Nat
  cap : Nat := 0
  size : Nat := 1

/-- The number that a name of a number stands for. -/
def Blk.num (b : Blk) : Int := (b.cap : Int) - (b.size : Int)

abbrev Rho := Nat → Blk

mutual
inductive VR (ρ : Rho) (n : Nat → Prop) : AVal → Value → Prop
  | bool (b : Bool) : VR ρ n (.bool b) (.bool b)
  | int (k : IntKind) (i : Int) : VR ρ n (.int k i) (.int k i)
  | str (s : List UInt8) : VR ρ n (.str s) (.string ⟨s.toArray⟩)
  | ptr (b o : Nat) (h : n b) : VR ρ n (.ptr b o) (.pointer (some ⟨(ρ b).id, o, none⟩))
  | nilPtr : VR ρ n .nilPtr (.pointer none)
  | slice (b o l c : Nat) (h : n b) : VR ρ n (.slice b o l c) (.slice (some ⟨(ρ b).id, o, none⟩) l c)
  | nilSlice (l c : Nat) : VR ρ n (.nilSlice l c) (.slice none l c)
  | gsl (b o l : Nat) (h : n b) (hl : l ≤ (ρ b).cap - o / (ρ b).size) : VR ρ n (.gsl b o l) (.slice (some ⟨(ρ b).id, o, none⟩) l ((ρ b).cap - o / (ρ b).size))
  | map (r : Nat) (h : n r) : VR ρ n (.map r) (.map (some (ρ r).id))
  | nilMap : VR ρ n .nilMap (.map none)
  | func (fn : Fn) (f c : List AVal) (f' c' : List Value) (hf : VRs ρ n f f') (hc : VRs ρ n c c') : VR ρ n (.func fn f c) (.func fn f'.toArray c'.toArray)
  | nilFunc : VR ρ n .nilFunc .nilFunc
  | iface (t : TypeId) (v : AVal) (x : Value) (h : VR ρ n v x) : VR ρ n (.iface t v) (.iface t x)
  | nilIface : VR ρ n .nilIface .nilIface
  | agg (cs : List AVal) (xs : List Value) (h : VRs ρ n cs xs) : VR ρ n (.agg cs) (.agg xs.toArray)
  | tuple (cs : List AVal) (xs : List Value) (h : VRs ρ n cs xs) : VR ρ n (.tuple cs) (.tuple xs.toArray)
  | sym (r : Nat) (h : n r) : VR ρ n (.sym r) (.int .i64 (ρ r).num)
inductive VRs (ρ : Rho) (n : Nat → Prop) : List AVal → List Value → Prop
  | nil : VRs ρ n [] []
  | cons (v : AVal) (x : Value) (vs : List AVal) (xs : List Value) (h : VR ρ n v x) (hs : VRs ρ n vs xs) : VRs ρ n (v :: vs) (x :: xs)
end

/-- A later map goes on an earlier one. -/
def Agree (n : Nat → Prop) (ρ ρ' : Rho) : Prop := ∀ b, n b → ρ' b = ρ b

/-- One set of blocks lies in another. -/
def Sub (n n' : Nat → Prop) : Prop := ∀ b, n b → n' b

theorem Agree.refl (n : Nat → Prop) (ρ : Rho) : Agree n ρ ρ := fun _ _ => rfl

mutual
theorem VR.mono {ρ ρ' : Rho} {n n' : Nat → Prop} (ha : Agree n ρ ρ') (hn : Sub n n') : ∀ {v : AVal} {x : Value}, VR ρ n v x → VR ρ' n' v x
  | _, _, .bool b => .bool b
  | _, _, .int k i => .int k i
  | _, _, .str s => .str s
  | _, _, .ptr b o h => by rw [← ha b h]; exact .ptr b o (hn b h)
  | _, _, .nilPtr => .nilPtr
  | _, _, .slice b o l c h => by rw [← ha b h]; exact .slice b o l c (hn b h)
  | _, _, .nilSlice l c => .nilSlice l c
  | _, _, .gsl b o l h hl => by rw [← ha b h] at hl ⊢; exact .gsl b o l (hn b h) hl
  | _, _, .map r h => by rw [← ha r h]; exact .map r (hn r h)
  | _, _, .nilMap => .nilMap
  | _, _, .func fn f c f' c' hf hc => .func fn f c f' c' (VRs.mono ha hn hf) (VRs.mono ha hn hc)
  | _, _, .nilFunc => .nilFunc
  | _, _, .iface t v x h => .iface t v x (VR.mono ha hn h)
  | _, _, .nilIface => .nilIface
  | _, _, .agg cs xs h => .agg cs xs (VRs.mono ha hn h)
  | _, _, .tuple cs xs h => .tuple cs xs (VRs.mono ha hn h)
  | _, _, .sym r h => by rw [← ha r h]; exact .sym r (hn r h)
theorem VRs.mono {ρ ρ' : Rho} {n n' : Nat → Prop} (ha : Agree n ρ ρ') (hn : Sub n n') : ∀ {v : List AVal} {x : List Value}, VRs ρ n v x → VRs ρ' n' v x
  | _, _, .nil => .nil
  | _, _, .cons v x vs xs h hs => .cons v x vs xs (VR.mono ha hn h) (VRs.mono ha hn hs)
end

theorem VRs.length {ρ : Rho} {n : Nat → Prop} : ∀ {vs : List AVal} {xs : List Value}, VRs ρ n vs xs → vs.length = xs.length
  | _, _, .nil => rfl
  | _, _, .cons _ _ _ _ _ hs => by simp [VRs.length hs]

theorem VRs.get {ρ : Rho} {n : Nat → Prop} : ∀ {vs : List AVal} {xs : List Value} (_ : VRs ρ n vs xs) (i : Nat) (v : AVal), vs[i]? = some v → ∃ x, xs[i]? = some x ∧ VR ρ n v x
  | _, _, .nil, i, v, h => by simp at h
  | _, _, .cons v0 x0 vs xs h0 hs, i, v, h => by
    cases i with
    | zero => simp at h; subst h; exact ⟨x0, by simp, h0⟩
    | succ i => simp at h; simpa using VRs.get hs i v h

theorem VRs.append {ρ : Rho} {n : Nat → Prop} : ∀ {vs : List AVal} {xs : List Value} {us : List AVal} {ys : List Value}, VRs ρ n vs xs → VRs ρ n us ys → VRs ρ n (vs ++ us) (xs ++ ys)
  | _, _, _, _, .nil, h => h
  | _, _, _, _, .cons v x vs xs h hs, h' => .cons v x _ _ h (VRs.append hs h')

theorem VRs.take {ρ : Rho} {n : Nat → Prop} : ∀ {vs : List AVal} {xs : List Value} (_ : VRs ρ n vs xs) (k : Nat), VRs ρ n (vs.take k) (xs.take k)
  | _, _, .nil, k => by simp; exact .nil
  | _, _, .cons v x vs xs h hs, k => by
    cases k with
    | zero => simp; exact .nil
    | succ k => simp; exact .cons v x _ _ h (VRs.take hs k)

theorem VRs.drop {ρ : Rho} {n : Nat → Prop} : ∀ {vs : List AVal} {xs : List Value} (_ : VRs ρ n vs xs) (k : Nat), VRs ρ n (vs.drop k) (xs.drop k)
  | _, _, .nil, k => by simp; exact .nil
  | _, _, .cons v x vs xs h hs, k => by
    cases k with
    | zero => simp; exact .cons v x _ _ h hs
    | succ k => simp; exact VRs.drop hs k

theorem VRs.of_get {ρ : Rho} {n : Nat → Prop} : ∀ {vs : List AVal} {xs : List Value}, vs.length = xs.length → (∀ (i : Nat) (v : AVal), vs[i]? = some v → ∃ x, xs[i]? = some x ∧ VR ρ n v x) → VRs ρ n vs xs
  | [], [], _, _ => .nil
  | [], _ :: _, h, _ => by simp at h
  | _ :: _, [], h, _ => by simp at h
  | v :: vs, x :: xs, hl, h => by
    obtain ⟨x', hx', hv⟩ := h 0 v (by simp)
    simp at hx'
    subst hx'
    exact .cons v x vs xs hv (VRs.of_get (by simpa using hl) fun i v hi => by simpa using h (i + 1) v (by simpa using hi))

/-- A value's cells stand for the value's cells. -/
theorem VR.cells {ρ : Rho} {n : Nat → Prop} {v : AVal} {x : Value} (h : VR ρ n v x) : VRs ρ n v.cells x.cells.toList := by
  cases h <;> first
    | exact .cons _ _ _ _ (by constructor <;> assumption) .nil
    | (simp only [AVal.cells, Value.cells]; assumption)

theorem VR.scalar_cells {ρ : Rho} {n : Nat → Prop} {v : AVal} {x : Value} (h : VR ρ n v x) (hs : v.scalar = true) : (∀ cs, x ≠ .agg cs) ∧ (∀ cs, x ≠ .tuple cs) := by
  cases h <;> simp_all [AVal.scalar]

/-! ### Memory -/
def thawed (fr : Nat × Nat) : Prop := fr.2 ≤ fr.1

/-- A row's cells up to n. -/
def CellsR (ρ : Rho) (n : Nat → Prop) (k : Nat) (zs : List AVal) (t : T AVal) (cs : Array Value) : Prop :=
  ∀ i, i < k → ∃ x, cs[i]? = some x ∧ VR ρ n (content zs t i) x

inductive EntR (ρ : Rho) (n : Nat → Prop) : List (AVal × AVal × Nat) → List MapEntry → Prop
  | nil : EntR ρ n [] []
  | cons (k v : AVal) (c : Nat) (es : List (AVal × AVal × Nat)) (e : MapEntry) (es' : List MapEntry)
      (hk : VR ρ n k e.key) (hv : VR ρ n v e.val) (hc : e.born = c) (hs : EntR ρ n es es') : EntR ρ n ((k, v, c) :: es) (e :: es')

inductive ObjR (ρ : Rho) (n : Nat → Prop) (b : Nat) : AObj → Obj → Prop
  | cells (e : TypeId) (k : Nat) (zs : List AVal) (t : T AVal) (cs : Array Value) (fr : Nat × Nat)
      (hk : cs.size = k) (hc : CellsR ρ n k zs t cs) (hf : thawed fr) : ObjR ρ n b (.cells e k zs t) (.cells cs e fr)
  | grown (e : TypeId) (len size : Nat) (zs : List AVal) (t : T AVal) (cs : Array Value) (fr : Nat × Nat)
      (hs : 0 < size) (hsz : (ρ b).size = size) (hk : cs.size = (ρ b).cap * size) (hl : len ≤ (ρ b).cap)
      (hc : CellsR ρ n (len * size) zs t cs) (hf : thawed fr ∨ cs.size ≤ fr.1) : ObjR ρ n b (.grown e len size zs t) (.cells cs e fr)
  | map (es : List (AVal × AVal × Nat)) (c : Nat) (es' : Array MapEntry) (h : EntR ρ n es es'.toList) : ObjR ρ n b (.map es c) (.map es' c)
  | siter (s : List UInt8) (pos : Nat) : ObjR ρ n b (.siter s pos) (.stringIter ⟨s.toArray⟩ pos)
  | miterNil (since : Nat) (seen : List Nat) (st : Nat) : ObjR ρ n b (.miter none since seen st) (.mapIter none since seen.toArray st)
  | miter (m since : Nat) (seen : List Nat) (st : Nat) (h : n m) : ObjR ρ n b (.miter (some m) since seen st) (.mapIter (some (ρ m).id) since seen.toArray st)

/-- The first seven names stand for numbers, each below the next; the fourth is 0. -/
structure SY (ρ : Rho) (k : Nat) : Prop where
  seven : 7 ≤ k
  zero : (ρ 3).num = 0
  lt : ∀ r r', r < r' → r' < 7 → (ρ r).num < (ρ r').num

/-- Blocks from 'lim' on may be spoken of by others. -/
structure Sim (lim : Nat) (ρ : Rho) (n : Nat → Prop) (h : AHeap) (w : World) : Prop where
  fresh : ∀ b, n b → b < h.next ∨ lim ≤ b
  dom : ∀ b o, h.get b = some o → n b
  obj : ∀ b o, h.get b = some o → ∃ x, w.heap[(ρ b).id]? = some x ∧ ObjR ρ n b o x
  inj : ∀ b b' o o', h.get b = some o → h.get b' = some o' → (ρ b).id = (ρ b').id → b = b'
  low : ∀ b o, h.get b = some o → b < h.next
  sy : SY ρ h.next

/-- The blocks that are spoken of. -/
def Im (ρ : Rho) (h : AHeap) (k : Nat) : Prop := ∃ b o, h.get b = some o ∧ (ρ b).id = k

/-- One state goes on another: the map, the streams, the blocks that nobody speaks of. -/
structure Ext (ρ : Rho) (n : Nat → Prop) (h : AHeap) (w : World) (ρ' : Rho) (n' : Nat → Prop) (h' : AHeap) (w' : World) : Prop where
  agree : Agree n ρ ρ'
  sub : Sub n n'
  new : ∀ b, n' b → n b ∨ h.next ≤ b ∧ b < h'.next
  next : h.next ≤ h'.next
  os : w'.os = w.os
  tape : w'.tape = w.tape
  output : w'.output = w.output
  size : w.heap.size ≤ w'.heap.size
  kept : ∀ k, k < w.heap.size → ¬ Im ρ h k → w'.heap[k]? = w.heap[k]?
  old : ∀ k, k < w.heap.size → Im ρ' h' k → Im ρ h k

theorem Ext.refl (ρ : Rho) (n : Nat → Prop) (h : AHeap) (w : World) : Ext ρ n h w ρ n h w :=
  ⟨Agree.refl _ _, fun _ h => h, fun _ h => .inl h, Nat.le_refl _, rfl, rfl, rfl, Nat.le_refl _, fun _ _ _ => rfl, fun _ _ i => i⟩

theorem Ext.trans {ρ ρ1 ρ2 : Rho} {n n1 n2 : Nat → Prop} {h h1 h2 : AHeap} {w w1 w2 : World} (a : Ext ρ n h w ρ1 n1 h1 w1) (b : Ext ρ1 n1 h1 w1 ρ2 n2 h2 w2) : Ext ρ n h w ρ2 n2 h2 w2 :=
  ⟨fun x hx => (b.agree x (a.sub x hx)).trans (a.agree x hx), fun x hx => b.sub x (a.sub x hx),
    fun x hx => (b.new x hx).elim (fun hh => (a.new x hh).imp id (fun q => ⟨q.1, Nat.lt_of_lt_of_le q.2 b.next⟩)) (fun hh => .inr ⟨Nat.le_trans a.next hh.1, hh.2⟩), Nat.le_trans a.next b.next, b.os.trans a.os, b.tape.trans a.tape, b.output.trans a.output,
    Nat.le_trans a.size b.size,
    fun k hk hn => (b.kept k (Nat.lt_of_lt_of_le hk a.size) fun i => hn (a.old k hk i)).trans (a.kept k hk hn),
    fun k hk i => a.old k hk (b.old k (Nat.lt_of_lt_of_le hk a.size) i)⟩

/-- A draw alone. -/
theorem Sim.drawn {lim : Nat} {ρ : Rho} {n : Nat → Prop} {h : AHeap} {w : World} (s : Sim lim ρ n h w) (d : Nat) : Sim lim ρ n h { w with drawn := d } := ⟨s.fresh, s.dom, s.obj, s.inj, s.low, s.sy⟩
theorem Ext.drawn (ρ : Rho) (n : Nat → Prop) (h : AHeap) (w : World) (d : Nat) : Ext ρ n h w ρ n h { w with drawn := d } :=
  ⟨Agree.refl _ _, fun _ h => h, fun _ h => .inl h, Nat.le_refl _, rfl, rfl, rfl, Nat.le_refl _, fun _ _ _ => rfl, fun _ _ i => i⟩

/-! ### Frames -/
structure TmR (ρ : Rho) (n : Nat → Prop) (tm : Tm) (tmps : Array Value) : Prop where
  size : tmps.size = tm.n
  get : ∀ i, VR ρ n (tm.get i) (tmps.getD i undef)

theorem VR.undef {ρ : Rho} {n : Nat → Prop} : VR ρ n aundef undef := .tuple [] [] .nil

theorem TmR.mono {ρ ρ' : Rho} {n n' : Nat → Prop} {tm : Tm} {tmps : Array Value} (h : TmR ρ n tm tmps) (ha : Agree n ρ ρ') (hn : Sub n n') : TmR ρ' n' tm tmps :=
  ⟨h.size, fun i => (h.get i).mono ha hn⟩

theorem Tm.get_put (tm : Tm) (d : Nat) (v : AVal) (i : Nat) : (tm.put (some d) v).get i = if d < tm.n ∧ i = d then v else tm.get i := by
  show Tm.get (sel (Nat.blt d tm.n) ⟨tm.n, T.set tm.t d v⟩ tm) i = _
  rw [sel_eq, blt_eq]
  by_cases h : d < tm.n
  · rw [decide_eq_true h, if_pos rfl]
    have hg : ∀ tm' : Tm, tm'.get i = (T.get tm'.t i).getD aundef := fun tm' => by
      unfold Tm.get; cases T.get tm'.t i <;> rfl
    rw [hg, hg, T.get_set]
    by_cases e : i = d
    · rw [if_pos e, if_pos ⟨h, e⟩]; rfl
    · rw [if_neg e, if_neg (fun h => e h.2)]
  · rw [decide_eq_false h, if_neg Bool.false_ne_true, if_neg (fun hh => h hh.1)]

theorem Tm.put_n (tm : Tm) (d : Option Nat) (v : AVal) : (tm.put d v).n = tm.n := by
  cases d with
  | none => rfl
  | some d =>
    show Tm.n (sel (Nat.blt d tm.n) ⟨tm.n, T.set tm.t d v⟩ tm) = _
    rw [sel_eq]; split <;> rfl

theorem TmR.put {ρ : Rho} {n : Nat → Prop} {tm : Tm} {a : Act} (h : TmR ρ n tm a.tmps) {v : AVal} {x : Value} (hv : VR ρ n v x) (d : Option Nat) :
    TmR ρ n (tm.put d v) (a.put d x).tmps := by
  cases d with
  | none => exact h
  | some d =>
    refine ⟨?_, fun i => ?_⟩
    · rw [Tm.put_n]; simp [Act.put, h.size]
    · rw [Tm.get_put]
      simp only [Act.put, Array.getD_eq_getD_getElem?, Array.getElem?_setIfInBounds]
      by_cases hd : d < tm.n
      · by_cases e : d = i
        · subst e
          rw [if_pos ⟨hd, rfl⟩, if_pos rfl, if_pos (by rw [h.size]; exact hd)]
          exact hv
        · rw [if_neg (fun hh => e hh.2.symm), if_neg e]
          have := h.get i
          rwa [Array.getD_eq_getD_getElem?] at this
      · rw [if_neg (fun hh => hd hh.1)]
        have := h.get i
        rw [Array.getD_eq_getD_getElem?] at this
        by_cases e : d = i
        · subst e
          rw [if_pos rfl, if_neg (by rw [h.size]; exact hd)]
          rw [Array.getElem?_eq_none (by rw [h.size]; omega)] at this
          exact this
        · rw [if_neg e]; exact this

theorem Act.put_defers (a : Act) (d : Option Nat) (x : Value) : (a.put d x).defers = a.defers := by cases d <;> rfl

/-! ### Operands -/
theorem absV_VR (ρ : Rho) (n : Nat → Prop) : ∀ (d : Nat) (x : Value) (v : AVal), absV d x = .ok v → VR ρ n v x := by
  intro d
  induction d with
  | zero => intro x v h; simp [absV] at h
  | succ d ih =>
    have all : ∀ (l : List Value) (vs : List AVal), mapE (absV d) l = .ok vs → VRs ρ n vs l := by
      intro l
      induction l with
      | nil => intro vs h; rw [mapE_nil] at h; injection h with h; subst h; exact .nil
      | cons x l ihl =>
        intro vs h
        rw [mapE_cons, bnd_eq_ok] at h
        obtain ⟨v, hv, h⟩ := h
        rw [bnd_eq_ok] at h
        obtain ⟨us, hus, h⟩ := h
        injection h with h
        subst h
        exact .cons _ _ _ _ (ih _ _ hv) (ihl _ hus)
    intro x v h
    unfold absV at h
    split at h
    all_goals first
      | (injection h with h; subst h; constructor)
      | (rw [bnd_eq_ok] at h; obtain ⟨y, hy, h⟩ := h; injection h with h; subst h; first | exact .iface _ _ _ (ih _ _ hy) | exact .agg _ _ (all _ _ hy) | exact .tuple _ _ (all _ _ hy))
      | cases h

end Go.AM
