/- Operations, tenth part: append. -/
import Derived.Test.YtkjpdeakincalaaGreatDoorAmOpsI
namespace Go.AM
section
variable {lim : Nat} {P : Program} {ρ : Rho} {h h' : AHeap} {w : World} {n : Nat → Prop}

theorem lenOf_sound {x : AVal} {x' : Value} {k : Nat} (hl : lenOf x = .ok k) (hx : VR ρ n x x') : (Builtin.lenOf x').run P w = .ok k w := by
  cases hx <;> simp only [lenOf] at hl <;> try contradiction
  all_goals (injection hl with hl; subst hl; simp [Builtin.lenOf, ByteArray.size])

theorem VRs.bytes (l : List UInt8) : VRs ρ n (l.map fun b => .int .u8 (.ofNat b.toNat)) (l.map fun b => .int .u8 b.toNat) := by
  induction l with
  | nil => exact .nil
  | cons b l ih => exact .cons _ _ _ _ (.int _ _) ih

theorem firstCells_sound (s : Sim lim ρ n h w) {size k : Nat} {x : AVal} {x' : Value} {cs : List AVal} (hf : firstCells size k h x = .ok cs) (hx : VR ρ n x x') :
    ∃ xs : List Value, VRs ρ n cs xs ∧ (Builtin.firstCells size k x').run P w = .ok xs.toArray w := by
  cases hx <;> simp only [firstCells] at hf <;> try contradiction
  case str l =>
    injection hf with hf
    subst hf
    refine ⟨_, VRs.bytes (l.take k), ?_⟩
    simp only [Builtin.firstCells, Sem.run_pure]
    congr 1
    apply Array.ext'
    simp
  case slice b o l c hb =>
    obtain ⟨xs, h1, _, h3⟩ := loadCells_sound (P := P) hf s
    exact ⟨xs, h1, h3⟩
  case nilSlice => injection hf with hf; subst hf; exact ⟨[], .nil, rfl⟩
  case gsl b o l hb hl =>
    obtain ⟨xs, h1, _, h3⟩ := loadCells_sound (P := P) hf s
    exact ⟨xs, h1, h3⟩

/-- Cells are stored into a row. -/
theorem run_storeCells_raw {b o : Nat} {e : TypeId} {fr : Nat × Nat} : ∀ (xs : List Value) (j : Nat) (w : World) (cs : Array Value), w.heap[b]? = some (.cells cs e fr) → o + j + xs.length ≤ cs.size →
    (thawed fr ∨ cs.size ≤ fr.1) → (∀ x ∈ xs, (∀ c, x ≠ .agg c) ∧ (∀ c, x ≠ .tuple c)) →
    ∃ w' cs', (Go.storeCells ⟨b, o, none⟩ xs j).run P w = .ok () w' ∧ w'.heap[b]? = some (.cells cs' e fr) ∧ cs'.size = cs.size ∧
      (∀ i, cs'[i]? = if o + j ≤ i ∧ i < o + j + xs.length then xs[i - (o + j)]? else cs[i]?) ∧ (∀ k, k ≠ b → w'.heap[k]? = w.heap[k]?) ∧
      w'.heap.size = w.heap.size ∧ w'.os = w.os ∧ w'.tape = w.tape ∧ w'.output = w.output
  | [], j, w, cs, hc, _, _, _ => ⟨w, cs, by simp [Go.storeCells], hc, rfl, fun i => by rw [if_neg (by rintro ⟨a, b⟩; simp at b; omega)], fun _ _ => rfl, rfl, rfl, rfl, rfl⟩
  | x :: xs, j, w, cs, hc, hlen, hfr, hsc => by
    simp only [List.length_cons] at hlen
    obtain ⟨h1, h2⟩ := hsc x (List.mem_cons_self ..)
    have hlt : o + j < cs.size := by omega
    have hcell : w.cell? ⟨b, o + j, none⟩ = some cs[o + j] := by simp [World.cell?, hc, hlt]
    have hfz : w.frozen? ⟨b, o + j, none⟩ = false := by
      simp only [World.frozen?, hc, thawed] at hfr ⊢
      simp; omega
    have hrun := run_store_cell (P := P) h1 h2 hcell hfz
    obtain ⟨w', cs', g1, g2, g3, g4, g5, g6, g7, g8, g9⟩ := run_storeCells_raw (o := o) xs (j + 1) (w.setCell ⟨b, o + j, none⟩ x) (cs.setIfInBounds (o + j) x) (setCell_at hc) (by simp; omega)
      (by simpa using hfr) (fun y hy => hsc y (List.mem_cons_of_mem _ hy))
    refine ⟨w', cs', ?_, g2, by simpa using g3, ?_, ?_, by rw [g6]; simp [World.setCell], g7, g8, g9⟩
    · simp only [Go.storeCells, add_none, Sem.run_bind, hrun, Result.andThen_ok]
      exact g1
    · intro i
      rw [g4]
      by_cases ha : i = o + j
      · subst ha
        rw [if_neg (by omega), if_pos (by simp)]
        simp [hlt]
      · by_cases hb : o + (j + 1) ≤ i ∧ i < o + (j + 1) + xs.length
        · rw [if_pos hb, if_pos (by simp; omega)]
          obtain ⟨m, rfl⟩ : ∃ m, i = o + (j + 1) + m := ⟨i - (o + (j + 1)), by omega⟩
          rw [show o + (j + 1) + m - (o + (j + 1)) = m by omega, show o + (j + 1) + m - (o + j) = m + 1 by omega]
          simp
        · rw [if_neg hb, if_neg (by simp; omega), Array.getElem?_setIfInBounds, if_neg (Ne.symm ha)]
    · intro k hk
      rw [g5 k hk]
      exact setCell_other hk

theorem growBy_le (newLen : Nat) : ∀ (r c B : Nat), c ≤ B → newLen + (newLen + 768) / 4 ≤ B → Builtin.growBy newLen r c ≤ B
  | 0, c, B, h, _ => h
  | r + 1, c, B, h, hB => by
    unfold Builtin.growBy
    split
    · exact h
    · exact growBy_le newLen r _ B (by omega) hB

theorem nextslicecap_le (newLen oldCap : Nat) (h : oldCap < newLen) : Builtin.nextslicecap newLen oldCap ≤ 2 * newLen + 192 := by
  unfold Builtin.nextslicecap
  split
  · omega
  · split
    · omega
    · exact growBy_le newLen 4 oldCap _ (by omega) (by omega)

/-- The draw of a capacity. -/
theorem run_choose_cap {need old : Nat} {e : TypeId} : ∃ c, need ≤ c ∧ (choose (.appendCap need old e)).run P w = .ok c { w with drawn := w.drawn + 1 } := by
  refine ⟨_, ?_, by simp only [choose, Sem.run, Question.forced, Bool.false_eq_true, if_false]; rfl⟩
  simp only [Question.cut]
  omega

theorem zeroCells_size (z : Array Value) (k : Nat) : (Builtin.zeroCells z k).size = k * z.size := by simp [Builtin.zeroCells]

/-- A row of cells that is longer than what is spoken of. -/
theorem grown_obj {ρ : Rho} {n : Nat → Prop} {b : Nat} {e : TypeId} {k size : Nat} {zs all : List AVal} {xs : List Value} {rest : Array Value} {cap : Nat} (hv : VRs ρ n all xs) (hlen : all.length = k * size)
    (hs : 0 < size) (hk : k ≤ cap) (hrest : rest.size = (cap - k) * size) (hρ : (ρ b).cap = cap ∧ (ρ b).size = size) :
    ObjR ρ n b (.grown e k size zs (fromList 0 all .leaf)) (.cells (xs.toArray ++ rest) e) := by
  have hxl : xs.length = k * size := by rw [← hv.length]; exact hlen
  refine .grown e k size zs _ _ (0, 0) hs hρ.2 ?_ (by rw [hρ.1]; exact hk) ?_ (.inl (Nat.le_refl _))
  · rw [hρ.1]
    simp only [Array.size_append, List.size_toArray, hxl, hrest]
    rw [← Nat.add_mul]
    congr 1
    omega
  · intro i hi
    obtain ⟨x, hx, hvx⟩ := cellsR_fromList (zs := zs) hv i (by rw [hlen]; exact hi)
    refine ⟨x, ?_, hvx⟩
    rw [Array.getElem?_append_left (by simp; omega)]
    exact hx

/-- The model's append, step by step: the premises that the text's types give. -/
structure AppTypes (P : Program) (ts : Array TypeId) (sT e : TypeId) (size bytes : Nat) (zero : List AVal) : Prop where
  t0 : ts[0]? = some sT
  ut : uty P sT = .ok (.slice e)
  hsz : tsize P e = .ok size
  hby : tbytes P e = .ok bytes
  b0 : bytes ≠ 0
  xt : ∃ xT u, ts[1]? = some xT ∧ uty P xT = .ok u ∧ ∀ k, u ≠ .int k
  hzero : zeroFor P e size = .ok zero

/-- append, where there is room, and where there is none. -/
theorem append_run {ts : Array TypeId} {sT e ty : TypeId} {size bytes : Nat} {zero : List AVal} (ht : AppTypes P ts sT e size bytes zero) {base : Option Addr} {sLen sCap k : Nat} {x' : Value} {new : Array Value}
    (hk : ∀ w : World, (Builtin.lenOf x').run P w = .ok k w) (hnew : (Builtin.firstCells size k x').run P w = .ok new w) :
    (sLen + k ≤ sCap → (Builtin.append_ ts ty #[.slice base sLen sCap, x']).run P w =
      ((match base with | some a => Go.storeCells (a.add (sLen * size)) new.toList | none => pure ()).run P w).andThen fun _ w' => .ok (.slice base (sLen + k) sCap) w') ∧
    (¬ sLen + k ≤ sCap → (sLen + k) * bytes ≤ maxRow → ∀ old : Array Value, (Builtin.firstCells size sLen (.slice base sLen sCap)).run P { w with drawn := w.drawn + 1 } = .ok old { w with drawn := w.drawn + 1 } →
      (Builtin.firstCells size k x').run P { w with drawn := w.drawn + 1 } = .ok new { w with drawn := w.drawn + 1 } →
      ∃ c z, sLen + k ≤ c ∧ z.size = size ∧ (Builtin.append_ ts ty #[.slice base sLen sCap, x']).run P w =
        .ok (.slice (some ⟨w.heap.size, 0, none⟩) (sLen + k) c) (({ w with drawn := w.drawn + 1 } : World).alloc (.cells (old ++ new ++ Builtin.zeroCells z (c - (sLen + k))) e))) := by
  obtain ⟨xT, u, hx1, hx2, hx3⟩ := ht.xt
  obtain ⟨z, hz1, hz2, hz3, hz4⟩ := zeroFor_eq ht.hzero
  obtain ⟨i, hi, hbytes⟩ := tbytes_info ht.hby
  have hint : (match u with | .int _ => true | _ => false) = false := by
    cases u <;> first | rfl | exact absurd rfl (hx3 _)
  refine ⟨fun hle => ?_, fun hgt hrow old hold hnew' => ?_⟩
  · simp only [Builtin.append_, ht.t0, hx1, List.getElem?_toArray, List.getElem?_cons_zero, List.getElem?_cons_succ, Sem.run_bind, uty_run ht.ut, uty_run hx2, Result.andThen_ok, tsize_run ht.hsz, Sem.run_pure,
      Bool.false_eq_true, if_false, hk, Bool.not_false, if_true, hle, hnew]
    cases base with
    | none => rfl
    | some a => simp only [Sem.run_bind, Sem.run_pure]
  · obtain ⟨c, hc, hcr⟩ := run_choose_cap (P := P) (w := w) (need := sLen + k) (old := sCap) (e := e)
    obtain ⟨zx, hzx, hzv⟩ := tzero_run hz1 ({ w with drawn := w.drawn + 1 } : World)
    refine ⟨c, zx.cells, hc, ?_, ?_⟩
    · have := (hzv (fun _ => ⟨0, 0, 1⟩) (fun _ => False)).cells.length
      simp at this
      rw [← hz3, hz2]
      exact this.symm
    · have hb1 : ¬ (((sLen + k : Nat) : Int) > IntKind.i64.max ∧ ((false : Bool) = true ∨ i.bytes = 0)) := by
        rw [hbytes]
        rintro ⟨_, h | h⟩
        · cases h
        · exact ht.b0 h
      have hb2 : ¬ (Builtin.nextslicecap (sLen + k) sCap * i.bytes > 2 ^ 48) := by
        rw [hbytes]
        have h1 := nextslicecap_le (sLen + k) sCap (by omega)
        have h2 : Builtin.nextslicecap (sLen + k) sCap * bytes ≤ (2 * (sLen + k) + 192) * bytes := Nat.mul_le_mul_right _ h1
        have h3 : (2 * (sLen + k) + 192) * bytes = 2 * ((sLen + k) * bytes) + 192 * bytes := by rw [Nat.add_mul, Nat.mul_assoc]
        have h4 : bytes ≤ (sLen + k) * bytes := Nat.le_mul_of_pos_left _ (by omega)
        unfold maxRow at hrow
        omega
      simp only [Builtin.append_, ht.t0, hx1, List.getElem?_toArray, List.getElem?_cons_zero, List.getElem?_cons_succ, Sem.run_bind, uty_run ht.ut, uty_run hx2, Result.andThen_ok, tsize_run ht.hsz, Sem.run_pure,
        Bool.false_eq_true, if_false, hk, Bool.not_false, if_true, hgt, info_run hi]
      rw [if_neg (by simpa using hb1)]
      simp only [Sem.run_bind, info_run hi, Result.andThen_ok]
      rw [if_neg hb2]
      simp only [Sem.run_bind, hcr, Result.andThen_ok, info_run hi, run_askRoom, hold, hnew', hzx, Sem.run_pure, Go.newRow, run_newObj]
      rfl
end
end Go.AM
