/- Operations, last part: each operation of the text, as a read, as what makes a block, as what may turn memory, as a call. -/
import Derived.Test.YtkjpdeakincalaaGreatDoorAmOpsL
import Derived.Laws.BytesString
import Derived.Laws.BytesArg
namespace Go.AM

theorem pre_run {α : Type} {x : E α} {f : α → Cop} {tm : Tm} {h : AHeap} {r : AR} (hq : (pre x f).run tm h = .ok r) : ∃ a, x = .ok a ∧ (f a).run tm h = .ok r := by
  cases x with
  | error e => cases hq
  | ok a => exact ⟨a, rfl, hq⟩
theorem no_run {why : String} {tm : Tm} {h : AHeap} {r : AR} (hq : (Cop.no why).run tm h = .ok r) : False := by cases hq
theorem with1_run {x : Operand} {f : AVal → AHeap → E AR} {tm : Tm} {h : AHeap} {r : AR} (hq : (with1 x f).run tm h = .ok r) : ∃ v, ev x tm = .ok v ∧ f v h = .ok r := bnd_eq_ok.1 hq
theorem with2_run {x y : Operand} {f : AVal → AVal → AHeap → E AR} {tm : Tm} {h : AHeap} {r : AR} (hq : (with2 x y f).run tm h = .ok r) :
    ∃ v u, ev x tm = .ok v ∧ ev y tm = .ok u ∧ f v u h = .ok r := by
  obtain ⟨v, hv, hq⟩ := bnd_eq_ok.1 hq
  obtain ⟨u, hu, hq⟩ := bnd_eq_ok.1 hq
  exact ⟨v, u, hv, hu, hq⟩
theorem with3_run {x y z : Operand} {f : AVal → AVal → AVal → AHeap → E AR} {tm : Tm} {h : AHeap} {r : AR} (hq : (with3 x y z f).run tm h = .ok r) :
    ∃ v u t, ev x tm = .ok v ∧ ev y tm = .ok u ∧ ev z tm = .ok t ∧ f v u t h = .ok r := by
  obtain ⟨v, hv, hq⟩ := bnd_eq_ok.1 hq
  obtain ⟨u, hu, hq⟩ := bnd_eq_ok.1 hq
  obtain ⟨t, ht, hq⟩ := bnd_eq_ok.1 hq
  exact ⟨v, u, t, hv, hu, ht, hq⟩
theorem withPs_run {ps : List (Nat × Operand)} {f : List (Nat × AVal) → AHeap → E AR} {tm : Tm} {h : AHeap} {r : AR} (hq : (withPs ps f).run tm h = .ok r) : ∃ l, evps tm ps = .ok l ∧ f l h = .ok r := bnd_eq_ok.1 hq
theorem withL_run {xs : List Operand} {f : List AVal → AHeap → E AR} {tm : Tm} {h : AHeap} {r : AR} (hq : (withL xs f).run tm h = .ok r) : ∃ l, evs tm xs = .ok l ∧ f l h = .ok r := bnd_eq_ok.1 hq
theorem okV_eq {h : AHeap} {x : E AVal} {r : AR} (hq : okV h x = .ok r) : ∃ v, x = .ok v ∧ r = .val v h := by
  obtain ⟨v, hv, hq⟩ := bnd_eq_ok.1 hq
  injection hq with hq
  exact ⟨v, hv, hq.symm⟩
theorem okVH_eq {x : E (AVal × AHeap)} {r : AR} (hq : okVH x = .ok r) : ∃ v h, x = .ok (v, h) ∧ r = .val v h := by
  obtain ⟨p, hp, hq⟩ := bnd_eq_ok.1 hq
  injection hq with hq
  exact ⟨p.1, p.2, hp, hq.symm⟩
theorem okH_eq {x : E AHeap} {r : AR} (hq : okH x = .ok r) : ∃ h, x = .ok h ∧ r = .val aundef h := by
  obtain ⟨h, hh, hq⟩ := bnd_eq_ok.1 hq
  injection hq with hq
  exact ⟨h, hh, hq.symm⟩

section
variable {lim : Nat} {P : Program} {ρ : Rho} {h h' : AHeap} {w : World} {n : Nat → Prop} {a : Act} {tm : Tm}

/-- What an operation yields that only reads. -/
def ReadR (P : Program) (o : Oper) (a : Act) (ρ : Rho) (n : Nat → Prop) (w : World) (v : AVal) : Prop :=
  ∃ x, (execOp a.eval o).run P w = .ok (.value x) w ∧ VR ρ n v x

theorem ReadR.of {o : Oper} {s : Sem Value} {v : AVal} (he : execOp a.eval o = (do pure (.value (← s)))) (hs : SemP P s ρ n w v) : ReadR P o a ρ n w v := by
  obtain ⟨x, hx, hv⟩ := hs
  exact ⟨x, by rw [he]; simp only [Sem.run_bind, hx, Result.andThen_ok]; rfl, hv⟩

theorem SemP.pure {x : Value} {v : AVal} (hv : VR ρ n v x) : SemP P (Pure.pure x) ρ n w v := ⟨x, rfl, hv⟩

theorem bytesOf_sound : ∀ {cs : List AVal} {xs : List Value}, VRs ρ n cs xs → ∀ {l : List UInt8}, bytesOf cs = .ok l → ∃ ns : List Int, xs = ns.map (Value.int .u8) ∧ l = ns.map fun n => UInt8.ofNat n.toNat
  | _, _, .nil, l, hb => by
    simp only [bytesOf, Except.ok.injEq] at hb
    subst hb
    exact ⟨[], rfl, rfl⟩
  | _, _, .cons v x vs xs hv hs, l, hb => by
    cases hv <;> simp only [bytesOf] at hb <;> try contradiction
    rename_i k i
    cases k <;> simp only at hb <;> try contradiction
    rw [bnd_eq_ok] at hb
    obtain ⟨l', hl', hb⟩ := hb
    injection hb with hb
    subst hb
    obtain ⟨ns, rfl, rfl⟩ := bytesOf_sound hs hl'
    exact ⟨i :: ns, rfl, rfl⟩

theorem bytesToString_sound (s : Sim lim ρ n h w) {x : AVal} {x' : Value} {k : Nat} {cs : List AVal} {l : List UInt8} (hns : ∀ t, x ≠ .str t) (hk : lenOf x = .ok k) (hc : firstCells 1 k h x = .ok cs)
    (hb : bytesOf cs = .ok l) (hx : VR ρ n x x') : (∃ b l c, x' = .slice b l c) ∧ SemP P (Conv.bytesToString x') ρ n w (.str l) := by
  obtain ⟨xs, hxs, hr⟩ := firstCells_sound (P := P) s hc hx
  obtain ⟨ns, rfl, rfl⟩ := bytesOf_sound hxs hb
  have fin : ns.foldl (fun r n => r.push (UInt8.ofNat n.toNat)) ByteArray.empty = ⟨(ns.map fun n => UInt8.ofNat n.toNat).toArray⟩ := by
    rw [foldl_push_bytes]; simp
  cases hx <;> simp only [lenOf] at hk <;> try contradiction
  case str t => exact absurd rfl (hns t)
  case slice b o len cap hb' =>
    injection hk with hk
    subst hk
    refine ⟨⟨_, _, _, rfl⟩, _, ?_, .str _⟩
    rw [run_bytesToString w _ len cap ns (by simpa [Builtin.firstCells] using hr), fin]
  case nilSlice len cap =>
    injection hk with hk
    subst hk
    simp only [firstCells, Except.ok.injEq] at hc
    subst hc
    obtain rfl : ns = [] := by
      cases ns with
      | nil => rfl
      | cons i ns => cases hxs
    exact ⟨⟨_, _, _, rfl⟩, .string .empty, by simp [Conv.bytesToString], .str []⟩
  case gsl b o len hb' hl =>
    injection hk with hk
    subst hk
    refine ⟨⟨_, _, _, rfl⟩, _, ?_, .str _⟩
    rw [run_bytesToString w _ len _ ns (by simpa [Builtin.firstCells] using hr), fin]

/-- A text made bytes: a new row, whose end is marked. -/
theorem stringToBytes_alloc {e : TypeId} (l : List UInt8) (id : Nat) :
    AllocR P (Conv.stringToBytes e ⟨l.toArray⟩) ρ n id w (.gsl id 0 l.length) (.grown e l.length 1 [.int .u8 0] (fromList 0 (l.map fun b => .int .u8 (.ofNat b.toNat)) .leaf)) := by
  intro hid
  obtain ⟨c, hc, hcr⟩ := run_choose_cap (P := P) (w := w) (need := l.length) (old := 0) (e := e)
  have hsz : (ByteArray.mk l.toArray).size = l.length := by simp [ByteArray.size]
  let cs : Array Value := ((l.toArray.map fun b => Value.int .u8 b.toNat) ++ Array.replicate (c - l.length) (.int .u8 0))
  have hcs : cs.size = c := by simp [cs]; omega
  have hval : VR (upd ρ id ⟨w.heap.size, c, 1⟩) (ins n id) (.gsl id 0 l.length) (.slice (some ⟨w.heap.size, 0, none⟩) l.length c) := by
    have := VR.gsl (ρ := upd ρ id ⟨w.heap.size, c, 1⟩) (n := ins n id) id 0 l.length (.inr rfl) (by rw [upd_same]; simpa using hc)
    rw [upd_same] at this
    simpa using this
  refine ⟨⟨w.heap.size, c, 1⟩, .cells cs e (cs.size, cs.size + 1), w.drawn + 1, _, rfl, ?_, hval, ?_⟩
  · simp only [Conv.stringToBytes, hsz, Sem.run_bind, hcr, Result.andThen_ok, Go.newRow, run_newObj, Sem.run_pure, markStringish, run_shape]
    have hsh : World.shape? ({ heap := w.heap.push (.cells cs e), tape := w.tape, drawn := w.drawn + 1, os := w.os, output := w.output } : World) w.heap.size = some (e, cs.size) := by
      simp [World.shape?]
    have hsh' := hsh
    simp only [cs] at hsh'
    rw [hsh']
    simp only [run_freeze, Result.andThen_ok]
    congr 1
    simp only [World.freeze, World.alloc]
    rw [if_neg (by decide)]
    congr 1
    apply Array.ext_getElem?
    intro j
    rw [Array.getElem?_modify]
    by_cases hj : w.heap.size = j
    · subst hj
      simp [cs]
    · rw [if_neg hj]
      simp only [Array.getElem?_push]
      rw [if_neg (Ne.symm hj), if_neg (Ne.symm hj)]
  · refine .grown e l.length 1 _ _ cs _ (by decide) (by rw [upd_same]) (by rw [upd_same, hcs]; simp) (by rw [upd_same]; exact hc) ?_ (.inr (Nat.le_refl _))
    intro i hi
    have hv := VRs.bytes (ρ := upd ρ id ⟨w.heap.size, c, 1⟩) (n := ins n id) l
    obtain ⟨x, hx, hvx⟩ := cellsR_fromList (zs := [.int .u8 0]) hv i (by simpa using hi)
    refine ⟨x, ?_, hvx⟩
    simp only [cs]
    rw [Array.getElem?_append_left (by simp; omega)]
    simpa using hx

/-! ### Reads -/
theorem copConvert_read (s : Sim lim ρ n h w) (ht : TmR ρ n tm a.tmps) {o : Oper} {sT dT : TypeId} {x : Operand} (ho : o.op = .convert sT dT x) (hna : isAlloc P (.convert sT dT x) = false)
    {r : AR} (hq : (copConvert P sT dT x).run tm h = .ok r) : ∃ v, r = .val v h ∧ ReadR P o a ρ n w v := by
  have hex : execOp a.eval o = (do pure (.value (← Go.convert sT dT (a.eval x)))) := by simp only [execOp, ho]
  unfold copConvert at hq
  obtain ⟨us, hus, hq⟩ := pre_run hq
  obtain ⟨ud, hud, hq⟩ := pre_run hq
  split at hq
  · rename_i k1 k
    obtain ⟨v, hv, hq⟩ := with1_run hq
    have hx := ev_VR ht hv
    split at hq
    · rename_i j i
      injection hq with hq
      subst hq
      refine ⟨_, rfl, ReadR.of hex ?_⟩
      generalize hex' : a.eval x = y at hx
      cases hx
      refine ⟨_, ?_, .int _ _⟩
      simp only [Go.convert, Sem.run_bind, uty_run hus, uty_run hud, Result.andThen_ok, Conv.intToInt, wrapK_eq, Sem.run_pure]
    · cases hq
  · rename_i k1
    obtain ⟨v, hv, hq⟩ := with1_run hq
    have hx := ev_VR ht hv
    split at hq
    · rename_i j i
      injection hq with hq
      subst hq
      refine ⟨_, rfl, ReadR.of hex ?_⟩
      generalize hex' : a.eval x = y at hx
      cases hx
      refine ⟨.string (Utf8.encode i), ?_, ?_⟩
      · simp only [Go.convert, Sem.run_bind, uty_run hus, uty_run hud, Result.andThen_ok, Conv.intToString, Sem.run_pure]
      · have := VR.str (ρ := ρ) (n := n) (Utf8.encode i).data.toList
        simpa using this
    · cases hq
  · obtain ⟨v, hv, hq⟩ := with1_run hq
    have hx := ev_VR ht hv
    split at hq
    · rename_i l
      injection hq with hq
      subst hq
      refine ⟨_, rfl, ReadR.of hex ?_⟩
      generalize hex' : a.eval x = y at hx
      cases hx
      refine ⟨_, ?_, .str _⟩
      simp only [Go.convert, Sem.run_bind, uty_run hus, uty_run hud, Result.andThen_ok, Sem.run_pure]
    · cases hq
  · rename_i e _
    have hpu : P.underlying dT = some (.slice e) := opt_eq_ok.1 hud
    simp [isAlloc, hpu] at hna
  · rename_i e _
    obtain ⟨ue, hue, hq⟩ := pre_run hq
    split at hq
    · obtain ⟨v, hv, hq⟩ := with1_run hq
      have hx := ev_VR ht hv
      split at hq
      · cases hq
      · rename_i hns
        obtain ⟨k, hk, hq⟩ := bnd_eq_ok.1 hq
        obtain ⟨cs, hcs, hq⟩ := bnd_eq_ok.1 hq
        obtain ⟨l, hl, hq⟩ := bnd_eq_ok.1 hq
        injection hq with hq
        subst hq
        obtain ⟨⟨b, l2, c, hb⟩, z, hz, hv2⟩ := bytesToString_sound (P := P) s (fun t => hns t) hk hcs hl hx
        refine ⟨_, rfl, ReadR.of hex ⟨z, ?_, hv2⟩⟩
        rw [hb] at hz ⊢
        rw [run_convert_bytes_string w sT dT e b l2 c (opt_eq_ok.1 hus) (opt_eq_ok.1 hue) (opt_eq_ok.1 hud)]
        exact hz
    · exact (no_run hq).elim
  · exact (no_run hq).elim
end
end Go.AM
