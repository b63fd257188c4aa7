/- The nice interpreter: operations that write memory. -/
import Derived.Test.YtfpaeecnnlmjhaaGreatNiA
namespace Go.NI
section
variable {P : Program} {ρ : Ren} {base n : Nat} {V : View} {w : World}

theorem run_store_at {B j : Nat} {cs : Array Value} {e : TypeId} {fz : Nat × Nat} (h : w.heap[B]? = some (.cells cs e fz)) (hj : j < cs.size) (hf : ¬ (fz.1 ≤ j ∧ j < fz.2)) {v : Value} (hv : v.oneCell' = true) :
    (store ⟨B, j, none⟩ v).run P w = .ok () (w.setCell ⟨B, j, none⟩ v) := by
  rw [run_store P w _ v _ hv, cell?_of h, Array.getElem?_eq_getElem hj]
  have : w.frozen? ⟨B, j, none⟩ = false := by
    rw [frozen?_of h, Bool.and_eq_false_iff]
    by_cases h1 : fz.1 ≤ j
    · exact .inr (decide_eq_false fun h2 => hf ⟨h1, h2⟩)
    · exact .inl (decide_eq_false h1)
  simp [this]

theorem heap_setCell_at {B j : Nat} {cs : Array Value} {e : TypeId} {fz : Nat × Nat} (h : w.heap[B]? = some (.cells cs e fz)) (v : Value) :
    (w.setCell ⟨B, j, none⟩ v).heap[B]? = some (.cells (cs.setIfInBounds j v) e fz) := by
  simp [World.setCell, Array.getElem?_modify, h]
theorem heap_setCell_else {B j k : Nat} (hk : k ≠ B) (v : Value) : (w.setCell ⟨B, j, none⟩ v).heap[k]? = w.heap[k]? := by
  simp only [World.setCell, Array.getElem?_modify]
  rw [if_neg (fun e => hk e.symm)]

/-- Only block B has changed: its cells from p on are these. -/
structure Wrote (w w' : World) (B p : Nat) (cs : Array Value) (e : TypeId) (fz : Nat × Nat) (l : List Value) : Prop where
  os : w'.os = w.os
  tape : w'.tape = w.tape
  output : w'.output = w.output
  size : w'.heap.size = w.heap.size
  other : ∀ k, k ≠ B → w'.heap[k]? = w.heap[k]?
  here : ∃ cs', w'.heap[B]? = some (.cells cs' e fz) ∧ cs'.size = cs.size ∧ ∀ j, cs'[j]? = if p ≤ j ∧ j < p + l.length then l[j - p]? else cs[j]?

theorem run_storeCells {B o : Nat} {e : TypeId} {fz : Nat × Nat} : ∀ (l : List Value) (i : Nat) (w : World) (cs : Array Value), w.heap[B]? = some (.cells cs e fz) → o + i + l.length ≤ cs.size →
    (∀ j, o + i ≤ j → j < o + i + l.length → ¬ (fz.1 ≤ j ∧ j < fz.2)) → (∀ v ∈ l, v.oneCell' = true) →
    ∃ w', (storeCells ⟨B, o, none⟩ l i).run P w = .ok () w' ∧ Wrote w w' B (o + i) cs e fz l
  | [], i, w, cs, h, _, _, _ => ⟨w, rfl, rfl, rfl, rfl, rfl, fun _ _ => rfl, cs, h, rfl, fun j => by simp; omega⟩
  | v :: l, i, w, cs, h, hs, hf, ho => by
    simp only [List.length_cons] at hs hf
    have h1 := run_store_at (P := P) h (j := o + i) (by omega) (hf (o + i) (by omega) (by omega)) (ho v (by simp))
    have h2 := heap_setCell_at (j := o + i) h v
    obtain ⟨w', q1, q2⟩ := run_storeCells (B := B) (o := o) (e := e) (fz := fz) l (i + 1) (w.setCell ⟨B, o + i, none⟩ v) (cs.setIfInBounds (o + i) v) h2 (by simp; omega)
      (fun j a b => hf j (by omega) (by omega)) (fun u hu => ho u (by simp [hu]))
    refine ⟨w', ?_, q2.os.trans rfl, q2.tape.trans rfl, q2.output.trans rfl, q2.size.trans (by simp), fun k hk => (q2.other k hk).trans (heap_setCell_else hk v), ?_⟩
    · rw [storeCells]
      simp only [Sem.run_bind, add_lit, h1, Result.andThen_ok]
      exact q1
    · obtain ⟨cs', g1, g2, g3⟩ := q2.here
      refine ⟨cs', g1, by simpa using g2, fun j => ?_⟩
      rw [g3 j]
      simp only [List.length_cons]
      by_cases a1 : o + (i + 1) ≤ j ∧ j < o + (i + 1) + l.length
      · rw [if_pos a1, if_pos (by omega), show j - (o + i) = (j - (o + (i + 1))) + 1 from by omega]; simp
      · rw [if_neg a1, Array.getElem?_setIfInBounds]
        by_cases a2 : o + i = j
        · subst a2; rw [if_pos rfl, if_pos (by omega), if_pos (by omega)]; simp
        · rw [if_neg a2, if_neg (by omega)]

/-- One block turns into another; it may move to a new place. -/
theorem turnBlock (hm : MemRel ρ base n V w) {b : Nat} {o o' : NObj} {i i' : Inc} (hV : V b = some o) (hwr : o.wr = true) (hi : ρ b = some i) (hi' : i' = i ∨ i.gen < i'.gen)
    (hblk : i'.blk = i.blk ∨ i'.blk = w.heap.size) {w' : World} (hother : ∀ k, k < w.heap.size → k ≠ i.blk → w'.heap[k]? = w.heap[k]?) (hsize : w.heap.size ≤ w'.heap.size)
    (hos : w'.os = w.os) (htape : w'.tape = w.tape) (hout : w'.output = w.output) (hb : BRel (ρ.put b i') w' i' o') :
    MemRel (ρ.put b i') base n (fun x => if x = b then some o' else V x) w' ∧ Step ρ V w (ρ.put b i') (fun x => if x = b then some o' else V x) w' := by
  have hle : ρ.le (ρ.put b i') := by
    intro x j hj
    by_cases e : x = b
    · subst e; rw [hi] at hj; cases hj
      exact ⟨i', by simp [Ren.put], hi'⟩
    · exact ⟨j, by simp [Ren.put, e, hj], .inl rfl⟩
  have hlt : i.blk < w.heap.size := by
    obtain ⟨j, hj, hr⟩ := hm.rel _ _ hV
    rw [hi] at hj; cases hj; exact hr.lt
  constructor
  · constructor
    · have := hm.based; omega
    · intro x hx
      have : x ≠ b := by
        intro e; subst e
        rw [hm.fresh x hx] at hi; cases hi
      simp [Ren.put, this, hm.fresh x hx]
    · intro x ox hx
      by_cases e : x = b
      · subst e; simp at hx; subst hx
        exact ⟨i', by simp [Ren.put], hb⟩
      · simp [e] at hx
        obtain ⟨j, hj, hr⟩ := hm.rel _ _ hx
        refine ⟨j, by simp [Ren.put, e, hj], hr.keep hle (hother _ hr.lt ?_)⟩
        exact fun ee => hm.inj b x o ox i j hV hx hwr (fun e2 => e e2.symm) hi hj ee.symm
    · intro x y ox oy ix iy hx hy hwx hne hix hiy
      by_cases e1 : x = b
      · subst e1
        simp [Ren.put] at hix; subst hix
        have e2 : ¬ y = x := fun e => hne e.symm
        simp [e2] at hy
        simp [Ren.put, e2] at hiy
        obtain ⟨j, hj, hr⟩ := hm.rel _ _ hy
        rw [hiy] at hj; cases hj
        rcases hblk with h | h
        · rw [h]; exact hm.inj x y o oy i iy hV hy hwr hne hi hiy
        · rw [h]; have := hr.lt; omega
      · simp [e1] at hx
        simp [Ren.put, e1] at hix
        by_cases e2 : y = b
        · subst e2
          simp [Ren.put] at hiy; subst hiy
          obtain ⟨j, hj, hr⟩ := hm.rel _ _ hx
          rw [hix] at hj; cases hj
          rcases hblk with h | h
          · rw [h]; exact hm.inj x y ox o ix i hx hV hwx hne hix hi
          · rw [h]; have := hr.lt; omega
        · simp [e2] at hy
          simp [Ren.put, e2] at hiy
          exact hm.inj x y ox oy ix iy hx hy hwx hne hix hiy
    · intro x ox ix hx hwx hix
      by_cases e1 : x = b
      · subst e1
        simp [Ren.put] at hix; subst hix
        rcases hblk with h | h
        · rw [h]; exact hm.own x o i hV hwr hi
        · rw [h]; exact hm.based
      · simp [e1] at hx
        simp [Ren.put, e1] at hix
        exact hm.own x ox ix hx hwx hix
  · constructor
    · exact hle
    · intro x j hj
      by_cases e : x = b
      · subst e
        simp [Ren.put] at hj; subst hj
        rcases hblk with h | h
        · exact .inl ⟨i, hi, h.symm⟩
        · right; omega
      · simp [Ren.put, e] at hj
        exact .inl ⟨j, hj, rfl⟩
    · intro x ox hx
      by_cases e : x = b
      · subst e; exact .inr ⟨o, hV, fun _ => hwr⟩
      · simp [e] at hx; exact .inr ⟨ox, hx, fun h => h⟩
    · exact hos
    · exact htape
    · exact hout
    · exact hsize
    · intro x j hj hn
      have : x ≠ b := by intro e; subst e; rw [hn o hV] at hwr; cases hwr
      simp [Ren.put, this, hj]
    · intro k hk hn
      exact hother k hk (fun e => hn b o i hV hwr hi e.symm)

theorem put_self {b : Nat} {i : Inc} (h : ρ b = some i) : ρ.put b i = ρ := by
  funext x; simp only [Ren.put]; split
  · subst_vars; exact h.symm
  · rfl

theorem view_set (m : Mem) (b : Nat) (o : NObj) : Mem.view { m with heap := m.heap.set b o } = fun x => if x = b then some o else m.view x := by
  funext x; simp [Mem.view, Tr.get_set]

/-- Some cells are written. -/
theorem wrCells_sound {m m' : Mem} (hm : MemRel ρ base m.next m.view w) {a : NA} {a' : Addr} (ha : ARel ρ a a') {l : List NV} {l' : List Value} (hl : VRels ρ l l') (h : wrCells m a l = some m') :
    ∃ w', (storeCells a' l').run P w = .ok () w' ∧ MemRel ρ base m'.next m'.view w' ∧ Adv ρ m w ρ m' w' := by
  unfold wrCells at h
  split at h
  · rename_i b hb
    cases hc : (Nat.beq a.gen b.gen && !b.ro && Nat.ble (a.off + l.length) b.size && l.all NV.oneCell) with
    | false => simp [hc] at h
    | true =>
      simp only [hc, cond_true, Option.some.injEq] at h; subst h
      simp only [Bool.and_eq_true] at hc
      obtain ⟨⟨⟨c1, c2⟩, c3⟩, c4⟩ := hc
      have c1 : a.gen = b.gen := Nat.eq_of_beq_eq_true c1
      have c2 : b.ro = false := by simpa using c2
      have c3 : a.off + l.length ≤ b.size := by simpa using c3
      have hV : m.view a.blk = some (.cells b) := hb
      obtain ⟨i, hi, hr⟩ := hm.rel _ _ hV
      obtain ⟨h1, h2, cs, e, fz, h3, h4, h5, h6⟩ := hr
      obtain ⟨i2, hi2, hgi, har⟩ := ha
      rw [hi] at hi2; cases hi2
      obtain ⟨hsh, rfl⟩ := har (by rw [c1, h1])
      have hlen := hl.length
      obtain ⟨w', q1, q2⟩ := run_storeCells (P := P) (B := i.blk) (o := a.off - i.sh) (e := e) (fz := fz) l' 0 w cs h3 (by omega) (fun j a b => h5 c2 j (by omega)) (fun v hv => by
        obtain ⟨k, hk⟩ := List.getElem?_of_mem hv
        have hkl : k < l.length := by have := (List.getElem?_eq_some_iff.1 hk).1; omega
        obtain ⟨y, hy, hrel⟩ := hl.get (List.getElem?_eq_getElem hkl)
        rw [hk] at hy; cases hy
        exact hrel.oneCell (List.all_eq_true.1 c4 _ (List.getElem_mem hkl)))
      obtain ⟨cs', g1, g2, g3⟩ := q2.here
      have hb' : BRel (ρ.put a.blk i) w' i (.cells { b with t := setRange b.t a.off l }) := by
        rw [put_self hi]
        refine ⟨h1, h2, cs', e, fz, g1, by rw [g2, h4], h5, fun j v hj hv => ?_⟩
        rw [g3]
        simp only [Blk.get, cond_blt, get_setRange] at hv
        split at hv
        · rename_i hjs
          by_cases a1 : a.off ≤ j ∧ j < a.off + l.length
          · simp only [a1, and_self, if_true] at hv
            have hjl : j - a.off < l.length := by omega
            rw [List.getElem?_eq_getElem hjl] at hv
            simp only [Option.some.injEq] at hv
            obtain ⟨y, hy, hrel⟩ := hl.get (List.getElem?_eq_getElem hjl)
            refine ⟨y, ?_, hv ▸ hrel⟩
            rw [if_pos (by omega), ← hy]; congr 1; omega
          · simp only [a1, if_false] at hv
            obtain ⟨v', w1, w2⟩ := h6 j v hj (by simp only [Blk.get, cond_blt, hjs, if_true]; exact hv)
            exact ⟨v', by rw [if_neg (by omega)]; exact w1, w2⟩
        · cases hv
      obtain ⟨k1, k2⟩ := turnBlock hm hV (by simp [NObj.wr, c2]) hi (.inl rfl) (.inl rfl) (w' := w') (fun k _ hk => q2.other k hk) (by rw [q2.size]; exact Nat.le_refl _) q2.os q2.tape q2.output hb'
      rw [put_self hi] at k1 k2
      refine ⟨w', q1, ?_, ?_⟩
      · rw [view_set]; exact k1
      · refine Adv.of_set (fun _ h => h) ?_
        rw [view_set]; exact k2
  · cases h
end
end Go.NI
