/- The nice interpreter: append. -/
import Derived.Test.YtfpaeecnnlmjhaaGreatNiW
namespace Go.NI
section
variable {P : Program} {ρ : Ren} {base n : Nat} {V : View} {w : World}

theorem nextcap_le (need old : Nat) (h : old < need) : Builtin.nextslicecap need old ≤ 2 * need + 192 := by
  unfold Builtin.nextslicecap
  split
  · omega
  · split
    · omega
    · have key : ∀ r c, c < need ∨ c ≤ 2 * need + 192 → c ≤ 2 * need + 192 → Builtin.growBy need r c ≤ 2 * need + 192 := by
        intro r
        induction r with
        | zero => intro c _ h; exact h
        | succ r ih =>
          intro c _ h
          simp only [Builtin.growBy]
          split
          · exact h
          · exact ih _ (.inr (by omega)) (by omega)
      exact key 4 old (.inl h) (by omega)

/-- The cells of a real block, read off. -/
theorem run_loadRow {B o k : Nat} {cs : Array Value} {e : TypeId} {fz : Nat × Nat} (h : w.heap[B]? = some (.cells cs e fz)) (hk : o + k ≤ cs.size) :
    (loadCells ⟨B, o, none⟩ k).run P w = .ok ((cs.toList.drop o).take k).toArray w := by
  have := run_loadCellsFrom (P := P) (w := w) ⟨B, o, none⟩ k 0 #[] ((cs.toList.drop o).take k) (by simp; omega) (fun j v hj => by
    rw [add_add, cell?_of h]
    rw [List.getElem?_take] at hj
    split at hj
    · simpa using hj
    · cases hj)
  simpa [loadCells] using this

theorem zeroOk_spec {e : TypeId} {sz : Nat} (h : zeroOk P e sz = true) : ∃ z, (P.info? e).bind (·.zero) = some z ∧ z.cells.size = sz := by
  unfold zeroOk at h
  split at h
  · rename_i v hv
    exact ⟨v, hv, Nat.eq_of_beq_eq_true h⟩
  · cases h

/-- What is appended, in the model. -/
theorem srcCells_sound {m : Mem} (hm : MemRel ρ base m.next m.view w) {sz : Nat} {y : NV} {y' : Value} (hy : VRel ρ y y') {k : Nat} {new : List NV} (h : srcCells m sz y = some (k, new)) :
    (Builtin.lenOf y').run P w = .ok k w ∧ new.length = k * sz ∧ ∃ l', (∀ w2 : World, w2.heap = w.heap → (Builtin.firstCells sz k y').run P w2 = .ok l' w2) ∧ VRels ρ new l'.toList := by
  unfold srcCells at h
  split at h
  · rename_i cap
    obtain ⟨a', C, rfl, hs⟩ := hy
    have := hs.none; subst this
    simp only [Option.some.injEq, Prod.mk.injEq] at h; obtain ⟨rfl, rfl⟩ := h
    exact ⟨rfl, by simp, #[], fun _ _ => rfl, rfl⟩
  · rename_i a n cap
    split at h
    · rename_i l hl
      simp only [Option.some.injEq, Prod.mk.injEq] at h; obtain ⟨rfl, rfl⟩ := h
      obtain ⟨a', C, rfl, hs⟩ := hy
      obtain ⟨a1, l', rfl, q1, q2, q3⟩ := rdSlice_sound (P := P) hm hs (sz := sz) rfl hl
      exact ⟨rfl, q3, l', fun w2 hw => q1 w2 hw, q2⟩
    · cases h
  · rename_i s
    simp only [cond_beq] at h
    split at h
    · rename_i hsz; subst hsz
      simp only [Option.some.injEq, Prod.mk.injEq] at h; obtain ⟨rfl, rfl⟩ := h
      cases (show y' = _ from hy)
      refine ⟨rfl, by simp, s.toArray.map fun b => .int .u8 b.toNat, fun w2 hw => ?_, ?_⟩
      · simp only [Builtin.firstCells, Sem.run_pure]
        rw [extract_mk]; simp
      · refine VRels.of_get (by simp) fun i x hx => ?_
        simp at hx
        obtain ⟨b, hb, rfl⟩ := hx
        exact ⟨.int .u8 b.toNat, by simp [hb], rfl⟩
    · cases h
  · cases h
end
end Go.NI
