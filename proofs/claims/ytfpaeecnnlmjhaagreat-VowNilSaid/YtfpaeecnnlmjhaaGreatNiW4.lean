/- The nice interpreter: append does what the model's does. -/
import Derived.Test.YtfpaeecnnlmjhaaGreatNiW3
namespace Go.NI
section
variable {P : Program} {ρ : Ren} {base n : Nat} {V : View} {w : World}

def Post (ρ : Ren) (base : Nat) (m : Mem) (w : World) (m' : Mem) (v : NV) (v' : Value) (w' : World) : Prop :=
  ∃ ρ', VRel ρ' v v' ∧ MemRel ρ' base m'.next m'.view w' ∧ Adv ρ m w ρ' m' w'

theorem view_new (m : Mem) (o : NObj) : (m.new o).view = fun b => if b = m.next then some o else m.view b := by
  funext b; simp [Mem.view, Mem.new, Tr.get_set]

theorem put_none {b : Nat} {i i' : Inc} (hi : ρ b = some i) : ∀ x, ρ x = none → (ρ.put b i') x = none := by
  intro x hx
  have : x ≠ b := by intro e; subst e; rw [hi] at hx; cases hx
  simp [Ren.put, this, hx]

/-- A new block for what is appended. -/
theorem appendNew_sound {m : Mem} (hm : MemRel ρ base m.next m.view w) {sz tot cap : Nat} {cells : List NV} {cs : Array Value} (e : TypeId) (hl : cells.length = tot * sz) (hcap : tot ≤ cap)
    (hcs : ∀ (j : Nat) v, cells[j]? = some v → ∃ v', cs[j]? = some v' ∧ VRel ρ v v') (hsz : cap * sz ≤ cs.size) :
    Post ρ base m w (appendNew m sz tot cells).2 (appendNew m sz tot cells).1 (.slice (some ⟨w.heap.size, 0, none⟩) tot cap) (w.drew.alloc (.cells cs e)) := by
  have hid : ρ m.next = none := hm.fresh _ (Nat.le_refl _)
  let i : Inc := ⟨0, w.heap.size, 0, cs.size⟩
  have hle := Ren.le_put (i := i) hid
  have hts : tot * sz ≤ cs.size := Nat.le_trans (Nat.mul_le_mul_right _ hcap) hsz
  have hheap : (w.drew.alloc (.cells cs e)).heap = w.heap.push (.cells cs e) := rfl
  have hb : BRel (ρ.put m.next i) (w.drew.alloc (.cells cs e)) i (.cells { t := setRange .leaf 0 cells, size := tot * sz, dflt := [], gen := 0, ro := false }) := by
    refine ⟨rfl, by simp [i]; omega, cs, e, (0, 0), heap_push_new hheap, rfl, fun _ j _ => by simp, fun j v _ hv => ?_⟩
    simp only [Blk.get, cond_blt, get_setRange] at hv
    split at hv
    · rename_i hj
      have hjl : j < cells.length := by omega
      simp [hjl] at hv
      obtain ⟨v', h1, h2⟩ := hcs j cells[j] (List.getElem?_eq_getElem hjl)
      subst hv
      exact ⟨v', by simpa [i] using h1, VRel.mono hle _ _ h2⟩
    · cases hv
  obtain ⟨h1, h2⟩ := addBlock hm hid (Nat.le_succ _) (Nat.lt_succ_self _) (w' := w.drew.alloc (.cells cs e)) hheap rfl rfl rfl (i := i) rfl hb
  refine ⟨ρ.put m.next i, ⟨_, cap, rfl, Nat.le_refl _, hcap, _, _, rfl, rfl, i, by simp [Ren.put], by simp [i], fun _ => .inr ⟨by simp [i], by simp [i], by simpa [i] using hsz⟩⟩, ?_, ?_⟩
  · show MemRel _ base (m.next + 1) (Mem.view (m.new _)) _
    rw [view_new]; exact h1
  · refine Adv.of_new put_other ?_
    show Step ρ m.view w _ (Mem.view (m.new _)) _
    rw [view_new]; exact h2

theorem zeroCells_size (z : Array Value) (k : Nat) : (Builtin.zeroCells z k).size = k * z.size := by simp [Builtin.zeroCells]

theorem appendTip_inplace {m : Mem} (hm : MemRel ρ base m.next m.view w) {a : NA} {b : Blk} {sz nn k C : Nat} {new : List NV} {i : Inc} {l' : Array Value} (hb : m.heap.get a.blk = some (.cells b)) (hi : ρ a.blk = some i)
    (hg : a.gen = b.gen) (hro : b.ro = false) (htip : a.off + nn * sz = b.size) (hsh : i.sh ≤ a.off) (htop : (a.off - i.sh) + C * sz ≤ i.top) (hC : nn + k ≤ C)
    (hl : new.length = k * sz) (hr : VRels ρ new l'.toList) (hone : new.all NV.oneCell = true) :
    ∃ w', (storeCells ((⟨i.blk, a.off - i.sh, none⟩ : Addr).add (nn * sz)) l'.toList).run P w = .ok () w' ∧
      Post ρ base m w (appendTip m a b sz nn k new).2 (appendTip m a b sz nn k new).1 (.slice (some ⟨i.blk, a.off - i.sh, none⟩) (nn + k) C) w' := by
  have hV : m.view a.blk = some (.cells b) := hb
  obtain ⟨i2, hi2, hr2⟩ := hm.rel _ _ hV
  rw [hi] at hi2; cases hi2
  obtain ⟨h1, h2, cs, e, fz, h3, h4, h5, h6⟩ := hr2
  have hlen := hr.length
  simp only [Array.length_toList] at hlen
  have hCs : (nn + k) * sz ≤ C * sz := Nat.mul_le_mul_right _ hC
  rw [Nat.add_mul] at hCs
  obtain ⟨w', q1, q2⟩ := run_storeCells (P := P) (B := i.blk) (o := a.off - i.sh + nn * sz) (e := e) (fz := fz) l'.toList 0 w cs h3 (by simp; omega) (fun j a b => h5 hro j (by simp at b; omega)) (fun v hv => by
    obtain ⟨j, hj⟩ := List.getElem?_of_mem hv
    have hjl : j < new.length := by have := (List.getElem?_eq_some_iff.1 hj).1; simp at this; omega
    obtain ⟨y, hy, hrel⟩ := hr.get (List.getElem?_eq_getElem hjl)
    rw [hj] at hy; cases hy
    exact hrel.oneCell (List.all_eq_true.1 hone _ (List.getElem_mem hjl)))
  obtain ⟨cs', g1, g2, g3⟩ := q2.here
  let i' : Inc := { i with gen := i.gen + 1 }
  have hle : ρ.le (ρ.put a.blk i') := by
    intro x j hj
    by_cases ex : x = a.blk
    · subst ex; rw [hi] at hj; cases hj
      exact ⟨i', by simp [Ren.put], .inr (by simp [i'])⟩
    · exact ⟨j, by simp [Ren.put, ex, hj], .inl rfl⟩
  have hb' : BRel (ρ.put a.blk i') w' i' (.cells { b with t := setRange b.t b.size new, size := b.size + k * sz, gen := b.gen + 1 }) := by
    refine ⟨by simp [i', h1], by simp [i']; omega, cs', e, fz, g1, by rw [g2, h4], h5, fun j v hj hv => ?_⟩
    simp only [i'] at hj ⊢
    rw [g3]
    simp only [Array.length_toList]
    simp only [Blk.get, cond_blt, get_setRange] at hv
    split at hv
    · rename_i hjs
      by_cases a1 : b.size ≤ j ∧ j < b.size + new.length
      · simp only [a1, and_self, if_true] at hv
        have hjl : j - b.size < new.length := by omega
        rw [List.getElem?_eq_getElem hjl] at hv
        simp only [Option.some.injEq] at hv
        obtain ⟨y, hy, hrel⟩ := hr.get (List.getElem?_eq_getElem hjl)
        refine ⟨y, ?_, hv ▸ VRel.mono hle _ _ hrel⟩
        rw [if_pos (by omega), ← hy]; congr 1; omega
      · simp only [a1, if_false] at hv
        have hjb : j < b.size := by omega
        obtain ⟨v', w1, w2⟩ := h6 j v hj (by simp only [Blk.get, cond_blt, hjb, if_true]; exact hv)
        exact ⟨v', by rw [if_neg (by omega)]; exact w1, VRel.mono hle _ _ w2⟩
    · cases hv
  obtain ⟨k1, k2⟩ := turnBlock hm hV (by simp [NObj.wr, hro]) hi (i' := i') (.inr (by simp [i'])) (.inl rfl) (w' := w') (fun k _ hk => q2.other k hk) (by rw [q2.size]; exact Nat.le_refl _) q2.os q2.tape q2.output hb'
  refine ⟨w', ?_, ρ.put a.blk i', ?_, ?_, ?_⟩
  · rw [add_lit]; exact q1
  · exact ⟨_, C, rfl, Nat.le_refl _, hC, _, _, rfl, rfl, i', by simp [Ren.put], by simp [i', h1], fun _ => .inr ⟨hsh, rfl, htop⟩⟩
  · simp only [appendTip, view_set]; exact k1
  · refine Adv.of_set (put_none hi) ?_
    simp only [view_set]; exact k2

theorem appendTip_grow {m : Mem} (hm : MemRel ρ base m.next m.view w) {a : NA} {b : Blk} {sz nn k cap : Nat} {new : List NV} {i : Inc} {old l' rest : Array Value} (e0 : TypeId) (hb : m.heap.get a.blk = some (.cells b)) (hi : ρ a.blk = some i)
    (hro : b.ro = false) (htip : a.off + nn * sz = b.size) (hold : old.size = nn * sz) (holdc : ∀ (j : Nat) v, a.off ≤ j → b.get j = some v → ∃ v', old[j - a.off]? = some v' ∧ VRel ρ v v')
    (hcap : nn + k ≤ cap) (hrest : cap * sz ≤ (old ++ l' ++ rest).size) (hl : new.length = k * sz) (hr : VRels ρ new l'.toList) :
    Post ρ base m w (appendTip m a b sz nn k new).2 (appendTip m a b sz nn k new).1 (.slice (some ⟨w.heap.size, 0, none⟩) (nn + k) cap) (w.drew.alloc (.cells (old ++ l' ++ rest) e0)) := by
  have hV : m.view a.blk = some (.cells b) := hb
  obtain ⟨i2, hi2, hr2⟩ := hm.rel _ _ hV
  rw [hi] at hi2; cases hi2
  obtain ⟨h1, h2, cs, e, fz, h3, h4, h5, h6⟩ := hr2
  have hlen := hr.length
  simp only [Array.length_toList] at hlen
  let i' : Inc := ⟨i.gen + 1, w.heap.size, a.off, (old ++ l' ++ rest).size⟩
  have hle : ρ.le (ρ.put a.blk i') := by
    intro x j hj
    by_cases ex : x = a.blk
    · subst ex; rw [hi] at hj; cases hj
      exact ⟨i', by simp [Ren.put], .inr (by simp [i'])⟩
    · exact ⟨j, by simp [Ren.put, ex, hj], .inl rfl⟩
  have hheap : (w.drew.alloc (.cells (old ++ l' ++ rest) e0)).heap = w.heap.push (.cells (old ++ l' ++ rest) e0) := rfl
  have hb' : BRel (ρ.put a.blk i') (w.drew.alloc (.cells (old ++ l' ++ rest) e0)) i' (.cells { b with t := setRange b.t b.size new, size := b.size + k * sz, gen := b.gen + 1 }) := by
    refine ⟨by simp [i', h1], by simp [i']; omega, old ++ l' ++ rest, e0, (0, 0), heap_push_new hheap, rfl, fun _ j _ => by simp, fun j v hj hv => ?_⟩
    simp only [i'] at hj ⊢
    simp only [Blk.get, cond_blt, get_setRange] at hv
    split at hv
    · rename_i hjs
      by_cases a1 : b.size ≤ j ∧ j < b.size + new.length
      · simp only [a1, and_self, if_true] at hv
        have hjl : j - b.size < new.length := by omega
        rw [List.getElem?_eq_getElem hjl] at hv
        simp only [Option.some.injEq] at hv
        obtain ⟨y, hy, hrel⟩ := hr.get (List.getElem?_eq_getElem hjl)
        refine ⟨y, ?_, hv ▸ VRel.mono hle _ _ hrel⟩
        rw [Array.getElem?_append_left (by simp; omega), Array.getElem?_append_right (by omega)]
        rw [show j - a.off - old.size = j - b.size from by omega]
        simpa using hy
      · simp only [a1, if_false] at hv
        have hjb : j < b.size := by omega
        obtain ⟨v', w1, w2⟩ := holdc j v hj (by simp only [Blk.get, cond_blt, hjb, if_true]; exact hv)
        refine ⟨v', ?_, VRel.mono hle _ _ w2⟩
        rw [Array.getElem?_append_left (by simp; omega), Array.getElem?_append_left (by omega)]
        exact w1
    · cases hv
  obtain ⟨k1, k2⟩ := turnBlock hm hV (by simp [NObj.wr, hro]) hi (i' := i') (.inr (by simp [i'])) (.inr rfl) (w' := w.drew.alloc (.cells (old ++ l' ++ rest) e0)) (fun k hk _ => heap_push hheap hk) (by simp) rfl rfl rfl hb'
  refine ⟨ρ.put a.blk i', ?_, ?_, ?_⟩
  · exact ⟨_, cap, rfl, Nat.le_refl _, hcap, _, _, rfl, rfl, i', by simp [Ren.put], by simp [i', h1], fun _ => .inr ⟨by simp [i'], by simp [i'], by simpa [i'] using hrest⟩⟩
  · simp only [appendTip, view_set]; exact k1
  · refine Adv.of_set (put_none hi) ?_
    simp only [view_set]; exact k2
end
end Go.NI
