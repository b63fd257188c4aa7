/- The nice interpreter: its memory and the model's; reading. -/
import Derived.Test.YtfpaeecnnlmjhaaGreatNiT4
namespace Go.NI

def NObj.wr : NObj → Bool
  | .cells b => !b.ro
  | _ => true

def MRel (ρ : Ren) : List (NV × NV) → List MapEntry → Prop
  | [], l => l = []
  | (k, v) :: r, l => ∃ e l', l = e :: l' ∧ VRel ρ k e.key ∧ VRel ρ v e.val ∧ MRel ρ r l'

def BRel (ρ : Ren) (w : World) (i : Inc) : NObj → Prop
  | .cells b => i.gen = b.gen ∧ b.size ≤ i.sh + i.top ∧ ∃ cs e fz, w.heap[i.blk]? = some (.cells cs e fz) ∧ cs.size = i.top ∧
      (b.ro = false → ∀ j, j < i.top → ¬ (fz.1 ≤ j ∧ j < fz.2)) ∧
      ∀ j v, i.sh ≤ j → b.get j = some v → ∃ v', cs[j - i.sh]? = some v' ∧ VRel ρ v v'
  | .map es => i.gen = 0 ∧ ∃ es' ck, w.heap[i.blk]? = some (.map es' ck) ∧ MRel ρ es es'.toList
  | .iter s pos => i.gen = 0 ∧ i.sh = 0 ∧ w.heap[i.blk]? = some (.stringIter ⟨⟨s⟩⟩ pos)

structure MemRel (ρ : Ren) (base n : Nat) (V : View) (w : World) : Prop where
  based : base ≤ w.heap.size
  fresh : ∀ b, n ≤ b → ρ b = none
  rel : ∀ b o, V b = some o → ∃ i, ρ b = some i ∧ BRel ρ w i o
  inj : ∀ b b' o o' i i', V b = some o → V b' = some o' → o.wr = true → b ≠ b' → ρ b = some i → ρ b' = some i' → i.blk ≠ i'.blk
  own : ∀ b o i, V b = some o → o.wr = true → ρ b = some i → base ≤ i.blk

structure Step (ρ : Ren) (V : View) (w : World) (ρ' : Ren) (V' : View) (w' : World) : Prop where
  le : ρ.le ρ'
  new : ∀ b i', ρ' b = some i' → (∃ i, ρ b = some i ∧ i.blk = i'.blk) ∨ w.heap.size ≤ i'.blk
  live : ∀ b o, V' b = some o → ρ b = none ∨ ∃ o', V b = some o' ∧ (o.wr = true → o'.wr = true)
  os : w'.os = w.os
  tape : w'.tape = w.tape
  output : w'.output = w.output
  size : w.heap.size ≤ w'.heap.size
  stay : ∀ b i, ρ b = some i → (∀ o, V b = some o → o.wr = false) → ρ' b = some i
  keep : ∀ k, k < w.heap.size → (∀ b o i, V b = some o → o.wr = true → ρ b = some i → i.blk ≠ k) → w'.heap[k]? = w.heap[k]?

theorem Step.refl (ρ : Ren) (V : View) (w : World) : Step ρ V w ρ V w :=
  ⟨Ren.le_refl ρ, fun _ i h => .inl ⟨i, h, rfl⟩, fun _ o h => .inr ⟨o, h, id⟩, rfl, rfl, rfl, Nat.le_refl _, fun _ _ h _ => h, fun _ _ _ => rfl⟩

theorem Step.trans {ρ ρ1 ρ2 : Ren} {V V1 V2 : View} {w w1 w2 : World} (a : Step ρ V w ρ1 V1 w1) (b : Step ρ1 V1 w1 ρ2 V2 w2) : Step ρ V w ρ2 V2 w2 where
  le := Ren.le_trans a.le b.le
  new := by
    intro x i2 h2
    rcases b.new x i2 h2 with ⟨i1, h1, e1⟩ | h
    · rcases a.new x i1 h1 with ⟨i, h, e⟩ | h
      · exact .inl ⟨i, h, e.trans e1⟩
      · exact .inr (e1 ▸ h)
    · exact .inr (Nat.le_trans a.size h)
  live := by
    intro x o h
    rcases b.live x o h with h1 | ⟨o1, h1, ho1⟩
    · left
      cases hx : ρ x with
      | none => rfl
      | some i => obtain ⟨i', hi', _⟩ := a.le x i hx; rw [h1] at hi'; cases hi'
    · rcases a.live x o1 h1 with h2 | ⟨o2, h2, ho2⟩
      · exact .inl h2
      · exact .inr ⟨o2, h2, fun h => ho2 (ho1 h)⟩
  os := b.os.trans a.os
  tape := b.tape.trans a.tape
  output := b.output.trans a.output
  size := Nat.le_trans a.size b.size
  stay := by
    intro x i hi hn
    refine b.stay x i (a.stay x i hi hn) fun o ho => ?_
    cases hw : o.wr with
    | false => rfl
    | true =>
      rcases a.live x o ho with h0 | ⟨o', hV, hwr⟩
      · rw [h0] at hi; cases hi
      · have hwr := hwr hw; rw [hn o' hV] at hwr; cases hwr
  keep := by
    intro k hk hn
    rw [b.keep k (Nat.lt_of_lt_of_le hk a.size), a.keep k hk hn]
    intro x o1 i1 hx ho hi1 e
    rcases a.new x i1 hi1 with ⟨i, hi, ei⟩ | h
    · rcases a.live x o1 hx with h0 | ⟨o, hV, hwr⟩
      · rw [h0] at hi; cases hi
      · exact hn x o i hV (hwr ho) hi (ei.trans e)
    · omega

/-- A step of the whole memory: names grow, too. -/
structure Adv (ρ : Ren) (m : Mem) (w : World) (ρ' : Ren) (m' : Mem) (w' : World) : Prop where
  step : Step ρ m.view w ρ' m'.view w'
  next : m.next ≤ m'.next
  dom : ∀ b, b < m.next → ρ b = none → ρ' b = none
  pers : ∀ b, m.heap.get b ≠ none → m'.heap.get b ≠ none

theorem Adv.refl (ρ : Ren) (m : Mem) (w : World) : Adv ρ m w ρ m w := ⟨Step.refl _ _ _, Nat.le_refl _, fun _ _ h => h, fun _ h => h⟩

theorem Adv.trans {ρ ρ1 ρ2 : Ren} {m m1 m2 : Mem} {w w1 w2 : World} (a : Adv ρ m w ρ1 m1 w1) (b : Adv ρ1 m1 w1 ρ2 m2 w2) : Adv ρ m w ρ2 m2 w2 :=
  ⟨a.step.trans b.step, Nat.le_trans a.next b.next, fun x hx h => b.dom x (Nat.lt_of_lt_of_le hx a.next) (a.dom x hx h), fun x h => b.pers x (a.pers x h)⟩

theorem Adv.of_set {ρ ρ' : Ren} {m : Mem} {w w' : World} {b : Nat} {o : NObj} (hρ : ∀ x, ρ x = none → ρ' x = none) (s : Step ρ m.view w ρ' (Mem.view { m with heap := m.heap.set b o }) w') :
    Adv ρ m w ρ' { m with heap := m.heap.set b o } w' :=
  ⟨s, Nat.le_refl _, fun x _ h => hρ x h, fun x h => by
    show (m.heap.set b o).get x ≠ none
    rw [Tr.get_set]; split
    · simp
    · exact h⟩

theorem Adv.of_new {ρ ρ' : Ren} {m : Mem} {w w' : World} {o : NObj} (hρ : ∀ x, x ≠ m.next → ρ' x = ρ x) (s : Step ρ m.view w ρ' (m.new o).view w') : Adv ρ m w ρ' (m.new o) w' :=
  ⟨s, Nat.le_succ _, fun x hx h => by rw [hρ x (Nat.ne_of_lt hx)]; exact h, fun x h => by
    show (m.heap.set m.next o).get x ≠ none
    rw [Tr.get_set]; split
    · simp
    · exact h⟩

theorem MRel.mono {ρ ρ' : Ren} (h : ρ.le ρ') : ∀ {es : List (NV × NV)} {l : List MapEntry}, MRel ρ es l → MRel ρ' es l
  | [], _, r => r
  | (_, _) :: _, _, r => by
    obtain ⟨e, l', rfl, h1, h2, h3⟩ := r
    exact ⟨e, l', rfl, VRel.mono h _ _ h1, VRel.mono h _ _ h2, MRel.mono h h3⟩

/-- A block that lies where it lay, and that nobody wrote. -/
theorem BRel.keep {ρ ρ' : Ren} (h : ρ.le ρ') {w w' : World} {i : Inc} {o : NObj} (r : BRel ρ w i o) (hk : w'.heap[i.blk]? = w.heap[i.blk]?) : BRel ρ' w' i o := by
  cases o with
  | cells b =>
    obtain ⟨h1, h2, cs, e, fz, h3, h4, h5, h6⟩ := r
    refine ⟨h1, h2, cs, e, fz, hk.trans h3, h4, h5, fun j v hj hv => ?_⟩
    obtain ⟨v', h7, h8⟩ := h6 j v hj hv
    exact ⟨v', h7, VRel.mono h _ _ h8⟩
  | map es =>
    obtain ⟨h1, es', ck, h2, h3⟩ := r
    exact ⟨h1, es', ck, hk.trans h2, h3.mono h⟩
  | iter s pos =>
    obtain ⟨h1, h2, h3⟩ := r
    exact ⟨h1, h2, hk.trans h3⟩

theorem BRel.lt {ρ : Ren} {w : World} {i : Inc} {o : NObj} (r : BRel ρ w i o) : i.blk < w.heap.size := by
  have : ∃ x, w.heap[i.blk]? = some x := by
    cases o with
    | cells b => obtain ⟨_, _, cs, e, fz, h3, _⟩ := r; exact ⟨_, h3⟩
    | map es => obtain ⟨_, es', ck, h2, _⟩ := r; exact ⟨_, h2⟩
    | iter s pos => exact ⟨_, r.2.2⟩
  obtain ⟨x, hx⟩ := this
  exact (Array.getElem?_eq_some_iff.1 hx).1

/-- Fewer blocks: still related. -/
theorem MemRel.sub {ρ : Ren} {base n : Nat} {V V' : View} {w : World} (h : MemRel ρ base n V w) (hs : ∀ b o, V' b = some o → V b = some o) : MemRel ρ base n V' w where
  based := h.based
  fresh := h.fresh
  rel b o hb := h.rel b o (hs b o hb)
  inj b b' o o' i i' hb hb' := h.inj b b' o o' i i' (hs _ _ hb) (hs _ _ hb')
  own b o i hb := h.own b o i (hs _ _ hb)

/-! Reading cells. -/
section
variable {P : Program} {ρ : Ren} {base n : Nat} {V : View} {w : World}

theorem run_loadCellsFrom (a : Addr) : ∀ (k i : Nat) (acc : Array Value) (l : List Value), l.length = k → (∀ j v, l[j]? = some v → w.cell? (a.add (i + j)) = some v) →
    (loadCellsFrom a i k acc).run P w = .ok (acc ++ l.toArray) w := by
  intro k
  induction k with
  | zero =>
    intro i acc l hl _
    have : l = [] := List.length_eq_zero_iff.1 hl
    subst this; simp [loadCellsFrom]
  | succ k ih =>
    intro i acc l hl hc
    cases l with
    | nil => simp at hl
    | cons v l =>
      have h0 : w.cell? (a.add i) = some v := by simpa using hc 0 v (by simp)
      have := ih (i + 1) (acc.push v) l (by simpa using hl) (fun j u hj => by
        have := hc (j + 1) u (by simpa using hj)
        rw [show i + 1 + j = i + (j + 1) from by omega]; exact this)
      simp [loadCellsFrom, h0, this]

theorem cell?_of {i : Nat} {cs : Array Value} {e : TypeId} {fz : Nat × Nat} (h : w.heap[i]? = some (.cells cs e fz)) (j : Nat) : w.cell? ⟨i, j, none⟩ = cs[j]? := by
  simp [World.cell?, h]
theorem frozen?_of {i : Nat} {cs : Array Value} {e : TypeId} {fz : Nat × Nat} (h : w.heap[i]? = some (.cells cs e fz)) (j : Nat) : w.frozen? ⟨i, j, none⟩ = (decide (fz.1 ≤ j) && decide (j < fz.2)) := by
  simp [World.frozen?, h]

theorem getRange_get : ∀ {k : Nat} {b : Blk} {off : Nat} {l : List NV}, getRange b off k = some l → l.length = k ∧ ∀ j v, l[j]? = some v → b.get (off + j) = some v
  | 0, b, off, l, h => by simp [getRange] at h; subst h; simp
  | k + 1, b, off, l, h => by
    simp only [getRange] at h
    split at h
    · cases h
    · rename_i v hv
      split at h
      · cases h
      · rename_i r hr
        simp only [Option.some.injEq] at h; subst h
        obtain ⟨h1, h2⟩ := getRange_get hr
        refine ⟨by simp [h1], fun j u hj => ?_⟩
        cases j with
        | zero => simp at hj; subst hj; simpa using hv
        | succ j =>
          have := h2 j u (by simpa using hj)
          rw [show off + (j + 1) = off + 1 + j from by omega]; exact this

theorem add_add (b o i j : Nat) : (⟨b, o, none⟩ : Addr).add (i + j) = ⟨b, o + i + j, none⟩ := by
  unfold Addr.add
  split
  · have : i = 0 ∧ j = 0 := by omega
    obtain ⟨rfl, rfl⟩ := this; rfl
  · simp; omega

theorem add_lit (b o j : Nat) : (⟨b, o, none⟩ : Addr).add j = ⟨b, o + j, none⟩ := by
  unfold Addr.add
  split
  · subst_vars; rfl
  · rfl

/-- Some cells at an address. -/
theorem rdCells_sound (hm : MemRel ρ base n V w) {a : NA} {a' : Addr} (ha : ARel ρ a a') {k : Nat} {l : List NV} (h : rdCells V a k = some l) :
    ∃ l', (∀ w2 : World, w2.heap = w.heap → (loadCells a' k).run P w2 = .ok l' w2) ∧ VRels ρ l l'.toList ∧ l.length = k ∧ ∀ j v, l'.toList[j]? = some v → w.cell? (a'.add j) = some v := by
  unfold rdCells at h
  split at h
  · rename_i b hb
    simp only [cond_beq] at h
    split at h
    · rename_i hg
      obtain ⟨i, hi, hr⟩ := hm.rel _ _ hb
      obtain ⟨h1, h2, cs, e, fz, h3, h4, h5, h6⟩ := hr
      obtain ⟨i2, hi2, hgi, har⟩ := ha
      rw [hi] at hi2; cases hi2
      obtain ⟨hsh, rfl⟩ := har (by rw [hg, h1])
      obtain ⟨g1, g2⟩ := getRange_get h
      have key : ∀ j, j < k → ∃ v v', l[j]? = some v ∧ cs[a.off - i.sh + j]? = some v' ∧ VRel ρ v v' := by
        intro j hj
        have hlt : j < l.length := by omega
        obtain ⟨v', q1, q2⟩ := h6 (a.off + j) l[j] (by omega) (g2 j _ (List.getElem?_eq_getElem hlt))
        refine ⟨l[j], v', List.getElem?_eq_getElem hlt, ?_, q2⟩
        rw [← q1]; congr 1; omega
      let l' : List Value := (List.range k).map fun j => (cs[a.off - i.sh + j]?).getD default
      have hl' : l'.length = k := by simp [l']
      have hget : ∀ (j : Nat) v, l'[j]? = some v → w.cell? ⟨i.blk, a.off - i.sh + j, none⟩ = some v := by
        intro j v hj
        have hjk : j < k := by have := (List.getElem?_eq_some_iff.1 hj).1; omega
        obtain ⟨u, v', q0, q1, q2⟩ := key j hjk
        rw [cell?_of h3, q1]
        simp [l', hjk, q1] at hj
        rw [hj]
      refine ⟨l'.toArray, ?_, ?_, g1, ?_⟩
      · intro w2 hw2
        have := run_loadCellsFrom (P := P) (w := w2) ⟨i.blk, a.off - i.sh, none⟩ k 0 #[] l' hl' (fun j v hj => by
          rw [add_add]
          have h0 := hget j v hj
          simp only [World.cell?, hw2] at h0 ⊢
          simpa using h0)
        simpa [loadCells] using this
      · refine VRels.of_get (by simp [l', g1]) fun j x hx => ?_
        have hjk : j < k := by have := (List.getElem?_eq_some_iff.1 hx).1; omega
        obtain ⟨u, v', q0, q1, q2⟩ := key j hjk
        rw [q0] at hx; cases hx
        exact ⟨v', by simp [l', hjk, q1], q2⟩
      · intro j v hj
        rw [add_lit]; exact hget j v (by simpa using hj)
    · cases h
  · cases h

theorem rdVar_sound (hm : MemRel ρ base n V w) {a : NA} {a' : Addr} (ha : ARel ρ a a') {t : TypeId} {v : NV} (h : rdVar P V t a = some v) :
    ∃ v', (loadVar t a').run P w = .ok v' w ∧ VRel ρ v v' := by
  unfold rdVar at h
  cases hg : tyAgg P t with
  | none => simp [hg] at h
  | some b =>
    cases b with
    | true =>
      cases hs : tySize P t with
      | none => simp [hg, hs] at h
      | some k =>
        cases hr : rdCells V a k with
        | none => simp [hg, hs, hr] at h
        | some l =>
          simp [hg, hs, hr] at h; subst h
          obtain ⟨l', q1, q2, _, _⟩ := rdCells_sound (P := P) hm ha hr
          exact ⟨.agg l', by simp [loadVar, run_isAgg w hg, run_sizeOf w hs, q1 w rfl], ⟨l', rfl, q2⟩⟩
    | false =>
      simp only [hg] at h
      split at h
      · rename_i u hr
        simp only [Option.some.injEq] at h; subst h
        obtain ⟨l', q1, ⟨y, r, e, hy, hr'⟩, _, q3⟩ := rdCells_sound (P := P) hm ha hr
        have : r = [] := hr'
        subst this
        have hc : w.cell? a' = some y := by
          have := q3 0 y (by rw [e]; rfl)
          simpa [Addr.add] using this
        exact ⟨y, by simp [loadVar, run_isAgg w hg, hc], hy⟩
      · cases h
end
end Go.NI
