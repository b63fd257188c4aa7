/- The nice interpreter: regions that draw their order. The run in the text's order; a part of the memory changes. -/
import Derived.Test.YtfpaeecnnlmjhaaGreatNiD1
namespace Go.NI

def memAt (S : Nat → Bool) (m0 : Mem) : List (Nat × Mem) → Mem
  | [] => m0
  | (k, m) :: r => if S k = true then m else memAt S m0 r

def topOf (m0 : Mem) : List (Nat × Mem) → Mem
  | [] => m0
  | (_, m) :: _ => m

theorem memAt_skip {S : Nat → Bool} {m0 : Mem} : ∀ (pre l : List (Nat × Mem)), (∀ p ∈ pre, S p.1 = false) → memAt S m0 (pre ++ l) = memAt S m0 l
  | [], _, _ => rfl
  | (k, m) :: pre, l, h => by
    have h0 := h (k, m) (by simp)
    simp only [List.cons_append, memAt, h0, Bool.false_eq_true, if_false]
    exact memAt_skip pre l fun p hp => h p (by simp [hp])

theorem memAt_congr {S S' : Nat → Bool} {m0 : Mem} : ∀ (l : List (Nat × Mem)), (∀ p ∈ l, S p.1 = S' p.1) → memAt S m0 l = memAt S' m0 l
  | [], _ => rfl
  | (k, m) :: l, h => by
    have h0 := h (k, m) (by simp)
    simp only at h0
    simp only [memAt, h0]
    rw [memAt_congr l fun p hp => h p (by simp [hp])]

theorem memAt_mem {S : Nat → Bool} {m0 : Mem} {Q : Mem → Prop} (h0 : Q m0) : ∀ (l : List (Nat × Mem)), (∀ p ∈ l, Q p.2) → Q (memAt S m0 l)
  | [], _ => h0
  | (k, m) :: l, h => by
    simp only [memAt]
    split
    · exact h (k, m) (by simp)
    · exact memAt_mem h0 l fun p hp => h p (by simp [hp])

theorem getA_append {y : Nat} : ∀ (pre l : List (Nat × NObj)), (∀ p ∈ pre, p.1 ≠ y) → getA (pre ++ l) y = getA l y
  | [], _, _ => rfl
  | (k, o) :: pre, l, h => by
    have h0 := h (k, o) (by simp)
    simp only at h0
    simp only [List.cons_append, getA, cond_beq, h0, if_false]
    exact getA_append pre l fun p hp => h p (by simp [hp])

theorem getA_none {y : Nat} (l : List (Nat × NObj)) (h : ∀ p ∈ l, p.1 ≠ y) : getA l y = none := by
  have := getA_append l [] h
  simpa [getA] using this

section
variable {P : Program} {G : Nat} {call : CallF} {n0 : Nat} {ops : Array Oper} {wr bf : Tr Nat} {f0 : Tr NV} {m0 : Mem}

theorem drawStep_shape {i : Nat} {o : Oper} {s s' : DSt} (h : drawStep P G call n0 ops wr bf f0 i o s = some s') :
    (∃ v, s'.f = putD s.f o.dst v) ∧ (s'.made = s.made ∨ ∃ ob, s'.made = (i, ob) :: s.made) ∧ ((s'.states = s.states ∧ s'.m = s.m) ∨ (isW P o = true ∧ s'.states = (i, s'.m) :: s.states)) ∧
      ∃ pre, s'.reads = pre ++ s.reads := by
  unfold drawStep at h
  split at h
  · split at h
    · split at h
      · simp only [Option.some.injEq] at h; subst h
        exact ⟨⟨_, rfl⟩, .inl rfl, .inl ⟨rfl, rfl⟩, [], rfl⟩
      · cases h
    · split at h
      · simp only [Option.some.injEq] at h; subst h
        exact ⟨⟨_, rfl⟩, .inr ⟨_, rfl⟩, .inl ⟨rfl, rfl⟩, [], rfl⟩
      · cases h
    · split at h
      · simp only [Option.some.injEq] at h; subst h
        exact ⟨⟨_, rfl⟩, .inl rfl, .inl ⟨rfl, rfl⟩, [_], rfl⟩
      · cases h
    · rename_i hc
      split at h
      · simp only [Option.some.injEq] at h; subst h
        exact ⟨⟨_, rfl⟩, .inl rfl, .inr ⟨by simp [isW, hc], rfl⟩, [], rfl⟩
      · cases h
  · simp only [Option.some.injEq] at h; subst h
    exact ⟨⟨_, rfl⟩, .inl rfl, .inl ⟨rfl, rfl⟩, [], rfl⟩
  · cases h

structure Mono (P : Program) (m0 : Mem) (i : Nat) (l : List Oper) (s s' : DSt) : Prop where
  made : ∃ pre, s'.made = pre ++ s.made ∧ ∀ p ∈ pre, i ≤ p.1 ∧ p.1 < i + l.length
  states : ∃ pre, s'.states = pre ++ s.states ∧ ∀ p ∈ pre, ∃ j o, p.1 = i + j ∧ l[j]? = some o ∧ isW P o = true
  reads : ∃ pre, s'.reads = pre ++ s.reads
  f : ∀ t, (∀ o ∈ l, o.dst ≠ some t) → s'.f.get t = s.f.get t
  m : topOf m0 s.states = s.m → topOf m0 s'.states = s'.m

theorem drawAll_mono : ∀ (l : List Oper) (i : Nat) (s s' : DSt), drawAll P G call n0 ops wr bf f0 i l s = some s' → Mono P m0 i l s s'
  | [], i, s, s', h => by
    simp only [drawAll, Option.some.injEq] at h; subst h
    exact ⟨⟨[], rfl, by simp⟩, ⟨[], rfl, by simp⟩, ⟨[], rfl⟩, fun _ _ => rfl, fun h => h⟩
  | o :: l, i, s, s', h => by
    simp only [drawAll] at h
    split at h
    · rename_i s1 h1
      obtain ⟨⟨v, a1⟩, a2, a3, ⟨pr, a4⟩⟩ := drawStep_shape h1
      obtain ⟨⟨p1, b1, c1⟩, ⟨p2, b2, c2⟩, ⟨p3, b3⟩, b4, b5⟩ := drawAll_mono l (i + 1) s1 s' h
      refine ⟨?_, ?_, ⟨p3 ++ pr, by rw [b3, a4, List.append_assoc]⟩, fun t ht => ?_, fun ht => b5 ?_⟩
      · rcases a2 with a2 | ⟨ob, a2⟩
        · exact ⟨p1, by rw [b1, a2], fun p hp => by have := c1 p hp; simp only [List.length_cons]; omega⟩
        · refine ⟨p1 ++ [(i, ob)], by rw [b1, a2]; simp, fun p hp => ?_⟩
          simp only [List.mem_append, List.mem_singleton] at hp
          simp only [List.length_cons]
          rcases hp with hp | rfl
          · have := c1 p hp; omega
          · simp
      · have up : ∀ p ∈ p2, ∃ j o', p.1 = i + j ∧ (o :: l)[j]? = some o' ∧ isW P o' = true := by
          intro p hp
          obtain ⟨j, o', e, g1, g2⟩ := c2 p hp
          exact ⟨j + 1, o', by omega, by simpa using g1, g2⟩
        rcases a3 with ⟨a3, _⟩ | ⟨hw, a3⟩
        · exact ⟨p2, by rw [b2, a3], up⟩
        · refine ⟨p2 ++ [(i, s1.m)], by rw [b2, a3]; simp, fun p hp => ?_⟩
          simp only [List.mem_append, List.mem_singleton] at hp
          rcases hp with hp | rfl
          · exact up p hp
          · exact ⟨0, o, rfl, rfl, hw⟩
      · rw [b4 t fun o' ho' => ht o' (by simp [ho']), a1]
        have hd := ht o (by simp)
        cases he : o.dst with
        | none => rfl
        | some d =>
          simp only [putD, Tr.get_set]
          rw [if_neg]
          intro e; subst e; exact hd he
      · rcases a3 with ⟨a3, a3'⟩ | ⟨_, a3⟩
        · rw [a3, a3']; exact ht
        · rw [a3]; rfl
    · cases h

theorem drawAll_split : ∀ (l1 l2 : List Oper) (i : Nat) (s s' : DSt), drawAll P G call n0 ops wr bf f0 i (l1 ++ l2) s = some s' →
    ∃ s1, drawAll P G call n0 ops wr bf f0 i l1 s = some s1 ∧ drawAll P G call n0 ops wr bf f0 (i + l1.length) l2 s1 = some s'
  | [], l2, i, s, s', h => ⟨s, rfl, h⟩
  | o :: l1, l2, i, s, s', h => by
    simp only [List.cons_append, drawAll] at h
    split at h
    · rename_i s1 h1
      obtain ⟨s2, q1, q2⟩ := drawAll_split l1 l2 (i + 1) s1 s' h
      refine ⟨s2, by simp only [drawAll, h1]; exact q1, ?_⟩
      rw [List.length_cons, show i + (l1.length + 1) = i + 1 + l1.length from by omega]
      exact q2
    · cases h
end

section
variable {ρ ρ' : Ren} {base n n' : Nat} {V V' N N' : View} {w w' : World}

theorem Step.extend (s : Step ρ V w ρ' V' w') (hV : ∀ b o, V b = some o → N b = some o) (hN : ∀ b o, N' b = some o → V' b = some o ∨ (V b = none ∧ N b = some o)) : Step ρ N w ρ' N' w' where
  le := s.le
  new := s.new
  live := by
    intro b o hb
    rcases hN b o hb with h | ⟨_, h⟩
    · rcases s.live b o h with h1 | ⟨o', h1, h2⟩
      · exact .inl h1
      · exact .inr ⟨o', hV _ _ h1, h2⟩
    · exact .inr ⟨o, h, fun h => h⟩
  os := s.os
  tape := s.tape
  output := s.output
  size := s.size
  stay := fun b i hi hn => s.stay b i hi fun o ho => hn o (hV _ _ ho)
  keep := fun k hk hn => s.keep k hk fun b o i ho hw hi => hn b o i (hV _ _ ho) hw hi

theorem MemRel.extend (hm : MemRel ρ base n N w) (hm' : MemRel ρ' base n' V' w') (s : Step ρ V w ρ' V' w') (hV : ∀ b o, V b = some o → N b = some o)
    (hN : ∀ b o, N' b = some o → V' b = some o ∨ (V b = none ∧ N b = some o)) : MemRel ρ' base n' N' w' := by
  have ext : ∀ b o, V b = none → N b = some o → ∃ i, ρ b = some i ∧ ρ' b = some i ∧ BRel ρ w i o ∧ BRel ρ' w' i o := by
    intro b o hb ho
    obtain ⟨i, hi, hr⟩ := hm.rel b o ho
    refine ⟨i, hi, s.stay b i hi (fun o' ho' => by rw [hb] at ho'; cases ho'), hr, hr.keep s.le (s.keep _ hr.lt fun b' o' i' h1 h2 h3 => ?_)⟩
    refine hm.inj b' b o' o i' i (hV _ _ h1) ho h2 (fun e => ?_) h3 hi
    subst e; rw [hb] at h1; cases h1
  constructor
  · exact hm'.based
  · exact hm'.fresh
  · intro b o hb
    rcases hN b o hb with h | ⟨h1, h2⟩
    · exact hm'.rel b o h
    · obtain ⟨i, _, h3, _, h4⟩ := ext b o h1 h2
      exact ⟨i, h3, h4⟩
  · intro b b' o o' i i' hb hb' hwr hne hi hi'
    rcases hN b o hb with h | ⟨h1, h2⟩
    · rcases hN b' o' hb' with h' | ⟨h1', h2'⟩
      · exact hm'.inj b b' o o' i i' h h' hwr hne hi hi'
      · obtain ⟨j, hj, hj', hr, _⟩ := ext b' o' h1' h2'
        rw [hj'] at hi'; cases hi'
        rcases s.new b i hi with ⟨k, hk, ek⟩ | hsz
        · rcases s.live b o h with h0 | ⟨o1, ho1, hw1⟩
          · rw [h0] at hk; cases hk
          · rw [← ek]; exact hm.inj b b' o1 o' k i' (hV _ _ ho1) h2' (hw1 hwr) hne hk hj
        · have := hr.lt; omega
    · obtain ⟨j, hj, hj', hr, _⟩ := ext b o h1 h2
      rw [hj'] at hi; cases hi
      rcases hN b' o' hb' with h' | ⟨h1', h2'⟩
      · rcases s.new b' i' hi' with ⟨k, hk, ek⟩ | hsz
        · rcases s.live b' o' h' with h0 | ⟨o1, ho1, _⟩
          · rw [h0] at hk; cases hk
          · rw [← ek]; exact hm.inj b b' o o1 i k h2 (hV _ _ ho1) hwr hne hj hk
        · have := hr.lt; omega
      · obtain ⟨k, hk, hk', _, _⟩ := ext b' o' h1' h2'
        rw [hk'] at hi'; cases hi'
        exact hm.inj b b' o o' i i' h2 h2' hwr hne hj hk
  · intro b o i hb hwr hi
    rcases hN b o hb with h | ⟨h1, h2⟩
    · exact hm'.own b o i h hwr hi
    · obtain ⟨j, hj, hj', _, _⟩ := ext b o h1 h2
      rw [hj'] at hi; cases hi
      exact hm.own b o i h2 hwr hj

theorem MemRel.world (hm : MemRel ρ base n V w) (h : w'.heap = w.heap) : MemRel ρ base n V w' where
  based := by rw [h]; exact hm.based
  fresh := hm.fresh
  rel b o hb := by
    obtain ⟨i, hi, hr⟩ := hm.rel b o hb
    exact ⟨i, hi, hr.keep (Ren.le_refl ρ) (by rw [h])⟩
  inj := hm.inj
  own := hm.own
end
end Go.NI
