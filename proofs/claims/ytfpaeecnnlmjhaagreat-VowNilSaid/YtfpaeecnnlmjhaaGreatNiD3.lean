/- The nice interpreter: regions that draw their order. What each operation comes to. -/
import Derived.Test.YtfpaeecnnlmjhaaGreatNiD2
namespace Go.NI

section
variable {P : Program} {G : Nat} {call : CallF} {ops : Array Oper} {wr bf : Tr Nat} {f0 : Tr NV} {m m0 : Mem} {s : DSt}

structure Ctx (P : Program) (G : Nat) (call : CallF) (ops : Array Oper) (wr bf : Tr Nat) (f0 : Tr NV) (m m0 : Mem) (s : DSt) : Prop where
  w1 : ∀ i o d, ops[i]? = some o → o.dst = some d → wr.get d = some i
  w2 : ∀ d i, wr.get d = some i → ∃ o, ops[i]? = some o ∧ o.dst = some d
  mask : ∀ i o, ops[i]? = some o → ∀ x, (maskOf bf i).testBit x = true → ∃ e ∈ o.after, Region.binds .any e = true ∧ e.on < i ∧ (e.on = x ∨ (maskOf bf e.on).testBit x = true)
  edge : ∀ i o, ops[i]? = some o → ∀ e ∈ o.after, Region.binds .any e = true → e.on < i
  word : ∀ i j oi oj, ops[i]? = some oi → ops[j]? = some oj → isW P oi = true → isW P oj = true → i < j → (maskOf bf j).testBit i = true
  run : drawAll P G call m.next ops wr bf f0 0 ops.toList { f := f0, m := m0, made := [], states := [], reads := [] } = some s
  reads : ∀ r ∈ s.reads, readOk P G m.next wr bf s.made m0 f0 s.f r s.states = true
  start : m0 = { m with next := m.next + ops.size }

theorem Ctx.mask_lt (c : Ctx P G call ops wr bf f0 m m0 s) : ∀ (i : Nat) (o : Oper), ops[i]? = some o → ∀ x, (maskOf bf i).testBit x = true → x < i := by
  intro i
  induction i using Nat.strongRecOn with
  | ind i ih =>
    intro o ho x hx
    obtain ⟨e, _, _, h3, h4⟩ := c.mask i o ho x hx
    have hi : i < ops.size := (Array.getElem?_eq_some_iff.1 ho).1
    rcases h4 with h4 | h4
    · omega
    · have := ih e.on h3 ops[e.on] (Array.getElem?_eq_getElem (by omega)) x h4
      omega

/-- What operation 'i' comes to. -/
inductive Out (P : Program) (G : Nat) (call : CallF) (ops : Array Oper) (wr bf : Tr Nat) (f0 : Tr NV) (n0 : Nat) (m0 : Mem) (s : DSt) (i : Nat) (o : Oper) : Prop
  | skip (hw : wantedL ops (maskOf bf i) o s.f = some false) (hf : ∀ d, o.dst = some d → s.f.get d = some .undef) (hm : ∀ p ∈ s.made, p.1 ≠ i) (hs : ∀ p ∈ s.states, p.1 ≠ i)
  | comp (v : NV) (hw : wantedL ops (maskOf bf i) o s.f = some true) (h : opT P o.op (evL G wr bf i f0 s.f) = some v) (hf : ∀ d, o.dst = some d → s.f.get d = some v) (hm : ∀ p ∈ s.made, p.1 ≠ i) (hs : ∀ p ∈ s.states, p.1 ≠ i)
  | read (v : NV) (hw : wantedL ops (maskOf bf i) o s.f = some true) (h : (⟨i, o.op, v⟩ : Rd) ∈ s.reads) (hf : ∀ d, o.dst = some d → s.f.get d = some v) (hm : ∀ p ∈ s.made, p.1 ≠ i) (hs : ∀ p ∈ s.states, p.1 ≠ i)
  | made (ob : NObj) (mk : Nat → NV) (hw : wantedL ops (maskOf bf i) o s.f = some true) (h : opA P o.op (evL G wr bf i f0 s.f) = some (ob, mk)) (hf : ∀ d, o.dst = some d → s.f.get d = some (mk (n0 + i))) (hm : getA s.made i = some ob) (hs : ∀ p ∈ s.states, p.1 ≠ i)
  | wrote (v : NV) (m1 m2 : Mem) (hw : wantedL ops (maskOf bf i) o s.f = some true) (hc : isW P o = true) (h : opW P call o.op (evL G wr bf i f0 s.f) (commit n0 (maskOf bf i) s.made m1) = some (v, m2)) (hf : ∀ d, o.dst = some d → s.f.get d = some v)
      (hm : ∀ p ∈ s.made, p.1 ≠ i) (later older : List (Nat × Mem)) (hs : s.states = later ++ (i, m2) :: older) (hl : ∀ p ∈ later, i < p.1 ∧ ∃ o', ops[p.1]? = some o' ∧ isW P o' = true)
      (ho : ∀ p ∈ older, p.1 < i ∧ ∃ o', ops[p.1]? = some o' ∧ isW P o' = true) (ht : topOf m0 older = m1)

theorem commit_skip {n0 mask : Nat} : ∀ (pre l : List (Nat × NObj)) (m : Mem), (∀ p ∈ pre, mask.testBit p.1 = false) → commit n0 mask (pre ++ l) m = commit n0 mask l m
  | [], _, _, _ => rfl
  | (k, o) :: pre, l, m, h => by
    have h0 := h (k, o) (by simp)
    simp only at h0
    simp only [List.cons_append, commit, h0, cond_false]
    exact commit_skip pre l m fun p hp => h p (by simp [hp])

theorem Ctx.out (c : Ctx P G call ops wr bf f0 m m0 s) {i : Nat} {o : Oper} (ho : ops[i]? = some o) : Out P G call ops wr bf f0 m.next m0 s i o := by
  have hi : i < ops.size := (Array.getElem?_eq_some_iff.1 ho).1
  have hlist : ops.toList = ops.toList.take i ++ o :: ops.toList.drop (i + 1) := by
    have h1 : i < ops.toList.length := by simpa using hi
    have h2 : ops.toList[i] = o := by
      rw [Array.getElem?_eq_getElem hi] at ho
      simpa using ho
    conv => lhs; rw [← List.take_append_drop i ops.toList, List.drop_eq_getElem_cons h1, h2]
  have hrun := c.run
  rw [hlist] at hrun
  obtain ⟨s1, r1, r2⟩ := drawAll_split _ _ _ _ _ hrun
  have hlen : (ops.toList.take i).length = i := by simp; omega
  rw [hlen, Nat.zero_add] at r2
  have M1 := drawAll_mono (m0 := m0) _ _ _ _ r1
  have M2 := drawAll_mono (m0 := m0) _ _ _ _ r2
  simp only [drawAll] at r2
  split at r2
  · rename_i s2 hstep
    have M3 := drawAll_mono (m0 := m0) _ _ _ _ r2
    -- the operation's operands: as at the end
    have same : ∀ t j, wr.get t = some j → j < i → s.f.get t = s1.f.get t := by
      intro t j hj hji
      refine M2.f t fun o' ho' hd => ?_
      obtain ⟨k, hk⟩ := List.getElem?_of_mem ho'
      have hk' : ops[i + k]? = some o' := by
        have : ops.toList[i + k]? = some o' := by
          rw [hlist, List.getElem?_append_right (by omega), hlen, show i + k - i = k from by omega]
          exact hk
        simpa using this
      have := c.w1 _ _ _ hk' hd
      rw [hj] at this
      simp only [Option.some.injEq] at this
      omega
    have hev : evL G wr bf i f0 s1.f = evL G wr bf i f0 s.f := by
      funext x
      cases x with
      | tmp t =>
        simp only [evL]
        cases hw : wr.get t with
        | none => rfl
        | some j =>
          simp only
          cases hb : Nat.testBit (maskOf bf i) j with
          | false => rfl
          | true => simp only [cond_true, evO, same t j hw (c.mask_lt i o ho j hb)]
      | _ => rfl
    have hwant : wantedL ops (maskOf bf i) o s1.f = wantedL ops (maskOf bf i) o s.f := by
      unfold wantedL
      split
      · rfl
      · rename_i j want hg
        cases hb : Nat.testBit (maskOf bf i) j with
        | false => rfl
        | true =>
          simp only [cond_true]
          unfold wantedN
          simp only [hg]
          cases hd : (ops[j]?).bind (·.dst) with
          | none => rfl
          | some d =>
            have : wr.get d = some j := by
              cases hoj : ops[j]? with
              | none => rw [hoj] at hd; simp at hd
              | some oj => rw [hoj] at hd; exact c.w1 j oj d hoj (by simpa using hd)
            simp only [same d j this (c.mask_lt i o ho j hb)]
    have hdst : ∀ v, s2.f = putD s1.f o.dst v → ∀ d, o.dst = some d → s.f.get d = some v := by
      intro v hv d hd
      rw [M3.f d fun o' ho' hd' => ?_, hv, hd]
      · simp [putD, Tr.get_set]
      · obtain ⟨k, hk⟩ := List.getElem?_of_mem ho'
        have hk' : ops[i + 1 + k]? = some o' := by
          rw [List.getElem?_drop] at hk
          simpa using hk
        have h1 := c.w1 _ _ _ hk' hd'
        have h2 := c.w1 _ _ _ ho hd
        rw [h1] at h2
        simp only [Option.some.injEq] at h2
        omega
    obtain ⟨pm, em, hpm⟩ := M3.made
    obtain ⟨ps, es, hps⟩ := M3.states
    obtain ⟨pr, er⟩ := M3.reads
    obtain ⟨pm1, em1, hpm1⟩ := M1.made
    obtain ⟨ps1, es1, hps1⟩ := M1.states
    simp only [List.append_nil] at em1 es1
    have hmade1 : ∀ p ∈ s1.made, p.1 < i := by
      intro p hp; rw [em1] at hp
      have := (hpm1 p hp).2; omega
    have hst1 : ∀ p ∈ s1.states, p.1 < i ∧ ∃ o', ops[p.1]? = some o' ∧ isW P o' = true := by
      intro p hp; rw [es1] at hp
      obtain ⟨j, o', e, h1, h2⟩ := hps1 p hp
      rw [List.getElem?_take] at h1
      split at h1
      · rw [show p.1 = j from by omega]
        exact ⟨by assumption, o', by simpa using h1, h2⟩
      · cases h1
    have hst2 : ∀ p ∈ ps, i < p.1 ∧ ∃ o', ops[p.1]? = some o' ∧ isW P o' = true := by
      intro p hp
      obtain ⟨j, o', e, h1, h2⟩ := hps p hp
      rw [List.getElem?_drop] at h1
      exact ⟨by omega, o', by rw [e]; simpa using h1, h2⟩
    have nm : s2.made = s1.made → ∀ p ∈ s.made, p.1 ≠ i := by
      intro e p hp
      rw [em, e] at hp
      simp only [List.mem_append] at hp
      rcases hp with hp | hp
      · have := (hpm p hp).1; omega
      · have := hmade1 p hp; omega
    have ns : s2.states = s1.states → ∀ p ∈ s.states, p.1 ≠ i := by
      intro e p hp
      rw [es, e] at hp
      simp only [List.mem_append] at hp
      rcases hp with hp | hp
      · have := (hst2 p hp).1; omega
      · have := (hst1 p hp).1; omega
    have top1 : topOf m0 s1.states = s1.m := M1.m rfl
    unfold drawStep at hstep
    rw [hwant] at hstep
    split at hstep
    · rename_i hw
      split at hstep
      · split at hstep
        · rename_i v hv
          simp only [Option.some.injEq] at hstep; subst hstep
          rw [hev] at hv
          exact .comp v hw hv (hdst v rfl) (nm rfl) (ns rfl)
        · cases hstep
      · split at hstep
        · rename_i ob mk hv
          simp only [Option.some.injEq] at hstep; subst hstep
          rw [hev] at hv
          refine .made ob mk hw hv (hdst _ rfl) ?_ (ns rfl)
          rw [em, getA_append _ _ fun p hp => by have := (hpm p hp).1; omega]
          simp [getA]
        · cases hstep
      · split at hstep
        · rename_i v hv
          simp only [Option.some.injEq] at hstep; subst hstep
          refine .read v hw ?_ (hdst v rfl) (nm rfl) (ns rfl)
          rw [er]; simp
        · cases hstep
      · rename_i hc
        split at hstep
        · rename_i v m2 hv
          simp only [Option.some.injEq] at hstep; subst hstep
          rw [hev] at hv
          refine .wrote v s1.m m2 hw (by simp [isW, hc]) ?_ (hdst v rfl) (nm rfl) ps s1.states es hst2 hst1 top1
          rw [em, commit_skip]
          · exact hv
          · intro p hp
            cases hb : (maskOf bf i).testBit p.1 with
            | false => rfl
            | true =>
              have := c.mask_lt i o ho _ hb
              have := (hpm p hp).1; omega
        · cases hstep
    · rename_i hw
      simp only [Option.some.injEq] at hstep; subst hstep
      exact .skip hw (hdst _ rfl) (nm rfl) (ns rfl)
    · cases hstep
  · cases r2
end
end Go.NI
