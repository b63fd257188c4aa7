/- The nice interpreter: regions that draw their order are sound. -/
import Derived.Test.YtfpaeecnnlmjhaaGreatNiD3
namespace Go.NI

section
variable {P : Program} {G base : Nat} {call : CallF} {ops : Array Oper} {wr bf : Tr Nat} {f0 : Tr NV} {m m0 : Mem} {s : DSt} {n : Nat} {ρ0 : Ren} {w0 : World}

def memS (m0 : Mem) (s : DSt) (S : Nat → Bool) : Mem := memAt S m0 s.states
def viewS (n0 : Nat) (m0 : Mem) (s : DSt) (S : Nat → Bool) : View := viewP n0 S s.made (memS m0 s S)

def frameS (wr : Tr Nat) (f0 F : Tr NV) (S : Nat → Bool) (t : Nat) : Option NV :=
  match wr.get t with
  | none => f0.get t
  | some j => if S j = true then F.get t else f0.get t

structure Inv (G base n : Nat) (ops : Array Oper) (wr : Tr Nat) (f0 : Tr NV) (m m0 : Mem) (s : DSt) (ρ0 : Ren) (w0 : World) (S : Nat → Bool) (ρ : Ren) (a : Act) (w : World) : Prop where
  frame : ∀ t v, frameS wr f0 s.f S t = some v → VRel ρ v (a.tmps.getD t Go.undef)
  size : a.tmps.size = n
  defers : a.defers = []
  mem : MemRel ρ base (memS m0 s S).next (viewS m.next m0 s S) w
  step : Step ρ0 m.view w0 ρ (viewS m.next m0 s S) w
  glob : Glob G ρ (viewS m.next m0 s S)
  next : m.next + ops.size ≤ (memS m0 s S).next
  free : ∀ y, y < ops.size → S y = false → ρ (m.next + y) = none
  dom : ∀ b, b < m.next → ρ0 b = none → ρ b = none
  pers : ∀ b, m.heap.get b ≠ none → (memS m0 s S).heap.get b ≠ none

def Sset (S : Nat → Bool) (i : Nat) : Nat → Bool := fun j => if j = i then true else S j

theorem Inv.put (c : Ctx P G call ops wr bf f0 m m0 s) {S : Nat → Bool} {ρ ρ' : Ren} {a : Act} {w w' : World} (h : Inv G base n ops wr f0 m m0 s ρ0 w0 S ρ a w) {i : Nat} {o : Oper} (ho : ops[i]? = some o)
    {v : NV} {v' : Value} (hf : ∀ d, o.dst = some d → s.f.get d = some v) (hv : VRel ρ' v v') (hd : ∀ d, o.dst = some d → d < n)
    (hm : MemRel ρ' base (memS m0 s (Sset S i)).next (viewS m.next m0 s (Sset S i)) w') (hs : Step ρ (viewS m.next m0 s S) w ρ' (viewS m.next m0 s (Sset S i)) w')
    (hn : (memS m0 s S).next ≤ (memS m0 s (Sset S i)).next) (hfree : ∀ b, b < m.next + ops.size → b ≠ m.next + i → ρ b = none → ρ' b = none)
    (hp : ∀ b, (memS m0 s S).heap.get b ≠ none → (memS m0 s (Sset S i)).heap.get b ≠ none) :
    Inv G base n ops wr f0 m m0 s ρ0 w0 (Sset S i) ρ' (a.put o.dst v') w' where
  frame := by
    intro t u hu
    by_cases e : o.dst = some t
    · have h1 := c.w1 i o t ho e
      have h2 := hf t e
      have ht := hd t e
      simp only [frameS, h1, Sset, if_true, h2, Option.some.injEq] at hu
      subst hu
      rw [e]
      simp only [Act.put, Array.getD_eq_getD_getElem?, Array.getElem?_setIfInBounds, if_true]
      rw [h.size, if_pos ht]
      exact hv
    · have e1 : frameS wr f0 s.f (Sset S i) t = frameS wr f0 s.f S t := by
        unfold frameS
        cases hw : wr.get t with
        | none => rfl
        | some j =>
          have hji : j ≠ i := by
            intro ej; subst ej
            obtain ⟨o', ho', hd'⟩ := c.w2 t j hw
            rw [ho] at ho'; cases ho'
            exact e hd'
          have : Sset S i j = S j := by simp [Sset, hji]
          simp only [this]
      have e2 : (a.put o.dst v').tmps.getD t Go.undef = a.tmps.getD t Go.undef := by
        cases hd : o.dst with
        | none => rfl
        | some d =>
          have : d ≠ t := by intro ed; subst ed; exact e hd
          simp only [Act.put, Array.getD_eq_getD_getElem?, Array.getElem?_setIfInBounds_ne this]
      rw [e1] at hu
      rw [e2]
      exact VRel.mono hs.le _ _ (h.frame t u hu)
  size := by rw [put_size]; exact h.size
  defers := by rw [put_defers]; exact h.defers
  mem := hm
  step := h.step.trans hs
  glob := h.glob.step hs
  next := Nat.le_trans h.next hn
  free := by
    intro y hy hS
    have hyi : y ≠ i := by intro e; subst e; simp [Sset] at hS
    simp only [Sset, if_neg hyi] at hS
    exact hfree _ (by omega) (by omega) (h.free y hy hS)
  dom := fun b hb hr => hfree b (by omega) (by omega) (h.dom b hb hr)
  pers := fun b hb => hp b (h.pers b hb)

/-- Nothing but 'listed' has changed. -/
theorem quiet {S : Nat → Bool} {i : Nat} (hm : ∀ p ∈ s.made, p.1 ≠ i) (hs : ∀ p ∈ s.states, p.1 ≠ i) : memS m0 s (Sset S i) = memS m0 s S ∧ viewS m.next m0 s (Sset S i) = viewS m.next m0 s S := by
  have h1 : memS m0 s (Sset S i) = memS m0 s S := memAt_congr _ fun p hp => by simp [Sset, hs p hp]
  refine ⟨h1, ?_⟩
  unfold viewS
  rw [h1]
  funext b
  unfold viewP
  split
  · rfl
  · by_cases e : b - m.next = i
    · have : getA s.made (b - m.next) = none := getA_none _ fun p hp => by rw [e]; exact hm p hp
      rw [this]
      cases (Nat.ble m.next b && Sset S i (b - m.next)) <;> cases (Nat.ble m.next b && S (b - m.next)) <;> rfl
    · simp only [Sset, if_neg e]

theorem Inv.quietPut (c : Ctx P G call ops wr bf f0 m m0 s) {S : Nat → Bool} {ρ : Ren} {a : Act} {w : World} (h : Inv G base n ops wr f0 m m0 s ρ0 w0 S ρ a w) {i : Nat} {o : Oper} (ho : ops[i]? = some o)
    {v : NV} {v' : Value} (hf : ∀ d, o.dst = some d → s.f.get d = some v) (hv : VRel ρ v v') (hd : ∀ d, o.dst = some d → d < n) (hm : ∀ p ∈ s.made, p.1 ≠ i) (hs : ∀ p ∈ s.states, p.1 ≠ i) :
    Inv G base n ops wr f0 m m0 s ρ0 w0 (Sset S i) ρ (a.put o.dst v') w := by
  obtain ⟨e1, e2⟩ := quiet (m := m) (m0 := m0) (S := S) hm hs
  refine h.put c ho hf hv hd ?_ ?_ ?_ (fun _ _ _ h => h) ?_
  · rw [e1, e2]; exact h.mem
  · rw [e2]; exact Step.refl _ _ _
  · rw [e1]; exact Nat.le_refl _
  · rw [e1]; exact fun _ h => h

/-- The operands of an operation whose turn it is. -/
theorem Inv.ev {S : Nat → Bool} {ρ : Ren} {a : Act} {w : World} (h : Inv G base n ops wr f0 m m0 s ρ0 w0 S ρ a w) {i : Nat}
    (hi : S i = false) (hmask : ∀ x, (maskOf bf i).testBit x = true → S x = true) (hdc : ∀ j, S j = true → ∀ x, (maskOf bf j).testBit x = true → S x = true) : EvRel ρ (evL G wr bf i f0 s.f) a.eval := by
  intro x v hx
  cases x with
  | tmp t =>
    have hr := h.frame t v
    simp only [evL] at hx
    unfold frameS at hr
    cases hw : wr.get t with
    | none =>
      simp only [hw, evO] at hx hr
      exact hr hx
    | some j =>
      simp only [hw] at hx hr
      cases hb : Nat.testBit (maskOf bf i) j with
      | true =>
        simp only [hb, cond_true, evO] at hx
        rw [if_pos (hmask j hb)] at hr
        exact hr hx
      | false =>
        cases hc : (Nat.beq j i || Nat.testBit (maskOf bf j) i) with
        | false => simp [hb, hc] at hx
        | true =>
          simp only [hb, hc, cond_true, cond_false, evO] at hx
          have hj : S j = false := by
            cases hj : S j with
            | false => rfl
            | true =>
              simp only [Bool.or_eq_true] at hc
              rcases hc with hc | hc
              · rw [Nat.eq_of_beq_eq_true hc, hi] at hj; cases hj
              · rw [hdc j hj i hc] at hi; cases hi
          rw [hj] at hr
          simp only [Bool.false_eq_true, if_false] at hr
          exact hr hx
  | const k => exact ofValue_rel ρ hx
  | global g =>
    simp only [evL, evO, cond_blt] at hx
    split at hx
    · rename_i hlt
      simp only [Option.some.injEq] at hx; subst hx
      obtain ⟨⟨t, ht⟩, _⟩ := h.glob g hlt
      exact ⟨_, rfl, _, ht, Nat.le_refl _, fun _ => ⟨Nat.zero_le _, rfl⟩⟩
    · cases hx
  | func g => simp only [evL, evO, Option.some.injEq] at hx; subst hx; exact ⟨#[], #[], rfl, rfl, rfl⟩

theorem Inv.wanted (c : Ctx P G call ops wr bf f0 m m0 s) {S : Nat → Bool} {ρ : Ren} {a : Act} {w : World} (h : Inv G base n ops wr f0 m m0 s ρ0 w0 S ρ a w) {i : Nat} {o : Oper}
    (hmask : ∀ x, (maskOf bf i).testBit x = true → S x = true) {b : Bool} (hw : wantedL ops (maskOf bf i) o s.f = some b) : Region.wanted o (yielded ops a.tmps) = b := by
  unfold wantedL at hw
  cases hg : o.guard with
  | none => rw [hg] at hw; simp only [Option.some.injEq] at hw; subst hw; simp [Region.wanted, hg]
  | some p =>
    obtain ⟨j, want⟩ := p
    rw [hg] at hw
    simp only at hw
    cases hb : Nat.testBit (maskOf bf i) j with
    | false => simp [hb] at hw
    | true =>
      simp only [hb, cond_true] at hw
      -- only the guard's slot is looked at
      cases hd : (ops[j]?).bind (·.dst) with
      | none =>
        unfold wantedN at hw
        simp only [hg, hd, Option.some.injEq] at hw
        subst hw
        unfold Region.wanted yielded
        simp only [hg, hd]; rfl
      | some d =>
        have hwr : wr.get d = some j := by
          cases hoj : ops[j]? with
          | none => rw [hoj] at hd; simp at hd
          | some oj => rw [hoj] at hd; exact c.w1 j oj d hoj (by simpa using hd)
        refine wanted_eq (ρ := ρ) (f := Tr.fn fun t => if t = d then s.f.get d else none) (a := a) (fun t u hu => ?_) ops o ?_
        · simp only [Tr.get] at hu
          by_cases e : t = d
          · subst e
            rw [if_pos rfl] at hu
            exact h.frame t u (by simp only [frameS, hwr, hmask j hb, if_true]; exact hu)
          · rw [if_neg e] at hu; cases hu
        · rw [← hw]
          unfold wantedN
          simp only [hg, hd, Tr.get, if_true]
end
end Go.NI
