/- The nice interpreter: regions that draw their order are sound, put together. -/
import Derived.Test.YtfpaeecnnlmjhaaGreatNiD4
namespace Go.NI

section
variable {P : Program} {G base : Nat} {call : CallF} {ops : Array Oper} {wr bf : Tr Nat} {f0 : Tr NV} {m m0 : Mem} {s : DSt} {n : Nat} {ρ0 : Ren} {w0 : World}

theorem readNow_at {n0 : Nat} {made : List (Nat × NObj)} {F : Tr NV} {S : Nat → Bool} {r : Rd} (hi : S r.i = false) (hmask : ∀ x, (maskOf bf r.i).testBit x = true → S x = true)
    (hdc : ∀ j, S j = true → ∀ x, (maskOf bf j).testBit x = true → S x = true) : ∀ (l : List (Nat × Mem)), readOk P G n0 wr bf made m0 f0 F r l = true → readNow P G n0 wr bf made f0 F r (memAt S m0 l) = true
  | [], h => h
  | (k, mk) :: l, h => by
    simp only [readOk] at h
    simp only [memAt]
    cases hb : Nat.testBit (maskOf bf k) r.i with
    | true =>
      simp only [hb, cond_true] at h
      have : S k = false := by
        cases hk : S k with
        | false => rfl
        | true => rw [hdc k hk _ hb] at hi; cases hi
      rw [this]
      exact readNow_at hi hmask hdc l h
    | false =>
      simp only [hb, cond_false, Bool.and_eq_true] at h
      cases hk : S k with
      | true => exact h.1
      | false =>
        have : Nat.testBit (maskOf bf r.i) k = false := by
          cases hc : Nat.testBit (maskOf bf r.i) k with
          | false => rfl
          | true => rw [hmask k hc] at hk; cases hk
        simp only [this, cond_false] at h
        exact readNow_at hi hmask hdc l h.2

theorem Inv.go (c : Ctx P G call ops wr bf f0 m m0 s) (hcall : CallOk P G base call) {S : Nat → Bool} {ρ : Ren} {a : Act} {w : World} (h : Inv G base n ops wr f0 m m0 s ρ0 w0 S ρ a w) {i : Nat} {o : Oper}
    (ho : ops[i]? = some o) (hi : S i = false) (hmask : ∀ x, (maskOf bf i).testBit x = true → S x = true) (hdc : ∀ j, S j = true → ∀ x, (maskOf bf j).testBit x = true → S x = true) (hd : ∀ d, o.dst = some d → d < n)
    {Q : Exit → Act → World → Prop} {K : Act → World → Prop} (hK : ∀ ρ' a' w', Inv G base n ops wr f0 m m0 s ρ0 w0 (Sset S i) ρ' a' w' → K a' w') : wpOp P ops Q i K a w := by
  have hin : i < ops.size := (Array.getElem?_eq_some_iff.1 ho).1
  have hev := h.ev (bf := bf) hi hmask hdc
  cases c.out ho with
  | skip hw hf hm hs =>
    simp only [wpOp, ho, h.wanted c hmask hw, Bool.false_eq_true, if_false]
    exact hK _ _ _ (h.quietPut c ho hf (VRel.undef ρ) hd hm hs)
  | comp v hw ht hf hm hs =>
    simp only [wpOp, ho, h.wanted c hmask hw, if_true]
    left
    obtain ⟨v', q1, q2⟩ := opT_sound hev o ht w
    refine upon_of_next (R := fun v2 w2 => v2 = v' ∧ w2 = w) (by rw [q1]; exact ⟨rfl, rfl⟩) ?_
    rintro _ _ ⟨rfl, rfl⟩
    exact hK _ _ _ (h.quietPut c ho hf q2 hd hm hs)
  | read v hw hr hf hm hs =>
    simp only [wpOp, ho, h.wanted c hmask hw, if_true]
    left
    have hnow := readNow_at (r := ⟨i, o.op, v⟩) hi hmask hdc _ (c.reads _ hr)
    unfold readNow at hnow
    simp only at hnow
    split at hnow
    · rename_i u hu
      have := eqNV_eq _ _ hnow
      subst this
      obtain ⟨v', q1, q2⟩ := opR_sound (h.mem.sub fun b o hb => viewP_mono hmask hb) hev o hu
      refine upon_of_next (R := fun v2 w2 => v2 = v' ∧ w2 = w) (by rw [q1]; exact ⟨rfl, rfl⟩) ?_
      rintro _ _ ⟨rfl, rfl⟩
      exact hK _ _ _ (h.quietPut c ho hf q2 hd hm hs)
    · cases hnow
  | made ob mk hw ha hf hm hs =>
    simp only [wpOp, ho, h.wanted c hmask hw, if_true]
    left
    have hlt : m.next + i < (memS m0 s S).next := by have := h.next; omega
    obtain ⟨v', w', ρ', q1, q2, q3, q4, q5⟩ := opA_sound h.mem hev o ha (h.free i hin hi) (Nat.le_refl _) hlt
    have e1 : memS m0 s (Sset S i) = memS m0 s S := memAt_congr _ fun p hp => by simp [Sset, hs p hp]
    have hnone : (memS m0 s S).heap.get (m.next + i) = none := by
      cases hx : (memS m0 s S).heap.get (m.next + i) with
      | none => rfl
      | some x =>
        obtain ⟨j, hj, _⟩ := h.mem.rel (m.next + i) x (by simp [viewS, viewP, hx])
        rw [h.free i hin hi] at hj; cases hj
    have e2 : viewS m.next m0 s (Sset S i) = fun b => if b = m.next + i then some ob else viewS m.next m0 s S b := by
      funext b
      unfold viewS
      rw [e1]
      unfold viewP
      by_cases e : b = m.next + i
      · subst e
        have hle : Nat.ble m.next (m.next + i) = true := by simp
        simp only [hnone, hle, Nat.add_sub_cancel_left, Sset, if_true, Bool.and_self, cond_true, hm]
      · rw [if_neg e]
        split
        · rfl
        · cases hb : Nat.ble m.next b with
          | false => rfl
          | true =>
            have : b - m.next ≠ i := by
              intro e3
              have : m.next ≤ b := by simpa using hb
              exact e (by omega)
            simp only [Sset, if_neg this]
    refine upon_of_next (R := fun v2 w2 => v2 = v' ∧ w2 = w') (by rw [q1]; exact ⟨rfl, rfl⟩) ?_
    rintro _ _ ⟨rfl, rfl⟩
    refine hK _ _ _ (h.put c ho hf q2 hd ?_ ?_ ?_ ?_ ?_)
    · rw [e1, e2]; exact q3
    · rw [e2]; exact q4
    · rw [e1]; exact Nat.le_refl _
    · intro b _ hb hr; rw [q5 b hb]; exact hr
    · rw [e1]; exact fun _ h => h
  | wrote v m1 m2 hw hc ht hf hm later older hs hl hol htop =>
    simp only [wpOp, ho, h.wanted c hmask hw, if_true]
    left
    have later_no : ∀ p ∈ later, S p.1 = false := by
      intro p hp
      obtain ⟨h1, o', h2, h3⟩ := hl p hp
      cases hk : S p.1 with
      | false => rfl
      | true => rw [hdc _ hk i (c.word i p.1 o o' ho h2 hc h3 h1)] at hi; cases hi
    have eM : memS m0 s S = m1 := by
      unfold memS
      rw [hs, memAt_skip _ _ later_no]
      simp only [memAt, hi, Bool.false_eq_true, if_false]
      rw [← htop]
      cases older with
      | nil => rfl
      | cons p r =>
        obtain ⟨k, mk⟩ := p
        obtain ⟨h1, o', h2, h3⟩ := hol (k, mk) (by simp)
        simp only [memAt, topOf]
        rw [if_pos (hmask k (c.word k i o' o h2 ho h3 hc h1))]
    have eM' : memS m0 s (Sset S i) = m2 := by
      unfold memS
      rw [hs, memAt_skip _ _ fun p hp => by
        have h1 := (hl p hp).1
        simp only [Sset]
        rw [if_neg (by omega)]
        exact later_no p hp]
      simp [memAt, Sset]
    have hsub : ∀ b o, (commit m.next (maskOf bf i) s.made m1).view b = some o → viewS m.next m0 s S b = some o := by
      intro b o hb
      rw [commit_view] at hb
      unfold viewS
      rw [eM]
      exact viewP_mono hmask hb
    have hnx : (commit m.next (maskOf bf i) s.made m1).next = (memS m0 s S).next := by rw [commit_next, eM]
    have hmem : MemRel ρ base (commit m.next (maskOf bf i) s.made m1).next (commit m.next (maskOf bf i) s.made m1).view w := by
      rw [hnx]; exact h.mem.sub hsub
    have hgl : Glob G ρ (commit m.next (maskOf bf i) s.made m1).view := fun g hg => ⟨(h.glob g hg).1, fun o ho => (h.glob g hg).2 o (hsub g o ho)⟩
    refine upon_of_next (opW_sound hcall hgl hmem hev o ht) ?_
    rintro v' w' ⟨ρ', q1, q2, q3⟩
    have hview : ∀ b o, viewS m.next m0 s (Sset S i) b = some o → m2.view b = some o ∨ ((commit m.next (maskOf bf i) s.made m1).view b = none ∧ viewS m.next m0 s S b = some o) := by
      intro b o' hb
      unfold viewS viewP at hb
      rw [eM'] at hb
      cases hg : m2.heap.get b with
      | some x => rw [hg] at hb; left; rw [← hb]; exact hg
      | none =>
        rw [hg] at hb
        right
        simp only at hb
        have hcn : (commit m.next (maskOf bf i) s.made m1).view b = none := by
          cases hx : (commit m.next (maskOf bf i) s.made m1).view b with
          | none => rfl
          | some x =>
            exact absurd hg (q3.pers b (by
              have : (commit m.next (maskOf bf i) s.made m1).heap.get b = some x := hx
              rw [this]; simp))
        refine ⟨hcn, ?_⟩
        rw [commit_view] at hcn
        unfold viewS
        rw [eM]
        unfold viewP at hcn ⊢
        cases hg1 : m1.heap.get b with
        | some x => rw [hg1] at hcn; cases hcn
        | none =>
          simp only
          have hne : b - m.next ≠ i := by
            intro e
            rw [e, getA_none _ hm] at hb
            cases hbb : (Nat.ble m.next b && Sset S i i) <;> simp [hbb] at hb
          simp only [Sset, if_neg hne] at hb
          exact hb
    refine hK _ _ _ (h.put c ho hf q1 hd ?_ ?_ ?_ ?_ ?_)
    · rw [eM']; exact MemRel.extend h.mem q2 q3.step hsub hview
    · exact Step.extend q3.step hsub hview
    · rw [eM', ← hnx]; exact q3.next
    · intro b hb _ hr
      exact q3.dom b (by rw [hnx]; exact Nat.lt_of_lt_of_le hb h.next) hr
    · intro b hb
      rw [eM']
      refine q3.pers b ?_
      have : (commit m.next (maskOf bf i) s.made m1).view b ≠ none := by
        rw [commit_view]
        unfold viewP
        rw [eM] at hb
        cases hx : m1.heap.get b with
        | none => exact absurd hx hb
        | some x => simp
      exact this

theorem any_sound (c : Ctx P G call ops wr bf f0 m m0 s) (hcall : CallOk P G base call) (hd : ops.toList.all (dstOk n) = true) {Q : Exit → Act → World → Prop}
    (hfin : ∀ S ρ a w, (∀ i, i < ops.size → S i = true) → Inv G base n ops wr f0 m m0 s ρ0 w0 S ρ a w → Q .normal a w) :
    ∀ (fuel : Nat) (l : List Nat) (listed : Array Bool) (ρ : Ren) (a : Act) (w : World), listed.size = ops.size → l.length ≤ fuel → (∀ i, i < ops.size → listed.getD i false = false → i ∈ l) →
      (∀ j, listed.getD j false = true → ∀ x, (maskOf bf j).testBit x = true → listed.getD x false = true) → Inv G base n ops wr f0 m m0 s ρ0 w0 (fun j => listed.getD j false) ρ a w →
      wpAny P .any ops Q fuel listed a w := by
  have closed : ∀ (listed : Array Bool), listed.size = ops.size → (∀ j, listed.getD j false = true → ∀ x, (maskOf bf j).testBit x = true → listed.getD x false = true) →
      ∀ i o, ops[i]? = some o → (∀ e ∈ o.after, Region.binds .any e = true → listed.getD e.on false = true) → ∀ x, (maskOf bf i).testBit x = true → listed.getD x false = true := by
    intro listed _ hdc i o ho hr x hx
    obtain ⟨e, h1, h2, _, h4⟩ := c.mask i o ho x hx
    rcases h4 with rfl | h4
    · exact hr e h1 h2
    · exact hdc _ (hr e h1 h2) x h4
  have done : ∀ (listed : Array Bool), listed.size = ops.size → Region.ready .any ops listed = [] → ∀ i, i < ops.size → listed.getD i false = true := by
    intro listed hsz hr i
    induction i using Nat.strongRecOn with
    | ind i ih =>
      intro hi
      cases hl : listed.getD i false with
      | true => rfl
      | false =>
        have : i ∈ Region.ready .any ops listed := by
          refine mem_ready.2 ⟨?_, ops[i], Array.getElem?_eq_getElem hi, fun e he hb => ?_⟩
          · rw [Array.getD_eq_getD_getElem?, Array.getElem?_eq_getElem (by omega)] at hl ⊢
            simpa using hl
          · have := c.edge i _ (Array.getElem?_eq_getElem hi) e he hb
            exact ih e.on this (by omega)
        rw [hr] at this; cases this
  intro fuel
  induction fuel with
  | zero =>
    intro l listed ρ a w hsz hlen hcov hdc hinv
    have hl : l = [] := List.length_eq_zero_iff.1 (by omega)
    subst hl
    have hall : ∀ i, i < ops.size → listed.getD i false = true := by
      intro i hi
      cases hx : listed.getD i false with
      | true => rfl
      | false => exact absurd (hcov i hi hx) (by simp)
    refine ⟨?_, hfin _ ρ a w hall hinv⟩
    cases hr : Region.ready .any ops listed with
    | nil => rfl
    | cons j r =>
      have hj : j ∈ Region.ready .any ops listed := by rw [hr]; simp
      obtain ⟨h1, o, ho, _⟩ := mem_ready.1 hj
      have hlt : j < ops.size := (Array.getElem?_eq_some_iff.1 ho).1
      have h2 := hall j hlt
      rw [Array.getD_eq_getD_getElem?, Array.getElem?_eq_getElem (by omega)] at h1 h2
      simp only [Option.getD_some] at h1 h2
      rw [h1] at h2; cases h2
  | succ fuel ih =>
    intro l listed ρ a w hsz hlen hcov hdc hinv
    refine ⟨fun hr => hfin _ ρ a w (done listed hsz hr) hinv, fun i hi => ?_⟩
    obtain ⟨h1, o, ho, hr⟩ := mem_ready.1 hi
    have hlt : i < ops.size := (Array.getElem?_eq_some_iff.1 ho).1
    have hno : listed.getD i false = false := by
      rw [Array.getD_eq_getD_getElem?, Array.getElem?_eq_getElem (by omega)] at h1 ⊢
      simpa using h1
    have hmask := closed listed hsz hdc i o ho hr
    have hdd : ∀ d, o.dst = some d → d < n := dstOk_spec (List.all_eq_true.1 hd o (by
      have := Array.mem_of_getElem? ho
      simpa using this))
    have eS : (fun j => (listed.setIfInBounds i true).getD j false) = Sset (fun j => listed.getD j false) i := by
      funext j
      simp only [Sset, Array.getD_eq_getD_getElem?, Array.getElem?_setIfInBounds]
      by_cases e : j = i
      · subst e; simp [hsz, hlt]
      · rw [if_neg (fun e2 => e e2.symm), if_neg e]
    refine hinv.go c hcall ho hno hmask hdc hdd fun ρ' a' w' hinv' => ?_
    refine ih (l.erase i) _ ρ' a' w' (by simp [hsz]) ?_ ?_ ?_ (by rw [eS]; exact hinv')
    · have := List.length_erase_of_mem (hcov i hlt hno)
      omega
    · intro j hj hjl
      have hji : j ≠ i := by
        intro e; subst e
        have := congrFun eS j
        simp only [Sset, if_true] at this
        rw [hjl] at this; cases this
      have h3 := congrFun eS j
      simp only [Sset, if_neg hji] at h3
      exact (List.mem_erase_of_ne hji).2 (hcov j hj (by rw [← h3]; exact hjl))
    · intro j hj x hx
      have h3 := congrFun eS j
      have h4 := congrFun eS x
      simp only [Sset] at h3 h4
      rw [h4]
      split
      · rfl
      · by_cases e : j = i
        · subst e; exact hmask x hx
        · rw [if_neg e] at h3
          exact hdc j (by rw [← h3]; exact hj) x hx

theorem drawOk_sound (hm : P.follows .mixedOrders = true) (hcall : CallOk P G base call) : DrawOk P G base call := by
  intro id ops Q n ρ f f' m m' a w hd hst h hq
  unfold runDraw at h
  split at h
  · cases h
  · rename_i wr hwr
    simp only at h
    cases hb : (edgesOk 0 ops.toList && wOrdered P (masksGo 0 ops.toList .leaf) 0 0 ops.toList) with
    | false => simp [hb] at h
    | true =>
      simp only [hb, cond_true] at h
      simp only [Bool.and_eq_true] at hb
      obtain ⟨he, hwo⟩ := hb
      split at h
      · cases h
      · rename_i s hs
        cases hrd : (s.reads.all fun r => readOk P G m.next wr (masksGo 0 ops.toList .leaf) s.made { m with next := m.next + ops.size } f s.f r s.states) with
        | false => simp [hrd] at h
        | true =>
          simp only [hrd, cond_true, Option.some.injEq, Prod.mk.injEq] at h
          obtain ⟨rfl, rfl⟩ := h
          obtain ⟨_, w1, w2⟩ := writersGo_spec _ _ _ _ hwr
          have c : Ctx P G call ops wr (masksGo 0 ops.toList .leaf) f m { m with next := m.next + ops.size } s := by
            refine ⟨fun i o d ho hd => ?_, fun d i hi => ?_, fun i o ho x hx => ?_, fun i o ho e h1 h2 => ?_, fun i j oi oj hi hj h1 h2 h3 => ?_, hs, fun r hr => List.all_eq_true.1 hrd r hr, rfl⟩
            · have := w1 i o d (by simpa using ho) hd; simpa using this
            · rcases w2 d i hi with h0 | ⟨j, o, e, h1, h2⟩
              · simp [Tr.get] at h0
              · exact ⟨o, by rw [e]; simpa using h1, h2⟩
            · have := masksGo_spec ops.toList 0 .leaf he i o (by simpa using ho) x (by rw [Nat.zero_add]; exact hx)
              rw [Nat.zero_add] at this
              exact this
            · have := edgesOk_spec ops.toList 0 he i o (by simpa using ho) e h1 h2
              omega
            · have := (wOrdered_spec ops.toList 0 0 hwo j oj (by simpa using hj) h2).2 i oi h3 (by simpa using hi) h1
              simpa using this
          refine wp_region_any hm ?_
          have hmono := drawAll_mono (m0 := { m with next := m.next + ops.size }) _ _ _ _ hs
          have hstates : ∀ p ∈ s.states, p.1 < ops.size := by
            obtain ⟨ps, es, hps⟩ := hmono.states
            intro p hp
            simp only [List.append_nil] at es
            rw [es] at hp
            obtain ⟨j, o, e, h1, _⟩ := hps p hp
            have := (List.getElem?_eq_some_iff.1 h1).1
            simp at this
            omega
          have hmade : ∀ p ∈ s.made, p.1 < ops.size := by
            obtain ⟨pm, em, hpm⟩ := hmono.made
            intro p hp
            simp only [List.append_nil] at em
            rw [em] at hp
            have := (hpm p hp).2
            simpa using this
          have e0 : ∀ j, (Array.replicate ops.size false).getD j false = false := by
            intro j
            rw [Array.getD_eq_getD_getElem?, Array.getElem?_replicate]
            split <;> rfl
          refine any_sound c hcall hd (ρ0 := ρ) (w0 := w) (base := base) ?_ ops.size (List.range ops.size) _ ρ a _ (by simp) (by simp) (fun i hi _ => List.mem_range.2 hi) (fun j hj => by rw [e0] at hj; cases hj) ?_
          · -- the end
            intro S ρ1 a1 wz hall hinv
            have eM : memS { m with next := m.next + ops.size } s S = s.m := by
              unfold memS
              rw [← hmono.m rfl]
              cases hss : s.states with
              | nil => rfl
              | cons p r =>
                obtain ⟨k, mk⟩ := p
                have := hstates (k, mk) (by rw [hss]; simp)
                simp only [memAt, topOf, if_pos (hall k this)]
            have eV : viewS m.next { m with next := m.next + ops.size } s S = (commit m.next (Nat.pow 2 ops.size - 1) s.made s.m).view := by
              rw [commit_view]
              unfold viewS
              rw [eM]
              funext b
              unfold viewP
              split
              · rfl
              · by_cases hlt : b - m.next < ops.size
                · rw [hall _ hlt]
                  have : Nat.testBit (Nat.pow 2 ops.size - 1) (b - m.next) = true := by
                    have := Nat.testBit_two_pow_sub_one ops.size (b - m.next)
                    rw [show Nat.pow 2 ops.size = 2 ^ ops.size from rfl, this]
                    simpa using hlt
                  rw [this]
                · have : getA s.made (b - m.next) = none := getA_none _ fun p hp => by have := hmade p hp; omega
                  rw [this]
                  cases (Nat.ble m.next b && S (b - m.next)) <;> cases (Nat.ble m.next b && Nat.testBit (Nat.pow 2 ops.size - 1) (b - m.next)) <;> rfl
            have hnx : (commit m.next (Nat.pow 2 ops.size - 1) s.made s.m).next = (memS { m with next := m.next + ops.size } s S).next := by rw [commit_next, eM]
            refine hq ρ1 a1 wz ⟨?_, fun t u hu => ?_, ?_, hinv.size, hinv.defers⟩ ⟨?_, ?_, hinv.dom, fun b hb => ?_⟩
            · rw [hnx, ← eV]; exact hinv.mem
            · have := hinv.frame t u
              unfold frameS at this
              cases hw : wr.get t with
              | none =>
                rw [hw] at this
                rw [hmono.f t fun o ho hd => ?_] at hu
                · exact this hu
                · obtain ⟨j, hj⟩ := List.getElem?_of_mem ho
                  have := w1 j o t hj hd
                  rw [hw] at this; cases this
              | some j =>
                rw [hw] at this
                obtain ⟨o, ho, _⟩ := c.w2 t j hw
                simp only [hall j (Array.getElem?_eq_some_iff.1 ho).1, if_true] at this
                exact this hu
            · rw [← eV]; exact hinv.glob
            · rw [← eV]; exact hinv.step
            · rw [hnx]; have := hinv.next; omega
            · have h1 := hinv.pers b hb
              have h2 : (commit m.next (Nat.pow 2 ops.size - 1) s.made s.m).heap.get b = viewS m.next { m with next := m.next + ops.size } s S b := by rw [eV]; rfl
              rw [h2]
              unfold viewS viewP
              cases hx : (memS { m with next := m.next + ops.size } s S).heap.get b with
              | none => exact absurd hx h1
              | some x => simp
          · -- the start
            have eM : memS { m with next := m.next + ops.size } s (fun j => (Array.replicate ops.size false).getD j false) = { m with next := m.next + ops.size } := by
              unfold memS
              have := memAt_skip (S := fun j => (Array.replicate ops.size false).getD j false) (m0 := { m with next := m.next + ops.size }) s.states [] fun p _ => e0 p.1
              simpa [memAt] using this
            have eV : viewS m.next { m with next := m.next + ops.size } s (fun j => (Array.replicate ops.size false).getD j false) = m.view := by
              unfold viewS
              rw [eM]
              funext b
              unfold viewP
              simp only [e0, Bool.and_false, cond_false]
              show (match m.heap.get b with | some o => some o | none => none) = m.heap.get b
              cases m.heap.get b <;> rfl
            refine ⟨fun t u hu => ?_, hst.size, hst.defers, ?_, ?_, ?_, ?_, fun y _ _ => hst.mem.fresh _ (by omega), fun _ _ h => h, fun b hb => ?_⟩
            · have : frameS wr f s.f (fun j => (Array.replicate ops.size false).getD j false) t = f.get t := by
                unfold frameS
                cases wr.get t with
                | none => rfl
                | some j => simp only [e0, Bool.false_eq_true, if_false]
              rw [this] at hu; exact hst.frame t u hu
            · rw [eM, eV]
              have := hst.mem.world (w' := { w with drawn := w.drawn + 1 }) rfl
              exact ⟨this.based, fun b hb => this.fresh b (by simp only at hb; omega), this.rel, this.inj, this.own⟩
            · rw [eV]
              exact ⟨Ren.le_refl ρ, fun _ i h => .inl ⟨i, h, rfl⟩, fun _ o h => .inr ⟨o, h, fun h => h⟩, rfl, rfl, rfl, Nat.le_refl _, fun _ _ h _ => h, fun _ _ _ => rfl⟩
            · rw [eV]; exact hst.glob
            · rw [eM]; exact Nat.le_refl _
            · rw [eM]; exact hb
end
end Go.NI
