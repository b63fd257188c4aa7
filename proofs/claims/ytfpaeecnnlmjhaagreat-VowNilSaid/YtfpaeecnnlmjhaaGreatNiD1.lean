/- The nice interpreter: regions that draw their order. What the interpreter's own lists say. -/
import Derived.Test.YtfpaeecnnlmjhaaGreatNiCall
import Derived.Orders
namespace Go.NI

theorem eqNA_eq {a b : Option NA} (h : eqNA a b = true) : a = b := by
  cases a with
  | none => cases b <;> simp_all [eqNA]
  | some a =>
    cases b with
    | none => simp [eqNA] at h
    | some b =>
      obtain ⟨x, y, z⟩ := a
      obtain ⟨x', y', z'⟩ := b
      simp only [eqNA, Bool.and_eq_true] at h
      obtain ⟨⟨h1, h2⟩, h3⟩ := h
      rw [Nat.eq_of_beq_eq_true h1, Nat.eq_of_beq_eq_true h2, Nat.eq_of_beq_eq_true h3]
theorem eqCap_eq {a b : NCap} (h : eqCap a b = true) : a = b := by
  cases a <;> cases b <;> simp only [eqCap, Bool.and_eq_true] at h
  · rw [Nat.eq_of_beq_eq_true h]
  · cases h
  · cases h
  · rw [Nat.eq_of_beq_eq_true h.1, Nat.eq_of_beq_eq_true h.2]
theorem eqON_eq {a b : Option Nat} (h : eqON a b = true) : a = b := by
  cases a <;> cases b <;> simp only [eqON] at h
  · rfl
  · cases h
  · cases h
  · rw [Nat.eq_of_beq_eq_true h]
theorem eqB_eq {a b : Bool} (h : eqB a b = true) : a = b := by cases a <;> cases b <;> simp_all [eqB]

mutual
theorem eqNV_eq : ∀ (a b : NV), eqNV a b = true → a = b
  | .bool a, b, h => by cases b <;> simp [eqNV] at h; rw [eqB_eq h]
  | .int k a, b, h => by
    cases b <;> simp [eqNV] at h
    rw [eqI_eq] at h
    rw [eqK_eq.1 h.1, eq_of_beq h.2]
  | .str s, b, h => by
    cases b <;> simp [eqNV] at h
    rw [eqS_eq] at h
    rw [eq_of_beq h]
  | .ptr a, b, h => by cases b <;> simp [eqNV] at h; rw [eqNA_eq h]
  | .slice a n c, b, h => by
    cases b <;> simp [eqNV] at h
    rw [eqNA_eq h.1.1, h.1.2, eqCap_eq h.2]
  | .map a, b, h => by cases b <;> simp [eqNV] at h; rw [eqON_eq h]
  | .func f x y, b, h => by
    cases f <;> cases b <;> try (simp [eqNV] at h; done)
    rename_i f g u v
    cases g <;> simp [eqNV] at h
    rw [h.1.1, eqNVs_eq x u h.1.2, eqNVs_eq y v h.2]
  | .nilFunc, b, h => by cases b <;> simp [eqNV] at h; rfl
  | .iface t v, b, h => by
    cases b <;> simp [eqNV] at h
    rename_i u w
    rw [h.1, eqNV_eq v w h.2]
  | .nilIface, b, h => by cases b <;> simp [eqNV] at h; rfl
  | .agg l, b, h => by
    cases b <;> simp [eqNV] at h
    rw [eqNVs_eq l _ h]
  | .tuple l, b, h => by
    cases b <;> simp [eqNV] at h
    rw [eqNVs_eq l _ h]
theorem eqNVs_eq : ∀ (a b : List NV), eqNVs a b = true → a = b
  | [], b, h => by cases b <;> simp [eqNVs] at h; rfl
  | x :: l, b, h => by
    cases b <;> simp [eqNVs] at h
    rename_i y r
    rw [eqNV_eq x y h.1, eqNVs_eq l r h.2]
end

/-! Writers. -/
theorem writersGo_spec : ∀ (l : List Oper) (i : Nat) (acc wr : Tr Nat), writersGo i l acc = some wr →
    (∀ d k, acc.get d = some k → wr.get d = some k) ∧ (∀ j o d, l[j]? = some o → o.dst = some d → wr.get d = some (i + j)) ∧
      ∀ d k, wr.get d = some k → acc.get d = some k ∨ ∃ j o, k = i + j ∧ l[j]? = some o ∧ o.dst = some d
  | [], i, acc, wr, h => by
    simp only [writersGo, Option.some.injEq] at h; subst h
    exact ⟨fun _ _ h => h, fun _ _ _ h => by simp at h, fun _ _ h => .inl h⟩
  | o :: l, i, acc, wr, h => by
    simp only [writersGo] at h
    split at h
    · rename_i hd
      obtain ⟨h1, h2, h3⟩ := writersGo_spec l (i + 1) acc wr h
      refine ⟨h1, fun j o' d hj hd' => ?_, fun d k hk => ?_⟩
      · cases j with
        | zero => simp at hj; subst hj; rw [hd] at hd'; cases hd'
        | succ j => rw [show i + (j + 1) = i + 1 + j from by omega]; exact h2 j o' d (by simpa using hj) hd'
      · rcases h3 d k hk with h | ⟨j, o', e, hj, hd'⟩
        · exact .inl h
        · exact .inr ⟨j + 1, o', by omega, by simpa using hj, hd'⟩
    · rename_i d0 hd
      split at h
      · rename_i hn
        obtain ⟨h1, h2, h3⟩ := writersGo_spec l (i + 1) _ wr h
        refine ⟨fun d k hk => h1 d k ?_, fun j o' d hj hd' => ?_, fun d k hk => ?_⟩
        · rw [Tr.get_set]; split
          · subst_vars; rw [hn] at hk; cases hk
          · exact hk
        · cases j with
          | zero =>
            simp at hj; subst hj; rw [hd] at hd'; cases hd'
            exact h1 _ _ (by rw [Tr.get_set, if_pos rfl]; rfl)
          | succ j => rw [show i + (j + 1) = i + 1 + j from by omega]; exact h2 j o' d (by simpa using hj) hd'
        · rcases h3 d k hk with h8 | ⟨j, o', e, hj, hd'⟩
          · rw [Tr.get_set] at h8
            by_cases e : d = d0
            · rw [if_pos e] at h8
              simp only [Option.some.injEq] at h8
              exact .inr ⟨0, o, h8.symm, rfl, e ▸ hd⟩
            · rw [if_neg e] at h8; exact .inl h8
          · exact .inr ⟨j + 1, o', by omega, by simpa using hj, hd'⟩
      · cases h

/-! Masks. -/
theorem masksGo_old : ∀ (l : List Oper) (i : Nat) (acc : Tr Nat) (k : Nat), k < i → (masksGo i l acc).get k = acc.get k
  | [], _, _, _, _ => rfl
  | o :: l, i, acc, k, h => by
    rw [masksGo, masksGo_old l (i + 1) _ k (by omega), Tr.get_set, if_neg (by omega)]

theorem maskAdd_bit (acc : Tr Nat) (x : Nat) : ∀ (l : List Edge) (s : Nat), (l.foldl (maskAdd acc) s).testBit x = true →
    s.testBit x = true ∨ ∃ e ∈ l, Region.binds .any e = true ∧ (e.on = x ∨ (maskOf acc e.on).testBit x = true)
  | [], _, h => .inl h
  | e :: l, s, h => by
    rw [List.foldl_cons] at h
    rcases maskAdd_bit acc x l _ h with h1 | ⟨e', h2, h3, h4⟩
    · unfold maskAdd at h1
      cases hb : Region.binds .any e with
      | false => simp [hb] at h1; exact .inl h1
      | true =>
        simp only [hb, cond_true] at h1
        have h1 : (s ||| (2 ^ e.on ||| (acc.get e.on).getD 0)).testBit x = true := h1
        rw [Nat.testBit_or, Nat.testBit_or, Nat.testBit_two_pow] at h1
        simp only [Bool.or_eq_true, decide_eq_true_eq] at h1
        rcases h1 with h1 | h1 | h1
        · exact .inl h1
        · exact .inr ⟨e, by simp, hb, .inl h1⟩
        · exact .inr ⟨e, by simp, hb, .inr h1⟩
    · exact .inr ⟨e', by simp [h2], h3, h4⟩

theorem masksGo_spec : ∀ (l : List Oper) (i : Nat) (acc : Tr Nat), edgesOk i l = true → ∀ j o, l[j]? = some o → ∀ x, (maskOf (masksGo i l acc) (i + j)).testBit x = true →
    ∃ e ∈ o.after, Region.binds .any e = true ∧ e.on < i + j ∧ (e.on = x ∨ (maskOf (masksGo i l acc) e.on).testBit x = true)
  | [], _, _, _, _, _, h, _, _ => by simp at h
  | o0 :: l, i, acc, he, j, o, hj, x, hx => by
    simp only [edgesOk, Bool.and_eq_true] at he
    cases j with
    | zero =>
      simp at hj; subst hj
      rw [masksGo] at hx ⊢
      rw [maskOf, show i + 0 = i from rfl, masksGo_old l (i + 1) _ i (Nat.lt_succ_self i), Tr.get_set, if_pos rfl] at hx
      simp only [Option.getD_some] at hx
      rcases maskAdd_bit acc x _ _ hx with h | ⟨e, h1, h2, h3⟩
      · simp at h
      · have hlt : e.on < i := by
          have := List.all_eq_true.1 he.1 e h1
          simpa [h2, Nat.blt_eq] using this
        refine ⟨e, by simpa using h1, h2, by omega, ?_⟩
        rcases h3 with h3 | h3
        · exact .inl h3
        · right
          rw [maskOf, masksGo_old l (i + 1) _ e.on (by omega), Tr.get_set, if_neg (by omega)]
          exact h3
    | succ j =>
      rw [masksGo] at hx ⊢
      rw [show i + (j + 1) = i + 1 + j from by omega] at hx
      obtain ⟨e, h1, h2, h3, h4⟩ := masksGo_spec l (i + 1) _ he.2 j o (by simpa using hj) x hx
      exact ⟨e, h1, h2, by omega, h4⟩

theorem edgesOk_spec : ∀ (l : List Oper) (i : Nat), edgesOk i l = true → ∀ j o, l[j]? = some o → ∀ e ∈ o.after, Region.binds .any e = true → e.on < i + j
  | [], _, _, _, _, h, _, _, _ => by simp at h
  | o0 :: l, i, he, j, o, hj, e, h1, h2 => by
    simp only [edgesOk, Bool.and_eq_true] at he
    cases j with
    | zero =>
      simp at hj; subst hj
      have := List.all_eq_true.1 he.1 e (by simpa using h1)
      simpa [h2, Nat.blt_eq] using this
    | succ j =>
      have := edgesOk_spec l (i + 1) he.2 j o (by simpa using hj) e h1 h2
      omega

theorem wOrdered_spec {P : Program} {bf : Tr Nat} : ∀ (l : List Oper) (i m : Nat), wOrdered P bf i m l = true → ∀ j o, l[j]? = some o → isW P o = true →
    (∀ x, m.testBit x = true → (maskOf bf (i + j)).testBit x = true) ∧ ∀ k o', k < j → l[k]? = some o' → isW P o' = true → (maskOf bf (i + j)).testBit (i + k) = true
  | [], _, _, _, _, _, h, _ => by simp at h
  | o0 :: l, i, m, h, j, o, hj, hw => by
    simp only [wOrdered] at h
    cases j with
    | zero =>
      simp at hj; subst hj
      simp only [hw, cond_true, Bool.and_eq_true] at h
      refine ⟨fun x hx => ?_, fun k _ hk => by omega⟩
      have h1 : maskOf bf i &&& m = m := Nat.eq_of_beq_eq_true h.1
      have := congrArg (fun n => n.testBit x) h1
      simp only [Nat.testBit_and, hx, Bool.and_true] at this
      exact this
    | succ j =>
      have hj' : l[j]? = some o := by simpa using hj
      cases h0 : isW P o0 with
      | false =>
        simp only [h0, cond_false] at h
        obtain ⟨p1, p2⟩ := wOrdered_spec l (i + 1) m h j o hj' hw
        rw [show i + 1 + j = i + (j + 1) from by omega] at p1 p2
        refine ⟨p1, fun k o' hk ho' hw' => ?_⟩
        cases k with
        | zero => simp at ho'; subst ho'; rw [h0] at hw'; cases hw'
        | succ k => rw [show i + (k + 1) = i + 1 + k from by omega]; exact p2 k o' (by omega) (by simpa using ho') hw'
      | true =>
        simp only [h0, cond_true, Bool.and_eq_true] at h
        obtain ⟨p1, p2⟩ := wOrdered_spec l (i + 1) _ h.2 j o hj' hw
        rw [show i + 1 + j = i + (j + 1) from by omega] at p1 p2
        have hor : ∀ x, (m ||| 2 ^ i).testBit x = true → (maskOf bf (i + (j + 1))).testBit x = true := p1
        refine ⟨fun x hx => hor x (by rw [Nat.testBit_or, hx]; rfl), fun k o' hk ho' hw' => ?_⟩
        cases k with
        | zero => exact hor i (by rw [Nat.testBit_or, Nat.testBit_two_pow]; simp)
        | succ k => rw [show i + (k + 1) = i + 1 + k from by omega]; exact p2 k o' (by omega) (by simpa using ho') hw'

/-! Views. -/
theorem viewP_mono {n0 : Nat} {p q : Nat → Bool} (h : ∀ x, p x = true → q x = true) {made : List (Nat × NObj)} {m : Mem} {b : Nat} {o : NObj} (hb : viewP n0 p made m b = some o) : viewP n0 q made m b = some o := by
  unfold viewP at *
  cases ho : m.heap.get b with
  | some o' => rw [ho] at hb; exact hb
  | none =>
    rw [ho] at hb
    simp only at hb ⊢
    cases hc : (Nat.ble n0 b && p (b - n0)) with
    | false => simp [hc] at hb
    | true =>
      simp only [hc, cond_true] at hb
      simp only [Bool.and_eq_true] at hc
      simp only [hc.1, h _ hc.2, Bool.and_self, cond_true]
      exact hb

theorem viewP_congr {n0 : Nat} {p : Nat → Bool} {made made' : List (Nat × NObj)} (h : ∀ x, p x = true → getA made x = getA made' x) (m : Mem) : viewP n0 p made m = viewP n0 p made' m := by
  funext b
  unfold viewP
  split
  · rfl
  · cases hc : (Nat.ble n0 b && p (b - n0)) with
    | false => rfl
    | true =>
      simp only [Bool.and_eq_true] at hc
      simp only [cond_true]
      exact h _ hc.2

theorem commit_next (n0 mask : Nat) : ∀ (l : List (Nat × NObj)) (m : Mem), (commit n0 mask l m).next = m.next
  | [], _ => rfl
  | (i, o) :: r, m => by
    rw [commit, commit_next n0 mask r]
    cases hb : Nat.testBit mask i with
    | false => rfl
    | true => simp only [cond_true]; split <;> rfl

theorem commit_view (n0 mask : Nat) : ∀ (l : List (Nat × NObj)) (m : Mem), (commit n0 mask l m).view = viewP n0 (Nat.testBit mask) l m
  | [], m => by
    funext b
    simp only [commit, viewP, Mem.view, getA]
    split
    · assumption
    · rename_i h; rw [h]; cases (Nat.ble n0 b && Nat.testBit mask (b - n0)) <;> rfl
  | (i, o) :: r, m => by
    rw [commit, commit_view n0 mask r]
    funext b
    cases hb : Nat.testBit mask i with
    | false =>
      simp only [cond_false, viewP]
      split
      · rfl
      · cases hc : (Nat.ble n0 b && Nat.testBit mask (b - n0)) with
        | false => rfl
        | true =>
          simp only [cond_true, getA, cond_beq]
          rw [if_neg]
          intro e; subst e; simp [hb] at hc
    | true =>
      simp only [cond_true]
      split
      · rename_i o' ho
        simp only [viewP]
        split
        · rfl
        · rename_i hn
          cases hc : (Nat.ble n0 b && Nat.testBit mask (b - n0)) with
          | false => rfl
          | true =>
            simp only [cond_true, getA, cond_beq]
            rw [if_neg]
            intro e; subst e
            simp only [Bool.and_eq_true, Nat.ble_eq] at hc
            rw [show n0 + (b - n0) = b from by omega, hn] at ho; cases ho
      · rename_i hn
        simp only [viewP, Tr.get_set]
        by_cases e : b = n0 + i
        · subst e
          have hle : Nat.ble n0 (n0 + i) = true := by simp
          simp only [if_true, hn, Nat.add_sub_cancel_left, hb, getA, cond_beq, hle, Bool.and_self, cond_true]
        · simp only [e, if_false]
          split
          · rfl
          · cases hc : (Nat.ble n0 b && Nat.testBit mask (b - n0)) with
            | false => rfl
            | true =>
              simp only [cond_true, getA, cond_beq]
              rw [if_neg]
              intro e2; subst e2
              simp only [Bool.and_eq_true, Nat.ble_eq] at hc
              exact e (by omega)
end Go.NI
