/- The nice interpreter: Go's '==' is the model's. -/
import Derived.Test.YtfpaeecnnlmjhaaGreatNiRel
namespace Go.NI
theorem eqK_eq {a b : IntKind} : eqK a b = true ↔ a = b := by cases a <;> cases b <;> simp [eqK]
theorem eqS_eq : ∀ (a b : List UInt8), eqS a b = (a == b)
  | [], [] => rfl
  | [], _ :: _ => rfl
  | _ :: _, [] => rfl
  | a :: x, b :: y => by
    have h := eqS_eq x y
    rw [Bool.eq_iff_iff] at h ⊢
    simp only [eqS, Bool.and_eq_true, beq_iff_eq, List.cons.injEq] at h ⊢
    rw [h]
    constructor
    · rintro ⟨h1, h2⟩; exact ⟨UInt8.toNat_inj.1 (Nat.eq_of_beq_eq_true h1), h2⟩
    · rintro ⟨h1, h2⟩; exact ⟨by rw [h1]; simp, h2⟩
theorem ltS_eq : ∀ (a b : List UInt8), ltS a b = Op.bytesLess a b
  | [], [] => rfl
  | _ :: _, [] => rfl
  | [], _ :: _ => rfl
  | a :: x, b :: y => by
    simp only [ltS, Op.bytesLess, ltS_eq x y, cond_blt]
    by_cases h : a < b
    · have : a.toNat < b.toNat := h
      simp [h, this]
    · have h' : ¬ a.toNat < b.toNat := h
      simp only [h, h', if_false, decide_false, Bool.false_or]
      congr 1
      rw [Bool.eq_iff_iff]
      simp [UInt8.toNat_inj]
theorem toList_mk (s : List UInt8) : (⟨⟨s⟩⟩ : ByteArray).toList = s := by rw [ByteArray.toList_eq]
theorem size_mk (s : List UInt8) : (⟨⟨s⟩⟩ : ByteArray).size = s.length := rfl

section
variable {P : Program} (w : World)

theorem run_equalIn_array (d : Nat) (t elem : TypeId) (len n : Nat) (xs ys : Array Value) (ht : P.underlying t = some (.array len elem)) (hn : tySize P elem = some n)
    {ρ : Ren} {eq : NV → NV → Option Bool} {xs' ys' : List NV} (hx : VRels ρ xs' xs.toList) (hy : VRels ρ ys' ys.toList)
    (heq : ∀ u v b u' v', eq u v = some b → VRel ρ u u' → VRel ρ v v' → (Op.equalIn d elem u' v').run P w = .ok b w) {b : Bool}
    (h : eqArrV P eq elem n xs' ys' len 0 = some b) : (Op.equalIn (d + 1) t (.agg xs) (.agg ys)).run P w = .ok b w := by
  simp only [Op.equalIn, Sem.run_bind, run_underlying ht, Result.andThen_ok, run_sizeOf w hn, Std.Legacy.Range.forIn_eq_forIn_range']
  have hs : ([:len] : Std.Legacy.Range).size = len := by simp [Std.Legacy.Range.size]
  simp only [hs]
  have key : ∀ (k i : Nat), eqArrV P eq elem n xs' ys' k i = some b →
      (((forIn (List.range' i k 1) (none, PUnit.unit) (fun (i : Nat) (r : Option Bool × PUnit) => (do
          let a ← part elem xs (i * n)
          let c ← part elem ys (i * n)
          let __do_lift ← Op.equalIn d elem a c
          if (!__do_lift) = true then pure (ForInStep.done (some false, PUnit.unit)) else do
            pure (ForInStep.yield (none, PUnit.unit)) : Sem (ForInStep (Option Bool × PUnit))))).run P w).andThen fun r w' => match r.1 with
              | none => .ok true w'
              | some a => .ok a w') = .ok b w := by
    intro k
    induction k with
    | zero => intro i h; simp [eqArrV] at h; subst h; simp
    | succ k ih =>
      intro i h
      simp only [eqArrV] at h
      split at h
      · rename_i u v hu hv
        obtain ⟨u', ru, hu'⟩ := run_part w hx hu
        obtain ⟨v', rv, hv'⟩ := run_part w hy hv
        cases he : eq u v with
        | none => simp [he] at h
        | some r =>
          have := heq u v r u' v' he hu' hv'
          cases r with
          | false =>
            simp [he] at h; subst h
            simp [List.range'_succ, ru, rv, this]
          | true =>
            simp [he] at h
            have := ih (i + 1) h
            simp_all [List.range'_succ]
      · cases h
  have := key len 0 h
  have e : ∀ (r : Result (Option Bool × PUnit)) (f g : Option Bool × PUnit → World → Result Bool), (∀ a w', f a w' = g a w') → r.andThen f = r.andThen g := by
    intro r f g h
    cases r <;> simp [Result.andThen, h]
  exact (e _ _ _ (fun a w' => by obtain ⟨a1, a2⟩ := a; cases a1 <;> rfl)).trans this

theorem eqFields_sound (d : Nat) (xs ys : Array Value) {ρ : Ren} {eq : TypeId → NV → NV → Option Bool} {xs' ys' : List NV} (hx : VRels ρ xs' xs.toList) (hy : VRels ρ ys' ys.toList)
    (heq : ∀ t u v b u' v', eq t u v = some b → VRel ρ u u' → VRel ρ v v' → (Op.equalIn d t u' v').run P w = .ok b w) {b : Bool} :
    ∀ (fs : List Field), eqFieldsV P eq xs' ys' fs = some b → (Op.eqFields d xs ys fs).run P w = .ok b w
  | [], h => by simp [eqFieldsV] at h; subst h; rfl
  | f :: fs, h => by
    simp only [eqFieldsV] at h
    by_cases hf : f.name = "_"
    · simp only [hf, decide_true] at h
      have ih := eqFields_sound d xs ys hx hy heq fs h
      simp [Op.eqFields, hf, ih]
    · simp only [hf, decide_false] at h
      split at h
      · rename_i u v hu hv
        obtain ⟨u', ru, hu'⟩ := run_part w hx hu
        obtain ⟨v', rv, hv'⟩ := run_part w hy hv
        cases he : eq f.type u v with
        | none => simp [he] at h
        | some r =>
          have := heq _ u v r u' v' he hu' hv'
          cases r with
          | false =>
            simp [he] at h; subst h
            simp [Op.eqFields, hf, ru, rv, this]
          | true =>
            simp only [he] at h
            have ih := eqFields_sound d xs ys hx hy heq fs h
            simp [Op.eqFields, hf, ru, rv, this, ih]
      · cases h

theorem eqBool_eq (a b : Bool) : eqBool a b = (a == b) := by cases a <;> cases b <;> rfl

theorem isNone_eq {α : Type} (a : Option α) : isNone a = a.isNone := by cases a <;> rfl

theorem eqV_sound {ρ : Ren} : ∀ (d : Nat) (t : TypeId) (x y : NV) (b : Bool) (x' y' : Value) (D : Nat), eqV P d t x y = some b → VRel ρ x x' → VRel ρ y y' → d ≤ D →
    (Op.equalIn D t x' y').run P w = .ok b w := by
  intro d
  induction d with
  | zero => intro t x y b x' y' D h; simp [eqV] at h
  | succ d ih =>
    intro t x y b x' y' D h hx hy hD
    obtain ⟨D, rfl⟩ : ∃ D', D = D' + 1 := ⟨D - 1, by omega⟩
    simp only [eqV] at h
    cases hu : P.underlying t with
    | none => simp [hu] at h
    | some dd =>
      simp only [hu] at h
      cases dd with
      | bool =>
        simp only at h
        split at h
        · cases (show x' = _ from hx); cases (show y' = _ from hy)
          simp at h; subst h
          simp [Op.equalIn, run_underlying hu, eqBool_eq]
        · cases h
      | int k0 =>
        simp only at h
        split at h
        · rename_i k a k' a'
          cases (show x' = _ from hx); cases (show y' = _ from hy)
          cases hk : eqK k k' with
          | false => simp [hk] at h
          | true =>
            have hk' := eqK_eq.1 hk
            subst hk'
            simp [hk] at h; subst h
            simp [Op.equalIn, run_underlying hu, eqI_eq]
        · cases h
      | string =>
        simp only at h
        split at h
        · cases (show x' = _ from hx); cases (show y' = _ from hy)
          simp at h; subst h
          simp [Op.equalIn, run_underlying hu, eqS_eq, beq_toListBytes]
        · cases h
      | pointer e =>
        simp only at h
        split at h
        · rename_i b
          cases (show x' = _ from hx)
          cases b with
          | none => cases (show y' = _ from hy); simp [isNone] at h; subst h; simp [Op.equalIn, run_underlying hu]
          | some b => obtain ⟨b', rfl, _⟩ := hy; simp [isNone] at h; subst h; simp [Op.equalIn, run_underlying hu]
        · rename_i a
          obtain ⟨a', rfl, _⟩ := hx
          cases (show y' = _ from hy)
          simp at h; subst h; simp [Op.equalIn, run_underlying hu]
        · cases h
      | interface ms =>
        simp only at h
        split at h
        · cases (show x' = _ from hx); cases (show y' = _ from hy)
          simp at h; subst h; simp [Op.equalIn, run_underlying hu]
        · cases (show x' = _ from hx); obtain ⟨y'', rfl, _⟩ := hy
          simp at h; subst h; simp [Op.equalIn, run_underlying hu]
        · cases (show y' = _ from hy); obtain ⟨x'', rfl, _⟩ := hx
          simp at h; subst h; simp [Op.equalIn, run_underlying hu]
        · rename_i tx vx ty vy
          obtain ⟨x'', rfl, hx⟩ := hx
          obtain ⟨y'', rfl, hy⟩ := hy
          simp only [cond_beq] at h
          split at h
          · rename_i he; subst he
            cases hi : P.info? tx with
            | none => simp [hi] at h
            | some info =>
              cases hc : info.comparable with
              | false => simp [hi, hc] at h
              | true =>
                simp [hi, hc] at h
                have := ih tx vx vy b x'' y'' D h hx hy (by omega)
                simp [Op.equalIn, run_underlying hu, typeInfo, hi, hc, this]
          · rename_i he
            simp at h; subst h
            simp [Op.equalIn, run_underlying hu, he]
        · cases h
      | struct fields =>
        simp only at h
        split at h
        · rename_i xs ys
          obtain ⟨xs', rfl, hx⟩ := hx
          obtain ⟨ys', rfl, hy⟩ := hy
          cases hp : P.stoodInHeld t with
          | true => simp [hp] at h
          | false =>
            simp only [hp, cond_false] at h
            have hf : P.fieldsOf t = fields := by simp [Program.fieldsOf, hu]
            rw [run_equalIn_struct w D t xs' ys' (by rw [hf]; exact hu) hp, hf]
            exact eqFields_sound w D xs' ys' hx hy (fun t u v b u' v' h1 h2 h3 => ih t u v b u' v' D h1 h2 h3 (by omega)) _ h
        · cases h
      | array len elem =>
        simp only at h
        split at h
        · rename_i xs ys
          obtain ⟨xs', rfl, hx⟩ := hx
          obtain ⟨ys', rfl, hy⟩ := hy
          cases hn : tySize P elem with
          | none => simp [hn] at h
          | some n =>
            simp only [hn] at h
            exact run_equalIn_array w D t elem len n xs' ys' hu hn hx hy (fun u v b u' v' h1 h2 h3 => ih elem u v b u' v' D h1 h2 h3 (by omega)) h
        · cases h
      | slice e =>
        simp only at h
        split at h
        · rename_i n1 c1 bb n2 c2
          obtain ⟨a', C, rfl, hs⟩ := hx
          obtain ⟨b', C', rfl, hs'⟩ := hy
          have e1 : a' = none := by
            cases c1 with
            | exact c => cases a' with
              | none => rfl
              | some z => exact absurd hs.2 (by simp)
            | opn lb es => obtain ⟨_, _, a0, a1, e, _⟩ := hs; cases e
          have e2 : b'.isNone = isNone bb := by
            cases c2 with
            | exact c => cases bb <;> cases b' <;> first | rfl | exact absurd hs'.2 (by simp)
            | opn lb es => obtain ⟨_, _, a0, a1, e, e', _⟩ := hs'; subst e; subst e'; rfl
          subst e1
          simp at h; subst h
          simp [Op.equalIn, run_underlying hu, e2]
        · rename_i aa n1 c1 n2 c2
          obtain ⟨a', C, rfl, hs⟩ := hx
          obtain ⟨b', C', rfl, hs'⟩ := hy
          have e1 : ∃ z, a' = some z := by
            cases c1 with
            | exact c => cases a' with
              | none => exact absurd hs.2 (by simp)
              | some z => exact ⟨z, rfl⟩
            | opn lb es => obtain ⟨_, _, a0, a1, e, e', _⟩ := hs; exact ⟨a1, e'⟩
          have e2 : b' = none := by
            cases c2 with
            | exact c => cases b' with
              | none => rfl
              | some z => exact absurd hs'.2 (by simp)
            | opn lb es => obtain ⟨_, _, a0, a1, e, _⟩ := hs'; cases e
          obtain ⟨z, rfl⟩ := e1
          subst e2
          simp at h; subst h
          simp [Op.equalIn, run_underlying hu]
        · cases h
      | map k e =>
        simp only at h
        split at h
        · rename_i bb
          cases (show x' = _ from hx)
          cases bb with
          | none => cases (show y' = _ from hy); simp [isNone] at h; subst h; simp [Op.equalIn, run_underlying hu]
          | some z => obtain ⟨i, b', _, rfl, _⟩ := hy; simp [isNone] at h; subst h; simp [Op.equalIn, run_underlying hu]
        · obtain ⟨i, b', _, rfl, _⟩ := hx
          cases (show y' = _ from hy)
          simp at h; subst h; simp [Op.equalIn, run_underlying hu]
        · cases h
      | func ps rs v =>
        simp only at h
        split at h
        · cases (show x' = _ from hx); cases (show y' = _ from hy)
          simp at h; subst h; simp [Op.equalIn, run_underlying hu]
        · cases (show x' = _ from hx); obtain ⟨f', c', rfl, _⟩ := hy
          simp at h; subst h; simp [Op.equalIn, run_underlying hu]
        · obtain ⟨f', c', rfl, _⟩ := hx; cases (show y' = _ from hy)
          simp at h; subst h; simp [Op.equalIn, run_underlying hu]
        · cases h
      | _ => simp at h
end
end Go.NI
