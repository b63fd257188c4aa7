/- The nice interpreter: operations that read memory do what the model's do. -/
import Derived.Test.YtfpaeecnnlmjhaaGreatNiM
namespace Go.NI
section
variable {P : Program} {ρ : Ren} {base n : Nat} {V : View} {w : World}

theorem run_getObj_map {r : Nat} {es : Array MapEntry} {ck : Nat} (h : w.heap[r]? = some (.map es ck)) : (getObj r).run P w = .ok (.map es ck) w := by
  simp [getObj, Sem.run, h]

theorem MRel.length : ∀ {es : List (NV × NV)} {l : List MapEntry}, MRel ρ es l → es.length = l.length
  | [], _, r => by cases (show _ = [] from r); rfl
  | (_, _) :: _, _, r => by
    obtain ⟨e, l', rfl, _, _, h3⟩ := r
    simp [MRel.length h3]

theorem checkKey_ok {kt : TypeId} {kd : TypeDesc} {k : NV} {k' : Value} (hk : keyOk kd k = true) (hu : P.underlying kt = some kd) (hr : VRel ρ k k') (b : Bool) : (Instr.checkKey b 10000 kt k').run P w = .ok () w := by
  unfold keyOk at hk
  split at hk
  · cases (show k' = _ from hr); rw [show (10000 : Nat) = 9999 + 1 from rfl, Instr.checkKey]; simp [run_underlying hu]
  · cases (show k' = _ from hr); rw [show (10000 : Nat) = 9999 + 1 from rfl, Instr.checkKey]; simp [run_underlying hu]
  · cases hk

theorem eqKey_sound {kd : TypeDesc} {k k1 : NV} {k' k1' : Value} {b : Bool} (hk : keyOk kd k = true) (hr : VRel ρ k k') (hr1 : VRel ρ k1 k1') (h : eqKey k k1 = some b) : Instr.sameNow kd k' k1' = some b := by
  unfold keyOk at hk
  split at hk
  · rename_i k0 kk x
    cases (show k' = _ from hr)
    cases k1 <;> simp [eqKey] at h
    rename_i kk' y
    cases (show k1' = _ from hr1)
    cases he : eqK kk kk' with
    | false => simp [he] at h
    | true =>
      have := eqK_eq.1 he; subst this
      simp [he, eqI_eq] at h
      simp [Instr.sameNow, h]
  · rename_i s
    cases (show k' = _ from hr)
    cases k1 <;> simp [eqKey] at h
    rename_i y
    cases (show k1' = _ from hr1)
    rw [eqS_eq] at h
    simp [Instr.sameNow, beq_toListBytes, h]
  · cases hk

theorem findKey_sound {kd : TypeDesc} {k : NV} {k' : Value} (hk : keyOk kd k = true) (hr : VRel ρ k k') : ∀ {es : List (NV × NV)} {l : List MapEntry} {r : Option NV} (i : Nat), MRel ρ es l → findKeyN k es = some r →
    ∃ r', Instr.findNow kd k' l i = some r' ∧ (match r, r' with | none, none => True | some v, some (_, v') => VRel ρ v v' | _, _ => False)
  | [], _, r, i, hm, h => by
    cases (show _ = [] from hm)
    simp [findKeyN] at h; subst h
    exact ⟨none, rfl, trivial⟩
  | (k1, v1) :: es, _, r, i, hm, h => by
    obtain ⟨e, l', rfl, h1, h2, h3⟩ := hm
    simp only [findKeyN] at h
    split at h
    · rename_i he
      simp only [Option.some.injEq] at h; subst h
      have := eqKey_sound hk hr h1 he
      exact ⟨some (i, e.val), by simp [Instr.findNow, this], h2⟩
    · rename_i he
      have := eqKey_sound hk hr h1 he
      obtain ⟨r', q1, q2⟩ := findKey_sound hk hr (i + 1) h3 h
      exact ⟨r', by simp [Instr.findNow, this, q1], q2⟩
    · cases h

theorem SRel.addr {a : NA} {len : Nat} {cap : NCap} {a' : Option Addr} {C : Nat} (h : SRel ρ (some a) len cap a' C) : ∃ a1, a' = some a1 ∧ (0 < len → ARel ρ a a1) := by
  cases cap with
  | exact c =>
    cases a' with
    | none => exact h.2.elim
    | some a1 => exact ⟨a1, rfl, fun _ => h.2⟩
  | opn lb es =>
    obtain ⟨h1, h2, a0, a1, e0, e1, i', hi', hg, hr⟩ := h
    simp only [Option.some.injEq] at e0; subst e0
    refine ⟨a1, e1, fun hl => ⟨i', hi', hg, fun hgi => ?_⟩⟩
    rcases hr hgi with hz | ⟨g1, g2, _⟩
    · omega
    · exact ⟨g1, g2⟩

theorem SRel.none {len : Nat} {cap : NCap} {a' : Option Addr} {C : Nat} (h : SRel ρ none len cap a' C) : a' = none := by
  cases cap with
  | exact c =>
    cases a' with
    | none => rfl
    | some a1 => exact h.2.elim
  | opn lb es =>
    obtain ⟨h1, h2, a0, a1, e0, _⟩ := h
    cases e0

/-- The cells of a slice. -/
theorem rdSlice_sound (hm : MemRel ρ base n V w) {a : NA} {len : Nat} {cap : NCap} {a' : Option Addr} {C : Nat} (hs : SRel ρ (some a) len cap a' C) {k sz : Nat} (hk : k = len * sz) {l : List NV} (h : rdCells V a k = some l) :
    ∃ a1 l', a' = some a1 ∧ (∀ w2 : World, w2.heap = w.heap → (loadCells a1 k).run P w2 = .ok l' w2) ∧ VRels ρ l l'.toList ∧ l.length = k := by
  obtain ⟨a1, e1, har⟩ := hs.addr
  by_cases hz : k = 0
  · subst hz
    have : l = [] := by
      unfold rdCells at h
      split at h
      · simp only [cond_beq] at h
        split at h
        · simpa [getRange] using h.symm
        · cases h
      · cases h
    subst this
    exact ⟨a1, #[], e1, fun w2 _ => by simp [loadCells, loadCellsFrom], rfl, rfl⟩
  · have hl : 0 < len := by
      rcases Nat.eq_zero_or_pos len with h0 | h0
      · subst h0; simp at hk; omega
      · exact h0
    obtain ⟨l', q1, q2, q3, _⟩ := rdCells_sound (P := P) hm (har hl) h
    exact ⟨a1, l', e1, q1, q2, q3⟩

theorem run_bytes : ∀ (l : List NV) (l' : List Value) (bs acc : List UInt8), VRels ρ l l' → bytesOf l = some bs →
    (forIn l' (⟨⟨acc⟩⟩ : ByteArray) (fun (c : Value) (s : ByteArray) => (
      match c with
      | .int .u8 n => pure (ForInStep.yield (s.push (UInt8.ofNat n.toNat)))
      | _ => do
        stuck "bytesToString: byte expected"
        pure (ForInStep.yield s) : Sem (ForInStep ByteArray)))).run P w = .ok ⟨⟨acc ++ bs⟩⟩ w
  | [], _, bs, acc, hr, h => by
    cases (show _ = [] from hr); simp [bytesOf] at h; subst h; simp
  | x :: l, _, bs, acc, hr, h => by
    obtain ⟨y, k, rfl, hx, hl⟩ := hr
    unfold bytesOf at h
    split at h
    · rename_i heq; cases heq
    · rename_i n l0 heq
      simp only [List.cons.injEq] at heq; obtain ⟨rfl, rfl⟩ := heq
      split at h
      · rename_i r hr
        simp only [Option.some.injEq] at h; subst h
        cases (show y = _ from hx)
        have ih := run_bytes l k r (acc ++ [UInt8.ofNat n.toNat]) hl hr
        rw [List.forIn_cons]
        simp only [Sem.run_bind, Sem.run_pure, Result.andThen_ok]
        have e : (⟨⟨acc⟩⟩ : ByteArray).push (UInt8.ofNat n.toNat) = ⟨⟨acc ++ [UInt8.ofNat n.toNat]⟩⟩ := by
          apply ByteArray.ext; simp [ByteArray.push]
        rw [e, ih]; simp
      · cases h
    · cases h

theorem opR_sound (hm : MemRel ρ base n V w) {nv : Operand → Option NV} {ev : Operand → Value} (hev : EvRel ρ nv ev) (o : Oper) {v : NV} (h : opR P o.op V nv = some v) :
    ∃ v', (execOp ev o).run P w = .ok (.value v') w ∧ VRel ρ v v' := by
  obtain ⟨dst, op, ty, pos, after, guard⟩ := o
  cases op with
  | load t x =>
    simp only [opR] at h
    split at h
    · rename_i a hx
      obtain ⟨a', e, ha⟩ := hev _ _ hx
      obtain ⟨v', q1, q2⟩ := rdVar_sound (P := P) hm ha h
      exact ⟨v', by simp [execOp, Instr.loadAt, Instr.sureAddr, e, q1], q2⟩
    · cases h
  | lookup t x i commaOk =>
    simp only [opR] at h
    split at h
    · rename_i kt et r k hu hx hi
      have hk' := hev _ _ hi
      cases hkd : P.underlying kt with
      | none => simp [hkd] at h
      | some kd =>
        simp only [hkd] at h
        cases hko : keyOk kd k with
        | false => simp [hko] at h
        | true =>
          simp only [hko, cond_true] at h
          have key : ∃ es es', mapOf V r = some es ∧ MRel ρ es es'.toList ∧
              ((ev x = .map none ∧ es' = #[]) ∨ ∃ b ck, ev x = .map (some b) ∧ w.heap[b]? = some (.map es' ck)) := by
            cases r with
            | none => exact ⟨[], #[], rfl, rfl, .inl ⟨hev _ _ hx, rfl⟩⟩
            | some b =>
              obtain ⟨i0, b', hi0, e, hb⟩ := hev _ _ hx
              cases hV : V b with
              | none => simp [mapOf, hV] at h
              | some ob =>
                cases ob with
                | map es =>
                  obtain ⟨i1, hi1, hr⟩ := hm.rel _ _ hV
                  rw [hi0] at hi1; cases hi1
                  obtain ⟨g0, es', ck, g1, g2⟩ := hr
                  have := hb g0
                  subst this
                  exact ⟨es, es', by simp [mapOf, hV], g2, .inr ⟨_, ck, e, g1⟩⟩
                | _ => simp [mapOf, hV] at h
          obtain ⟨es, es', h1, h2, h3⟩ := key
          simp only [h1] at h
          cases hf : findKeyN k es with
          | none => simp [hf] at h
          | some rr =>
            obtain ⟨r', q1, q2⟩ := findKey_sound hko hk' 0 h2 hf
            have hck := fun bb => checkKey_ok (w := w) hko hkd hk' bb
            have hfk : (Instr.findKey kt (ev i) es'.toList).run P w = .ok r' w := by simp [Instr.findKey, run_underlying hkd, q1]
            cases rr with
            | some u =>
              simp only [hf, Option.some.injEq] at h; subst h
              cases r' with
              | none => exact q2.elim
              | some p =>
                obtain ⟨idx, u'⟩ := p
                refine ⟨if commaOk then .tuple #[u', .bool true] else u', ?_, ?_⟩
                · rcases h3 with ⟨h3, rfl⟩ | ⟨b, ck, h3, h4⟩
                  · simp [execOp, Instr.lookup, run_underlying hu, h3, hck]
                    simp at hfk; simp [hfk]
                  · simp [execOp, Instr.lookup, run_underlying hu, h3, run_getObj_map h4, hck, hfk]
                · cases commaOk
                  · exact q2
                  · exact ⟨_, rfl, _, _, rfl, q2, _, _, rfl, rfl, rfl⟩
            | none =>
              cases hz : tyZero P et with
              | none => simp [hf, hz] at h
              | some z =>
                simp only [hf, hz, Option.some.injEq] at h; subst h
                obtain ⟨z', hz', hzr⟩ := tyZero_rel ρ hz
                cases r' with
                | some p => exact q2.elim
                | none =>
                  refine ⟨if commaOk then .tuple #[z', .bool false] else z', ?_, ?_⟩
                  · rcases h3 with ⟨h3, rfl⟩ | ⟨b, ck, h3, h4⟩
                    · simp [execOp, Instr.lookup, run_underlying hu, h3, hck]
                      simp at hfk; simp [hfk, run_zeroValue w hz']
                    · simp [execOp, Instr.lookup, run_underlying hu, h3, run_getObj_map h4, hck, hfk, run_zeroValue w hz']
                  · cases commaOk
                    · exact hzr
                    · exact ⟨_, rfl, _, _, rfl, hzr, _, _, rfl, rfl, rfl⟩
    · cases h
  | convert s d x =>
    simp only [opR] at h
    split at h
    · rename_i e a len cap hs hd hx
      split at h
      · rename_i he
        obtain ⟨a', C, ex, har⟩ := hev _ _ hx
        cases a with
        | none =>
          simp only [Option.some.injEq] at h; subst h
          have := har.none
          subst this
          refine ⟨.string .empty, ?_, rfl⟩
          simp [execOp, ex, convert, run_underlying hs, run_underlying hd, run_underlying he, Conv.bytesToString]
        | some a =>
          simp only at h
          cases hr : rdCells V a len with
          | none => simp [hr] at h
          | some l =>
            cases hb : bytesOf l with
            | none => simp [hr, hb] at h
            | some bs =>
              simp [hr, hb] at h; subst h
              obtain ⟨a1, l', rfl, q1, q2, _⟩ := rdSlice_sound (P := P) hm har (sz := 1) (by simp) hr
              refine ⟨.string ⟨⟨bs⟩⟩, ?_, rfl⟩
              have hb' := run_bytes (P := P) (w := w) l l'.toList bs [] q2 hb
              simp only [execOp, convert, ex, Sem.run_bind, run_underlying hs, run_underlying hd, run_underlying he, Result.andThen_ok, Conv.bytesToString, q1 w rfl]
              rw [← Array.forIn_toList]
              refine (congrArg (fun r : Result ByteArray => (r.andThen fun a w' => Sem.run P (pure (Value.string a)) w').andThen fun a w' => Sem.run P (pure (Next.value a)) w') hb').trans ?_
              simp
      · cases h
    · cases h
  | call c =>
    obtain ⟨callee, args, argTypes⟩ := c
    simp only [opR] at h
    split at h
    · rename_i x t hargs ht
      have ha : args = #[x] := by apply Array.ext'; simpa using hargs
      subst ha
      split at h
      · rename_i k0 e0 r hu hx
        split at h
        · rename_i es hV
          simp only [Option.some.injEq] at h; subst h
          obtain ⟨i0, b', hi0, e, hb⟩ := hev _ _ hx
          obtain ⟨i1, hi1, hr⟩ := hm.rel _ _ hV
          rw [hi0] at hi1; cases hi1
          obtain ⟨g0, es', ck, g1, g2⟩ := hr
          have := hb g0
          subst this
          refine ⟨goInt es'.size, ?_, ?_⟩
          · simp [execOp, resolve, invoke, builtin, Builtin.len_, ht, e, run_underlying hu, run_getObj_map g1]
          · have := g2.length
            simp [VRel, goInt, this]
        · cases h
      · cases h
    · cases h
  | _ => simp [opR] at h
end
end Go.NI
