/- The nice interpreter: every operation that writes memory. -/
import Derived.Test.YtfpaeecnnlmjhaaGreatNiW5
namespace Go.NI
def Glob (G : Nat) (ρ : Ren) (V : View) : Prop := ∀ g, g < G → (∃ t, ρ g = some ⟨0, g, 0, t⟩) ∧ ∀ o, V g = some o → o.wr = false

theorem Glob.step {G : Nat} {ρ ρ' : Ren} {V V' : View} {w w' : World} (h : Glob G ρ V) (s : Step ρ V w ρ' V' w') : Glob G ρ' V' := by
  intro g hg
  obtain ⟨⟨t, ht⟩, hn⟩ := h g hg
  refine ⟨⟨t, s.stay g _ ht hn⟩, fun o ho => ?_⟩
  cases hw : o.wr with
  | false => rfl
  | true =>
    rcases s.live g o ho with h0 | ⟨o', hV, hwr⟩
    · rw [h0] at ht; cases ht
    · have hwr := hwr hw; rw [hn o' hV] at hwr; cases hwr

section
variable {P : Program} {ρ : Ren} {base n : Nat} {V : View} {w : World}

/-- What an operation's run comes to. -/
def NextOk (P : Program) (r : Result Next) (R : Value → World → Prop) : Prop :=
  match r with
  | .ok (.value v) w => R v w
  | .ok .skip w => R Go.undef w
  | .ok (.enter f args) w => Calls P f args w fun e w' => ∃ v, e = .returned v ∧ R v w'
  | _ => False

def CallOk (P : Program) (G base : Nat) (call : CallF) : Prop :=
  ∀ g args m v m', call g args m = some (v, m') → ∀ (ρ : Ren) (w : World) (args' : List Value), Glob G ρ m.view → MemRel ρ base m.next m.view w → VRels ρ args args' →
    NextOk P ((callFunc g args'.toArray).run P w) (Post ρ base m w m' v)

theorem wrVar_sound {m m' : Mem} (hm : MemRel ρ base m.next m.view w) {t : TypeId} {a : NA} {a' : Addr} (ha : ARel ρ a a') {v : NV} {v' : Value} (hv : VRel ρ v v') (h : wrVar P m t a v = some m') :
    ∃ w', (storeVar t a' v').run P w = .ok () w' ∧ MemRel ρ base m'.next m'.view w' ∧ Adv ρ m w ρ m' w' := by
  unfold wrVar at h
  split at h
  · rename_i k hs
    simp only [cond_beq] at h
    split at h
    · rename_i hk
      obtain ⟨w', q1, q2, q3⟩ := wrCells_sound (P := P) hm ha hv.cells h
      have hl := hv.cells.length
      simp only [Array.length_toList] at hl
      refine ⟨w', ?_, q2, q3⟩
      simp only [storeVar, Sem.run_bind, run_sizeOf w hs, Result.andThen_ok]
      rw [if_neg (by omega)]
      exact q1
    · cases h
  · cases h

theorem sameBits_key {kd : TypeDesc} {k k1 : NV} {k' k1' : Value} (hk : keyOk kd k = true) (hr : VRel ρ k k') (hr1 : VRel ρ k1 k1') (h : eqKey k k1 = some true) : Instr.sameBits 10000 k1' k' = true := by
  unfold keyOk at hk
  split at hk
  · cases (show k' = _ from hr)
    cases k1 <;> simp [eqKey] at h
    rename_i k0 kk x kk' y
    cases (show k1' = _ from hr1)
    cases he : eqK kk kk' with
    | false => simp [he] at h
    | true =>
      have := eqK_eq.1 he; subst this
      simp [he, eqI_eq] at h
      simp [Instr.sameBits, h]
  · cases (show k' = _ from hr)
    cases k1 <;> simp [eqKey] at h
    rename_i s y
    cases (show k1' = _ from hr1)
    rw [eqS_eq] at h
    simp at h
    simp [Instr.sameBits, h, beq_toListBytes]
  · cases hk

theorem putKey_sound {kd : TypeDesc} {k v : NV} {k' v' : Value} (hk : keyOk kd k = true) (hr : VRel ρ k k') (hv : VRel ρ v v') (ck : Nat) : ∀ {es es2 : List (NV × NV)} {l : List MapEntry} (i : Nat), MRel ρ es l → putKey k v es = some es2 →
    (∃ j v0 e0, Instr.findNow kd k' l i = some (some (i + j, v0)) ∧ l[j]? = some e0 ∧ Instr.sameBits 10000 e0.key k' = true ∧ MRel ρ es2 (l.modify j fun e => { e with key := k', val := v' })) ∨
      (Instr.findNow kd k' l i = some none ∧ MRel ρ es2 (l ++ [{ key := k', val := v', born := ck }]))
  | [], es2, l, i, hm, h => by
    cases (show l = [] from hm)
    simp [putKey] at h; subst h
    exact .inr ⟨rfl, _, _, rfl, hr, hv, rfl⟩
  | (k1, v1) :: es, es2, l, i, hm, h => by
    obtain ⟨e, l', rfl, h1, h2, h3⟩ := hm
    simp only [putKey] at h
    split at h
    · rename_i he
      simp only [Option.some.injEq] at h; subst h
      have := eqKey_sound hk hr h1 he
      exact .inl ⟨0, e.val, e, by simp [Instr.findNow, this], by simp, sameBits_key hk hr h1 he, _, _, rfl, hr, hv, h3⟩
    · rename_i he
      have hne := eqKey_sound hk hr h1 he
      cases hp : putKey k v es with
      | none => simp [hp] at h
      | some es3 =>
        simp [hp] at h; subst h
        rcases putKey_sound hk hr hv ck (i + 1) h3 hp with ⟨j, v0, e0, q1, q2, q3, q4⟩ | ⟨q1, q2⟩
        · refine .inl ⟨j + 1, v0, e0, ?_, by simpa using q2, q3, e, _, rfl, h1, h2, q4⟩
          simp only [Instr.findNow, hne, q1]
          congr 3; omega
        · exact .inr ⟨by simp only [Instr.findNow, hne, q1], e, _, rfl, h1, h2, q2⟩
    · cases h

theorem run_setObj_map {r : Nat} {es es2 : Array MapEntry} {ck ck2 : Nat} (h : w.heap[r]? = some (.map es ck)) : (setObj r (.map es2 ck2)).run P w = .ok () { w with heap := w.heap.setIfInBounds r (.map es2 ck2) } := by
  simp [setObj, Sem.run, h]

/-- A map's block turns. -/
theorem setMap_sound {m : Mem} (hm : MemRel ρ base m.next m.view w) {r : Nat} {es es2 : List (NV × NV)} {i : Inc} (hV : m.heap.get r = some (.map es)) (hi : ρ r = some i) (hg : i.gen = 0) {es' : Array MapEntry} {ck ck' : Nat} {es2' : Array MapEntry}
    (hh : w.heap[i.blk]? = some (.map es' ck)) (hr : MRel ρ es2 es2'.toList) :
    MemRel ρ base m.next (Mem.view { m with heap := m.heap.set r (.map es2) }) { w with heap := w.heap.setIfInBounds i.blk (.map es2' ck') } ∧
      Adv ρ m w ρ { m with heap := m.heap.set r (.map es2) } { w with heap := w.heap.setIfInBounds i.blk (.map es2' ck') } := by
  have hlt : i.blk < w.heap.size := (Array.getElem?_eq_some_iff.1 hh).1
  have hb : BRel (ρ.put r i) { w with heap := w.heap.setIfInBounds i.blk (.map es2' ck') } i (.map es2) := by
    rw [put_self hi]
    refine ⟨hg, es2', ck', ?_, hr⟩
    simp [Array.getElem?_setIfInBounds, hlt]
  obtain ⟨k1, k2⟩ := turnBlock hm (show m.view r = some (.map es) from hV) rfl hi (.inl rfl) (.inl rfl) (w' := { w with heap := w.heap.setIfInBounds i.blk (.map es2' ck') })
    (fun k _ hk => by rw [Array.getElem?_setIfInBounds, if_neg (fun e => hk e.symm)]) (by simp) rfl rfl rfl hb
  rw [put_self hi] at k1 k2
  refine ⟨by rw [view_set]; exact k1, Adv.of_set (fun _ h => h) ?_⟩
  rw [view_set]
  exact k2

theorem mapUpdate_sound {m m' : Mem} (hm : MemRel ρ base m.next m.view w) {t : TypeId} {mp k v : NV} {mp' k' v' : Value} (hmp : VRel ρ mp mp') (hk : VRel ρ k k') (hv : VRel ρ v v') (h : mapUpdateV P t mp k v m = some m') :
    ∃ w', (Instr.mapUpdate t mp' k' v').run P w = .ok () w' ∧ MemRel ρ base m'.next m'.view w' ∧ Adv ρ m w ρ m' w' := by
  unfold mapUpdateV at h
  split at h
  · rename_i kt et r hu
    split at h
    · rename_i kd es hkd hV
      cases hko : keyOk kd k with
      | false => simp [hko] at h
      | true =>
        simp only [hko, cond_true] at h
        split at h
        · rename_i es2 hp
          simp only [Option.some.injEq] at h; subst h
          obtain ⟨i, b, hi, rfl, hb⟩ := hmp
          obtain ⟨i2, hi2, hbr⟩ := hm.rel r (.map es) hV
          rw [hi] at hi2; cases hi2
          obtain ⟨g0, es', ck, g1, g2⟩ := hbr
          have := hb g0; subst this
          have hck := checkKey_ok (w := w) hko hkd hk false
          rcases putKey_sound hko hk hv ck 0 g2 hp with ⟨j, v0, e0, q1, q2, q3, q4⟩ | ⟨q1, q2⟩
          · rw [Nat.zero_add] at q1
            obtain ⟨k1, k2⟩ := setMap_sound hm (ck' := ck) (es2' := es'.modify j fun e => { e with key := k', val := v' }) hV hi g0 g1 (by rw [Array.toList_modify]; exact q4)
            refine ⟨_, ?_, k1, k2⟩
            have hfk : (Instr.findKey kt k' es'.toList).run P w = .ok (some (j, v0)) w := by simp [Instr.findKey, run_underlying hkd, q1]
            have hj : es'[j]? = some e0 := by simpa using q2
            have hks : (Instr.keyThatStays e0.key k').run P w = .ok k' w := by simp [Instr.keyThatStays, q3]
            simp only [Instr.mapUpdate, Sem.run_bind, run_underlying hu, Result.andThen_ok, run_getObj_map g1, hck, hfk, hj, Option.map_some, Option.getD_some, hks]
            exact run_setObj_map g1
          · obtain ⟨k1, k2⟩ := setMap_sound hm (ck' := ck + 1) (es2' := es'.push { key := k', val := v', born := ck }) hV hi g0 g1 (by rw [Array.toList_push]; exact q2)
            refine ⟨_, ?_, k1, k2⟩
            have hfk : (Instr.findKey kt k' es'.toList).run P w = .ok none w := by simp [Instr.findKey, run_underlying hkd, q1]
            simp only [Instr.mapUpdate, Sem.run_bind, run_underlying hu, Result.andThen_ok, run_getObj_map g1, hck, hfk]
            exact run_setObj_map g1
        · cases h
    · cases h
  · cases h

theorem delKey_sound {kd : TypeDesc} {k : NV} {k' : Value} (hk : keyOk kd k = true) (hr : VRel ρ k k') : ∀ {es es2 : List (NV × NV)} {l : List MapEntry} (i : Nat), MRel ρ es l → delKey k es = some es2 →
    (∃ j v0, Instr.findNow kd k' l i = some (some (i + j, v0)) ∧ MRel ρ es2 (l.eraseIdx j)) ∨ (Instr.findNow kd k' l i = some none ∧ MRel ρ es2 l)
  | [], es2, l, i, hm, h => by
    cases (show l = [] from hm)
    simp [delKey] at h; subst h
    exact .inr ⟨rfl, rfl⟩
  | (k1, v1) :: es, es2, l, i, hm, h => by
    obtain ⟨e, l', rfl, h1, h2, h3⟩ := hm
    simp only [delKey] at h
    split at h
    · rename_i he
      simp only [Option.some.injEq] at h; subst h
      have := eqKey_sound hk hr h1 he
      exact .inl ⟨0, e.val, by simp [Instr.findNow, this], h3⟩
    · rename_i he
      have hne := eqKey_sound hk hr h1 he
      cases hp : delKey k es with
      | none => simp [hp] at h
      | some es3 =>
        simp [hp] at h; subst h
        rcases delKey_sound hk hr (i + 1) h3 hp with ⟨j, v0, q1, q4⟩ | ⟨q1, q2⟩
        · refine .inl ⟨j + 1, v0, ?_, e, _, rfl, h1, h2, q4⟩
          simp only [Instr.findNow, hne, q1]
          congr 3; omega
        · exact .inr ⟨by simp only [Instr.findNow, hne, q1], e, _, rfl, h1, h2, q2⟩
    · cases h

def stOpt (P : Program) (w : World) : Option Addr → List Value → Result Unit
  | some a, l => (storeCells a l).run P w
  | none, _ => .ok () w

theorem copyV_sound {m m' : Mem} (hm : MemRel ρ base m.next m.view w) {argTypes : Array TypeId} {ty dt : TypeId} {x y v : NV} {x' y' : Value} (h0 : argTypes[0]? = some dt) (hx : VRel ρ x x') (hy : VRel ρ y y') (h : copyV P dt x y m = some (v, m')) :
    ∃ v' w', (Builtin.copy_ argTypes ty #[x', y']).run P w = .ok v' w' ∧ Post ρ base m w m' v v' w' := by
  unfold copyV at h
  split at h
  · rename_i e bs dn cap hu
    obtain ⟨a', C, rfl, hsr⟩ := hx
    split at h
    · cases h
    · rename_i sz hs
      simp only at h
      split at h
      · cases h
      · rename_i sn hlen
        have hmin : (bif Nat.ble sn dn then sn else dn) = Nat.min sn dn := by
          rw [cond_ble]; split
          · rename_i hle; exact (Nat.min_eq_left hle).symm
          · rename_i hle; exact (Nat.min_eq_right (by omega)).symm
        rw [hmin] at h
        have hln : (Builtin.lenOf y').run P w = .ok sn w := by
          cases y <;> simp at hlen
          · subst hlen; cases (show y' = _ from hy); simp [Builtin.lenOf, size_mk]
          · subst hlen; obtain ⟨b', C', rfl, _⟩ := hy; simp [Builtin.lenOf]
        have hrun : ∀ (l' : Array Value) (r : Result Unit), (Builtin.firstCells sz (Nat.min sn dn) y').run P w = .ok l' w → stOpt P w a' l'.toList = r →
            (Builtin.copy_ argTypes ty #[.slice a' dn C, y']).run P w = r.andThen fun _ w' => .ok (goInt (Nat.min sn dn)) w' := by
          rintro l' r h1 rfl
          simp only [Builtin.copy_, h0, List.getElem?_toArray, List.getElem?_cons_zero, List.getElem?_cons_succ, Sem.run_bind, run_underlying hu, Result.andThen_ok, hln, run_sizeOf w hs, h1]
          cases a' <;> simp [stOpt]
        simp only [cond_beq] at h
        split at h
        · rename_i hz
          simp only [Option.some.injEq, Prod.mk.injEq] at h; obtain ⟨rfl, rfl⟩ := h
          have hf : (Builtin.firstCells sz (Nat.min sn dn) y').run P w = .ok #[] w := by
            rw [hz]
            cases y <;> simp at hlen
            · cases (show y' = _ from hy); simp [Builtin.firstCells, extract_mk]
            · obtain ⟨b', C', rfl, _⟩ := hy
              cases b' <;> simp [Builtin.firstCells, loadCells, loadCellsFrom]
          refine ⟨goInt 0, w, ?_, ρ, rfl, hm, Adv.refl _ _ _⟩
          rw [hrun #[] (.ok () w) hf (by cases a' <;> simp [stOpt, storeCells]), hz]; rfl
        · rename_i hz
          split at h
          · rename_i a l hsrc
            cases hw : wrCells m a l with
            | none => simp [hw] at h
            | some m2 =>
              simp [hw] at h; obtain ⟨rfl, rfl⟩ := h
              have hmn : 0 < Nat.min sn dn := Nat.pos_of_ne_zero hz
              obtain ⟨a1, rfl, har⟩ := hsr.addr
              have hf : ∃ l' : Array Value, (Builtin.firstCells sz (Nat.min sn dn) y').run P w = .ok l' w ∧ VRels ρ l l'.toList := by
                cases y <;> first | (cases hsrc; done) | skip
                · rename_i s
                  cases (show y' = _ from hy)
                  simp only [Option.some.injEq] at hsrc
                  subst hsrc
                  refine ⟨(s.take (Nat.min sn dn)).toArray.map fun b => .int .u8 b.toNat, by simp [Builtin.firstCells, extract_mk], ?_⟩
                  refine VRels.of_get (by simp) fun i x hx => ?_
                  simp only [List.getElem?_map, Option.map_eq_some_iff] at hx
                  obtain ⟨b, hb, rfl⟩ := hx
                  exact ⟨.int .u8 b.toNat, by simp only [Array.toList_map, List.getElem?_map, hb]; rfl, rfl⟩
                · rename_i b n0 c0
                  simp at hlen; subst hlen
                  cases b with
                  | none => simp at hsrc
                  | some b =>
                    obtain ⟨b', C', rfl, hsr'⟩ := hy
                    obtain ⟨b1, rfl, har'⟩ := hsr'.addr
                    have : Nat.min n0 dn ≤ n0 := Nat.min_le_left _ _
                    obtain ⟨l', q1, q2, _⟩ := rdCells_sound (P := P) hm (har' (by omega)) hsrc
                    exact ⟨l', by simpa [Builtin.firstCells] using q1 w rfl, q2⟩
              obtain ⟨l', q1, q2⟩ := hf
              have : Nat.min sn dn ≤ dn := Nat.min_le_right _ _
              obtain ⟨w', p1, p2, p3⟩ := wrCells_sound (P := P) hm (har (by omega)) q2 hw
              refine ⟨goInt (Nat.min sn dn), w', ?_, ρ, rfl, p2, p3⟩
              rw [hrun l' _ q1 p1]; rfl
          · cases h
  · cases h

theorem clearV_sound {m m' : Mem} (hm : MemRel ρ base m.next m.view w) {argTypes : Array TypeId} {ty t : TypeId} {x v : NV} {x' : Value} (h0 : argTypes[0]? = some t) (hx : VRel ρ x x') (h : clearV P t x m = some (v, m')) :
    ∃ v' w', (Builtin.clear_ argTypes ty #[x']).run P w = .ok v' w' ∧ Post ρ base m w m' v v' w' := by
  unfold clearV at h
  split at h
  · rename_i e a n cap hu
    obtain ⟨a', C, rfl, hsr⟩ := hx
    split at h
    · cases h
    · rename_i z hz
      split at h
      · cases h
      · rename_i c cs hc
        obtain ⟨z', hz', hzr⟩ := tyZero_rel ρ hz
        simp only [cond_beq] at h
        split at h
        · rename_i hn; subst hn
          simp only [Option.some.injEq, Prod.mk.injEq] at h; obtain ⟨rfl, rfl⟩ := h
          refine ⟨.tuple #[], w, ?_, ρ, VRel.undef ρ, hm, Adv.refl _ _ _⟩
          cases a' <;> simp [Builtin.clear_, h0, run_underlying hu]
        · rename_i hn
          cases a with
          | none =>
            have := hsr.none; subst this
            simp only [Option.some.injEq, Prod.mk.injEq] at h; obtain ⟨rfl, rfl⟩ := h
            refine ⟨.tuple #[], w, ?_, ρ, VRel.undef ρ, hm, Adv.refl _ _ _⟩
            simp [Builtin.clear_, h0, run_underlying hu]
          | some a =>
            simp only at h
            cases hw : wrCells m a ((List.replicate n (c :: cs)).flatten) with
            | none => simp [hw] at h
            | some m2 =>
              simp [hw] at h; obtain ⟨rfl, rfl⟩ := h
              obtain ⟨a1, rfl, har⟩ := hsr.addr
              have hzz := zeros_rel (k := n) (sz := (c :: cs).length) (hc ▸ hzr.cells) rfl (by simp)
              have hsz : z'.cells.size = (c :: cs).length := by
                have := hzr.cells.length; rw [hc] at this; simpa using this.symm
              obtain ⟨w', p1, p2, p3⟩ := wrCells_sound (P := P) hm (har (by omega)) hzz hw
              refine ⟨.tuple #[], w', ?_, ρ, VRel.undef ρ, p2, p3⟩
              have hzc : Builtin.zeroCells z'.cells n = (Array.range (n * (c :: cs).length)).map (z'.cells[· % z'.cells.size]!) := by
                simp only [Builtin.zeroCells, hsz]
              obtain ⟨n, rfl⟩ : ∃ k, n = k + 1 := ⟨n - 1, by omega⟩
              simp only [Builtin.clear_, h0, List.getElem?_toArray, List.getElem?_cons_zero, Sem.run_bind, run_underlying hu, Result.andThen_ok, run_zeroValue w hz', hzc, p1, Sem.run_pure]
  · cases h

theorem deleteV_sound {m m' : Mem} (hm : MemRel ρ base m.next m.view w) {argTypes : Array TypeId} {ty t : TypeId} {x k v : NV} {x' k' : Value} (h0 : argTypes[0]? = some t) (hx : VRel ρ x x') (hk : VRel ρ k k') (h : deleteV P t x k m = some (v, m')) :
    ∃ v' w', (Builtin.delete_ argTypes ty #[x', k']).run P w = .ok v' w' ∧ Post ρ base m w m' v v' w' := by
  unfold deleteV at h
  split at h
  · rename_i kt et r hu
    split at h
    · rename_i kd es hkd hV
      cases hko : keyOk kd k with
      | false => simp [hko] at h
      | true =>
        simp only [hko, cond_true] at h
        split at h
        · rename_i es2 hp
          simp only [Option.some.injEq, Prod.mk.injEq] at h; obtain ⟨rfl, rfl⟩ := h
          obtain ⟨i, b, hi, rfl, hb⟩ := hx
          obtain ⟨i2, hi2, hbr⟩ := hm.rel r (.map es) hV
          rw [hi] at hi2; cases hi2
          obtain ⟨g0, es', ck, g1, g2⟩ := hbr
          have := hb g0; subst this
          have hck := checkKey_ok (w := w) hko hkd hk es'.isEmpty
          rcases delKey_sound hko hk 0 g2 hp with ⟨j, v0, q1, q4⟩ | ⟨q1, q2⟩
          · rw [Nat.zero_add] at q1
            obtain ⟨k1, k2⟩ := setMap_sound hm (ck' := ck) (es2' := es'.eraseIdxIfInBounds j) hV hi g0 g1 (by
              rw [Array.eraseIdxIfInBounds_eq]
              split
              · simpa using q4
              · rename_i hj
                rw [List.eraseIdx_of_length_le (by simpa using hj)] at q4
                exact q4)
            refine ⟨.tuple #[], _, ?_, ρ, VRel.undef ρ, k1, k2⟩
            have hfk : (Instr.findKey kt k' es'.toList).run P w = .ok (some (j, v0)) w := by simp [Instr.findKey, run_underlying hkd, q1]
            simp only [Builtin.delete_, h0, List.getElem?_toArray, List.getElem?_cons_zero, List.getElem?_cons_succ, Sem.run_bind, run_underlying hu, Result.andThen_ok, run_getObj_map g1, hck, hfk, run_setObj_map g1, Sem.run_pure]
          · obtain ⟨k1, k2⟩ := setMap_sound hm (ck' := ck) (es2' := es') hV hi g0 g1 q2
            refine ⟨.tuple #[], _, ?_, ρ, VRel.undef ρ, k1, k2⟩
            have hfk : (Instr.findKey kt k' es'.toList).run P w = .ok none w := by simp [Instr.findKey, run_underlying hkd, q1]
            simp only [Builtin.delete_, h0, List.getElem?_toArray, List.getElem?_cons_zero, List.getElem?_cons_succ, Sem.run_bind, run_underlying hu, Result.andThen_ok, run_getObj_map g1, hck, hfk, run_setObj_map g1, Sem.run_pure]
        · cases h
    · cases h
  · cases h
end
end Go.NI
