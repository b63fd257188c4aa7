/- The nice interpreter: every operation. -/
import Derived.Test.YtfpaeecnnlmjhaaGreatNiW6
namespace Go.NI
section
variable {P : Program} {ρ : Ren} {base n : Nat} {V : View} {w : World}

theorem nextV_sound {m m' : Mem} (hm : MemRel ρ base m.next m.view w) {b : Bool} {ty : TypeId} {x v : NV} {x' : Value} (hx : VRel ρ x x') (h : nextV x b m = some (v, m')) :
    ∃ v' w', (Instr.next x' b ty).run P w = .ok v' w' ∧ Post ρ base m w m' v v' w' := by
  unfold nextV at h
  split at h
  · rename_i r
    split at h
    · rename_i s pos hV
      obtain ⟨a', rfl, i, hi, hg, ha⟩ := hx
      obtain ⟨i2, hi2, hbr⟩ := hm.rel r (.iter s pos) hV
      simp only at hi
      rw [hi] at hi2; cases hi2
      obtain ⟨g0, g1, g2⟩ := hbr
      obtain ⟨_, rfl⟩ := ha (by simp only; exact g0.symm)
      have hlt : i.blk < w.heap.size := (Array.getElem?_eq_some_iff.1 g2).1
      have hgo : (getObj i.blk).run P w = .ok (.stringIter ⟨⟨s⟩⟩ pos) w := by simp [getObj, Sem.run, g2]
      simp only [cond_blt] at h
      split at h
      · rename_i hp
        simp only [Option.some.injEq, Prod.mk.injEq] at h; obtain ⟨rfl, rfl⟩ := h
        let c := (decodeAt s pos).1
        let wd := (decodeAt s pos).2
        let w' : World := { w with heap := w.heap.setIfInBounds i.blk (.stringIter ⟨⟨s⟩⟩ (pos + wd)) }
        have hb : BRel (ρ.put r i) w' i (.iter s (pos + wd)) := by
          rw [put_self hi]
          exact ⟨g0, g1, by simp [w', Array.getElem?_setIfInBounds, hlt]⟩
        obtain ⟨k1, k2⟩ := turnBlock hm (show m.view r = some (.iter s pos) from hV) rfl hi (.inl rfl) (.inl rfl) (w' := w')
          (fun k _ hk => by simp only [w']; rw [Array.getElem?_setIfInBounds, if_neg (fun e => hk e.symm)]) (by simp [w']) rfl rfl rfl hb
        rw [put_self hi] at k1 k2
        refine ⟨.tuple #[.bool true, goInt pos, .int .i32 c], w', ?_, ρ, ⟨_, rfl, _, _, rfl, rfl, _, _, rfl, rfl, _, _, rfl, rfl, rfl⟩, ?_, ?_⟩
        · have hsz : pos < (⟨⟨s⟩⟩ : ByteArray).size := hp
          have hset : (setObj i.blk (.stringIter ⟨⟨s⟩⟩ (pos + wd))).run P w = .ok () w' := by simp [setObj, Sem.run, g2, w']
          simp only [Instr.next, Nat.zero_sub, Sem.run_bind, hgo, Result.andThen_ok, hsz, if_true]
          show ((setObj i.blk (.stringIter ⟨⟨s⟩⟩ (pos + wd))).run P w).andThen _ = _
          rw [hset]; rfl
        · show MemRel _ _ _ (Mem.view { m with heap := m.heap.set r (.iter s (pos + wd)) }) _
          rw [view_set]; exact k1
        · refine Adv.of_set (fun _ h => h) ?_
          show Step _ _ _ _ (Mem.view { m with heap := m.heap.set r (.iter s (pos + wd)) }) _
          rw [view_set]; exact k2
      · rename_i hp
        simp only [Option.some.injEq, Prod.mk.injEq] at h; obtain ⟨rfl, rfl⟩ := h
        refine ⟨.tuple #[.bool false], w, ?_, ρ, ⟨_, rfl, _, _, rfl, rfl, rfl⟩, hm, Adv.refl _ _ _⟩
        have hsz : ¬ pos < (⟨⟨s⟩⟩ : ByteArray).size := hp
        simp only [Instr.next, Nat.zero_sub, Sem.run_bind, hgo, Result.andThen_ok, hsz, if_false]
        rfl
    · cases h
  · cases h

theorem opW_sound {call : CallF} {G : Nat} (hcall : CallOk P G base call) {m m' : Mem} (hgl : Glob G ρ m.view) (hm : MemRel ρ base m.next m.view w) {nv : Operand → Option NV} {ev : Operand → Value} (hev : EvRel ρ nv ev) (o : Oper) {v : NV}
    (h : opW P call o.op nv m = some (v, m')) : NextOk P ((execOp ev o).run P w) (Post ρ base m w m' v) := by
  obtain ⟨dst, op, ty, pos, after, guard⟩ := o
  cases op with
  | store t a x =>
    simp only [opW] at h
    split at h
    · rename_i a0 v0 ha hx
      cases hw : wrVar P m t a0 v0 with
      | none => simp [hw] at h
      | some m2 =>
        simp [hw] at h; obtain ⟨rfl, rfl⟩ := h
        obtain ⟨a', e, har⟩ := hev _ _ ha
        obtain ⟨w', q1, q2, q3⟩ := wrVar_sound (P := P) hm har (hev _ _ hx) hw
        have : (execOp ev { dst := dst, op := .store t a x, type := ty, pos := pos, after := after, guard := guard }).run P w = .ok .skip w' := by
          simp [execOp, Instr.storeAt, Instr.sureAddr, e, q1]
        rw [this]
        exact ⟨ρ, VRel.undef ρ, q2, q3⟩
    · cases h
  | mapUpdate t mp k x =>
    simp only [opW] at h
    split at h
    · rename_i mp0 k0 v0 hmp hk hx
      cases hw : mapUpdateV P t mp0 k0 v0 m with
      | none => simp [hw] at h
      | some m2 =>
        simp [hw] at h; obtain ⟨rfl, rfl⟩ := h
        obtain ⟨w', q1, q2, q3⟩ := mapUpdate_sound (P := P) hm (hev _ _ hmp) (hev _ _ hk) (hev _ _ hx) hw
        have : (execOp ev { dst := dst, op := .mapUpdate t mp k x, type := ty, pos := pos, after := after, guard := guard }).run P w = .ok .skip w' := by
          simp [execOp, q1]
        rw [this]
        exact ⟨ρ, VRel.undef ρ, q2, q3⟩
    · cases h
  | insert t mp k x =>
    simp only [opW] at h
    split at h
    · rename_i mp0 k0 v0 hmp hk hx
      cases hw : mapUpdateV P t mp0 k0 v0 m with
      | none => simp [hw] at h
      | some m2 =>
        simp [hw] at h; obtain ⟨rfl, rfl⟩ := h
        obtain ⟨w', q1, q2, q3⟩ := mapUpdate_sound (P := P) hm (hev _ _ hmp) (hev _ _ hk) (hev _ _ hx) hw
        have : (execOp ev { dst := dst, op := .insert t mp k x, type := ty, pos := pos, after := after, guard := guard }).run P w = .ok .skip w' := by
          simp [execOp, q1]
        rw [this]
        exact ⟨ρ, VRel.undef ρ, q2, q3⟩
    · cases h
  | next it isString =>
    simp only [opW] at h
    split at h
    · rename_i x hx
      obtain ⟨v', w', q1, q2⟩ := nextV_sound (P := P) (ty := ty) hm (hev _ _ hx) h
      have : (execOp ev { dst := dst, op := .next it isString, type := ty, pos := pos, after := after, guard := guard }).run P w = .ok (.value v') w' := by
        simp [execOp, q1]
      rw [this]
      exact q2
    · cases h
  | call c =>
    obtain ⟨callee, args, argTypes⟩ := c
    simp only [opW] at h
    split at h
    · rename_i f
      split at h
      · rename_i g first captured l hf hl
        obtain ⟨f', c', e, hf1, hc1⟩ := hev _ _ hf
        have hargs := hev.list hl
        have := hcall g _ m v m' h ρ w _ hgl hm ((hf1.append hargs).append hc1)
        have e2 : (execOp ev { dst := dst, op := .call { callee := .value f, args := args, argTypes := argTypes }, type := ty, pos := pos, after := after, guard := guard }).run P w = (callFunc g (f'.toList ++ args.toList.map ev ++ c'.toList).toArray).run P w := by
          have ea : f' ++ (args.map ev ++ c') = (f'.toList ++ (args.toList.map ev ++ c'.toList)).toArray := by apply Array.ext'; simp
          simp [execOp, resolve, e, Deferred.ofValue, invoke, ea]
        rw [e2]; exact this
      · cases h
    · split at h
      · rename_i x y st yt hl hst hyt
        split at h
        · cases h
        · rename_i d hne hd
          obtain ⟨x', r1, e1, hx', y', r2, e2, hy', e3⟩ := hev.list hl
          subst e2; cases (show r2 = [] from e3)
          have hargs : args.map ev = #[x', y'] := by apply Array.ext'; simpa using e1
          have hnd : notInt d = true := by cases d <;> first | rfl | (rename_i k; exact (hne k rfl).elim)
          obtain ⟨v', w', q1, q2⟩ := appendV_sound (P := P) (ty := ty) hm hst hyt hd hnd hx' hy' h
          have : (execOp ev { dst := dst, op := .call { callee := .builtin .append, args := args, argTypes := argTypes }, type := ty, pos := pos, after := after, guard := guard }).run P w = .ok (.value v') w' := by
            simp [execOp, resolve, invoke, builtin, hargs, q1]
          rw [this]; exact q2
        · cases h
      · cases h
    · split at h
      · rename_i x y dt hl hdt
        obtain ⟨x', r1, e1, hx', y', r2, e2, hy', e3⟩ := hev.list hl
        subst e2; cases (show r2 = [] from e3)
        have hargs : args.map ev = #[x', y'] := by apply Array.ext'; simpa using e1
        obtain ⟨v', w', q1, q2⟩ := copyV_sound (P := P) (ty := ty) hm hdt hx' hy' h
        have : (execOp ev { dst := dst, op := .call { callee := .builtin .copy, args := args, argTypes := argTypes }, type := ty, pos := pos, after := after, guard := guard }).run P w = .ok (.value v') w' := by
          simp [execOp, resolve, invoke, builtin, hargs, q1]
        rw [this]; exact q2
      · cases h
    · split at h
      · rename_i x t hl ht
        obtain ⟨x', r1, e1, hx', e3⟩ := hev.list hl
        cases (show r1 = [] from e3)
        have hargs : args.map ev = #[x'] := by apply Array.ext'; simpa using e1
        obtain ⟨v', w', q1, q2⟩ := clearV_sound (P := P) (ty := ty) hm ht hx' h
        have : (execOp ev { dst := dst, op := .call { callee := .builtin .clear, args := args, argTypes := argTypes }, type := ty, pos := pos, after := after, guard := guard }).run P w = .ok (.value v') w' := by
          simp [execOp, resolve, invoke, builtin, hargs, q1]
        rw [this]; exact q2
      · cases h
    · split at h
      · rename_i x y t hl ht
        obtain ⟨x', r1, e1, hx', y', r2, e2, hy', e3⟩ := hev.list hl
        subst e2; cases (show r2 = [] from e3)
        have hargs : args.map ev = #[x', y'] := by apply Array.ext'; simpa using e1
        obtain ⟨v', w', q1, q2⟩ := deleteV_sound (P := P) (ty := ty) hm ht hx' hy' h
        have : (execOp ev { dst := dst, op := .call { callee := .builtin .delete, args := args, argTypes := argTypes }, type := ty, pos := pos, after := after, guard := guard }).run P w = .ok (.value v') w' := by
          simp [execOp, resolve, invoke, builtin, hargs, q1]
        rw [this]; exact q2
      · cases h
    · cases h
  | _ => simp [opW] at h
end
end Go.NI
