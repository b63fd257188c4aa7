/- The nice interpreter: append, every case. -/
import Derived.Test.YtfpaeecnnlmjhaaGreatNiW4
namespace Go.NI
section
variable {P : Program} {ρ : Ren} {base n : Nat} {V : View} {w : World}

theorem appendGo_sound {m m' : Mem} (hm : MemRel ρ base m.next m.view w) {argTypes : Array TypeId} {ty st yt e : TypeId} {d : TypeDesc} {sz by_ k nn C : Nat} {ba : Option NA} {ba' : Option Addr} {cap : NCap} {y' : Value} {new : List NV} {l' : Array Value} {v : NV}
    (h0 : argTypes[0]? = some st) (h1 : argTypes[1]? = some yt) (hu : P.underlying st = some (.slice e)) (hd : P.underlying yt = some d) (hnd : notInt d = true) (hs : tySize P e = some sz) (hby : tyBytes P e = some by_)
    (hx : SRel ρ ba nn cap ba' C) (hl : (Builtin.lenOf y').run P w = .ok k w) (hf : ∀ w2 : World, w2.heap = w.heap → (Builtin.firstCells sz k y').run P w2 = .ok l' w2) (hnl : new.length = k * sz) (hr : VRels ρ new l'.toList)
    (hsz : 0 < sz) (hk : 0 < k) (hb1 : (nn + k) * by_ ≤ 1099511627776) (hb2 : 0 < by_) (hone : new.all NV.oneCell = true) (hz : zeroOk P e sz = true) (h : appendGo sz nn k new ba cap m = some (v, m')) :
    ∃ v' w', (Builtin.append_ argTypes ty #[.slice ba' nn C, y']).run P w = .ok v' w' ∧ Post ρ base m w m' v v' w' := by
  obtain ⟨z, hz1, hz2⟩ := zeroOk_spec hz
  have hlen := hr.length
  simp only [Array.length_toList] at hlen
  unfold appendGo at h
  cases ba with
  | none =>
    have := hx.none
    subst this
    simp only at h
    split at h
    · split at h
      · simp only [Option.some.injEq, Prod.mk.injEq] at h; obtain ⟨rfl, rfl⟩ := h
        have hC : C = 0 := hx.1
        subst hC
        obtain ⟨c, q1, q2⟩ := append_grow (P := P) (w := w) (ty := ty) (b := none) h0 h1 hu hd hnd hs hby hl (hf w.drew rfl) (show 0 < 0 + k by omega) hb1 hb2 hz1 (old := #[]) rfl
        refine ⟨_, _, q2, ?_⟩
        rw [show 0 + k = k from by omega] at q1 ⊢
        refine appendNew_sound hm e hnl q1 (fun j u hj => ?_) ?_
        · obtain ⟨y, hy, hrel⟩ := hr.get hj
          have hjl : j < new.length := (List.getElem?_eq_some_iff.1 hj).1
          refine ⟨y, ?_, hrel⟩
          simp only [Array.empty_append]
          rw [Array.getElem?_append_left (by omega)]
          simpa using hy
        · simp only [Array.empty_append, Array.size_append, zeroCells_size, hz2]
          have : (c - k) * sz + k * sz = c * sz := by rw [← Nat.add_mul]; congr 1; omega
          omega
      · cases h
    · cases h
  | some a =>
    obtain ⟨a1, e1, haddr⟩ := hx.addr
    subst e1
    cases cap with
    | exact c =>
      have hC : C = c := hx.1
      subst hC
      have har : ARel ρ a a1 := hx.2
      simp only [cond_ble] at h
      split at h
      · rename_i hle
        cases hw : wrCells m (a.add (nn * sz)) new with
        | none => simp [hw] at h
        | some m2 =>
          simp [hw] at h; obtain ⟨rfl, rfl⟩ := h
          obtain ⟨w', q1, q2, q3⟩ := wrCells_sound (P := P) hm (har.add _) hr hw
          refine ⟨.slice (some a1) (nn + k) C, w', ?_, ρ, ⟨_, _, rfl, rfl, har⟩, q2, q3⟩
          rw [append_inplace (ty := ty) h0 h1 hu hd hnd hs hl (hf w rfl) hle]
          simp [q1]
      · rename_i hle
        split at h
        · cases h
        · rename_i old hold
          simp only [Option.some.injEq, Prod.mk.injEq] at h; obtain ⟨rfl, rfl⟩ := h
          obtain ⟨a2, o', e2, g1, g2, g3⟩ := rdSlice_sound (P := P) hm hx rfl hold
          simp only [Option.some.injEq] at e2; subst e2
          have hol := g2.length
          simp only [Array.length_toList] at hol
          obtain ⟨cp, q1, q2⟩ := append_grow (P := P) (w := w) (ty := ty) (b := some a1) h0 h1 hu hd hnd hs hby hl (hf w.drew rfl) (show C < nn + k by omega) hb1 hb2 hz1 (old := o') (g1 w.drew rfl)
          refine ⟨_, _, q2, appendNew_sound hm e (by rw [List.length_append, g3, hnl, ← Nat.add_mul]) q1 (fun j u hj => ?_) ?_⟩
          · obtain ⟨y, hy, hrel⟩ := (g2.append hr).get hj
            have hjl : j < (old ++ new).length := (List.getElem?_eq_some_iff.1 hj).1
            simp only [List.length_append] at hjl
            refine ⟨y, ?_, hrel⟩
            rw [Array.getElem?_append_left (by simp; omega)]
            rw [← Array.getElem?_toList, Array.toList_append]
            exact hy
          · simp only [Array.size_append, zeroCells_size, hz2]
            have h3 : (cp - (nn + k)) * sz + (nn + k) * sz = cp * sz := by rw [← Nat.add_mul]; congr 1; omega
            rw [Nat.add_mul] at h3
            omega
    | opn lb es =>
      simp only [cond_beq] at h
      split at h
      · rename_i hes; subst hes
        obtain ⟨hn1, hn2, a0, a2, ea, ea2, i, hi, hgi, hreg⟩ := hx
        simp only [Option.some.injEq] at ea ea2; subst ea; subst ea2
        simp only [cond_ble] at h
        split at h
        · rename_i hle
          have hCpos : ¬ C = 0 := by omega
          have har : ARel ρ a a1 := ⟨i, hi, hgi, fun hg => by
            rcases hreg hg with hz | ⟨g1, g2, _⟩
            · omega
            · exact ⟨g1, g2⟩⟩
          cases hw : wrCells m (a.add (nn * es)) new with
          | none => simp [hw] at h
          | some m2 =>
            simp [hw] at h; obtain ⟨rfl, rfl⟩ := h
            obtain ⟨w', q1, q2, q3⟩ := wrCells_sound (P := P) hm (har.add _) hr hw
            refine ⟨.slice (some a1) (nn + k) C, w', ?_, ρ, ⟨_, _, rfl, hle, hn2, _, _, rfl, rfl, i, hi, hgi, hreg⟩, q2, q3⟩
            rw [append_inplace (ty := ty) h0 h1 hu hd hnd hs hl (hf w rfl) (by omega)]
            simp [q1]
        · rename_i hnle
          split at h
          · rename_i b hb
            cases hc : (Nat.beq a.gen b.gen && !b.ro && Nat.beq (a.off + nn * es) b.size) with
            | false => simp [hc] at h
            | true =>
              simp only [hc, cond_true, Option.some.injEq, Prod.mk.injEq] at h; obtain ⟨rfl, rfl⟩ := h
              simp only [Bool.and_eq_true] at hc
              obtain ⟨⟨c1, c2⟩, c3⟩ := hc
              have c1 : a.gen = b.gen := Nat.eq_of_beq_eq_true c1
              have c2 : b.ro = false := by simpa using c2
              have c3 : a.off + nn * es = b.size := Nat.eq_of_beq_eq_true c3
              have hV : m.view a.blk = some (.cells b) := hb
              obtain ⟨i2, hi2, hbr⟩ := hm.rel _ _ hV
              rw [hi] at hi2; cases hi2
              obtain ⟨b1, b2, cs, e0, fz, b3, b4, b5, b6⟩ := hbr
              have hgg : a.gen = i.gen := by rw [c1, b1]
              by_cases hCC : nn + k ≤ C
              · rcases hreg hgg with hz | ⟨g1, g2, g3⟩
                · omega
                · subst g2
                  obtain ⟨w', q1, q2⟩ := appendTip_inplace (P := P) hm hb hi c1 c2 c3 g1 g3 hCC hnl hr hone
                  refine ⟨_, w', ?_, q2⟩
                  rw [append_inplace (ty := ty) h0 h1 hu hd hnd hs hl (hf w rfl) hCC]
                  simp [q1]
              · -- grows: the old cells
                have hold : ∃ o' : Array Value, (Builtin.firstCells es nn (.slice (some a1) nn C)).run P w.drew = .ok o' w.drew ∧ o'.size = nn * es ∧
                    ∀ (j : Nat) u, a.off ≤ j → b.get j = some u → ∃ u', o'[j - a.off]? = some u' ∧ VRel ρ u u' := by
                  rcases hreg hgg with hz | ⟨g1, g2, g3⟩
                  · have hn0 : nn = 0 := by omega
                    subst hn0
                    refine ⟨#[], by simp [Builtin.firstCells, loadCells, loadCellsFrom], by simp, fun j u hj hu' => ?_⟩
                    simp only [Blk.get, cond_blt] at hu'
                    split at hu'
                    · omega
                    · cases hu'
                  · subst g2
                    refine ⟨((cs.toList.drop (a.off - i.sh)).take (nn * es)).toArray, ?_, ?_, fun j u hj hu' => ?_⟩
                    · simp only [Builtin.firstCells]
                      exact run_loadRow (P := P) (w := w.drew) b3 (by omega)
                    · simp; omega
                    · have hjs : j < b.size := by
                        simp only [Blk.get, cond_blt] at hu'
                        split at hu'
                        · assumption
                        · cases hu'
                      obtain ⟨u', p1, p2⟩ := b6 j u (by omega) hu'
                      refine ⟨u', ?_, p2⟩
                      simp only [List.getElem?_toArray, List.getElem?_take, List.getElem?_drop]
                      rw [if_pos (by omega), show a.off - i.sh + (j - a.off) = j - i.sh from by omega]
                      simpa using p1
                obtain ⟨o', p1, p2, p3⟩ := hold
                obtain ⟨cp, q1, q2⟩ := append_grow (P := P) (w := w) (ty := ty) (b := some a1) h0 h1 hu hd hnd hs hby hl (hf w.drew rfl) (show C < nn + k by omega) hb1 hb2 hz1 (old := o') p1
                refine ⟨_, _, q2, appendTip_grow hm e hb hi c2 c3 p2 p3 q1 ?_ hnl hr⟩
                simp only [Array.size_append, zeroCells_size, hz2]
                have h3 : (cp - (nn + k)) * es + (nn + k) * es = cp * es := by rw [← Nat.add_mul]; congr 1; omega
                rw [Nat.add_mul] at h3
                omega
          · cases h
      · cases h

theorem appendV_sound {m m' : Mem} (hm : MemRel ρ base m.next m.view w) {argTypes : Array TypeId} {ty st yt : TypeId} {d : TypeDesc} {x y v : NV} {x' y' : Value}
    (h0 : argTypes[0]? = some st) (h1 : argTypes[1]? = some yt) (hd : P.underlying yt = some d) (hnd : notInt d = true) (hx : VRel ρ x x') (hy : VRel ρ y y') (h : appendV P st x y m = some (v, m')) :
    ∃ v' w', (Builtin.append_ argTypes ty #[x', y']).run P w = .ok v' w' ∧ Post ρ base m w m' v v' w' := by
  unfold appendV at h
  split at h
  · rename_i e bs nn cap hu
    split at h
    · rename_i sz by_ hs hby
      simp only [cond_beq] at h
      split at h
      · cases h
      · rename_i hsz
        split at h
        · cases h
        · rename_i k new hsrc
          obtain ⟨a', C, rfl, hsr⟩ := hx
          obtain ⟨s1, s2, l', s3, s4⟩ := srcCells_sound (P := P) hm hy hsrc
          split at h
          · rename_i hk0; subst hk0
            cases hc : capOk nn cap with
            | false => simp [hc] at h
            | true =>
              simp only [hc, cond_true, Option.some.injEq, Prod.mk.injEq] at h; obtain ⟨rfl, rfl⟩ := h
              have hle : nn + 0 ≤ C := by
                cases cap with
                | exact c => have := hsr.1; subst this; simpa [capOk] using hc
                | opn lb es => have := hsr.1; have := hsr.2.1; omega
              have hl0 : l'.toList = [] := by
                have : new = [] := List.length_eq_zero_iff.1 (by rw [s2]; simp)
                subst this; exact s4
              refine ⟨_, w, ?_, ρ, ⟨a', C, rfl, hsr⟩, hm, Adv.refl _ _ _⟩
              rw [append_inplace (ty := ty) h0 h1 hu hd hnd hs s1 (s3 w rfl) hle, hl0]
              cases a' <;> simp [storeCells]
          · rename_i hk0
            cases hc : (Nat.ble ((nn + k) * by_) 1099511627776 && Nat.blt 0 by_ && new.all NV.oneCell && zeroOk P e sz) with
            | false => simp [hc] at h
            | true =>
              simp only [hc, cond_true] at h
              simp only [Bool.and_eq_true] at hc
              obtain ⟨⟨⟨c1, c2⟩, c3⟩, c4⟩ := hc
              exact appendGo_sound hm h0 h1 hu hd hnd hs hby hsr s1 s3 s2 s4 (by omega) (by omega) (by simpa using c1) (by simpa [Nat.blt_eq] using c2) c3 c4 h
    · cases h
  · cases h
end
end Go.NI
