/- slices.Sorted at the keys of an empty map or of none: what the nice interpreter may answer there. -/
import Derived.Test.YtfpaeecnnlmjhaaGreatKeys
import Derived.Test.YtfpaeecnnlmjhaaGreatNiTop
namespace Go.NI
open Go.Proofs Go.RowKit Go.Maps Go.Sort Go.Shelf

theorem MemRel.below {ρ : Ren} {base n : Nat} {V : View} {w w' : World} (hm : MemRel ρ base n V w) (hb : Below w.heap.size w w') : MemRel ρ base n V w' where
  based := Nat.le_trans hm.based hb.size
  fresh := hm.fresh
  rel b o h := by
    obtain ⟨i, hi, hr⟩ := hm.rel b o h
    exact ⟨i, hi, hr.keep (Ren.le_refl ρ) (hb.block _ hr.lt)⟩
  inj := hm.inj
  own := hm.own

theorem Adv.below {ρ : Ren} {m : Mem} {w w' : World} (hb : Below w.heap.size w w') : Adv ρ m w ρ m w' :=
  ⟨⟨Ren.le_refl ρ, fun _ i h => .inl ⟨i, h, rfl⟩, fun _ o h => .inr ⟨o, h, fun h => h⟩, hb.os, hb.tape, hb.output, hb.size, fun _ _ h _ => h, fun k hk _ => hb.block k hk⟩, Nat.le_refl _, fun _ _ h => h, fun _ h => h⟩

/-- slices.Sort's two contracts at this dump. -/
theorem Tryz.sortsA (m : Nat) : AnyZI.SortsIn Tryz.prog Tryz.sortedA_ren Fence.wide m :=
  ⟨fun blk off cap ss W hH hblk hsz => callsIn_wide.2 (AnyM.slices_Sort_int Tryz.sortA blk off cap ss W hH hblk hsz),
   fun p cap W => callsIn_wide.2 (AnyM.slices_Sort_int_none Tryz.sortA p cap W)⟩

theorem sorted_empty (w : World) (Bm : Nat) (hBm : Bm < w.heap.size)
    (h : w.cell? ⟨Bm, 0, none⟩ = some (.map none) ∨ ∃ b ck, w.cell? ⟨Bm, 0, none⟩ = some (.map (some b)) ∧ w.heap[b]? = some (.map #[] ck)) :
    Calls Tryz.prog 75 #[.func (.func 85) #[] #[.pointer (some ⟨Bm, 0, none⟩)]] w fun e w' => e = .returned (.slice none 0 0) ∧ Below w.heap.size w w' := by
  have hseq : SeqGives Fence.wide 2 Tryz.prog 85 #[.pointer (some ⟨Bm, 0, none⟩)] encZ (fun ss : List Int => ss = []) 0 w := by
    rcases h with h | ⟨b, ck, h1, h2⟩
    · exact AnyZI.keys_gives_nil (ρ := Tryz.keysA_ren) { Tryz.keysA with } Fence.wide _ trivial rfl Bm w hBm h
    · have := AnyZI.keys_gives (ρ := Tryz.keysA_ren) { Tryz.keysA with } (H := Unit) Fence.wide 2 trivial rfl (by omega) Bm b 0 (.map []) (R := fun _ => none) w hBm h1
        ⟨#[], ck, h2, ⟨by simp, by simp [MapKept.Stamped], by simp⟩, by simp, rfl⟩
      intro l J W hW hJ hY h0
      refine (this l J W hW hJ (fun pre x W1 _ hlt => by simp [Maps.size] at hlt) h0).mono ?_
      rintro e W' ⟨hv, xs, hx, hJ'⟩
      have : xs = [] := by
        have : xs.Perm [] := hx
        exact this.eq_nil
      exact ⟨hv, xs, this, hJ'⟩
  have cS := AnyZI.sorted_in Tryz.sortedA Fence.wide 5 trivial trivial trivial trivial rfl (by omega) (Tryz.sortsA _) (enters_of Tryz.func84 (by kernel_rfl) rfl) 85 #[.pointer (some ⟨Bm, 0, none⟩)] trivial (enters_of Tryz.func85 (by kernel_rfl) rfl) _ _ (Nat.zero_le _) (by omega) _ hseq
  refine ((callsIn_wide (n := 5)).1 cS).mono ?_
  rintro e w' ⟨v, ss, rfl, hs, _, hnil, hb⟩
  rw [hnil.2 hs]
  exact ⟨rfl, hb⟩

def ovSorted : Over := fun _ g => bif Nat.beq g 75 then some (fun args m => match args with
  | [.func (.func f) [] [.ptr (some a)]] => bif Nat.beq f 85 && Nat.beq a.off 0 then
      match rdCells m.view a 1 with
      | some [.map none] => some (.slice none 0 (.exact 0), m)
      | some [.map (some r)] => match m.heap.get r with
        | some (.map []) => some (.slice none 0 (.exact 0), m)
        | _ => none
      | _ => none
    else none
  | _ => none) else none

set_option maxRecDepth 100000 in
theorem ovSorted_ok (base : Nat) : OverOk Tryz.prog 0 base ovSorted := by
  intro call _ g h hov args m v m' hh ρ w args' hgl hm hargs
  unfold ovSorted at hov
  cases hgb : Nat.beq g 75 with
  | false => rw [hgb] at hov; cases hov
  | true =>
    rw [hgb] at hov
    have hg : g = 75 := Nat.eq_of_beq_eq_true hgb
    subst hg
    simp only [cond_true, Option.some.injEq] at hov
    subst hov
    simp only at hh
    split at hh
    · rename_i f a
      cases hc : (Nat.beq f 85 && Nat.beq a.off 0) with
      | false => simp [hc] at hh
      | true =>
        simp only [hc, cond_true] at hh
        simp only [Bool.and_eq_true] at hc
        have hf : f = 85 := Nat.eq_of_beq_eq_true hc.1
        have ho : a.off = 0 := Nat.eq_of_beq_eq_true hc.2
        subst hf
        obtain ⟨y, r, rfl, ⟨f', c', rfl, hf', hc'⟩, hr⟩ := hargs
        cases (show r = [] from hr)
        have e1 : f' = #[] := by apply Array.ext'; exact hf'
        subst e1
        obtain ⟨p, r2, e2, ⟨a', rfl, har⟩, hr2⟩ := hc'
        cases (show r2 = [] from hr2)
        have e3 : c' = #[.pointer (some a')] := by apply Array.ext'; simpa using e2
        subst e3
        have key : (v = .slice none 0 (.exact 0) ∧ m' = m) ∧ ∃ Bm, a' = ⟨Bm, 0, none⟩ ∧ Bm < w.heap.size ∧ (w.cell? ⟨Bm, 0, none⟩ = some (.map none) ∨ ∃ b ck, w.cell? ⟨Bm, 0, none⟩ = some (.map (some b)) ∧ w.heap[b]? = some (.map #[] ck)) := by
          have shape : ∀ l, rdCells m.view a 1 = some l → ∃ Bm, a' = ⟨Bm, 0, none⟩ ∧ Bm < w.heap.size := by
            intro l hl
            unfold rdCells at hl
            split at hl
            · rename_i b hb
              simp only [cond_beq] at hl
              split at hl
              · rename_i hgen
                obtain ⟨i, hi, hbr⟩ := hm.rel _ _ hb
                have hlt := hbr.lt
                obtain ⟨g1, _⟩ := hbr
                obtain ⟨i2, hi2, _, har2⟩ := har
                rw [hi] at hi2; cases hi2
                obtain ⟨_, e4⟩ := har2 (by rw [hgen, g1])
                exact ⟨i.blk, by rw [e4, ho, Nat.zero_sub], hlt⟩
              · cases hl
            · cases hl
          split at hh
          · rename_i hl
            simp only [Option.some.injEq, Prod.mk.injEq] at hh
            obtain ⟨Bm, e5, e6⟩ := shape _ hl
            obtain ⟨l', _, ⟨y, r3, e7, hy, _⟩, _, hcell⟩ := rdCells_sound (P := Tryz.prog) hm har hl
            have := hcell 0 y (by rw [e7]; rfl)
            rw [e5] at this
            cases (show y = .map none from hy)
            exact ⟨⟨hh.1.symm, hh.2.symm⟩, Bm, e5, e6, .inl (by simpa [Addr.add] using this)⟩
          · rename_i r0 hl
            split at hh
            · rename_i hV
              simp only [Option.some.injEq, Prod.mk.injEq] at hh
              obtain ⟨Bm, e5, e6⟩ := shape _ hl
              obtain ⟨l', _, ⟨y, r3, e7, hy, _⟩, _, hcell⟩ := rdCells_sound (P := Tryz.prog) hm har hl
              have hc0 := hcell 0 y (by rw [e7]; rfl)
              rw [e5] at hc0
              obtain ⟨i, b, hi, rfl, hbk⟩ := hy
              obtain ⟨j, hj, g0, es', ck, g1, g2⟩ := hm.rel r0 (.map []) hV
              rw [hi] at hj; cases hj
              have e8 : es' = #[] := by apply Array.ext'; exact g2
              subst e8
              rw [← hbk g0] at g1
              exact ⟨⟨hh.1.symm, hh.2.symm⟩, Bm, e5, e6, .inr ⟨b, ck, by simpa [Addr.add] using hc0, g1⟩⟩
            · cases hh
          · cases hh
        obtain ⟨⟨rfl, rfl⟩, Bm, rfl, hlt, hcell⟩ := key
        have henter : (callFunc 75 #[Value.func (.func 85) #[] #[.pointer (some ⟨Bm, 0, none⟩)]]).run Tryz.prog w = .ok (.enter 75 #[.func (.func 85) #[] #[.pointer (some ⟨Bm, 0, none⟩)]]) w := enters_of Tryz.func75 (by kernel_rfl) rfl _ _
        show NextOk Tryz.prog ((callFunc 75 #[Value.func (.func 85) #[] #[.pointer (some ⟨Bm, 0, none⟩)]]).run Tryz.prog w) _
        rw [henter]
        refine Calls.mono (sorted_empty w Bm hlt hcell) ?_
        rintro e w' ⟨rfl, hb⟩
        exact ⟨_, rfl, ρ, ⟨none, 0, rfl, rfl, trivial⟩, hm.below hb, Adv.below hb⟩
    · cases hh
end Go.NI
