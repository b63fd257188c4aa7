/- The nice interpreter: slicing; all operations that neither read nor write memory. -/
import Derived.Test.YtfpaeecnnlmjhaaGreatNiT2
namespace Go.NI

def ORel (ρ : Ren) : Option NV → Option Value → Prop
  | none, none => True
  | some v, some v' => VRel ρ v v'
  | _, _ => False

theorem bound_sound {P : Program} {ρ : Ren} {v : NV} {v' : Value} {d top r : Nat} {code : BoundsCode} (h : boundOf (some v) d top = some r) (hv : VRel ρ v v') (w : World) :
    (Instr.sliceBound v' top code).run P w = .ok r w ∧ r ≤ top := by
  unfold boundOf at h
  split at h
  · simp at *
  · rename_i k i heq
    simp at heq; subst heq
    cases (show v' = _ from hv)
    cases i with
    | negSucc m => simp [natI] at h
    | ofNat m =>
      simp only [natI, cond_ble] at h
      split at h
      · rename_i hle
        simp at h; subst h
        refine ⟨?_, hle⟩
        simp only [Instr.sliceBound, asIntOf, Sem.run_bind, Sem.run_pure, Result.andThen_ok, Int.ofNat_eq_natCast, Int.toNat_natCast]
        simp; omega
      · cases h
  · cases h

theorem bounds_sound {P : Program} {ρ : Ren} {isSlice : Bool} {len c C : Nat} {lo hi mx : Option NV} {lo' hi' mx' : Option Value} {b : Nat × Nat × Nat}
    (h : boundsV len c lo hi mx = some b) (hlo : ORel ρ lo lo') (hhi : ORel ρ hi hi') (hmx : ORel ρ mx mx') (hc : c ≤ C) (w : World) :
    (Instr.sliceBounds isSlice len C lo' hi' mx').run P w = .ok (b.1, b.2.1, (match mx with | none => C | some _ => b.2.2)) w ∧
      b.1 ≤ b.2.1 ∧ (hi.isSome = true → b.2.1 ≤ b.2.2) ∧ (hi = none → b.2.1 = len) ∧ (mx = none → b.2.2 = c) ∧ b.2.2 ≤ c := by
  unfold boundsV at h
  cases mx with
  | none =>
    cases mx' with
    | some _ => exact hmx.elim
    | none =>
      simp only [boundOf] at h
      cases hi with
      | none =>
        cases hi' with
        | some _ => exact hhi.elim
        | none =>
          simp only at h
          cases lo with
          | none =>
            cases lo' with
            | some _ => exact hlo.elim
            | none =>
              simp only [Option.some.injEq] at h; subst h
              simp [Instr.sliceBounds]
          | some l =>
            cases lo' with
            | none => exact hlo.elim
            | some l' =>
              cases hb : boundOf (some l) 0 len with
              | none => simp only [boundOf] at hb h; simp [hb] at h
              | some r =>
                have hb' := hb
                simp only [boundOf] at hb' h
                simp only [hb', Option.some.injEq] at h; subst h
                have := fun code => bound_sound (P := P) (code := code) hb hlo w
                have t2 := (this .index).2
                simp [Instr.sliceBounds, this, t2]
      | some hv =>
        cases hi' with
        | none => exact hhi.elim
        | some hv' =>
          cases hb2 : boundOf (some hv) len c with
          | none => simp only [boundOf] at hb2; simp [hb2] at h
          | some hr =>
            have hb2' := hb2
            simp only [boundOf] at hb2'
            simp only [hb2'] at h
            have q2 := fun code => bound_sound (P := P) (code := code) (top := C) (d := len) (show boundOf (some hv) len C = some hr by
              unfold boundOf at hb2 ⊢
              split at hb2
              · simp at *
              · rename_i k i heq
                simp only [Option.some.injEq] at heq; subst heq
                cases i with
                | negSucc m => simp [natI] at hb2
                | ofNat m =>
                  simp only [natI, cond_ble] at hb2 ⊢
                  split at hb2
                  · rw [if_pos (by omega)]; exact hb2
                  · cases hb2
              · cases hb2) hhi w
            have q2' := (bound_sound (P := P) (code := .index) hb2 hhi w).2
            cases lo with
            | none =>
              cases lo' with
              | some _ => exact hlo.elim
              | none =>
                simp only [Option.some.injEq] at h; subst h
                cases isSlice <;> simp [Instr.sliceBounds, q2] <;> omega
            | some l =>
              cases lo' with
              | none => exact hlo.elim
              | some l' =>
                cases hb : boundOf (some l) 0 hr with
                | none => simp only [boundOf] at hb h; simp [hb] at h
                | some r =>
                  have hb' := hb
                  simp only [boundOf] at hb' h
                  simp only [hb', Option.some.injEq] at h; subst h
                  have := fun code => bound_sound (P := P) (code := code) hb hlo w
                  have t2 := (this .index).2
                  cases isSlice <;> simp [Instr.sliceBounds, this, q2] <;> omega
  | some mv =>
    cases mx' with
    | none => exact hmx.elim
    | some mv' =>
      cases hi with
      | none => simp at h
      | some hv =>
        cases hi' with
        | none => exact hhi.elim
        | some hv' =>
          simp only at h
          cases hb3 : boundOf (some mv) c c with
          | none => simp [hb3] at h
          | some m =>
            simp only [hb3] at h
            have q3' := (bound_sound (P := P) (code := .index) hb3 hmx w).2
            have q3 := fun code => bound_sound (P := P) (code := code) (top := C) (d := C) (show boundOf (some mv) C C = some m by
              unfold boundOf at hb3 ⊢
              split at hb3
              · simp at *
              · rename_i k i heq
                simp only [Option.some.injEq] at heq; subst heq
                cases i with
                | negSucc m => simp [natI] at hb3
                | ofNat m =>
                  simp only [natI, cond_ble] at hb3 ⊢
                  split at hb3
                  · rw [if_pos (by omega)]; exact hb3
                  · cases hb3
              · cases hb3) hmx w
            cases hb2 : boundOf (some hv) len m with
            | none => simp [hb2] at h
            | some hr =>
              simp only [hb2] at h
              have q2 := fun code => bound_sound (P := P) (code := code) hb2 hhi w
              cases lo with
              | none =>
                cases lo' with
                | some _ => exact hlo.elim
                | none =>
                  simp only [boundOf, Option.some.injEq] at h; subst h
                  cases isSlice <;> simp [Instr.sliceBounds, q2, q3] <;> first | omega | exact ⟨(q2 .index).2, q3'⟩
              | some l =>
                cases lo' with
                | none => exact hlo.elim
                | some l' =>
                  cases hb : boundOf (some l) 0 hr with
                  | none => simp [hb] at h
                  | some r =>
                    simp only [hb, Option.some.injEq] at h; subst h
                    have := fun code => bound_sound (P := P) (code := code) hb hlo w
                    have t2 := (this .index).2
                    have t3 := (q2 .index).2
                    cases isSlice <;> simp [Instr.sliceBounds, this, q2, q3] <;> first | omega | exact ⟨t2, t3, q3'⟩
theorem ARel.add {ρ : Ren} {a : NA} {a' : Addr} (h : ARel ρ a a') (n : Nat) : ARel ρ (a.add n) (a'.add n) := by
  obtain ⟨i, hi, hg, hr⟩ := h
  refine ⟨i, hi, hg, fun hgi => ?_⟩
  obtain ⟨h1, rfl⟩ := hr hgi
  refine ⟨by simp only [NA.add]; omega, ?_⟩
  simp only [NA.add, Addr.add]
  split
  · subst_vars; rfl
  · simp; omega

theorem extract_mk (s : List UInt8) (l h : Nat) : (⟨⟨s⟩⟩ : ByteArray).extract l h = ⟨⟨(s.drop l).take (h - l)⟩⟩ := by
  apply ByteArray.ext
  rw [ByteArray.data_extract]
  apply Array.ext'
  rw [Array.toList_extract, List.extract_eq_take_drop]

theorem slice_sound {P : Program} {ρ : Ren} {t : TypeId} {x v : NV} {lo hi mx : Option NV} {x' : Value} {lo' hi' mx' : Option Value}
    (h : sliceV P t x lo hi mx = some v) (hx : VRel ρ x x') (hlo : ORel ρ lo lo') (hhi : ORel ρ hi hi') (hmx : ORel ρ mx mx') (w : World) :
    ∃ v', (Instr.sliceAt t x' lo' hi' mx').run P w = .ok v' w ∧ VRel ρ v v' := by
  unfold sliceV at h
  cases hu : P.underlying t with
  | none => simp [hu] at h
  | some d =>
    simp only [hu] at h
    cases d with
    | string =>
      simp only at h
      split at h
      · rename_i s
        cases (show x' = _ from hx)
        have hm : mx' = none := by cases mx' with | none => rfl | some _ => exact hmx.elim
        subst hm
        cases hb : boundsV s.length s.length lo hi none with
        | none => simp [hb] at h
        | some b =>
          simp only [hb, Option.some.injEq] at h; subst h
          have q := (bounds_sound (P := P) (isSlice := false) hb hlo hhi hmx (Nat.le_refl _) w).1
          refine ⟨.string ((⟨⟨s⟩⟩ : ByteArray).extract b.1 b.2.1), ?_, by simp [VRel, extract_mk]⟩
          simp [Instr.sliceAt, Instr.slice, run_underlying hu, size_mk, q]
      · cases h
    | slice e =>
      simp only at h
      cases hs : tySize P e with
      | none => simp [hs] at h
      | some sz =>
        simp only [hs] at h
        split at h
        · rename_i sz' a len c heq
          simp only [Option.some.injEq] at heq; subst heq
          obtain ⟨a', C, rfl, hC, ha⟩ := hx
          subst hC
          cases a' with
          | none => exact ha.elim
          | some a' =>
            cases hb : boundsV len C lo hi mx with
            | none => simp [hb] at h
            | some b =>
              simp [hb] at h; subst h
              obtain ⟨q, _, _, _, q5, _⟩ := bounds_sound (P := P) (isSlice := true) hb hlo hhi hmx (Nat.le_refl _) w
              have q' : (Instr.sliceBounds true len C lo' hi' mx').run P w = .ok (b.1, b.2.1, b.2.2) w := by
                rw [q]; cases mx with | none => simp [q5] | some _ => rfl
              refine ⟨.slice (if b.2.2 = b.1 then some a' else (some a').map (·.add (b.1 * sz))) (b.2.1 - b.1) (b.2.2 - b.1), ?_, ?_⟩
              · simp [Instr.sliceAt, Instr.slice, run_underlying hu, q', run_sizeOf w hs]
              · refine ⟨_, _, rfl, rfl, ?_⟩
                simp only [cond_beq]
                by_cases hml : b.2.2 = b.1
                · simp only [hml, if_true]; exact ha
                · simp only [hml, if_false, Option.map_some]; exact ha.add _
        · rename_i sz' len c heq
          obtain ⟨a', C, rfl, hC, ha⟩ := hx
          subst hC
          cases a' with
          | some _ => exact ha.elim
          | none =>
            cases hb : boundsV len C lo hi mx with
            | none => simp [hb] at h
            | some b =>
              simp [hb] at h; subst h
              obtain ⟨q, _, _, _, q5, _⟩ := bounds_sound (P := P) (isSlice := true) hb hlo hhi hmx (Nat.le_refl _) w
              have q' : (Instr.sliceBounds true len C lo' hi' mx').run P w = .ok (b.1, b.2.1, b.2.2) w := by
                rw [q]; cases mx with | none => simp [q5] | some _ => rfl
              refine ⟨.slice none (b.2.1 - b.1) (b.2.2 - b.1), ?_, ⟨none, _, rfl, rfl, trivial⟩⟩
              simp [Instr.sliceAt, Instr.slice, run_underlying hu, q', run_sizeOf w hs]
        · rename_i sz' a len lb es heq
          simp only [Option.some.injEq] at heq; subst heq
          obtain ⟨a', C, rfl, hn, hC, a0, a1, e0, rfl, i, hi', hg, hr⟩ := hx
          simp only [Option.some.injEq] at e0; subst e0
          simp only [cond_beq] at h
          split at h
          · rename_i hse; subst hse
            cases hb : boundsV len lb lo hi mx with
            | none => simp [hb] at h
            | some b =>
              simp only [hb] at h
              obtain ⟨q, q1, q2, q3, q5, q6⟩ := bounds_sound (P := P) (isSlice := true) hb hlo hhi hmx hC w
              have q7 : b.2.1 ≤ lb := by
                cases hi with
                | none => rw [q3 rfl]; exact hn
                | some _ => exact Nat.le_trans (q2 rfl) q6
              cases mx with
              | none =>
                simp only [Option.some.injEq] at h; subst h
                simp only at q
                refine ⟨.slice (some (if C = b.1 then a1 else a1.add (b.1 * sz))) (b.2.1 - b.1) (C - b.1), ?_, ?_⟩
                · have e1 : (if C = b.1 then some a1 else (some a1).map (·.add (b.1 * sz))) = some (if C = b.1 then a1 else a1.add (b.1 * sz)) := by split <;> rfl
                  rw [← e1]
                  simp [Instr.sliceAt, Instr.slice, run_underlying hu, q, run_sizeOf w hs]
                · refine ⟨_, _, rfl, by omega, by omega, _, _, rfl, rfl, i, hi', hg, fun hgi => ?_⟩
                  rcases hr hgi with hz | ⟨h1, h2, h3⟩
                  · left; omega
                  · by_cases hcb : C = b.1
                    · left; omega
                    · right
                      simp only [hcb, if_false]
                      obtain ⟨i2, hi2, _, hr2⟩ := ARel.add (ρ := ρ) ⟨i, hi', hg, fun _ => ⟨h1, h2⟩⟩ (b.1 * sz)
                      simp only [NA.add] at hi2
                      rw [hi'] at hi2; cases hi2
                      obtain ⟨g1, g2⟩ := hr2 hgi
                      refine ⟨g1, g2, ?_⟩
                      simp only [NA.add]
                      have : (C - b.1) * sz + b.1 * sz = C * sz := by
                        rw [← Nat.add_mul]; congr 1; omega
                      omega
              | some m =>
                simp only [cond_beq] at h
                split at h
                · cases h
                · rename_i hne
                  simp only [Option.some.injEq] at h; subst h
                  simp only at q
                  refine ⟨.slice (if b.2.2 = b.1 then some a1 else (some a1).map (·.add (b.1 * sz))) (b.2.1 - b.1) (b.2.2 - b.1), ?_, ?_⟩
                  · simp [Instr.sliceAt, Instr.slice, run_underlying hu, q, run_sizeOf w hs]
                  · refine ⟨_, _, rfl, rfl, ?_⟩
                    simp only [hne, if_false, Option.map_some]
                    refine ARel.add ⟨i, hi', hg, fun hgi => ?_⟩ _
                    rcases hr hgi with hz | ⟨h1, h2, _⟩
                    · cases hi with
                      | none => cases hmx' : mx' with
                        | none => subst hmx'; exact hmx.elim
                        | some _ => simp [boundsV] at hb
                      | some _ => have := q2 rfl; omega
                    · exact ⟨h1, h2⟩
          · cases h
        · cases h
    | array n e =>
      simp only at h
      cases hs : tySize P e with
      | none => simp [hs] at h
      | some sz =>
        simp only [hs] at h
        split at h
        · rename_i sz' a heq
          simp only [Option.some.injEq] at heq; subst heq
          obtain ⟨a', rfl, ha⟩ := hx
          cases hb : boundsV n n lo hi mx with
          | none => simp [hb] at h
          | some b =>
            simp [hb] at h; subst h
            obtain ⟨q, _, _, _, q5, _⟩ := bounds_sound (P := P) (isSlice := false) hb hlo hhi hmx (Nat.le_refl _) w
            have q' : (Instr.sliceBounds false n n lo' hi' mx').run P w = .ok (b.1, b.2.1, b.2.2) w := by
              rw [q]; cases mx with | none => simp [q5] | some _ => rfl
            refine ⟨.slice (some (if b.2.2 = b.1 then a' else a'.add (b.1 * sz))) (b.2.1 - b.1) (b.2.2 - b.1), ?_, ?_⟩
            · simp [Instr.sliceAt, Instr.sureAddr, run_underlying hu, q', run_sizeOf w hs]
            · refine ⟨_, _, rfl, rfl, ?_⟩
              simp only [cond_beq]
              by_cases hml : b.2.2 = b.1
              · simp only [hml, if_true]; exact ha
              · simp only [hml, if_false]; exact ha.add _
        · cases h
    | pointer arr =>
      simp only at h
      split at h
      · rename_i n e a hua
        obtain ⟨a', rfl, ha⟩ := hx
        cases hs : tySize P e with
        | none => simp [hs] at h
        | some sz =>
          cases hb : boundsV n n lo hi mx with
          | none => simp [hs, hb] at h
          | some b =>
            simp [hs, hb] at h; subst h
            obtain ⟨q, _, _, _, q5, _⟩ := bounds_sound (P := P) (isSlice := false) hb hlo hhi hmx (Nat.le_refl _) w
            have q' : (Instr.sliceBounds false n n lo' hi' mx').run P w = .ok (b.1, b.2.1, b.2.2) w := by
              rw [q]; cases mx with | none => simp [q5] | some _ => rfl
            refine ⟨.slice (some (if b.2.2 = b.1 then a' else a'.add (b.1 * sz))) (b.2.1 - b.1) (b.2.2 - b.1), ?_, ?_⟩
            · simp [Instr.sliceAt, Instr.slice, asAddr, run_underlying hu, run_underlying hua, q', run_sizeOf w hs]
            · refine ⟨_, _, rfl, rfl, ?_⟩
              simp only [cond_beq]
              by_cases hml : b.2.2 = b.1
              · simp only [hml, if_true]; exact ha
              · simp only [hml, if_false]; exact ha.add _
      · cases h
    | _ => simp at h
end Go.NI
