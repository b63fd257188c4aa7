/- The nice interpreter: whole code. -/
import Derived.Test.YtfpaeecnnlmjhaaGreatNiOp
import Derived.LoopN
import Derived.Scope
namespace Go.NI

section
variable {P : Program} {G base : Nat}

structure St (G base n : Nat) (ρ : Ren) (f : Tr NV) (m : Mem) (a : Act) (w : World) : Prop where
  mem : MemRel ρ base m.next m.view w
  frame : ∀ t v, f.get t = some v → VRel ρ v (a.tmps.getD t Go.undef)
  glob : Glob G ρ m.view
  size : a.tmps.size = n
  defers : a.defers = []

theorem evRel {ρ : Ren} {f : Tr NV} {V : View} {a : Act} (hf : ∀ t v, f.get t = some v → VRel ρ v (a.tmps.getD t Go.undef)) (hg : Glob G ρ V) : EvRel ρ (evO G f) a.eval := by
  intro x v h
  cases x with
  | tmp t => simp only [evO] at h; exact hf t v h
  | const c => exact ofValue_rel ρ h
  | global g =>
    simp only [evO, cond_blt] at h
    split at h
    · rename_i hlt
      simp only [Option.some.injEq] at h; subst h
      obtain ⟨⟨t, ht⟩, _⟩ := hg g hlt
      exact ⟨_, rfl, _, ht, Nat.le_refl _, fun _ => ⟨Nat.zero_le _, rfl⟩⟩
    · cases h
  | func g => simp only [evO, Option.some.injEq] at h; subst h; exact ⟨#[], #[], rfl, rfl, rfl⟩

theorem VRel.of_bool {ρ : Ren} {x : NV} {b : Bool} (h : VRel ρ x (.bool b)) : x = .bool b := by
  cases x with
  | bool c => simp [VRel] at h; rw [h]
  | ptr a => cases a <;> simp [VRel] at h
  | map a => cases a <;> simp [VRel] at h
  | _ => simp [VRel] at h

theorem getD_of {tmps : Array Value} {d : Nat} {v : Value} (h : tmps.getD d Go.undef = v) (hne : v ≠ Go.undef) : tmps[d]? = some v := by
  by_cases hd : d < tmps.size
  · rw [Array.getD_eq_getD_getElem?, Array.getElem?_eq_getElem hd] at h
    rw [Array.getElem?_eq_getElem hd]; simpa using h
  · rw [Array.getD_eq_getD_getElem?, Array.getElem?_eq_none (by omega)] at h
    exact absurd h.symm hne

theorem wanted_eq {ρ : Ren} {f : Tr NV} {a : Act} (hf : ∀ t v, f.get t = some v → VRel ρ v (a.tmps.getD t Go.undef)) (ops : Array Oper) (o : Oper) {r : Bool} (h : wantedN ops o f = some r) : Region.wanted o (yielded ops a.tmps) = r := by
  unfold Region.wanted
  unfold wantedN at h
  cases hg : o.guard with
  | none => rw [hg] at h; simpa using h
  | some p =>
    obtain ⟨j, want⟩ := p
    rw [hg] at h
    simp only at h ⊢
    unfold yielded
    cases hd : (ops[j]?).bind (·.dst) with
    | none => rw [hd] at h; simpa using h
    | some d =>
      rw [hd] at h
      simp only at h
      simp only [Option.bind_some]
      cases hv : f.get d with
      | none => rw [hv] at h; cases h
      | some x =>
        have hr := hf d x hv
        rw [hv] at h
        cases x with
        | bool b =>
          have := getD_of (show a.tmps.getD d Go.undef = .bool b from hr) (by simp [Go.undef])
          simp only [this]
          simp only [Option.some.injEq] at h
          subst h
          cases b <;> cases want <;> rfl
        | _ =>
          have hx : ∀ b, a.tmps[d]? ≠ some (.bool b) := by
            intro b hb
            rw [Array.getD_eq_getD_getElem?, hb] at hr
            have := VRel.of_bool hr; cases this
          simp only [Option.some.injEq] at h
          subst h
          cases ht : a.tmps[d]? with
          | none => simp
          | some u => cases u <;> simp; exact absurd ht (hx _)

theorem frame_put {ρ : Ren} {f : Tr NV} {a : Act} (hf : ∀ t v, f.get t = some v → VRel ρ v (a.tmps.getD t Go.undef)) {dst : Option Tmp} {v : NV} {v' : Value} (hv : VRel ρ v v') {n : Nat} (hn : a.tmps.size = n)
    (hd : ∀ d, dst = some d → d < n) : ∀ t u, (putD f dst v).get t = some u → VRel ρ u ((a.put dst v').tmps.getD t Go.undef) := by
  intro t u hu
  cases dst with
  | none => exact hf t u hu
  | some d =>
    have hdn := hd d rfl
    simp only [putD, Tr.get_set] at hu
    simp only [Act.put, Array.getD_eq_getD_getElem?, Array.getElem?_setIfInBounds]
    by_cases e : t = d
    · subst e
      simp at hu; subst hu
      simp [hn, hdn]; exact hv
    · have e' : ¬ d = t := fun h => e h.symm
      simp only [e, e', if_false] at hu ⊢
      have := hf t u hu
      rwa [Array.getD_eq_getD_getElem?] at this

theorem put_size (a : Act) (dst : Option Tmp) (v : Value) : (a.put dst v).tmps.size = a.tmps.size := by cases dst <;> simp [Act.put]
theorem put_defers (a : Act) (dst : Option Tmp) (v : Value) : (a.put dst v).defers = a.defers := by cases dst <;> rfl

theorem St.put {n : Nat} {ρ ρ' : Ren} {f : Tr NV} {m m' : Mem} {a : Act} {w w' : World} (h : St G base n ρ f m a w) {v : NV} {v' : Value} {dst : Option Tmp} (hd : ∀ d, dst = some d → d < n)
    (hv : VRel ρ' v v') (hm : MemRel ρ' base m'.next m'.view w') (hs : Adv ρ m w ρ' m' w') : St G base n ρ' (putD f dst v) m' (a.put dst v') w' where
  mem := hm
  frame := frame_put (fun t u hu => VRel.mono hs.step.le _ _ (h.frame t u hu)) hv h.size hd
  glob := h.glob.step hs.step
  size := by rw [put_size]; exact h.size
  defers := by rw [put_defers]; exact h.defers

theorem upon_of_next {o : Oper} {a : Act} {next : Act → World → Prop} {Q : Exit → Act → World → Prop} {r : Result Next} {R : Value → World → Prop} (h : NextOk P r R) (hR : ∀ v w', R v w' → next (a.put o.dst v) w') : o.upon P a next Q r := by
  unfold NextOk at h
  split at h
  · exact hR _ _ h
  · exact hR _ _ h
  · refine Calls.mono h ?_
    rintro e w' ⟨v, rfl, hv⟩
    exact hR _ _ hv
  · exact h.elim

theorem opN_sound {call : CallF} (hcall : CallOk P G base call) {n : Nat} {ρ : Ren} {f : Tr NV} {m m' : Mem} {a : Act} {w : World} (hst : St G base n ρ f m a w) (o : Oper) {v : NV} (h : opN P G call o f m = some (v, m')) :
    NextOk P ((execOp a.eval o).run P w) (Post ρ base m w m' v) := by
  have hev := evRel hst.frame hst.glob
  unfold opN at h
  split at h
  · cases ht : opT P o.op (evO G f) with
    | none => simp [ht] at h
    | some u =>
      simp [ht] at h; obtain ⟨rfl, rfl⟩ := h
      obtain ⟨v', q1, q2⟩ := opT_sound hev o ht w
      rw [q1]; exact ⟨ρ, q2, hst.mem, Adv.refl _ _ _⟩
  · cases ht : opR P o.op m.view (evO G f) with
    | none => simp [ht] at h
    | some u =>
      simp [ht] at h; obtain ⟨rfl, rfl⟩ := h
      obtain ⟨v', q1, q2⟩ := opR_sound hst.mem hev o ht
      rw [q1]; exact ⟨ρ, q2, hst.mem, Adv.refl _ _ _⟩
  · cases ht : opA P o.op (evO G f) with
    | none => simp [ht] at h
    | some x =>
      obtain ⟨ob, mk⟩ := x
      simp [ht] at h; obtain ⟨rfl, rfl⟩ := h
      obtain ⟨v', w', ρ', q1, q2, q3, q4, q5⟩ := opA_sound hst.mem hev o ht (hst.mem.fresh _ (Nat.le_refl _)) (Nat.le_succ _) (Nat.lt_succ_self _)
      rw [q1]
      refine ⟨ρ', q2, ?_, ?_⟩
      · show MemRel _ _ (m.next + 1) (m.new ob).view _
        rw [view_new]; exact q3
      · refine Adv.of_new q5 ?_
        rw [view_new]; exact q4
  · exact opW_sound hcall hst.glob hst.mem hev o h

theorem dstOk_spec {n : Nat} {o : Oper} (h : dstOk n o = true) : ∀ d, o.dst = some d → d < n := by
  intro d hd
  unfold dstOk at h
  rw [hd] at h
  simpa [Nat.blt_eq] using h

theorem runOps_sound {call : CallF} (hcall : CallOk P G base call) (ops : Array Oper) {Q : Exit → Act → World → Prop} {n : Nat} : ∀ (l : List Oper) (i : Nat) (ρ : Ren) (f f' : Tr NV) (m m' : Mem) (a : Act) (w : World), ops.toList.drop i = l → l.all (dstOk n) = true →
    St G base n ρ f m a w → runOps P G call ops l f m = some (f', m') → (∀ ρ' a' w', St G base n ρ' f' m' a' w' → Adv ρ m w ρ' m' w' → Q .normal a' w') → wpOps P ops Q (List.range' i l.length) a w
  | [], i, ρ, f, f', m, m', a, w, _, _, hst, h, hq => by
    simp only [runOps, Option.some.injEq, Prod.mk.injEq] at h; obtain ⟨rfl, rfl⟩ := h
    exact hq ρ a w hst (Adv.refl _ _ _)
  | o :: l, i, ρ, f, f', m, m', a, w, hl, hd, hst, h, hq => by
    have ho : ops[i]? = some o := by
      have : (ops.toList.drop i)[0]? = some o := by rw [hl]; rfl
      rw [List.getElem?_drop] at this
      simpa using this
    have hl' : ops.toList.drop (i + 1) = l := by
      rw [← List.tail_drop, hl]; rfl
    simp only [List.all_cons, Bool.and_eq_true] at hd
    simp only [runOps] at h
    rw [List.length_cons, List.range'_succ]
    cases hw0 : wantedN ops o f with
    | none => simp [hw0] at h
    | some wb =>
    simp only [wpOps, ho, wanted_eq hst.frame ops o hw0]
    cases wb with
    | true =>
      simp only [hw0] at h
      cases hop : opN P G call o f m with
      | none => simp [hop] at h
      | some x =>
        obtain ⟨v, m1⟩ := x
        simp only [hop] at h
        simp only [if_true]
        left
        refine upon_of_next (opN_sound hcall hst o hop) ?_
        rintro v' w1 ⟨ρ1, q1, q2, q3⟩
        exact runOps_sound hcall ops l (i + 1) ρ1 _ f' m1 m' _ w1 hl' hd.2 (hst.put (dstOk_spec hd.1) q1 q2 q3) h (fun ρ' a' w' s1 s2 => hq ρ' a' w' s1 (q3.trans s2))
    | false =>
      simp only [hw0] at h
      simp only [Bool.false_eq_true, if_false]
      exact runOps_sound hcall ops l (i + 1) ρ _ f' m m' _ w hl' hd.2 (hst.put (dstOk_spec hd.1) (VRel.undef ρ) hst.mem (Adv.refl _ _ _)) h hq

def exOf : Ex → Exit
  | .normal => .normal
  | .exit id => .exit id
  | .ret => .ret

def DrawOk (P : Program) (G base : Nat) (call : CallF) : Prop :=
  ∀ (id : Nat) (ops : Array Oper) (Q : Exit → Act → World → Prop) (n : Nat) (ρ : Ren) (f f' : Tr NV) (m m' : Mem) (a : Act) (w : World), ops.toList.all (dstOk n) = true →
    St G base n ρ f m a w → runDraw P G call ops f m = some (f', m') → (∀ ρ' a' w', St G base n ρ' f' m' a' w' → Adv ρ m w ρ' m' w' → Q .normal a' w') → (Code.region id ops true).wp P Q a w

theorem exec_sound {call : CallF} (hcall : CallOk P G base call) (hdraw : DrawOk P G base call) (fuel n : Nat) : ∀ (c : Code) (Q : Exit → Act → World → Prop) (ρ : Ren) (e : Ex) (f f' : Tr NV) (m m' : Mem) (a : Act) (w : World), codeOk n c = true →
    St G base n ρ f m a w → exec P G call fuel c f m = some (e, f', m') → (∀ ρ' a' w', St G base n ρ' f' m' a' w' → Adv ρ m w ρ' m' w' → Q (exOf e) a' w') → c.wp P Q a w
  | .skip, Q, ρ, e, f, f', m, m', a, w, _, hst, h, hq => by
    simp only [exec, Option.some.injEq, Prod.mk.injEq] at h; obtain ⟨rfl, rfl, rfl⟩ := h
    exact wp_skip (hq ρ a w hst (Adv.refl _ _ _))
  | .label _, Q, ρ, e, f, f', m, m', a, w, _, hst, h, hq => by
    simp only [exec, Option.some.injEq, Prod.mk.injEq] at h; obtain ⟨rfl, rfl, rfl⟩ := h
    exact wp_label (hq ρ a w hst (Adv.refl _ _ _))
  | .region id ops false, Q, ρ, e, f, f', m, m', a, w, hc, hst, h, hq => by
    simp only [exec] at h
    split at h
    · rename_i f1 m1 hr
      simp only [Option.some.injEq, Prod.mk.injEq] at h; obtain ⟨rfl, rfl, rfl⟩ := h
      refine wp_region ?_
      rw [List.range_eq_range']
      have := runOps_sound (Q := Q) hcall ops ops.toList 0 ρ f f1 m m1 a w (by simp) hc hst hr hq
      simpa using this
    · cases h
  | .region id ops true, Q, ρ, e, f, f', m, m', a, w, hc, hst, h, hq => by
    simp only [exec] at h
    split at h
    · rename_i f1 m1 hr
      simp only [Option.some.injEq, Prod.mk.injEq] at h; obtain ⟨rfl, rfl, rfl⟩ := h
      exact hdraw id ops Q n ρ f f1 m m1 a w hc hst hr hq
    · cases h
  | .seq x y, Q, ρ, e, f, f', m, m', a, w, hc, hst, h, hq => by
    simp only [codeOk, Bool.and_eq_true] at hc
    simp only [exec] at h
    refine wp_seq ?_
    split at h
    · rename_i f1 m1 hx
      exact exec_sound hcall hdraw fuel n x _ ρ .normal f f1 m m1 a w hc.1 hst hx fun ρ1 a1 w1 s1 t1 =>
        exec_sound hcall hdraw fuel n y Q ρ1 e f1 f' m1 m' a1 w1 hc.2 s1 h fun ρ2 a2 w2 s2 t2 => hq ρ2 a2 w2 s2 (t1.trans t2)
    · rename_i hne
      refine exec_sound hcall hdraw fuel n x _ ρ e f f' m m' a w hc.1 hst h fun ρ1 a1 w1 s1 t1 => ?_
      cases e with
      | normal => exact absurd h (hne f' m')
      | exit id => exact hq ρ1 a1 w1 s1 t1
      | ret => exact hq ρ1 a1 w1 s1 t1
  | .cond c x y, Q, ρ, e, f, f', m, m', a, w, hc, hst, h, hq => by
    simp only [codeOk, Bool.and_eq_true] at hc
    simp only [exec] at h
    split at h
    · rename_i hb
      exact wp_cond_true (evRel hst.frame hst.glob _ _ hb) (exec_sound hcall hdraw fuel n x Q ρ e f f' m m' a w hc.1 hst h hq)
    · rename_i hb
      exact wp_cond_false (evRel hst.frame hst.glob _ _ hb) (exec_sound hcall hdraw fuel n y Q ρ e f f' m m' a w hc.2 hst h hq)
    · cases h
  | .block id c, Q, ρ, e, f, f', m, m', a, w, hc, hst, h, hq => by
    simp only [codeOk] at hc
    simp only [exec] at h
    refine wp_block ?_
    split at h
    · rename_i id' f1 m1 hx
      refine exec_sound hcall hdraw fuel n c _ ρ (.exit id') f f1 m m1 a w hc hst hx fun ρ1 a1 w1 s1 t1 => ?_
      simp only [cond_beq] at h
      by_cases hid : id' = id
      · rw [if_pos hid] at h
        simp only [Option.some.injEq, Prod.mk.injEq] at h; obtain ⟨rfl, rfl, rfl⟩ := h
        simp only [exOf, Exit.inBlock, hid, if_true]
        exact hq ρ1 a1 w1 s1 t1
      · rw [if_neg hid] at h
        simp only [Option.some.injEq, Prod.mk.injEq] at h; obtain ⟨rfl, rfl, rfl⟩ := h
        simp only [exOf, Exit.inBlock, hid, if_false]
        exact hq ρ1 a1 w1 s1 t1
    · rename_i hne
      refine exec_sound hcall hdraw fuel n c _ ρ e f f' m m' a w hc hst h fun ρ1 a1 w1 s1 t1 => ?_
      cases e with
      | exit id' => exact absurd h (hne id' f' m')
      | normal => exact hq ρ1 a1 w1 s1 t1
      | ret => exact hq ρ1 a1 w1 s1 t1
  | .loop c, Q, ρ, e, f, f', m, m', a, w, hc, hst, h, hq => by
    simp only [codeOk] at hc
    simp only [exec] at h
    refine wp_loop_rounds fuel ?_
    have key : ∀ (k : Nat) (ρ : Ren) (f : Tr NV) (m : Mem) (a : Act) (w : World), St G base n ρ f m a w → iter (exec P G call fuel c) k f m = some (e, f', m') →
        (∀ ρ' a' w', St G base n ρ' f' m' a' w' → Adv ρ m w ρ' m' w' → Q (exOf e) a' w') → Code.rounds P c Q k a w := by
      intro k
      induction k with
      | zero => intro ρ f m a w _ h; simp [iter] at h
      | succ k ih =>
        intro ρ f m a w hst h hq
        rw [rounds_succ]
        simp only [iter] at h
        split at h
        · rename_i f1 m1 hx
          refine exec_sound hcall hdraw fuel n c _ ρ .normal f f1 m m1 a w hc hst hx fun ρ1 a1 w1 s1 t1 => ?_
          exact ih ρ1 f1 m1 a1 w1 s1 h fun ρ2 a2 w2 s2 t2 => hq ρ2 a2 w2 s2 (t1.trans t2)
        · rename_i hne
          refine exec_sound hcall hdraw fuel n c _ ρ e f f' m m' a w hc hst h fun ρ1 a1 w1 s1 t1 => ?_
          cases e with
          | normal => exact absurd h (hne f' m')
          | exit id => exact hq ρ1 a1 w1 s1 t1
          | ret => exact hq ρ1 a1 w1 s1 t1
    exact key fuel ρ f m a w hst h hq
  | .exit id, Q, ρ, e, f, f', m, m', a, w, _, hst, h, hq => by
    simp only [exec, Option.some.injEq, Prod.mk.injEq] at h; obtain ⟨rfl, rfl, rfl⟩ := h
    exact wp_exit (hq ρ a w hst (Adv.refl _ _ _))
  | .scope c, Q, ρ, e, f, f', m, m', a, w, hc, hst, h, hq => by
    simp only [codeOk] at hc
    simp only [exec] at h
    refine wp_scope_straight ?_
    refine exec_sound hcall hdraw fuel n c _ ρ e f f' m m' a w hc hst h fun ρ1 a1 w1 s1 t1 => ?_
    cases e <;> exact hq ρ1 a1 w1 s1 t1
  | .ret, Q, ρ, e, f, f', m, m', a, w, _, hst, h, hq => by
    simp only [exec, Option.some.injEq, Prod.mk.injEq] at h; obtain ⟨rfl, rfl, rfl⟩ := h
    exact wp_ret (hq ρ a w hst (Adv.refl _ _ _))
  | .rangeFunc _ _ _ _, _, _, _, _, _, _, _, _, _, hc, _, _, _ => by simp [codeOk] at hc
  | .goto _, _, _, _, _, _, _, _, _, _, _, _, h, _ => by simp [exec] at h
  | .refuse _, _, _, _, _, _, _, _, _, _, _, _, h, _ => by simp [exec] at h
end
end Go.NI
