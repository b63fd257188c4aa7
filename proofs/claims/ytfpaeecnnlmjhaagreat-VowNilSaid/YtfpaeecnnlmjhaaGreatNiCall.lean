/- The nice interpreter: calls. -/
import Derived.Test.YtfpaeecnnlmjhaaGreatNiRun
namespace Go.NI
section
variable {P : Program} {G base : Nat}

abbrev Over := CallF → FuncId → Option (List NV → Mem → Option (NV × Mem))

def OverOk (P : Program) (G base : Nat) (ov : Over) : Prop :=
  ∀ call, CallOk P G base call → ∀ g h, ov call g = some h → ∀ args m v m', h args m = some (v, m') → ∀ (ρ : Ren) (w : World) (args' : List Value), Glob G ρ m.view → MemRel ρ base m.next m.view w → VRels ρ args args' →
    NextOk P ((callFunc g args'.toArray).run P w) (Post ρ base m w m' v)

theorem OverOk.none : OverOk P G base (fun _ _ => none) := fun _ _ _ _ h => by cases h

def rvSem (tmps : Array Value) (r : ResultVar) : Sem Value :=
  match r with
  | .tmp t => pure (tmps.getD t Go.undef)
  | .cell x t => do loadVar t (← asAddr (tmps.getD x Go.undef))

theorem result_sound {n : Nat} {ρ : Ren} {f : Tr NV} {m : Mem} {a : Act} {w : World} (hst : St G base n ρ f m a w) {r : ResultVar} {v : NV} (h : resultOf P f m r = some v) :
    ∃ v', (rvSem a.tmps r).run P w = .ok v' w ∧ VRel ρ v v' := by
  cases r with
  | tmp t => simp only [resultOf] at h; exact ⟨_, rfl, hst.frame t v h⟩
  | cell x t =>
    simp only [resultOf] at h
    split at h
    · rename_i ad hx
      have hr := hst.frame x _ hx
      obtain ⟨a', e, ha⟩ := hr
      obtain ⟨v', q1, q2⟩ := rdVar_sound (P := P) hst.mem ha h
      refine ⟨v', ?_, q2⟩
      simp only [rvSem, e, asAddr, Sem.run_bind, Sem.run_pure, Result.andThen_ok]
      exact q1
    · cases h

theorem results_sound {n : Nat} {ρ : Ren} {f : Tr NV} {m : Mem} {a : Act} {w : World} (hst : St G base n ρ f m a w) (fn : Func) {v : NV} (h : resultsOf P fn f m = some v) :
    ∃ v', (results fn a.tmps).run P w = .ok v' w ∧ VRel ρ v v' := by
  have key : ∀ (l : List ResultVar) (r : List NV), listM (resultOf P f m) l = some r →
      ∃ r', (l.mapM (rvSem a.tmps)).run P w = .ok r' w ∧ VRels ρ r r' := by
    intro l
    induction l with
    | nil => intro r hr; simp [listM] at hr; subst hr; exact ⟨[], by simp, rfl⟩
    | cons x l ih =>
      intro r hr
      simp only [listM] at hr
      split at hr
      · cases hr
      · rename_i y hy
        split at hr
        · cases hr
        · rename_i k hk
          simp only [Option.some.injEq] at hr; subst hr
          obtain ⟨y', p1, p2⟩ := result_sound hst hy
          obtain ⟨k', p3, p4⟩ := ih k hk
          refine ⟨y' :: k', ?_, _, _, rfl, p2, p4⟩
          rw [List.mapM_cons]
          simp only [Sem.run_bind, p1, p3, Result.andThen_ok, Sem.run_pure]
  unfold resultsOf at h
  have fin : ∀ (r : List NV) (r' : List Value), listM (resultOf P f m) fn.results.toList = some r → VRels ρ r r' →
      (fn.results.toList.mapM (rvSem a.tmps)).run P w = .ok r' w →
      (results fn a.tmps).run P w = .ok (if h : r'.toArray.size = 1 then r'.toArray[0] else .tuple r'.toArray) w := by
    intro r r' _ _ hrun
    have e : results fn a.tmps = (do
        let vs ← fn.results.mapM (rvSem a.tmps)
        pure (if h : vs.size = 1 then vs[0] else .tuple vs)) := rfl
    rw [e, Sem.run_bind, Array.mapM_eq_mapM_toList, Sem.run_map, hrun]
    rfl
  split at h
  · rename_i u hl
    simp only [Option.some.injEq] at h; subst h
    obtain ⟨r', p1, p2⟩ := key _ _ hl
    obtain ⟨y, r2, rfl, hy, e⟩ := p2
    cases (show r2 = [] from e)
    exact ⟨y, fin _ _ hl ⟨y, [], rfl, hy, rfl⟩ p1, hy⟩
  · rename_i l hne hl
    simp only [Option.some.injEq] at h; subst h
    obtain ⟨r', p1, p2⟩ := key _ _ hl
    have hlen := p2.length
    have hne1 : r'.length ≠ 1 := by
      intro e
      rw [e] at hlen
      match l, hlen with
      | [x], _ => exact hne x rfl
    refine ⟨.tuple r'.toArray, ?_, ⟨_, rfl, p2⟩⟩
    rw [fin _ _ hl p2 p1, dif_neg (by simpa using hne1)]
  · cases h

theorem callN_sound (hdraw : ∀ call, CallOk P G base call → DrawOk P G base call) {ov : Over} (hov : OverOk P G base ov) : ∀ k, CallOk P G base (callN P G ov k) := by
  intro k
  induction k with
  | zero => intro g args m v m' h; simp [callN] at h
  | succ k ih =>
    intro g args m v m' h ρ w args' hg hm hargs
    simp only [callN] at h
    split at h
    · rename_i hh he
      exact hov _ ih g hh he args m v m' h ρ w args' hg hm hargs
    · split at h
      · cases h
      · rename_i fn hfn
        split at h
        · cases h
        · rename_i c hc
          cases hb : (Nat.ble args.length fn.ntmps && codeOk fn.ntmps c && !(fn.name == "runtime.NumGoroutine")) with
          | false => simp [hb] at h
          | true =>
            simp only [hb, cond_true] at h
            simp only [Bool.and_eq_true] at hb
            obtain ⟨⟨b1, b2⟩, b3⟩ := hb
            have b1 : args.length ≤ fn.ntmps := by simpa using b1
            have b3 : (fn.name == "runtime.NumGoroutine") = false := by simpa using b3
            have henter : (callFunc g args'.toArray).run P w = .ok (.enter g args'.toArray) w := by
              simp only [callFunc, Sem.run_bind, run_program, Result.andThen_ok, hfn, b3, Bool.false_eq_true, if_false, hc, Option.isNone_some]
              rfl
            rw [henter]
            have hal := hargs.length
            let a0 : Act := { tmps := args'.toArray ++ Array.replicate (fn.ntmps - args'.toArray.size) Go.undef, defers := [] }
            have hst : St G base fn.ntmps ρ (setRange (.all .undef) 0 args) m a0 w := by
              refine ⟨hm, fun t u hu => ?_, hg, by simp [a0]; omega, rfl⟩
              rw [get_setRange] at hu
              simp only [Nat.zero_le, true_and, Nat.zero_add, Nat.sub_zero] at hu
              simp only [a0, Array.getD_eq_getD_getElem?, Array.getElem?_append, List.size_toArray]
              by_cases ht : t < args.length
              · rw [if_pos ht] at hu
                obtain ⟨y, hy, hr⟩ := hargs.get hu
                rw [if_pos (by omega)]
                simp only [List.getElem?_toArray, hy, Option.getD_some]
                exact hr
              · rw [if_neg ht] at hu
                simp only [Tr.get, Option.some.injEq] at hu
                subst hu
                rw [if_neg (by omega)]
                by_cases h2 : t - args'.length < fn.ntmps - args'.length
                · simp [h2]; exact VRel.undef ρ
                · simp [h2]; exact VRel.undef ρ
            have main : ∀ (e : Ex) (f : Tr NV) (m1 : Mem), exec P G (callN P G ov k) k c (setRange (.all .undef) 0 args) m = some (e, f, m1) → (e = .normal ∨ e = .ret) → (resultsOf P fn f m1).map (fun v => (v, m1)) = some (v, m') →
                Calls P g args'.toArray w fun e w' => ∃ v', e = .returned v' ∧ Post ρ base m w m' v v' w' := by
              intro e f m1 hex he hres
              cases hrs : resultsOf P fn f m1 with
              | none => simp [hrs] at hres
              | some u =>
                simp [hrs] at hres; obtain ⟨rfl, rfl⟩ := hres
                refine calls_of_wp hfn hc ?_
                refine exec_sound ih (hdraw _ ih) k fn.ntmps c _ ρ e _ f m m1 a0 w b2 hst hex fun ρ1 a1 w1 s1 t1 => ?_
                obtain ⟨v', q1, q2⟩ := results_sound s1 fn hrs
                rcases he with rfl | rfl <;> exact ⟨s1.defers, v', q1, v', rfl, ρ1, q2, s1.mem, t1⟩
            show Calls P g args'.toArray w fun e w' => ∃ v', e = .returned v' ∧ Post ρ base m w m' v v' w'
            split at h
            · rename_i f m1 hex
              exact main .normal f m1 hex (.inl rfl) h
            · rename_i f m1 hex
              exact main .ret f m1 hex (.inr rfl) h
            · cases h
end
end Go.NI
