/- The nice interpreter: a call of a whole function, from any world. -/
import Derived.Test.YtfpaeecnnlmjhaaGreatNiD5
import Derived.Below
namespace Go.NI
open Go.RowKit
section
variable {P : Program}

def Mem.empty : Mem := ⟨.leaf, 0⟩

theorem start_mem (w : World) : MemRel (fun _ => none) w.heap.size Mem.empty.next Mem.empty.view w where
  based := Nat.le_refl _
  fresh _ _ := rfl
  rel b o h := by simp [Mem.view, Mem.empty, Tr.get] at h
  inj b b' o o' i i' h := by simp [Mem.view, Mem.empty, Tr.get] at h
  own b o i h := by simp [Mem.view, Mem.empty, Tr.get] at h

theorem Step.below {ρ ρ' : Ren} {V' : View} {w w' : World} (s : Step ρ Mem.empty.view w ρ' V' w') : Below w.heap.size w w' where
  os := s.os
  tape := s.tape
  output := s.output
  size := s.size
  block k hk := s.keep k hk fun b o i h => by simp [Mem.view, Mem.empty, Tr.get] at h

theorem calls_of_next {g : FuncId} {args : Array Value} {w : World} {fn : Func} (hfn : P.funcs[g]? = some fn) (hb : fn.body.isNone = false) (hname : (fn.name == "runtime.NumGoroutine") = false) {R : Value → World → Prop}
    (h : NextOk P ((callFunc g args).run P w) R) : Calls P g args w fun e w' => ∃ v, e = .returned v ∧ R v w' := by
  have henter : (callFunc g args).run P w = .ok (.enter g args) w := by
    simp only [callFunc, Sem.run_bind, run_program, Result.andThen_ok, hfn, hname, Bool.false_eq_true, if_false, hb]
    rfl
  rw [henter] at h
  exact h

/-- What the interpreter answers, the model's call answers, from any world; nothing that lay before is turned. -/
theorem callN_calls (hm : P.follows .mixedOrders = true) {ov : Over} {g : FuncId} {args : List NV} {args' : List Value} {w : World} (hov : OverOk P 0 w.heap.size ov) {fn : Func} (hfn : P.funcs[g]? = some fn) (hb : fn.body.isNone = false)
    (hname : (fn.name == "runtime.NumGoroutine") = false) {k : Nat} {v : NV} {m' : Mem} (h : callN P 0 ov k g args Mem.empty = some (v, m')) (hargs : VRels (fun _ => none) args args') :
    Calls P g args'.toArray w fun e w' => ∃ v', e = .returned v' ∧ (∃ ρ', VRel ρ' v v') ∧ Below w.heap.size w w' := by
  have h1 := callN_sound (G := 0) (base := w.heap.size) (fun call hc => drawOk_sound hm hc) hov k g args Mem.empty v m' h (fun _ => none) w args' (fun g hg => absurd hg (Nat.not_lt_zero _)) (start_mem w) hargs
  refine Calls.mono (calls_of_next hfn hb hname h1) ?_
  rintro e w' ⟨v', rfl, ρ', q1, _, q3⟩
  exact ⟨v', rfl, ⟨ρ', q1⟩, q3.step.below⟩

def isTrue : Option (NV × Mem) → Bool
  | some (.bool true, _) => true
  | _ => false

/-- The same of a law: it answers true. -/
theorem law_true (hm : P.follows .mixedOrders = true) {ov : Over} {g : FuncId} {args : List NV} {args' : List Value} {w : World} (hov : OverOk P 0 w.heap.size ov) {fn : Func} (hfn : P.funcs[g]? = some fn) (hb : fn.body.isNone = false)
    (hname : (fn.name == "runtime.NumGoroutine") = false) {k : Nat} (h : isTrue (callN P 0 ov k g args Mem.empty) = true) (hargs : VRels (fun _ => none) args args') :
    Calls P g args'.toArray w fun e w' => e = .returned (.bool true) ∧ Below w.heap.size w w' := by
  unfold isTrue at h
  split at h
  · rename_i m' hx
    refine Calls.mono (callN_calls hm hov hfn hb hname hx hargs) ?_
    rintro e w' ⟨v', rfl, ⟨ρ', q1⟩, q2⟩
    cases (show v' = .bool true from q1)
    exact ⟨rfl, q2⟩
  · cases h
end
end Go.NI
