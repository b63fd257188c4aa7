/- The nice interpreter: append, joined. -/
import Derived.Test.YtfpaeecnnlmjhaaGreatNiW2
namespace Go.NI
section
variable {P : Program} {ρ : Ren} {base n : Nat} {V : View} {w : World}

def notInt : TypeDesc → Bool
  | .int _ => false
  | _ => true

theorem append_inplace {argTypes : Array TypeId} {ty st yt e : TypeId} {d : TypeDesc} {sz k sLen sCap : Nat} {b : Option Addr} {y' : Value} {l' : Array Value}
    (h0 : argTypes[0]? = some st) (h1 : argTypes[1]? = some yt) (hu : P.underlying st = some (.slice e)) (hd : P.underlying yt = some d) (hnd : notInt d = true) (hs : tySize P e = some sz)
    (hl : (Builtin.lenOf y').run P w = .ok k w) (hf : (Builtin.firstCells sz k y').run P w = .ok l' w) (hle : sLen + k ≤ sCap) :
    (Builtin.append_ argTypes ty #[.slice b sLen sCap, y']).run P w = (match b with | some a => (storeCells (a.add (sLen * sz)) l'.toList).run P w | none => .ok () w).andThen fun _ w' => .ok (.slice b (sLen + k) sCap) w' := by
  unfold Builtin.append_
  cases d <;> first | (simp [notInt] at hnd; done) | skip
  all_goals
    simp only [h0, h1, List.getElem?_toArray, List.getElem?_cons_zero, List.getElem?_cons_succ, Sem.run_bind, run_underlying hu, run_sizeOf _ hs, run_underlying hd, Result.andThen_ok, Sem.run_pure, Bool.false_eq_true, if_false, hl, Bool.not_false, if_true, hle, hf]
    cases b with
    | none => simp
    | some a => simp

theorem append_grow {argTypes : Array TypeId} {ty st yt e : TypeId} {d : TypeDesc} {sz by_ k sLen sCap : Nat} {b : Option Addr} {y' z : Value} {l' old : Array Value}
    (h0 : argTypes[0]? = some st) (h1 : argTypes[1]? = some yt) (hu : P.underlying st = some (.slice e)) (hd : P.underlying yt = some d) (hnd : notInt d = true) (hs : tySize P e = some sz) (hby : tyBytes P e = some by_)
    (hl : (Builtin.lenOf y').run P w = .ok k w) (hf : (Builtin.firstCells sz k y').run P w.drew = .ok l' w.drew) (hlt : sCap < sLen + k) (hb1 : (sLen + k) * by_ ≤ 1099511627776) (hb2 : 0 < by_)
    (hz : (P.info? e).bind (·.zero) = some z) (hold : (Builtin.firstCells sz sLen (.slice b sLen sCap)).run P w.drew = .ok old w.drew) :
    ∃ cap : Nat, sLen + k ≤ cap ∧ (Builtin.append_ argTypes ty #[.slice b sLen sCap, y']).run P w =
      .ok (.slice (some ⟨w.heap.size, 0, none⟩) (sLen + k) cap) (w.drew.alloc (.cells (old ++ l' ++ Builtin.zeroCells z.cells (cap - (sLen + k))) e)) := by
  refine ⟨(Question.appendCap (sLen + k) sCap e).cut (w.tape w.drawn (Question.appendCap (sLen + k) sCap e)), by simp only [Question.cut]; omega, ?_⟩
  obtain ⟨inf, hinf, hbi⟩ : ∃ inf, P.info? e = some inf ∧ inf.bytes = by_ := by
    unfold tyBytes at hby
    cases hi : P.info? e with
    | none => simp [hi] at hby
    | some inf => simp [hi] at hby; exact ⟨inf, rfl, hby⟩
  have hneed : sLen + k ≤ 1099511627776 := Nat.le_trans (Nat.le_mul_of_pos_right _ hb2) hb1
  have hbb : by_ ≤ 1099511627776 := Nat.le_trans (Nat.le_mul_of_pos_left _ (by omega)) hb1
  have hcap := nextcap_le (sLen + k) sCap hlt
  have hbig : ¬ Builtin.nextslicecap (sLen + k) sCap * by_ > 2 ^ 48 := by
    have h1 : Builtin.nextslicecap (sLen + k) sCap * by_ ≤ (2 * (sLen + k) + 192) * by_ := Nat.mul_le_mul_right _ hcap
    have h2 : (2 * (sLen + k) + 192) * by_ = 2 * ((sLen + k) * by_) + 192 * by_ := by rw [Nat.add_mul, Nat.mul_assoc]
    have h3 : (192 : Nat) * by_ ≤ 192 * 1099511627776 := Nat.mul_le_mul_left _ hbb
    omega
  have hnle : ¬ sLen + k ≤ sCap := by omega
  have hti : (typeInfo e).run P w = .ok inf w := by simp [typeInfo, hinf]
  have hti2 : (typeInfo e).run P w.drew = .ok inf w.drew := by simp [typeInfo, hinf]
  have hne : (inf.bytes = 0) = False := by rw [hbi]; simp; omega
  have hneG : (((sLen + k : Nat) : Int) > IntKind.i64.max ∧ by_ = 0) = False := by
    rw [IntKind.max_i64]; simp; omega
  have hneF : ∀ q : Prop, (((sLen + k : Nat) : Int) > IntKind.i64.max ∧ (q ∨ False)) = False := by
    intro q; rw [IntKind.max_i64]; simp; omega
  have hch : (choose (.appendCap (sLen + k) sCap e)).run P w = .ok ((Question.appendCap (sLen + k) sCap e).cut (w.tape w.drawn (Question.appendCap (sLen + k) sCap e))) w.drew := by
    rw [run_choose]; rfl
  have hzv := run_zeroValue w.drew hz
  generalize (Question.appendCap (sLen + k) sCap e).cut (w.tape w.drawn (Question.appendCap (sLen + k) sCap e)) = cap at hch ⊢
  unfold Builtin.append_
  cases d <;> first | (simp [notInt] at hnd; done) | skip
  all_goals
    simp only [h0, h1, List.getElem?_toArray, List.getElem?_cons_zero, List.getElem?_cons_succ, Sem.run_bind, run_underlying hu, run_sizeOf _ hs, run_underlying hd, Result.andThen_ok, Sem.run_pure, Bool.false_eq_true, if_false, hl, Bool.not_false, if_true, hnle]
    simp only [hti, Result.andThen_ok]
    simp only [hbi, false_or, or_false, hneG, if_false, hti, hbig, Sem.run_bind, Result.andThen_ok, hch, run_askRoom, hold, hf, hti2, hzv, newRow, run_newObj, Sem.run_pure]
    rfl
end
end Go.NI
