/- The nice interpreter: every operation that neither reads nor writes memory does what the model's does. -/
import Derived.Test.YtfpaeecnnlmjhaaGreatNiT3
namespace Go.NI

def EvRel (ρ : Ren) (nv : Operand → Option NV) (ev : Operand → Value) : Prop := ∀ x v, nv x = some v → VRel ρ v (ev x)

theorem EvRel.list {ρ : Ren} {nv : Operand → Option NV} {ev : Operand → Value} (h : EvRel ρ nv ev) {l : List Operand} {r : List NV} (hl : listM nv l = some r) : VRels ρ r (l.map ev) := by
  obtain ⟨h1, h2⟩ := listM_get hl
  refine VRels.of_get (by simp [h1]) fun i x hx => ?_
  have hlt : i < l.length := by rw [h1]; exact (List.getElem?_eq_some_iff.1 hx).1
  obtain ⟨y, hy, hf⟩ := h2 i l[i] (List.getElem?_eq_getElem hlt)
  rw [hx] at hy; cases hy
  exact ⟨ev l[i], by simp [hlt], h _ _ hf⟩

theorem EvRel.parts {ρ : Ren} {nv : Operand → Option NV} {ev : Operand → Value} (h : EvRel ρ nv ev) {l : List (Nat × Operand)} {r : List (Nat × NV)}
    (hl : listM (fun p : Nat × Operand => (nv p.2).map fun v => (p.1, v)) l = some r) : r.map (·.1) = (l.map fun p => (p.1, ev p.2)).map (·.1) ∧ VRels ρ (r.map (·.2)) ((l.map fun p => (p.1, ev p.2)).map (·.2)) := by
  induction l generalizing r with
  | nil => simp [listM] at hl; subst hl; exact ⟨rfl, rfl⟩
  | cons p l ih =>
    simp only [listM] at hl
    cases hp : nv p.2 with
    | none => simp [hp] at hl
    | some v =>
      simp only [hp, Option.map_some] at hl
      cases hr : listM (fun p : Nat × Operand => (nv p.2).map fun v => (p.1, v)) l with
      | none => simp [hr] at hl
      | some k =>
        simp [hr] at hl; subst hl
        obtain ⟨i1, i2⟩ := ih hr
        exact ⟨by simp [i1], _, _, rfl, h _ _ hp, i2⟩

theorem foldl_none {α : Type} (f : Option α → NV → Option α) (hf : ∀ y, f none y = none) : ∀ l : List NV, l.foldl f none = none
  | [] => rfl
  | y :: l => by rw [List.foldl_cons, hf]; exact foldl_none f hf l

theorem max_sound {P : Program} {ρ : Ren} (w : World) : ∀ (l : List NV) (l' : List Value) (x v : NV) (x' : Value), VRels ρ l l' → VRel ρ x x' →
    (l.foldl (fun acc y => match acc, y with
        | some (.int k a), .int k' b => bif eqK k k' then some (.int k (bif ltI a b then b else a)) else none
        | _, _ => none) (some x)) = some v → ∃ v', (l'.foldlM Builtin.max2 x').run P w = .ok v' w ∧ VRel ρ v v'
  | [], l', x, v, x', hl, hx, h => by
    cases (show l' = [] from hl); simp at h; subst h; exact ⟨x', rfl, hx⟩
  | y :: l, l', x, v, x', hl, hx, h => by
    obtain ⟨y', k', rfl, hy, hl⟩ := hl
    rw [List.foldl_cons] at h
    split at h
    · rename_i k a k2 b heq
      simp only [Option.some.injEq] at heq; subst heq
      cases (show x' = _ from hx); cases (show y' = _ from hy)
      cases hk : eqK k k2 with
      | false => rw [hk, cond_false, foldl_none _ (fun _ => rfl)] at h; cases h
      | true =>
        rw [hk, cond_true] at h
        obtain ⟨v', h1, h2⟩ := max_sound w l _ _ v (.int k (if b > a then b else a)) hl (by
          simp only [VRel, ltI_eq]
          by_cases hab : a < b
          · simp [hab]
          · simp [hab]) h
        refine ⟨v', ?_, h2⟩
        rw [List.foldlM_cons, Sem.run_bind]
        simp only [Builtin.max2, Sem.run_pure, Result.andThen_ok]
        exact h1
    · rw [foldl_none _ (fun _ => rfl)] at h; cases h

theorem min_sound {P : Program} {ρ : Ren} (w : World) : ∀ (l : List NV) (l' : List Value) (x v : NV) (x' : Value), VRels ρ l l' → VRel ρ x x' →
    (l.foldl (fun acc y => match acc, y with
        | some (.int k a), .int k' b => bif eqK k k' then some (.int k (bif ltI b a then b else a)) else none
        | _, _ => none) (some x)) = some v → ∃ v', (l'.foldlM Builtin.min2 x').run P w = .ok v' w ∧ VRel ρ v v'
  | [], l', x, v, x', hl, hx, h => by
    cases (show l' = [] from hl); simp at h; subst h; exact ⟨x', rfl, hx⟩
  | y :: l, l', x, v, x', hl, hx, h => by
    obtain ⟨y', k', rfl, hy, hl⟩ := hl
    rw [List.foldl_cons] at h
    split at h
    · rename_i k a k2 b heq
      simp only [Option.some.injEq] at heq; subst heq
      cases (show x' = _ from hx); cases (show y' = _ from hy)
      cases hk : eqK k k2 with
      | false => rw [hk, cond_false, foldl_none _ (fun _ => rfl)] at h; cases h
      | true =>
        rw [hk, cond_true] at h
        obtain ⟨v', h1, h2⟩ := min_sound w l _ _ v (.int k (if b < a then b else a)) hl (by
          simp only [VRel, ltI_eq]
          by_cases hab : b < a
          · simp [hab]
          · simp [hab]) h
        refine ⟨v', ?_, h2⟩
        rw [List.foldlM_cons, Sem.run_bind]
        simp only [Builtin.min2, Sem.run_pure, Result.andThen_ok]
        exact h1
    · rw [foldl_none _ (fun _ => rfl)] at h; cases h

theorem get_mk (s : List UInt8) (j : Nat) : (⟨⟨s⟩⟩ : ByteArray)[j]? = s[j]? := by
  by_cases h : j < s.length
  · have h' : j < (⟨⟨s⟩⟩ : ByteArray).size := h
    rw [getElem?_pos _ j h', List.getElem?_eq_getElem h]
    rfl
  · have h' : ¬ j < (⟨⟨s⟩⟩ : ByteArray).size := h
    rw [getElem?_neg _ j h', List.getElem?_eq_none (by omega)]

theorem opT_sound {P : Program} {ρ : Ren} {nv : Operand → Option NV} {ev : Operand → Value} (hev : EvRel ρ nv ev) (o : Oper) {v : NV} (h : opT P o.op nv = some v) (w : World) :
    ∃ v', (execOp ev o).run P w = .ok (.value v') w ∧ VRel ρ v v' := by
  obtain ⟨dst, op, ty, pos, after, guard⟩ := o
  cases op with
  | move x => exact ⟨ev x, by simp [execOp], hev _ _ h⟩
  | assign x => exact ⟨ev x, by simp [execOp], hev _ _ h⟩
  | pick c a b =>
    simp only [opT] at h
    split at h
    · rename_i hc
      have e := hev _ _ hc
      exact ⟨ev a, by simp [execOp, (show ev c = .bool true from e), asBool], hev _ _ h⟩
    · rename_i hc
      have e := hev _ _ hc
      exact ⟨ev b, by simp [execOp, (show ev c = .bool false from e), asBool], hev _ _ h⟩
    · cases h
  | build t parts =>
    simp only [opT] at h
    split at h
    · cases h
    · rename_i l hl
      obtain ⟨h1, h2⟩ := hev.parts hl
      obtain ⟨v', q1, q2⟩ := build_sound (P := P) (parts' := parts.map fun p => (p.1, ev p.2)) h (by simpa using h1) (by simpa using h2) w
      exact ⟨v', by simp [execOp, q1], q2⟩
  | nilCheck x =>
    simp only [opT] at h
    split at h
    · cases h
    · cases h
    · cases h
    · rename_i g a b hx
      simp only [Option.some.injEq] at h; subst h
      have hx' := hev _ _ hx
      obtain ⟨f', c', e, _⟩ := hx'
      exact ⟨ev x, by simp [execOp, e], hev _ _ hx⟩
    · cases h
    · rename_i n1 n2 n3 n4 n5
      have hx' := hev _ _ h
      refine ⟨ev x, ?_, hx'⟩
      have e : ∀ u : Value, ev x = u → u ≠ .pointer none ∧ u ≠ .nilIface ∧ u ≠ .nilFunc ∧ ∀ f a b, u ≠ .func f a b := by
        rintro u rfl
        refine ⟨fun e => ?_, fun e => ?_, fun e => ?_, fun f a b e => ?_⟩
        · rw [e] at hx'
          cases v with
          | ptr a => cases a with
            | none => exact n1 h
            | some a => obtain ⟨_, e', _⟩ := hx'; cases e'
          | map a => cases a <;> simp [VRel] at hx'
          | _ => simp [VRel] at hx'
        · rw [e] at hx'; exact n2 (by rw [← hx'.of_nilIface]; exact h)
        · rw [e] at hx'
          cases v with
          | nilFunc => exact n3 h
          | ptr a => cases a <;> simp [VRel] at hx'
          | map a => cases a <;> simp [VRel] at hx'
          | _ => simp [VRel] at hx'
        · rw [e] at hx'
          cases v with
          | func f a b => exact n5 _ _ _ h
          | ptr a => cases a <;> simp [VRel] at hx'
          | map a => cases a <;> simp [VRel] at hx'
          | _ => simp [VRel] at hx'
      obtain ⟨e1, e2, e3, e4⟩ := e _ rfl
      simp only [execOp]
      split <;> simp_all
  | binOp op t x y yt =>
    simp only [opT] at h
    split at h
    · rename_i a b ha hb
      obtain ⟨v', q1, q2⟩ := binV_sound (P := P) h (hev _ _ ha) (hev _ _ hb) w
      exact ⟨v', by simp only [execOp]; rw [Sem.run_bind, q1]; rfl, q2⟩
    · cases h
  | unOp op t x =>
    simp only [opT] at h
    split at h
    · rename_i a ha
      obtain ⟨v', q1, q2⟩ := unV_sound (P := P) h (hev _ _ ha) w
      exact ⟨v', by simp [execOp, q1], q2⟩
    · cases h
  | convert s d x =>
    simp only [opT] at h
    split at h
    · rename_i ds k kk n hs hd hx
      simp only [Option.some.injEq] at h; subst h
      have e := hev _ _ hx
      exact ⟨.int k (k.wrap n), by simp [execOp, (show ev x = .int kk n from e), convert, run_underlying hs, run_underlying hd, Conv.intToInt], by simp [VRel, wrapK_eq]⟩
    · rename_i ds l hs hd hx
      simp only [Option.some.injEq] at h; subst h
      have e := hev _ _ hx
      refine ⟨ev x, ?_, e⟩
      cases ds <;> simp [execOp, (show ev x = .string ⟨⟨l⟩⟩ from e), convert, run_underlying hs, run_underlying hd]
    · cases h
  | makeInterface t x =>
    simp only [opT] at h
    split at h
    · cases h
    · rename_i d hne hd
      cases hx : nv x with
      | none => simp [hx] at h
      | some a =>
        simp [hx] at h; subst h
        refine ⟨.iface t (ev x), ?_, ⟨_, rfl, hev _ _ hx⟩⟩
        cases d <;> first | (simp [execOp, Instr.makeInterface, run_underlying hd]; done) | (rename_i ms; exact absurd rfl (hne ms))
    · cases h
  | makeFunc fn first captured =>
    cases fn with
    | func g =>
      simp only [opT] at h
      split at h
      · rename_i a b ha hb
        simp only [Option.some.injEq] at h; subst h
        refine ⟨.func (.func g) (first.map ev) (captured.map ev), by simp [execOp, Instr.makeFunc], ⟨_, _, rfl, ?_, ?_⟩⟩
        · simpa using hev.list ha
        · simpa using hev.list hb
      · cases h
    | _ => simp [opT] at h
  | slice t x lo hi mx =>
    simp only [opT] at h
    split at h
    · cases h
    · rename_i a ha
      split at h
      · rename_i l hh m hl hhi hm
        have key : ∀ (o : Option Operand) (r : Option NV), (match o with | none => some (none : Option NV) | some x => (nv x).map some) = some r → ORel ρ r (o.map ev) := by
          intro o r hr
          cases o with
          | none => simp at hr; subst hr; trivial
          | some x =>
            cases hx : nv x with
            | none => simp [hx] at hr
            | some z => simp [hx] at hr; subst hr; exact hev _ _ hx
        obtain ⟨v', q1, q2⟩ := slice_sound (P := P) h (hev _ _ ha) (key _ _ hl) (key _ _ hhi) (key _ _ hm) w
        exact ⟨v', by simp [execOp, q1], q2⟩
      · cases h
  | fieldAddr s x i =>
    simp only [opT] at h
    split at h
    · rename_i fs a hs hx
      split at h
      · rename_i f hf
        split at h
        · rename_i n hn
          simp only [Option.some.injEq] at h; subst h
          obtain ⟨a', e, ha⟩ := hev _ _ hx
          refine ⟨.pointer (some (a'.add f.offset)), ?_, ⟨_, rfl, ha.add _⟩⟩
          simp [execOp, Instr.fieldAt, e, run_underlying hs, hf, Instr.sureAddr, fieldPlace, run_sizeOf _ hn]
        · cases h
      · cases h
    · cases h
  | field t x i =>
    simp only [opT] at h
    split at h
    · rename_i fs cs hs hx
      split at h
      · rename_i f hf
        obtain ⟨cs', e, hc⟩ := hev _ _ hx
        obtain ⟨v', q1, q2⟩ := run_part w hc h
        refine ⟨v', ?_, q2⟩
        simp [execOp, Instr.field, e, run_underlying hs, hf, asAgg, q1]
      · cases h
    · cases h
  | indexAddr t x i =>
    simp only [opT] at h
    split at h
    · rename_i k n hi
      have ei := hev _ _ hi
      cases n with
      | negSucc m => simp [natI] at h
      | ofNat j =>
        simp only [natI] at h
        split at h
        · rename_i len e a hu hx
          cases hs : tySize P e with
          | none => simp [hs] at h
          | some sz =>
            simp only [hs, cond_blt] at h
            split at h
            · rename_i hj
              simp only [Option.some.injEq] at h; subst h
              obtain ⟨a', ea, ha⟩ := hev _ _ hx
              refine ⟨.pointer (some (a'.add (j * sz))), ?_, ⟨_, rfl, ha.add _⟩⟩
              simp [execOp, Instr.indexAt, ea, (show ev i = .int k (Int.ofNat j) from ei), asIntOf, run_underlying hu, Instr.sureAddr, run_sizeOf _ hs, hj]
            · cases h
        · rename_i e a len cap hu hx
          cases hs : tySize P e with
          | none => simp [hs] at h
          | some sz =>
            simp only [hs, cond_blt] at h
            split at h
            · rename_i hj
              simp only [Option.some.injEq] at h; subst h
              obtain ⟨a', C, ea, ha⟩ := hev _ _ hx
              have : ∃ a1, a' = some a1 ∧ ARel ρ a a1 := by
                cases cap with
                | exact c =>
                  cases a' with
                  | none => exact ha.2.elim
                  | some a1 => exact ⟨a1, rfl, ha.2⟩
                | opn lb es =>
                  obtain ⟨h1, h2, a0, a1, e0, e1, i', hi', hg, hr⟩ := ha
                  simp only [Option.some.injEq] at e0; subst e0
                  refine ⟨a1, e1, i', hi', hg, fun hgi => ?_⟩
                  rcases hr hgi with hz | ⟨g1, g2, _⟩
                  · omega
                  · exact ⟨g1, g2⟩
              obtain ⟨a1, rfl, ha1⟩ := this
              refine ⟨.pointer (some (a1.add (j * sz))), ?_, ⟨_, rfl, ha1.add _⟩⟩
              simp [execOp, Instr.indexAt, ea, (show ev i = .int k (Int.ofNat j) from ei), asIntOf, run_underlying hu, run_sizeOf _ hs, hj]
            · cases h
        · cases h
    · cases h
  | index t x i =>
    simp only [opT] at h
    split at h
    · rename_i k n hi
      have ei := hev _ _ hi
      cases n with
      | negSucc m => simp [natI] at h
      | ofNat j =>
        simp only [natI] at h
        split at h
        · rename_i len e cs hu hx
          cases hs : tySize P e with
          | none => simp [hs] at h
          | some sz =>
            simp only [hs, cond_blt] at h
            split at h
            · rename_i hj
              obtain ⟨cs', ec, hc⟩ := hev _ _ hx
              obtain ⟨v', q1, q2⟩ := run_part w hc h
              refine ⟨v', ?_, q2⟩
              simp [execOp, Instr.index, ec, (show ev i = .int k (Int.ofNat j) from ei), asIntOf, run_underlying hu, run_sizeOf _ hs, hj, q1]
            · cases h
        · rename_i s hu hx
          split at h
          · rename_i b hb
            simp only [Option.some.injEq] at h; subst h
            refine ⟨.int .u8 b.toNat, ?_, rfl⟩
            have := hev _ _ hx
            simp [execOp, Instr.index, (show ev x = .string ⟨⟨s⟩⟩ from this), (show ev i = .int k (Int.ofNat j) from ei), asIntOf, run_underlying hu, get_mk, hb]
          · cases h
        · cases h
    · cases h
  | extract t i =>
    simp only [opT] at h
    split at h
    · rename_i vs hx
      obtain ⟨vs', e, hv⟩ := hev _ _ hx
      obtain ⟨y, hy, hr⟩ := hv.get h
      have hy' : vs'[i]? = some y := by simpa using hy
      exact ⟨y, by simp [execOp, Instr.extract, e, hy'], hr⟩
    · cases h
  | call c =>
    obtain ⟨callee, args, argTypes⟩ := c
    simp only [opT] at h
    split at h
    · rename_i x t hargs ht
      have ha : args = #[x] := by apply Array.ext'; simpa using hargs
      subst ha
      split at h
      · rename_i s hu hx
        simp only [Option.some.injEq] at h; subst h
        have e := hev _ _ hx
        refine ⟨goInt s.length, ?_, rfl⟩
        simp [execOp, resolve, invoke, builtin, Builtin.len_, ht, (show ev x = .string ⟨⟨s⟩⟩ from e), run_underlying hu, size_mk]
      · rename_i n e0 xv hu hx
        simp only [Option.some.injEq] at h; subst h
        refine ⟨goInt n, ?_, rfl⟩
        simp [execOp, resolve, invoke, builtin, Builtin.len_, ht, run_underlying hu]
      · rename_i e0 a n cap hu hx
        simp only [Option.some.injEq] at h; subst h
        obtain ⟨a', C, e, _⟩ := hev _ _ hx
        refine ⟨goInt n, ?_, rfl⟩
        simp [execOp, resolve, invoke, builtin, Builtin.len_, ht, e, run_underlying hu]
      · rename_i arr xv hu hx
        split at h
        · rename_i n e0 hua
          simp only [Option.some.injEq] at h; subst h
          refine ⟨goInt n, ?_, rfl⟩
          simp [execOp, resolve, invoke, builtin, Builtin.len_, ht, run_underlying hu, run_underlying hua]
        · cases h
      · rename_i k0 e0 hu hx
        simp only [Option.some.injEq] at h; subst h
        have e := hev _ _ hx
        refine ⟨goInt 0, ?_, rfl⟩
        simp [execOp, resolve, invoke, builtin, Builtin.len_, ht, (show ev x = .map none from e), run_underlying hu]
      · cases h
    · rename_i x t hargs ht
      have ha : args = #[x] := by apply Array.ext'; simpa using hargs
      subst ha
      split at h
      · rename_i e0 a n c hu hx
        simp only [Option.some.injEq] at h; subst h
        obtain ⟨a', C, e, hC, _⟩ := hev _ _ hx
        subst hC
        refine ⟨goInt C, ?_, rfl⟩
        simp [execOp, resolve, invoke, builtin, Builtin.cap_, ht, e, run_underlying hu]
      · cases h
    · rename_i x rest hargs
      split at h
      · rename_i a l hx hl
        obtain ⟨v', q1, q2⟩ := max_sound (P := P) w l _ a v (ev x) (hev.list hl) (hev _ _ hx) h
        refine ⟨v', ?_, q2⟩
        simp [execOp, resolve, invoke, builtin, Builtin.max_, hargs, q1]
      · cases h
    · rename_i x rest hargs
      split at h
      · rename_i a l hx hl
        obtain ⟨v', q1, q2⟩ := min_sound (P := P) w l _ a v (ev x) (hev.list hl) (hev _ _ hx) h
        refine ⟨v', ?_, q2⟩
        simp [execOp, resolve, invoke, builtin, Builtin.min_, hargs, q1]
      · cases h
    · cases h
  | _ => simp [opT] at h
end Go.NI
