/- The nice interpreter: operations that make a new object do what the model's do. -/
import Derived.Test.YtfpaeecnnlmjhaaGreatNiR
namespace Go.NI

theorem get_setRange : ∀ (l : List NV) (t : Tr NV) (off m : Nat), (setRange t off l).get m = if off ≤ m ∧ m < off + l.length then l[m - off]? else t.get m
  | [], t, off, m => by simp [setRange]; omega
  | v :: l, t, off, m => by
    rw [setRange, get_setRange l, Tr.get_set]
    simp only [List.length_cons]
    by_cases h : m = off
    · subst h; rw [if_neg (by omega), if_pos rfl, if_pos (by omega)]; simp
    · by_cases h2 : off + 1 ≤ m ∧ m < off + 1 + l.length
      · rw [if_pos h2, if_pos (by omega)]
        rw [show m - off = (m - (off + 1)) + 1 from by omega]; simp
      · rw [if_neg h2, if_neg h, if_neg (by omega)]

theorem newBlk_get {cells : List NV} {b : Blk} (hb : newBlk cells = .cells b) {j : Nat} {v : NV} (h : b.get j = some v) : cells[j]? = some v := by
  simp only [newBlk, NObj.cells.injEq] at hb; subst hb
  simp only [Blk.get, cond_blt] at h
  split at h
  · rename_i hj
    simp only [get_setRange] at h
    simp [hj] at h
    exact h ▸ (List.getElem?_eq_getElem hj)
  · cases h

section
variable {P : Program} {ρ : Ren} {base n : Nat} {V : View} {w : World}

def Ren.put (ρ : Ren) (id : Nat) (i : Inc) : Ren := fun b => if b = id then some i else ρ b

theorem Ren.le_put {id : Nat} {i : Inc} (h : ρ id = none) : ρ.le (ρ.put id i) := by
  intro b j hj
  refine ⟨j, ?_, .inl rfl⟩
  have : b ≠ id := by intro e; subst e; rw [h] at hj; cases hj
  simp [Ren.put, this, hj]

theorem heap_push {w' : World} {ob : Obj} (hw : w'.heap = w.heap.push ob) {k : Nat} (hk : k < w.heap.size) : w'.heap[k]? = w.heap[k]? := by
  rw [hw, Array.getElem?_push, if_neg (by omega)]
theorem heap_push_new {w' : World} {ob : Obj} (hw : w'.heap = w.heap.push ob) : w'.heap[w.heap.size]? = some ob := by
  rw [hw, Array.getElem?_push, if_pos rfl]

theorem addBlock (hm : MemRel ρ base n V w) {id n' : Nat} (hid : ρ id = none) (hn : n ≤ n') (hlt : id < n') {w' : World} {ob : Obj} (hw : w'.heap = w.heap.push ob)
    (hos : w'.os = w.os) (htape : w'.tape = w.tape) (hout : w'.output = w.output) {o : NObj} {i : Inc} (hi : i.blk = w.heap.size) (hb : BRel (ρ.put id i) w' i o) :
    MemRel (ρ.put id i) base n' (fun b => if b = id then some o else V b) w' ∧ Step ρ V w (ρ.put id i) (fun b => if b = id then some o else V b) w' := by
  have hle := Ren.le_put (i := i) hid
  have hVid : V id = none := by
    cases h : V id with
    | none => rfl
    | some o => obtain ⟨j, hj, _⟩ := hm.rel _ _ h; rw [hid] at hj; cases hj
  have hsz : w'.heap.size = w.heap.size + 1 := by rw [hw]; simp
  constructor
  · constructor
    · have := hm.based; omega
    · intro b hb
      have : b ≠ id := by omega
      simp [Ren.put, this, hm.fresh b (by omega)]
    · intro b o' hb'
      by_cases e : b = id
      · subst e
        simp at hb'; subst hb'
        exact ⟨i, by simp [Ren.put], hb⟩
      · simp [e] at hb'
        obtain ⟨j, hj, hr⟩ := hm.rel _ _ hb'
        exact ⟨j, by simp [Ren.put, e, hj], hr.keep hle (heap_push hw hr.lt)⟩
    · intro b b' o1 o2 i1 i2 h1 h2 hwr hne hi1 hi2
      by_cases e1 : b = id
      · subst e1
        have e2 : ¬ b' = b := fun e => hne e.symm
        simp [e2] at h2
        obtain ⟨j, hj, hr⟩ := hm.rel _ _ h2
        simp [Ren.put] at hi1
        simp [Ren.put, e2, hj] at hi2
        subst hi1; subst hi2
        have := hr.lt
        omega
      · simp [e1] at h1
        obtain ⟨j1, hj1, hr1⟩ := hm.rel _ _ h1
        simp [Ren.put, e1, hj1] at hi1; subst hi1
        by_cases e2 : b' = id
        · subst e2
          simp [Ren.put] at hi2; subst hi2
          have := hr1.lt
          omega
        · simp [e2] at h2
          simp [Ren.put, e2] at hi2
          exact hm.inj b b' o1 o2 _ _ h1 h2 hwr hne hj1 hi2
    · intro b o1 i1 h1 hwr hi1
      by_cases e1 : b = id
      · subst e1
        simp [Ren.put] at hi1; subst hi1
        have := hm.based; omega
      · simp [e1] at h1
        simp [Ren.put, e1] at hi1
        exact hm.own _ _ _ h1 hwr hi1
  · constructor
    · exact hle
    · intro b i' hi'
      by_cases e : b = id
      · subst e; simp [Ren.put] at hi'; subst hi'; right; omega
      · simp [Ren.put, e] at hi'; exact .inl ⟨i', hi', rfl⟩
    · intro b o' hb'
      by_cases e : b = id
      · subst e; exact .inl hid
      · simp [e] at hb'; exact .inr ⟨o', hb', fun h => h⟩
    · exact hos
    · exact htape
    · exact hout
    · omega
    · intro b i' hi' _
      have : b ≠ id := by intro e; subst e; rw [hid] at hi'; cases hi'
      simp [Ren.put, this, hi']
    · intro k hk _; exact heap_push hw hk

/-- A new row of cells. -/
theorem addCells (hm : MemRel ρ base n V w) {id n' : Nat} (hid : ρ id = none) (hn : n ≤ n') (hlt : id < n') {cells : List NV} {cs : Array Value} (hc : VRels ρ cells cs.toList) (e : TypeId) :
    let i : Inc := ⟨0, w.heap.size, 0, cs.size⟩
    MemRel (ρ.put id i) base n' (fun b => if b = id then some (newBlk cells) else V b) (w.alloc (.cells cs e)) ∧ Step ρ V w (ρ.put id i) (fun b => if b = id then some (newBlk cells) else V b) (w.alloc (.cells cs e)) ∧
      ARel (ρ.put id i) ⟨id, 0, 0⟩ ⟨w.heap.size, 0, none⟩ := by
  intro i
  have hle := Ren.le_put (ρ := ρ) (i := i) hid
  have hb : BRel (ρ.put id i) (w.alloc (.cells cs e)) i (newBlk cells) := by
    refine ⟨rfl, ?_, cs, e, (0, 0), heap_push_new (w := w) rfl, rfl, fun _ j _ => by simp, fun j v _ hv => ?_⟩
    · have := hc.length; simp [i] at *; omega
    · obtain ⟨y, hy, hr⟩ := (VRels.mono hle _ _ hc).get (newBlk_get rfl hv)
      exact ⟨y, by simpa [i] using hy, hr⟩
  obtain ⟨h1, h2⟩ := addBlock hm hid hn hlt (w' := w.alloc (.cells cs e)) (ob := .cells cs e) rfl rfl rfl rfl (o := newBlk cells) (i := i) rfl hb
  exact ⟨h1, h2, i, by simp [Ren.put], by simp [i], fun _ => ⟨by simp [i], by simp [i]⟩⟩

theorem flatten_get : ∀ (k : Nat) (l : List NV) (i : Nat), i < k * l.length → ((List.replicate k l).flatten)[i]? = l[i % l.length]?
  | 0, l, i, h => by simp at h
  | k + 1, l, i, h => by
    rw [List.replicate_succ, List.flatten_cons, List.getElem?_append]
    split
    · rename_i hi
      rw [Nat.mod_eq_of_lt hi]
    · rename_i hi
      rw [flatten_get k l (i - l.length) (by rw [Nat.add_mul] at h; omega)]
      congr 1
      rw [← Nat.mod_eq_sub_mod (by omega)]

theorem zeros_rel {zc : List NV} {zc' : Array Value} {k sz : Nat} (hz : VRels ρ zc zc'.toList) (hl : zc.length = sz) (hp : 0 < sz) :
    VRels ρ ((List.replicate k zc).flatten) ((Array.range (k * sz)).map (zc'[· % zc'.size]!)).toList := by
  have hlen := hz.length
  simp only [Array.length_toList] at hlen
  refine VRels.of_get (by simp [hl]) fun i x hx => ?_
  have hi : i < k * sz := by
    have := (List.getElem?_eq_some_iff.1 hx).1
    simpa [hl] using this
  rw [flatten_get k zc i (by rw [hl]; exact hi)] at hx
  obtain ⟨y, hy, hr⟩ := hz.get hx
  refine ⟨y, ?_, hr⟩
  have hmod : i % zc'.size < zc'.size := Nat.mod_lt _ (by omega)
  rw [show zc.length = zc'.size from hlen] at hy
  simp [hi]
  have : zc'[i % zc'.size]? = some y := by simpa using hy
  rw [getElem!_pos zc' _ hmod]
  rw [Array.getElem?_eq_getElem hmod] at this
  exact Option.some.inj this

/-- What an operation that makes an object comes to. -/
def MadeOk (P : Program) (ρ : Ren) (base n' id : Nat) (V : View) (w : World) (o : NObj) (nv : NV) (r : Result Next) : Prop :=
  ∃ v' w' ρ', r = .ok (.value v') w' ∧ VRel ρ' nv v' ∧ MemRel ρ' base n' (fun b => if b = id then some o else V b) w' ∧ Step ρ V w ρ' (fun b => if b = id then some o else V b) w' ∧
    ∀ b, b ≠ id → ρ' b = ρ b

theorem freeze_push (w : World) (cs : Array Value) (e : TypeId) : ((w.alloc (.cells cs e)).freeze ⟨w.heap.size, cs.size, none⟩ 1).heap = w.heap.push (.cells cs e (cs.size, cs.size + 1)) := by
  simp only [World.freeze, World.alloc]
  simp
  apply Array.ext_getElem?
  intro i
  rw [Array.getElem?_modify, Array.getElem?_push, Array.getElem?_push]
  by_cases h : i = w.heap.size
  · subst h; simp
  · rw [if_neg (fun e => h e.symm), if_neg h, if_neg h]

theorem run_stringToBytes (e : TypeId) (l : List UInt8) :
    let cap : Nat := (Question.appendCap l.length 0 e).cut (w.tape w.drawn (Question.appendCap l.length 0 e))
    let cs : Array Value := (l.toArray.map fun b => Value.int .u8 b.toNat) ++ Array.replicate (cap - l.length) (Value.int .u8 0)
    (Conv.stringToBytes e ⟨⟨l⟩⟩).run P w = .ok (.slice (some ⟨w.heap.size, 0, none⟩) l.length cap) ((w.drew.alloc (.cells cs e)).freeze ⟨w.heap.size, cs.size, none⟩ 1) := by
  intro cap cs
  unfold Conv.stringToBytes
  have h1 : (choose (.appendCap (⟨⟨l⟩⟩ : ByteArray).size 0 e)).run P w = .ok cap w.drew := by
    rw [run_choose]; rfl
  rw [Sem.run_bind, h1, Result.andThen_ok]
  clear_value cap
  have hcs : cs = (l.toArray.map fun b => Value.int .u8 b.toNat) ++ Array.replicate (cap - l.length) (Value.int .u8 0) := rfl
  clear_value cs
  have hsh : (w.drew.alloc (.cells cs e)).shape? w.heap.size = some (e, cs.size) := by
    have : (w.drew.alloc (.cells cs e)).heap[w.heap.size]? = some (.cells cs e) := heap_push_new (w := w.drew) rfl
    simp only [World.shape?, this]
  have hn : (newRow e (((⟨⟨l⟩⟩ : ByteArray).data.map fun b => Value.int .u8 b.toNat) ++ Array.replicate (cap - (⟨⟨l⟩⟩ : ByteArray).size) (Value.int .u8 0))).run P w.drew = .ok ⟨w.heap.size, 0, none⟩ (w.drew.alloc (.cells cs e)) := by
    rw [show (((⟨⟨l⟩⟩ : ByteArray).data.map fun b => Value.int .u8 b.toNat) ++ Array.replicate (cap - (⟨⟨l⟩⟩ : ByteArray).size) (Value.int .u8 0)) = cs from hcs.symm]
    rfl
  have hmk : (markStringish ⟨w.heap.size, 0, none⟩).run P (w.drew.alloc (.cells cs e)) = .ok () ((w.drew.alloc (.cells cs e)).freeze ⟨w.heap.size, cs.size, none⟩ 1) := by
    simp only [markStringish, Sem.run_bind, run_shape, Result.andThen_ok, hsh, run_freeze]
  dsimp only
  rw [Sem.run_bind, hn, Result.andThen_ok, Sem.run_bind, hmk, Result.andThen_ok]
  rfl

theorem put_other {id : Nat} {i : Inc} : ∀ b, b ≠ id → (ρ.put id i) b = ρ b := by
  intro b hb; simp [Ren.put, hb]

theorem opA_sound (hm : MemRel ρ base n V w) {nv : Operand → Option NV} {ev : Operand → Value} (hev : EvRel ρ nv ev) (o : Oper) {ob : NObj} {mk : Nat → NV}
    (h : opA P o.op nv = some (ob, mk)) {id n' : Nat} (hid : ρ id = none) (hn : n ≤ n') (hlt : id < n') : MadeOk P ρ base n' id V w ob (mk id) ((execOp ev o).run P w) := by
  obtain ⟨dst, op, ty, pos, after, guard⟩ := o
  cases op with
  | alloc t =>
    simp only [opA] at h
    split at h
    · rename_i z hz
      simp only [Option.some.injEq, Prod.mk.injEq] at h; obtain ⟨rfl, rfl⟩ := h
      obtain ⟨z', hz', hzr⟩ := tyZero_rel ρ hz
      obtain ⟨q1, q2, q3⟩ := addCells hm hid hn hlt (cs := z'.cells) hzr.cells t
      exact ⟨.pointer (some ⟨w.heap.size, 0, none⟩), _, _, by simp [execOp, Instr.alloc, run_zeroValue w hz', newVar, newRow], ⟨_, rfl, q3⟩, q1, q2, put_other⟩
    · cases h
  | box t x =>
    simp only [opA] at h
    split at h
    · rename_i v hx
      cases hb : v.cells.all NV.oneCell with
      | false => simp [hb] at h
      | true =>
        simp only [hb, cond_true, Option.some.injEq, Prod.mk.injEq] at h; obtain ⟨rfl, rfl⟩ := h
        have hx' := hev _ _ hx
        obtain ⟨q1, q2, q3⟩ := addCells hm hid hn hlt (cs := (ev x).cells) hx'.cells t
        exact ⟨.pointer (some ⟨w.heap.size, 0, none⟩), _, _, by simp [execOp, Instr.box, newVar, newRow], ⟨_, rfl, q3⟩, q1, q2, put_other⟩
    · cases h
  | buildSlice t len parts =>
    simp only [opA] at h
    split at h
    · rename_i e hu
      split at h
      · rename_i hp
        have hp' : parts = #[] := by apply Array.ext'; simpa using hp
        subst hp'
        split at h
        · rename_i sz hs
          simp only [Option.some.injEq, Prod.mk.injEq] at h; obtain ⟨rfl, rfl⟩ := h
          obtain ⟨q1, q2, q3⟩ := addCells hm hid hn hlt (cells := []) (cs := #[]) rfl e
          have er : Array.range 0 = #[] := rfl
          exact ⟨.slice (some ⟨w.heap.size, 0, none⟩) 0 0, _, _, by simp [execOp, Instr.buildSlice, run_underlying hu, run_sizeOf w hs, newRow, Instr.fill, er], ⟨_, _, rfl, rfl, q3⟩, q1, q2, put_other⟩
        · cases h
      · rename_i len0 parts' len'
        split at h
        · rename_i sz z l hs hz hl
          cases hb : (Nat.ble ((len' + 1) * sz) 1048576 && Nat.beq z.cells.length sz && Nat.blt 0 sz) with
          | false => simp [hb] at h
          | true =>
            simp only [hb, cond_true] at h
            simp only [Bool.and_eq_true] at hb
            obtain ⟨⟨hb1, hb2⟩, hb3⟩ := hb
            have hb1 : (len' + 1) * sz ≤ 1048576 := by simpa using hb1
            have hb2 : z.cells.length = sz := Nat.eq_of_beq_eq_true hb2
            have hb3 : 0 < sz := by simpa [Nat.blt_eq] using hb3
            split at h
            · rename_i cs hf
              simp only [Option.some.injEq, Prod.mk.injEq] at h; obtain ⟨rfl, rfl⟩ := h
              obtain ⟨z', hz', hzr⟩ := tyZero_rel ρ hz
              have hzz := zeros_rel (k := len' + 1) hzr.cells hb2 hb3
              obtain ⟨p1, p2⟩ := hev.parts hl
              obtain ⟨r', f1, f2, _⟩ := fill_sound l (parts.toList.map fun p => (p.1, ev p.2)) _ cs _ p1 p2 hzz hf
              obtain ⟨q1, q2, q3⟩ := addCells hm hid hn hlt (cs := r') f2 e
              have hne : (len' + 1) * sz ≠ 0 := Nat.ne_of_gt (Nat.mul_pos (Nat.succ_pos _) hb3)
              have hle : ¬ 16777216 < (len' + 1) * sz := by omega
              refine ⟨.slice (some ⟨w.heap.size, 0, none⟩) (len' + 1) (len' + 1), _, _, ?_, ⟨_, _, rfl, rfl, q3⟩, q1, q2, put_other⟩
              have f1' : Instr.fill (fun i => some (i * sz, sz)) ((Array.range ((len' + 1) * sz)).map (z'.cells[· % z'.cells.size]!)) (parts.map fun x => (x.1, ev x.2)).toList = some r' := by
                simpa using f1
              simp only [execOp, Instr.buildSlice, Sem.run_bind, run_underlying hu, Result.andThen_ok, run_sizeOf w hs]
              simp only [show ((len' + 1) * sz > 2 ^ 24) = False from by simp; omega, if_false, hne, Sem.run_bind, run_zeroValue w hz', Result.andThen_ok, Sem.run_pure]
              simp only [f1']
              simp [newRow]
            · cases h
        · cases h
      · cases h
    · cases h
  | makeSlice t l c =>
    simp only [opA] at h
    split at h
    · rename_i e l0 c0 hu hl hc
      split at h
      · rename_i sz by_ z hs hby hz
        cases hb : (Nat.ble l0 c0 && Nat.ble (c0 * by_) 1099511627776 && Nat.blt 0 by_ && Nat.beq z.cells.length sz) with
        | false => simp [hb] at h
        | true =>
          simp only [hb, cond_true, Option.some.injEq, Prod.mk.injEq] at h; obtain ⟨rfl, rfl⟩ := h
          simp only [Bool.and_eq_true] at hb
          obtain ⟨⟨⟨hb1, hb2⟩, hb3⟩, hb4⟩ := hb
          have hb1 : l0 ≤ c0 := by simpa using hb1
          have hb2 : c0 * by_ ≤ 1099511627776 := by simpa using hb2
          have hb3 : 0 < by_ := by simpa [Nat.blt_eq] using hb3
          have hb4 : z.cells.length = sz := Nat.eq_of_beq_eq_true hb4
          have hc0 : c0 ≤ 1099511627776 := Nat.le_trans (Nat.le_mul_of_pos_right _ hb3) hb2
          obtain ⟨z', hz', hzr⟩ := tyZero_rel ρ hz
          have el := hev _ _ hl
          have ec := hev _ _ hc
          let zz : Array Value := (Array.range (c0 * sz)).map (z'.cells[· % z'.cells.size]!)
          have hzl := hzr.cells.length
          simp only [Array.length_toList] at hzl
          have hb' : BRel (ρ.put id ⟨0, w.heap.size, 0, c0 * sz⟩) (w.alloc (.cells zz e)) ⟨0, w.heap.size, 0, c0 * sz⟩
              (.cells { t := .leaf, size := c0 * sz, dflt := z.cells, gen := 0, ro := false }) := by
            refine ⟨rfl, by simp, zz, e, (0, 0), heap_push_new (w := w) rfl, by simp [zz], fun _ j _ => by simp, fun j v _ hv => ?_⟩
            simp only [Blk.get, cond_blt, Tr.get] at hv
            split at hv
            · rename_i hj
              obtain ⟨y, hy, hr⟩ := hzr.cells.get hv
              refine ⟨y, ?_, VRel.mono (Ren.le_put hid) _ _ hr⟩
              have hpos : 0 < z'.cells.size := by
                rcases Nat.eq_zero_or_pos z'.cells.size with h0 | h0
                · rw [h0] at hzl; rw [hzl] at hb4; rw [← hb4] at hj; simp at hj
                · exact h0
              have hmod : j % z'.cells.size < z'.cells.size := Nat.mod_lt _ hpos
              rw [hzl] at hy
              have hy' : z'.cells[j % z'.cells.size]? = some y := by simpa using hy
              rw [Array.getElem?_eq_getElem hmod] at hy'
              simp [zz, hj]
              rw [getElem!_pos z'.cells _ hmod]
              exact Option.some.inj hy'
            · cases hv
          obtain ⟨h1, h2⟩ := addBlock hm hid hn hlt (w' := w.alloc (.cells zz e)) (ob := .cells zz e) rfl rfl rfl rfl rfl hb'
          refine ⟨.slice (some ⟨w.heap.size, 0, none⟩) l0 c0, _, _, ?_, ⟨_, _, rfl, rfl, ⟨0, w.heap.size, 0, c0 * sz⟩, by simp [Ren.put], by simp, fun _ => ⟨by simp, by simp⟩⟩, h1, h2, put_other⟩
          have w1 : IntKind.i64.wrap (Int.ofNat l0) = (l0 : Int) := by simp [IntKind.wrap, IntKind.bits, IntKind.signed]; omega
          have w2 : IntKind.i64.wrap (Int.ofNat c0) = (c0 : Int) := by simp [IntKind.wrap, IntKind.bits, IntKind.signed]; omega
          have hbi : ((P.info? e).map (·.bytes)) = some by_ := hby
          cases hinf : P.info? e with
          | none => simp [hinf] at hbi
          | some inf =>
            simp [hinf] at hbi
            have t1 : (by_ : Int) * (c0 : Int) ≤ 1099511627776 := by
              rw [Int.mul_comm]; have := Int.ofNat_le.2 hb2; rw [Int.natCast_mul] at this; exact this
            have a1 : decide ((c0 : Int) < 0) = false := decide_eq_false (by omega)
            have a2 : decide ((by_ : Int) * (c0 : Int) > 2 ^ 48) = false := decide_eq_false (by omega)
            have a3 : decide ((l0 : Int) < 0) = false := decide_eq_false (by omega)
            have a4 : decide ((l0 : Int) > (c0 : Int)) = false := decide_eq_false (by omega)
            simp only [execOp, Instr.makeSlice, Sem.run_bind, run_underlying hu, Result.andThen_ok, (show ev l = .int .i64 (Int.ofNat l0) from el), (show ev c = .int .i64 (Int.ofNat c0) from ec), asInt, asIntOf, Sem.run_pure, typeInfo, run_program, hinf, hbi, w1, w2, a1, a2, a3, a4, Bool.or_false, Bool.false_or, Bool.false_eq_true, if_false, run_askRoom, Int.toNat_natCast, run_sizeOf w hs]
            by_cases hz0 : c0 * sz = 0
            · have hzz : zz = #[] := by simp only [zz, hz0, Array.range_zero', List.map_toArray, List.map_nil]
              simp [hz0, newRow, hzz, Array.range_zero']
            · simp [hz0, newRow, run_zeroValue w hz', zz]
      · cases h
    · cases h
  | makeMap t r =>
    have key : ∀ (i : Inc), i = ⟨0, w.heap.size, 0, 0⟩ → MadeOk P ρ base n' id V w (.map []) (.map (some id)) (.ok (.value (.map (some w.heap.size))) (w.alloc (.map #[] 0))) := by
      rintro i rfl
      obtain ⟨h1, h2⟩ := addBlock hm hid hn hlt (w' := w.alloc (.map #[] 0)) (ob := .map #[] 0) rfl rfl rfl rfl (o := .map []) (i := ⟨0, w.heap.size, 0, 0⟩) rfl ⟨rfl, #[], 0, heap_push_new (w := w) rfl, rfl⟩
      exact ⟨_, _, _, rfl, ⟨_, _, by simp [Ren.put]; rfl, rfl, fun _ => rfl⟩, h1, h2, put_other⟩
    cases r with
    | none =>
      simp only [opA, Option.some.injEq, Prod.mk.injEq] at h; obtain ⟨rfl, rfl⟩ := h
      have := key _ rfl
      simpa [execOp, Instr.makeMap] using this
    | some r =>
      simp only [opA] at h
      split at h
      · rename_i kt et k0 n0 hu hr
        simp only [Option.some.injEq, Prod.mk.injEq] at h; obtain ⟨rfl, rfl⟩ := h
        have := key _ rfl
        have er := hev _ _ hr
        simpa [execOp, Instr.makeMap, run_underlying hu, asInt, asIntOf, (show ev r = .int k0 n0 from er)] using this
      · cases h
  | convert s d x =>
    simp only [opA] at h
    split at h
    · rename_i ds e l hs hd hx
      split at h
      · rename_i he
        simp only [Option.some.injEq, Prod.mk.injEq] at h; obtain ⟨rfl, rfl⟩ := h
        have ex := hev _ _ hx
        let cap : Nat := (Question.appendCap l.length 0 e).cut (w.tape w.drawn (Question.appendCap l.length 0 e))
        have hcap : l.length ≤ cap := by simp only [cap, Question.cut]; omega
        let cs : Array Value := (l.toArray.map fun b => Value.int .u8 b.toNat) ++ Array.replicate (cap - l.length) (Value.int .u8 0)
        have hcs : cs.size = cap := by simp [cs]; omega
        let i : Inc := ⟨0, w.heap.size, 0, cs.size⟩
        let w' : World := (w.drew.alloc (.cells cs e)).freeze ⟨w.heap.size, cs.size, none⟩ 1
        have hheap : w'.heap = w.heap.push (.cells cs e (cs.size, cs.size + 1)) := freeze_push w.drew cs e
        have hb : BRel (ρ.put id i) w' i (.cells { t := setRange .leaf 0 (l.map fun b => .int .u8 b.toNat), size := l.length, dflt := [], gen := 0, ro := false }) := by
          refine ⟨rfl, by simp [i]; omega, cs, e, (cs.size, cs.size + 1), heap_push_new hheap, rfl, fun _ j hj => by simp [i] at hj; simp; omega, fun j v _ hv => ?_⟩
          simp only [Blk.get, cond_blt, get_setRange] at hv
          split at hv
          · rename_i hj
            simp [hj] at hv
            subst hv
            exact ⟨.int .u8 l[j].toNat, by simp [i, cs, Array.getElem?_append, hj], rfl⟩
          · cases hv
        obtain ⟨h1, h2⟩ := addBlock hm hid hn hlt (w' := w') hheap rfl rfl rfl (i := i) rfl hb
        refine ⟨.slice (some ⟨w.heap.size, 0, none⟩) l.length cap, w', _, ?_, ⟨_, cap, rfl, Nat.le_refl _, hcap, _, _, rfl, rfl, i, by simp [Ren.put], by simp [i], fun _ => .inr ⟨by simp [i], by simp [i], by simp [i, hcs]⟩⟩, h1, h2, put_other⟩
        have hs2b : (Conv.stringToBytes e ⟨⟨l⟩⟩).run P w = .ok (.slice (some ⟨w.heap.size, 0, none⟩) l.length cap) w' := run_stringToBytes e l
        have hconv : (convert s d (ev x)).run P w = .ok (.slice (some ⟨w.heap.size, 0, none⟩) l.length cap) w' := by
          rw [show ev x = .string ⟨⟨l⟩⟩ from ex]
          unfold convert
          rw [Sem.run_bind, run_underlying hs, Result.andThen_ok, Sem.run_bind, run_underlying hd, Result.andThen_ok]
          cases ds <;> exact (by rw [Sem.run_bind, run_underlying he, Result.andThen_ok]; exact hs2b)
        simp [execOp, hconv]
      · cases h
    · cases h
  | range t x =>
    simp only [opA] at h
    split at h
    · rename_i s hu hx
      simp only [Option.some.injEq, Prod.mk.injEq] at h; obtain ⟨rfl, rfl⟩ := h
      have ex := hev _ _ hx
      obtain ⟨h1, h2⟩ := addBlock hm hid hn hlt (w' := w.alloc (.stringIter ⟨⟨s⟩⟩ 0)) (ob := .stringIter ⟨⟨s⟩⟩ 0) rfl rfl rfl rfl (o := .iter s 0) (i := ⟨0, w.heap.size, 0, 0⟩) rfl ⟨rfl, rfl, heap_push_new (w := w) rfl⟩
      refine ⟨.pointer (some ⟨w.heap.size, 0, none⟩), _, _, ?_, ⟨_, rfl, ⟨0, w.heap.size, 0, 0⟩, by simp [Ren.put], by simp, fun _ => ⟨by simp, by simp⟩⟩, h1, h2, put_other⟩
      simp [execOp, Instr.range, run_underlying hu, (show ev x = .string ⟨⟨s⟩⟩ from ex)]
    · cases h
  | _ => simp [opA] at h
end
end Go.NI
