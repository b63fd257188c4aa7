/- The nice interpreter: slices and literals. -/
import Derived.Test.YtfpaeecnnlmjhaaGreatNiT
namespace Go.NI

theorem foldl_set (l : List Value) : ∀ (n off : Nat) (cs : Array Value), off + n + l.length ≤ cs.size →
    ((l.zipIdx n).foldl (fun (cs : Array Value) (x : Value × Nat) => cs.setIfInBounds (off + x.2) x.1) cs).toList = cs.toList.take (off + n) ++ l ++ cs.toList.drop (off + n + l.length) := by
  induction l with
  | nil => intro n off cs h; simp
  | cons c l ih =>
    intro n off cs h
    simp only [List.length_cons] at h
    rw [List.zipIdx_cons, List.foldl_cons, ih (n + 1) off _ (by simp; omega)]
    simp only [Array.toList_setIfInBounds]
    have h1 : off + n < cs.toList.length := by simp; omega
    apply List.ext_getElem?
    intro i
    simp only [List.getElem?_append, List.length_take, List.length_set, List.getElem?_take, List.getElem?_set, List.getElem?_drop, List.length_cons, Array.length_toList, List.append_assoc]
    have e1 : min (off + (n + 1)) cs.size = off + n + 1 := by omega
    have e2 : min (off + n) cs.size = off + n := by omega
    rw [e1, e2]
    by_cases a1 : i < off + n
    · simp [a1, show i < off + n + 1 from by omega, show i < off + (n + 1) from by omega, show ¬ (off + n = i) from by omega]
    · by_cases a2 : i = off + n
      · subst a2; simp; omega
      · have a3 : ¬ i < off + n + 1 := by omega
        simp only [a1, a3, if_false]
        by_cases a4 : i < off + n + 1 + l.length
        · have : i - (off + n + 1) < l.length := by omega
          have b : i - (off + n) < l.length + 1 := by omega
          simp only [this, b, if_true]
          rw [show i - (off + n) = (i - (off + n + 1)) + 1 from by omega]
          simp
        · have : ¬ i - (off + n + 1) < l.length := by omega
          have b : ¬ i - (off + n) < l.length + 1 := by omega
          simp only [this, b, if_false]
          rw [if_neg (by omega)]
          congr 1; omega

theorem fill_sound {ρ : Ren} {place : Nat → Option (Nat × Nat)} : ∀ (parts : List (Nat × NV)) (parts' : List (Nat × Value)) (cells r : List NV) (cells' : Array Value),
    parts.map (·.1) = parts'.map (·.1) → VRels ρ (parts.map (·.2)) (parts'.map (·.2)) → VRels ρ cells cells'.toList → fillV place cells parts = some r →
    ∃ r', Instr.fill place cells' parts' = some r' ∧ VRels ρ r r'.toList ∧ r.length = cells.length
  | [], [], cells, r, cells', _, _, hc, h => by simp [fillV] at h; subst h; exact ⟨cells', rfl, hc, rfl⟩
  | [], _ :: _, _, _, _, h, _, _, _ => by simp at h
  | _ :: _, [], _, _, _, h, _, _, _ => by simp at h
  | (i, v) :: rest, (j, v') :: rest', cells, r, cells', h1, h2, hc, h => by
    simp at h1
    obtain ⟨rfl, h1⟩ := h1
    obtain ⟨y, k, e, hv, h2⟩ := h2
    simp at e; obtain ⟨rfl, rfl⟩ := e
    simp only [fillV] at h
    split at h
    · cases h
    · rename_i off size hp
      cases hb : (Nat.beq v.cells.length size && Nat.ble (off + size) cells.length) with
      | false => simp [hb] at h
      | true =>
        simp only [hb, cond_true] at h
        simp only [Bool.and_eq_true] at hb
        have hs : v.cells.length = size := Nat.eq_of_beq_eq_true hb.1
        have hle : off + size ≤ cells.length := by simpa using hb.2
        have hvc := hv.cells
        have hl1 := hvc.length
        have hl2 := hc.length
        simp only [Array.length_toList] at hl1 hl2
        have hcs : (v'.cells.zipIdx.foldl (fun cs (x : Value × Nat) => cs.setIfInBounds (off + x.2) x.1) cells').toList = cells'.toList.take off ++ v'.cells.toList ++ cells'.toList.drop (off + size) := by
          rw [← Array.foldl_toList, Array.toList_zipIdx]
          have := foldl_set v'.cells.toList 0 off cells' (by simp; omega)
          simpa [hl1.symm, hs] using this
        obtain ⟨r', hr1, hr2, hr3⟩ := fill_sound rest rest' _ r (v'.cells.zipIdx.foldl (fun cs (x : Value × Nat) => cs.setIfInBounds (off + x.2) x.1) cells') h1 h2
          (by rw [hcs]; exact ((hc.take off).append hvc).append (hc.drop _)) h
        refine ⟨r', ?_, hr2, ?_⟩
        · simp only [Instr.fill, hp]
          rw [if_neg]
          · exact hr1
          · simp; omega
        · rw [hr3]; simp; omega

theorem mapM_places {P : Program} (w : World) : ∀ (fs : List Field) (pl : List (Nat × Nat)), placesOf P fs = some pl →
    (fs.mapM fun f => (do pure (f.offset, ← sizeOf f.type) : Sem (Nat × Nat))).run P w = .ok pl w
  | [], pl, h => by simp [placesOf, listM] at h; subst h; simp
  | f :: fs, pl, h => by
    simp only [placesOf, listM] at h
    cases hs : tySize P f.type with
    | none => simp [hs] at h
    | some n =>
      simp only [hs, Option.map_some] at h
      cases hr : listM (fun f => (tySize P f.type).map fun s => (f.offset, s)) fs with
      | none => simp [hr] at h
      | some l =>
        simp [hr] at h; subst h
        have := mapM_places w fs l hr
        rw [List.mapM_cons]
        simp only [Sem.run_bind, run_sizeOf w hs, Result.andThen_ok, Sem.run_pure, this]

theorem build_sound {P : Program} {ρ : Ren} {t : TypeId} {parts : List (Nat × NV)} {parts' : Array (Nat × Value)} {v : NV} (h : buildV P t parts = some v)
    (h1 : parts.map (·.1) = parts'.toList.map (·.1)) (h2 : VRels ρ (parts.map (·.2)) (parts'.toList.map (·.2))) (w : World) :
    ∃ v', (Instr.build t parts').run P w = .ok v' w ∧ VRel ρ v v' := by
  unfold buildV at h
  cases hz : tyZero P t with
  | none => simp [hz] at h
  | some z =>
    simp only [hz] at h
    obtain ⟨z', hz', hzr⟩ := tyZero_rel ρ hz
    cases hu : P.underlying t with
    | none => simp [hu] at h
    | some d =>
      simp only [hu] at h
      cases d with
      | struct fs =>
        simp only at h
        cases hp : placesOf P fs.toList with
        | none => simp [hp] at h
        | some pl =>
          simp only [hp] at h
          cases hf : fillV (fun i => pl[i]?) z.cells parts with
          | none => simp [hf] at h
          | some r =>
            simp [hf] at h; subst h
            obtain ⟨r', hr1, hr2, _⟩ := fill_sound parts parts'.toList _ r z'.cells h1 h2 hzr.cells hf
            refine ⟨.agg r', ?_, ⟨r', rfl, hr2⟩⟩
            have hm := mapM_places w fs.toList pl hp
            have hm' : (fs.mapM fun f => (do pure (f.offset, ← sizeOf f.type) : Sem (Nat × Nat))).run P w = .ok pl.toArray w := by
              rw [Array.mapM_eq_mapM_toList]
              simp only [Sem.run_map, hm, Result.andThen_ok]
            have e : (fun i : Nat => pl.toArray[i]?) = (fun i : Nat => pl[i]?) := by funext i; simp
            simp only [Instr.build, Sem.run_bind, run_zeroValue w hz', run_underlying hu, Result.andThen_ok, hm', e, hr1, Sem.run_pure]
      | array n e =>
        simp only at h
        cases hs : tySize P e with
        | none => simp [hs] at h
        | some sz =>
          simp only [hs] at h
          cases hf : fillV (fun i => some (i * sz, sz)) z.cells parts with
          | none => simp [hf] at h
          | some r =>
            simp [hf] at h; subst h
            obtain ⟨r', hr1, hr2, _⟩ := fill_sound parts parts'.toList _ r z'.cells h1 h2 hzr.cells hf
            refine ⟨.agg r', ?_, ⟨r', rfl, hr2⟩⟩
            simp only [Instr.build, Sem.run_bind, run_zeroValue w hz', run_underlying hu, Result.andThen_ok, run_sizeOf w hs, hr1, Sem.run_pure]
      | _ => simp at h

theorem VRel.of_int {ρ : Ren} {x : NV} {k : IntKind} {n : Int} (h : VRel ρ x (.int k n)) : x = .int k n := by
  cases x with
  | int k' n' => simp [VRel] at h; obtain ⟨rfl, rfl⟩ := h; rfl
  | ptr a => cases a <;> simp [VRel] at h
  | map a => cases a <;> simp [VRel] at h
  | _ => simp [VRel] at h
theorem VRel.of_string {ρ : Ren} {x : NV} {s : ByteArray} (h : VRel ρ x (.string s)) : ∃ l, x = .str l := by
  cases x with
  | str l => exact ⟨l, rfl⟩
  | ptr a => cases a <;> simp [VRel] at h
  | map a => cases a <;> simp [VRel] at h
  | _ => simp [VRel] at h
theorem VRel.not_float {ρ : Ren} {x : NV} {k : FloatKind} {n : Nat} (h : VRel ρ x (.float k n)) : False := by
  cases x with
  | ptr a => cases a <;> simp [VRel] at h
  | map a => cases a <;> simp [VRel] at h
  | _ => simp [VRel] at h
theorem VRel.not_complex {ρ : Ren} {x : NV} {k : FloatKind} {n m : Nat} (h : VRel ρ x (.complex k n m)) : False := by
  cases x with
  | ptr a => cases a <;> simp [VRel] at h
  | map a => cases a <;> simp [VRel] at h
  | _ => simp [VRel] at h

theorem binOp_eql_plain {P : Program} {ρ : Ren} {t : TypeId} {x y : NV} {x' y' : Value} (hx : VRel ρ x x') (hy : VRel ρ y y') (h1 : ∀ k a k' b, x = .int k a → y = .int k' b → False)
    (h2 : ∀ a b, x = .str a → y = .str b → False) (w : World) {b : Bool} (he : (Op.equalIn 10000 t x' y').run P w = .ok b w) :
    (binOp .eql t x' y').run P w = .ok (.bool b) w ∧ (binOp .neq t x' y').run P w = .ok (.bool !b) w := by
  have e : binOp .eql t x' y' = (do pure (.bool (← Op.equal t x' y'))) ∧ binOp .neq t x' y' = (do pure (.bool (!(← Op.equal t x' y')))) := by
    cases x' <;> cases y' <;> first
      | exact ⟨rfl, rfl⟩
      | exact (hx.not_float).elim
      | exact (hx.not_complex).elim
      | exact (h1 _ _ _ _ hx.of_int hy.of_int).elim
      | (obtain ⟨a, ea⟩ := hx.of_string; obtain ⟨b, eb⟩ := hy.of_string; exact (h2 _ _ ea eb).elim)
  constructor
  · rw [e.1]; simp [Op.equal, Op.maxDepth, he]
  · rw [e.2]; simp [Op.equal, Op.maxDepth, he]

theorem binV_sound {P : Program} {ρ : Ren} {op : BinOp} {t : TypeId} {xo yo : Operand} {x y v : NV} {x' y' : Value} (h : binV P op t xo yo x y = some v) (hx : VRel ρ x x') (hy : VRel ρ y y') (w : World) :
    ∃ v', (do eqGuard op t xo yo x' y'; binOp op t x' y' : Sem Value).run P w = .ok v' w ∧ VRel ρ v v' := by
  unfold binV at h
  split at h
  · rename_i k a _ b
    cases (show x' = _ from hx); cases (show y' = _ from hy)
    cases hs : shiftI .shl k a b with
    | none => simp [hs] at h
    | some r => simp [hs] at h; subst h; exact ⟨.int k r, by simp [eqGuard_shl, binOp_shl, shift_sound hs], rfl⟩
  · rename_i k a _ b
    cases (show x' = _ from hx); cases (show y' = _ from hy)
    cases hs : shiftI .shr k a b with
    | none => simp [hs] at h
    | some r => simp [hs] at h; subst h; exact ⟨.int k r, by simp [eqGuard_shr, binOp_shr, shift_sound hs], rfl⟩
  · rename_i k a k' b _ _
    cases (show x' = _ from hx); cases (show y' = _ from hy)
    cases hk : eqK k k' with
    | false => simp [hk] at h
    | true =>
      have := eqK_eq.1 hk
      subst this
      simp only [hk, cond_true] at h
      obtain ⟨v', h1, h2⟩ := intOp_sound (P := P) (t := t) h w
      exact ⟨v', by simp [eqGuard_at_int, h1], h2 ρ⟩
  · rename_i a b
    cases (show x' = _ from hx); cases (show y' = _ from hy)
    obtain ⟨v', h1, h2⟩ := strOp_sound (P := P) h w
    have e : binOp op t (.string ⟨⟨a⟩⟩) (.string ⟨⟨b⟩⟩) = Op.stringOp op ⟨⟨a⟩⟩ ⟨⟨b⟩⟩ := by cases op <;> rfl
    exact ⟨v', by simp [eqGuard_at_string, e, h1], h2 ρ⟩
  · rename_i h1 h2 h3 h4
    cases hg : eqGuardOk P t xo yo x y with
    | false => simp [hg] at h
    | true =>
      cases he : eqV P 20 t x y with
      | none => simp [hg, he] at h
      | some b =>
        simp [hg, he] at h; subst h
        have hb := eqV_sound w 20 t x y b x' y' 10000 he hx hy (by omega)
        have e := binOp_eql_plain hx hy (fun k a k' b e e' => by first | exact h3 _ _ _ _ e e' | exact h2 _ _ _ _ e e' | exact h1 _ _ _ _ e e' | exact h4 _ _ _ _ e e')
          (fun a b e e' => by first | exact h4 _ _ e e' | exact h3 _ _ e e' | exact h2 _ _ e e' | exact h1 _ _ e e') w hb
        exact ⟨.bool b, by simp [eqGuard_sound hg hx hy w, e.1], rfl⟩
  · rename_i h1 h2
    cases hg : eqGuardOk P t xo yo x y with
    | false => simp [hg] at h
    | true =>
      cases he : eqV P 20 t x y with
      | none => simp [hg, he] at h
      | some b =>
        simp [hg, he] at h; subst h
        have hb := eqV_sound w 20 t x y b x' y' 10000 he hx hy (by omega)
        have e := binOp_eql_plain hx hy (fun k a k' b e e' => by first | exact h1 _ _ _ _ e e' | exact h2 _ _ _ _ e e')
          (fun a b e e' => by first | exact h2 _ _ e e' | exact h1 _ _ e e') w hb
        exact ⟨.bool (!b), by simp [eqGuard_sound hg hx hy w, e.2], rfl⟩
  · cases h
end Go.NI
