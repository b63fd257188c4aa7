/- The nice interpreter: operations that neither read nor write memory do what the model's do. -/
import Derived.Test.YtfpaeecnnlmjhaaGreatNiEq
namespace Go.NI

theorem shift_sound {P : Program} {op : BinOp} {k yk : IntKind} {a b r : Int} (h : shiftI op k a b = some r) (w : World) : (Op.shift op k a yk b).run P w = .ok (.int k r) w := by
  unfold shiftI at h
  cases b with
  | negSucc m => simp at h
  | ofNat m =>
    simp only [cond_ble] at h
    have hn : (if m ≤ k.bits then m else k.bits) = min (Int.ofNat m).toNat k.bits := by
      simp only [Int.ofNat_eq_natCast, Int.toNat_natCast]; split <;> omega
    rw [hn] at h
    have h0 : ¬ (Int.ofNat m < 0) := by simp
    unfold Op.shift
    simp only [h0, if_false]
    generalize min (Int.ofNat m).toNat k.bits = n at h
    cases op <;> simp at h
    · cases a with
      | ofNat x =>
        simp only [Option.some.injEq] at h; subst h
        simp [wrapK_eq, Int.shiftLeft_eq]
      | negSucc x => simp at h; subst h; simp
    · cases a with
      | ofNat x =>
        simp only [Option.some.injEq] at h; subst h
        simp [Int.shiftRight_eq_div_pow, Int.fdiv_eq_ediv_of_nonneg _ (show (0 : Int) ≤ 2 ^ n from Int.pow_nonneg (by decide))]
      | negSucc x => simp at h; subst h; simp

theorem div_sound {P : Program} {op : BinOp} {k : IntKind} {a b r : Int} (h : divI op k a b = some r) (w : World) : (Op.intDiv op k a b).run P w = .ok (.int k r) w := by
  unfold divI at h
  unfold Op.intDiv
  split at h
  · cases h
  · rename_i x y hy
    have hb : ¬ (Int.ofNat y = 0) := by intro e; apply hy; simp at e; simp [e]
    simp only [hb, if_false]
    cases op <;> simp at h <;> subst h
    · simp [wrapK_eq]
    · simp [Int.tmod_eq_emod]
  · rename_i x y hy _
    have hb : ¬ (b = 0) := by intro e; subst e; exact hy rfl
    simp only [hb, if_false]
    cases op <;> simp at h <;> subst h <;> simp

theorem intOp_sound {P : Program} {op : BinOp} {k : IntKind} {t : TypeId} {a b : Int} {v : NV} (h : intOp op k a b = some v) (w : World) :
    ∃ v', (binOp op t (.int k a) (.int k b)).run P w = .ok v' w ∧ ∀ ρ, VRel ρ v v' := by
  cases op with
  | add => simp [intOp] at h; subst h; exact ⟨.int k (k.wrap (a + b)), by rw [binOp_add]; rfl, fun ρ => by simp [VRel, wrapK_eq]⟩
  | sub => simp [intOp] at h; subst h; exact ⟨.int k (k.wrap (a - b)), by rw [binOp_sub]; rfl, fun ρ => by simp [VRel, wrapK_eq, subI_eq]⟩
  | mul => simp [intOp] at h; subst h; exact ⟨.int k (k.wrap (a * b)), by rw [binOp_mul]; rfl, fun ρ => by simp [VRel, wrapK_eq]⟩
  | quo =>
    cases hd : divI .quo k a b with
    | none => simp [intOp, hd] at h
    | some r => simp [intOp, hd] at h; subst h; exact ⟨_, by rw [binOp_quo]; exact div_sound hd w, fun ρ => rfl⟩
  | rem =>
    cases hd : divI .rem k a b with
    | none => simp [intOp, hd] at h
    | some r => simp [intOp, hd] at h; subst h; exact ⟨_, by rw [binOp_rem]; exact div_sound hd w, fun ρ => rfl⟩
  | and => simp [intOp, bitsI_eq, bitsM] at h; subst h; exact ⟨_, by simp [binOp_and, intBits_and, bits], fun ρ => rfl⟩
  | or => simp [intOp, bitsI_eq, bitsM] at h; subst h; exact ⟨_, by simp [binOp_or, intBits_or, bits], fun ρ => rfl⟩
  | xor => simp [intOp, bitsI_eq, bitsM] at h; subst h; exact ⟨_, by simp [binOp_xor, intBits_xor, bits], fun ρ => rfl⟩
  | andNot => simp [intOp, bitsI_eq, bitsM] at h; subst h; exact ⟨_, by simp [binOp_andNot, intBits_andNot, bits], fun ρ => rfl⟩
  | eql => simp [intOp] at h; subst h; exact ⟨_, by rw [binOp_eql]; rfl, fun ρ => by simp [VRel, eqI_eq]⟩
  | neq => simp [intOp] at h; subst h; exact ⟨_, by rw [binOp_neq]; rfl, fun ρ => by simp [VRel, eqI_eq, bne]⟩
  | lss => simp [intOp] at h; subst h; exact ⟨_, by rw [binOp_lss]; rfl, fun ρ => by simp [VRel, ltI_eq]⟩
  | leq => simp [intOp] at h; subst h; exact ⟨_, by rw [binOp_leq]; rfl, fun ρ => by simp [VRel, ltI_eq]; rw [Bool.eq_iff_iff]; simp⟩
  | gtr => simp [intOp] at h; subst h; exact ⟨_, by rw [binOp_gtr]; rfl, fun ρ => by simp [VRel, ltI_eq]⟩
  | geq => simp [intOp] at h; subst h; exact ⟨_, by rw [binOp_geq]; rfl, fun ρ => by simp [VRel, ltI_eq]; rw [Bool.eq_iff_iff]; simp⟩
  | shl => simp [intOp] at h
  | shr => simp [intOp] at h

theorem append_mk (a b : List UInt8) : (⟨⟨a⟩⟩ : ByteArray) ++ (⟨⟨b⟩⟩ : ByteArray) = ⟨⟨a ++ b⟩⟩ := by
  apply ByteArray.ext
  rw [ByteArray.data_append]
  simp

theorem strOp_sound {P : Program} {op : BinOp} {a b : List UInt8} {v : NV} (h : strOp op a b = some v) (w : World) :
    ∃ v', (Op.stringOp op ⟨⟨a⟩⟩ ⟨⟨b⟩⟩).run P w = .ok v' w ∧ ∀ ρ, VRel ρ v v' := by
  cases op <;> simp [strOp] at h
  · cases hb : (a.length + b.length).ble 1099511627776 with
    | false => simp [hb] at h
    | true =>
      simp [hb] at h; subst h
      have hl : a.length + b.length ≤ 1099511627776 := by simpa using hb
      refine ⟨.string ((⟨⟨a⟩⟩ : ByteArray) ++ (⟨⟨b⟩⟩ : ByteArray)), ?_, fun ρ => ?_⟩
      · have : ¬ ((((⟨⟨a⟩⟩ : ByteArray).size + (⟨⟨b⟩⟩ : ByteArray).size : Nat) : Int) > IntKind.i64.max) := by
          rw [size_mk, size_mk, IntKind.max_i64]; omega
        simp only [Op.stringOp, this, if_false]
        rfl
      · simp [VRel, append_mk]
  all_goals
    subst h
    exact ⟨_, rfl, fun ρ => by simp [VRel, eqS_eq, ltS_eq]⟩

theorem unV_sound {P : Program} {ρ : Ren} {op : UnOp} {x v : NV} {x' : Value} (h : unV op x = some v) (hx : VRel ρ x x') (w : World) : ∃ v', (Op.unary op x').run P w = .ok v' w ∧ VRel ρ v v' := by
  unfold unV at h
  split at h
  · cases (show x' = _ from hx); simp at h; subst h; exact ⟨_, by simp [Op.unary, Op.intArith]; rfl, by simp [VRel]⟩
  · rename_i k n
    cases (show x' = _ from hx)
    simp [bitsI_eq, bitsM] at h; subst h
    exact ⟨_, by simp only [Op.unary, intBits_xor, bits]; rfl, rfl⟩
  · cases (show x' = _ from hx); simp at h; subst h; exact ⟨_, by simp [Op.unary]; rfl, by simp [VRel]⟩
  · cases h

theorem VRel.of_nilIface {ρ : Ren} {x : NV} (h : VRel ρ x .nilIface) : x = .nilIface := by
  cases x with
  | nilIface => rfl
  | ptr a => cases a <;> simp [VRel] at h
  | map a => cases a <;> simp [VRel] at h
  | _ => simp [VRel] at h
theorem VRel.of_agg {ρ : Ren} {x : NV} {u : Array Value} (h : VRel ρ x (.agg u)) : ∃ l, x = .agg l := by
  cases x with
  | agg l => exact ⟨l, rfl⟩
  | ptr a => cases a <;> simp [VRel] at h
  | map a => cases a <;> simp [VRel] at h
  | _ => simp [VRel] at h

theorem eqGuard_sound {P : Program} {ρ : Ren} {op : BinOp} {t : TypeId} {xo yo : Operand} {x y : NV} {x' y' : Value} (h : eqGuardOk P t xo yo x y = true) (hx : VRel ρ x x') (hy : VRel ρ y y') (w : World) :
    (eqGuard op t xo yo x' y').run P w = .ok () w := by
  unfold eqGuardOk at h
  unfold eqGuard
  split at h
  · cases (show x' = _ from hx); cases (show y' = _ from hy)
    cases xo <;> cases yo <;> simp [isConstO] at h <;> cases op <;> first | rfl | (simp; done)
  · obtain ⟨xs, rfl, _⟩ := hx; obtain ⟨ys, rfl, _⟩ := hy
    have hm : P.eqGuardType P.depth t = false := by simpa using h
    cases op <;> simp [hm]
  · rename_i h1 h2
    have n1 : ¬ (x' = .nilIface ∧ y' = .nilIface) := by
      rintro ⟨rfl, rfl⟩
      exact h1 hx.of_nilIface hy.of_nilIface
    have n2 : ¬ (∃ u v, x' = .agg u ∧ y' = .agg v) := by
      rintro ⟨u, v, rfl, rfl⟩
      obtain ⟨l, e⟩ := hx.of_agg
      obtain ⟨l', e'⟩ := hy.of_agg
      exact h2 _ _ e e'
    cases x' <;> cases y' <;> first
      | (cases op <;> first | rfl | (simp; done))
      | exact absurd ⟨rfl, rfl⟩ n1
      | exact absurd ⟨_, _, rfl, rfl⟩ n2
end Go.NI
