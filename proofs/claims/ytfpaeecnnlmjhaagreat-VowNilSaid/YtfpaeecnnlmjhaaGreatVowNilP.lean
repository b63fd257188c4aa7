/- The law VowNil: it returns true at every key and destination, and its arguments read afterwards as before. Conditions: none beyond the row's own. -/
import Derived.Test.YtfpaeecnnlmjhaaGreatRows
import Derived.Test.YtfpaeecnnlmjhaaGreatVowNil
import Derived.ProofKit
import Derived.Lib.SmallJoins
namespace Go.Proofs.YtfpaeecnnlmjhaaGreat
open Go.ChangeShapes Go.WideShapes Go.ChangeAt Go.RowKit Go.Joins

theorem Tryz.cells24 : Tryz.prog.cellsOf 24 = 3 := by kernel_rfl

theorem keyReads {H : Type} {enc : TypeId × Value → H} (W' : World) (b : Nat) (sp : Nat → Bool) (hd : Bool) (x y f : Int) (wx : (Lit.int .u32 x).wf = true) (wy : (Lit.int .u32 y).wf = true) (wf : (Lit.int .i64 f).wf = true) :
    DataW.Trod enc Tryz.prog W' b sp hd 24 (.agg #[.int .u32 x, .int .u32 y, .int .i64 f]) (.agg [.lit (.int .u32 x), .lit (.int .u32 y), .lit (.int .i64 f)]) [] := by
  simpa using shut_agg3 (enc := enc) (w := W') (base := b) (spare := sp) (held := hd) (y0 := (.lit (.int .u32 x), [])) (y1 := (.lit (.int .u32 y), [])) (y2 := (.lit (.int .i64 f), [])) Tryz.underlying24 (by kernel_rfl) Tryz.cells24 ⟨1, by simp [DataW.trod, Tryz.underlying22, wx]⟩ ⟨1, by simp [DataW.trod, Tryz.underlying22, wy]⟩ ⟨1, by simp [DataW.trod, Tryz.underlying3, wf]⟩

set_option maxHeartbeats 1600000 in
set_option maxRecDepth 100000 in
theorem vowNil_lifted (os : Os) (started : os.Started) (H : Type) (enc : TypeId × Value → H) :
    ReturnsInHanded {} Tryz.checked os 3 .any (Rows.vowNilSpec.pre6 enc Tryz.prog Tryz.f3 Rows.vowNilRow.domain false) (Rows.vowNilSpec.post enc Tryz.prog Tryz.f3 false true false false) := by
  refine returnsInHanded_of_change (C := Tryz.checked) Tryz.own started (by kernel_rfl) Tryz.func3
    (ChangeSpec.witness6 (enc := enc) (C := Tryz.checked) false ⟨#[], #[.agg #[.int .u32 0, .int .u32 0, .int .i64 0], .int .i64 0], []⟩ 8 (by kernel_rfl) (by kernel_rfl) (by kernel_rfl) (by kernel_rfl)) ?_
  intro W base args ds gs before hval0 hW hcnd _
  have hval : ∀ (j : Nat) t v, Tryz.f3.params[j]? = some t → args[j]? = some v → Value.okWide Tryz.prog W .any base t v := hval0
  have hW' := hW
  obtain ⟨p, q, hA0, hV, rfl, hfz, hnd⟩ := hW
  have hA : DataW.TrodAll enc Tryz.prog W 0 (fun _ => true) true Tryz.f3.params.toList args.toList ds p := hA0
  rw [Tryz.params3] at hA hval
  obtain ⟨v0, v1, d0, d1, p0, p1, rfl, rfl, rfl, h0, h1⟩ := trodAll_two hA
  obtain ⟨rfl, rfl⟩ := trodVars_none hV
  obtain ⟨c0, c1, c2, y0, y1, y2, m, rfl, rfl, rfl, hy0, hy1, hy2⟩ := open_agg3 Tryz.underlying24 (by kernel_rfl) Tryz.cells24 (hval 0 24 v0 rfl rfl) h0
  obtain ⟨x, e0, rfl, wx⟩ := DataW.trod_int Tryz.underlying22 hy0
  obtain ⟨y, e1, rfl, wy⟩ := DataW.trod_int Tryz.underlying22 hy1
  obtain ⟨f, e2, rfl, wf⟩ := DataW.trod_int Tryz.underlying3 hy2
  simp at e0 e1 e2
  subst e0 e1 e2
  obtain ⟨d, rfl, rfl, rfl, wd⟩ := open_int Tryz.underlying3 (hval 1 3 v1 rfl rfl) h1
  clear hA0 hval0
  simp only [List.append_nil] at hW'
  refine (vowNil_walk x y f d W).mono fun e W' ⟨he, hB⟩ => ?_
  subst he
  refine ⟨_, rfl, _, _, _, [], [], [], hW', ?_, ?_, rfl, hB.frame _, fun h => by cases h⟩
  · exact trodAll_mk1 (shut_bool Tryz.underlying4 _)
  · exact trodAll_mk2 (keyReads _ _ _ _ x y f wx wy wf) (shut_int Tryz.underlying3 wd)

theorem vowNil_holds : Rows.VowNilSaid :=
  OpenClaim.holds_of_wide 3 Tryz.f3 rfl rfl rfl rfl rfl rfl rfl ⟨rfl, rfl, rfl, rfl, rfl⟩ rfl rfl rfl rfl rfl (by kernel_rfl) Tryz.func3 (by kernel_rfl)
    (of_decide_eq_true (by kernel_rfl)) (by unfold Func.isWrapper; first | (rw [if_pos (by decide +kernel)]; kernel_rfl) | (rw [if_neg (by decide +kernel)]; exact ⟨rfl, rfl⟩))
    (fun os started H enc _ => vowNil_lifted os started H enc)

#print axioms vowNil_holds
end Go.Proofs.YtfpaeecnnlmjhaaGreat
