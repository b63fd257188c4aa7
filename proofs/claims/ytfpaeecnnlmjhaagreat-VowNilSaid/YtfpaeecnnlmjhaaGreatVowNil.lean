/- The law VowNil's walk: from any world it answers true, and nothing that lay before is turned. -/
import Derived.Test.YtfpaeecnnlmjhaaGreatVowRun
namespace Go.Proofs.YtfpaeecnnlmjhaaGreat
open Go.RowKit Go.NI

set_option maxRecDepth 1000000 in
theorem vowNil_walk (a b c d : Int) (w : World) : Calls Tryz.prog 3 #[.agg #[.int .u32 a, .int .u32 b, .int .i64 c], .int .i64 d] w fun e w' => e = .returned (.bool true) ∧ Below w.heap.size w w' := by
  have hargs : VRels (fun _ => none) [.agg [.int .u32 a, .int .u32 b, .int .i64 c], .int .i64 d] [.agg #[.int .u32 a, .int .u32 b, .int .i64 c], .int .i64 d] :=
    ⟨_, _, rfl, ⟨_, rfl, _, _, rfl, rfl, _, _, rfl, rfl, _, _, rfl, rfl, rfl⟩, _, _, rfl, rfl, rfl⟩
  exact law_true (args' := [.agg #[.int .u32 a, .int .u32 b, .int .i64 c], .int .i64 d]) (ov := ovSorted) (k := 400) (by kernel_rfl) (ovSorted_ok _) Tryz.func3 (by kernel_rfl) (by kernel_rfl) (vowNil_runs a b c d) hargs
end Go.Proofs.YtfpaeecnnlmjhaaGreat
