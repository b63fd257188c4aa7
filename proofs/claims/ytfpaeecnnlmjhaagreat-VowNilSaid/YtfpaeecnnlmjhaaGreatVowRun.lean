/- The law VowNil of the vow: a vow that is nil answers as it should, whatever the key and the destination, and the document's example runs: it returns true at every input, and its arguments read afterwards as before. Conditions: none beyond the row's own. -/
import Derived.Test.YtfpaeecnnlmjhaaGreatRows
import Derived.Test.YtfpaeecnnlmjhaaGreatOver
import Derived.ProofKit
namespace Go.Proofs.YtfpaeecnnlmjhaaGreat
open Go.ChangeShapes Go.WideShapes Go.ChangeAt Go.RowKit Go.NI

theorem Tryz.own : ownKnob Tryz.prog.godebug = none := by kernel_rfl

set_option maxRecDepth 1000000 in
/-- What the interpreter answers. -/
theorem vowNil_runs (a b c d : Int) : isTrue (callN Tryz.prog 0 ovSorted 400 3 [.agg [.int .u32 a, .int .u32 b, .int .i64 c], .int .i64 d] Mem.empty) = true := by kernel_rfl

end Go.Proofs.YtfpaeecnnlmjhaaGreat
