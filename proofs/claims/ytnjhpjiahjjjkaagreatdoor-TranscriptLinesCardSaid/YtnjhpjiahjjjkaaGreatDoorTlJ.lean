/- The row's closed facts, each by itself. -/
import Derived.Test.YtnjhpjiahjjjkaaGreatDoorRows
import Derived.JoinedOf
import Derived.KernelRfl
set_option linter.unusedSimpArgs false
set_option linter.unusedVariables false
namespace Go.Proofs.YtnjhpjiahjjjkaaGreatDoor
open Go
set_option maxHeartbeats 4000000 in
set_option maxRecDepth 100000 in
theorem facts : joinedFacts Tryz.checked.prog 3 Tryz.f3 Rows.transcriptLinesSpec Rows.transcriptLinesRow = true := by
  simp only [joinedFacts, Bool.and_eq_true]
  repeat' apply And.intro
  all_goals first | (as_aux_lemma => kernel_rfl) | (trace_state; sorry)
end Go.Proofs.YtnjhpjiahjjjkaaGreatDoor
