/-  The closed facts of NodeNobody's row, one by one. -/
import Derived.Test.YtkdjikplcliijaaGreatRows
import Derived.ProofKit
import Derived.JoinedOf
namespace Go.Proofs.YtkdjikplcliijaaGreat.nodeNobody
set_option maxRecDepth 100000
set_option maxHeartbeats 0 in
theorem closed : joinedFacts Tryz.pinned.checked.prog 7 Tryz.f7 Rows.nodeNobodySpec Rows.nodeNobodyRow = true := by
  unfold joinedFacts
  simp only [Bool.and_eq_true]
  repeat' apply And.intro
  all_goals (as_aux_lemma => kernel_rfl)
end Go.Proofs.YtkdjikplcliijaaGreat.nodeNobody
