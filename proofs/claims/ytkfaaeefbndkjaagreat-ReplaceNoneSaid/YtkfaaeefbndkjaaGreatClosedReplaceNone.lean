/-
  The closed facts of the row, each asked by itself.
-/
import Derived.Test.YtkfaaeefbndkjaaGreatRows
import Derived.ProofKit
import Derived.JoinedOf
namespace Go.Proofs.YtkfaaeefbndkjaaGreat.replaceNone
set_option maxRecDepth 100000
set_option maxHeartbeats 0
theorem closed : joinedFacts Tryz.prog 5 Tryz.f5 Rows.replaceNoneSpec Rows.replaceNoneRow = true := by
  unfold joinedFacts
  simp only [Bool.and_eq_true]
  repeat' apply And.intro
  all_goals (as_aux_lemma => kernel_rfl)
theorem named : Tryz.prog.funcNamed Rows.replaceNoneRow.func = some 5 := by kernel_rfl
theorem inst : Tryz.f5.isInstance Tryz.prog Rows.replaceNoneRow.origin Rows.replaceNoneRow.targs := of_decide_eq_true (by kernel_rfl)
theorem wrap : Tryz.f5.isWrapper Tryz.prog Rows.replaceNoneRow.wrapper Rows.replaceNoneRow.mainSum := by unfold Func.isWrapper; first | (rw [if_pos (by decide +kernel)]; kernel_rfl) | (rw [if_neg (by decide +kernel)]; exact ⟨rfl, rfl⟩)
end Go.Proofs.YtkfaaeefbndkjaaGreat.replaceNone
