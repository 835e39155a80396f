/-
  A part of the proof: ClosedI.
-/
import Derived.Test.YtkfaaeefbndkjaaGreatRows
import Derived.ProofKit
import Derived.JoinedOf
namespace Go.Proofs.YtkfaaeefbndkjaaGreat.issueNone
set_option maxRecDepth 100000
set_option maxHeartbeats 0
theorem closed : joinedFacts Tryz.prog 3 Tryz.f3 Rows.issueNoneSpec Rows.issueNoneRow = true := by
  unfold joinedFacts
  simp only [Bool.and_eq_true]
  repeat' apply And.intro
  all_goals (as_aux_lemma => kernel_rfl)
theorem named : Tryz.prog.funcNamed Rows.issueNoneRow.func = some 3 := by kernel_rfl
theorem inst : Tryz.f3.isInstance Tryz.prog Rows.issueNoneRow.origin Rows.issueNoneRow.targs := of_decide_eq_true (by kernel_rfl)
theorem wrap : Tryz.f3.isWrapper Tryz.prog Rows.issueNoneRow.wrapper Rows.issueNoneRow.mainSum := by unfold Func.isWrapper; first | (rw [if_pos (by decide +kernel)]; kernel_rfl) | (rw [if_neg (by decide +kernel)]; exact ⟨rfl, rfl⟩)
end Go.Proofs.YtkfaaeefbndkjaaGreat.issueNone
