/-
  The closed facts of the row, each asked by itself.
-/
import Derived.Test.YtkfaaeefbndkjaaGreatRows
import Derived.ProofKit
import Derived.JoinedOf
namespace Go.Proofs.YtkfaaeefbndkjaaGreat.redeemNone
set_option maxRecDepth 100000
set_option maxHeartbeats 0
theorem closed : joinedFacts Tryz.prog 4 Tryz.f4 Rows.redeemNoneSpec Rows.redeemNoneRow = true := by
  unfold joinedFacts
  simp only [Bool.and_eq_true]
  repeat' apply And.intro
  all_goals (as_aux_lemma => kernel_rfl)
theorem named : Tryz.prog.funcNamed Rows.redeemNoneRow.func = some 4 := by kernel_rfl
theorem inst : Tryz.f4.isInstance Tryz.prog Rows.redeemNoneRow.origin Rows.redeemNoneRow.targs := of_decide_eq_true (by kernel_rfl)
theorem wrap : Tryz.f4.isWrapper Tryz.prog Rows.redeemNoneRow.wrapper Rows.redeemNoneRow.mainSum := by unfold Func.isWrapper; first | (rw [if_pos (by decide +kernel)]; kernel_rfl) | (rw [if_neg (by decide +kernel)]; exact ⟨rfl, rfl⟩)
end Go.Proofs.YtkfaaeefbndkjaaGreat.redeemNone
