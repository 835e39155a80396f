/-
  A part of the proof: Live22.
-/
import Derived.Test.YtkfaaeefbndkjaaGreatPrim3
set_option maxRecDepth 100000
namespace Go.Proofs.YtkfaaeefbndkjaaGreat
open Go.EV
theorem live22 : chk ((Fast.ev c4 100000).call 8 [] ⟨H0, [], true⟩) (.bool true) = true := by kernel_rfl
theorem liveAt22 : PrimOk1 Tryz.prog 8 (memoP [] (.bool true)) := memoP_ok c4_call _ _ 100000 rfl rfl (by rw [evCall_fast]; exact chk_ok live22)
end Go.Proofs.YtkfaaeefbndkjaaGreat
