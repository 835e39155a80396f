/-
  The chapter's example of pontagelaw23 is true.
-/
import Derived.Test.YtkfaaeefbndkjaaGreatPrim3
set_option maxRecDepth 100000
namespace Go.Proofs.YtkfaaeefbndkjaaGreat
open Go.EV
theorem live23 : chk ((Fast.evS c4 100000).call 19 [] ⟨H0, [], true⟩) (.bool true) = true := by kernel_rfl
theorem liveAt23 : PrimOk1 Tryz.prog 19 (memoP [] (.bool true)) := memoP_ok c4_call _ _ 100000 rfl rfl (by rw [evCall_run]; exact chk_ok live23)
end Go.Proofs.YtkfaaeefbndkjaaGreat
