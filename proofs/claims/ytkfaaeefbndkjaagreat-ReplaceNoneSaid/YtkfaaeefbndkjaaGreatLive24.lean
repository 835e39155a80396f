/-
  The chapter's example of pontagelaw24 is true.
-/
import Derived.Test.YtkfaaeefbndkjaaGreatPrim3R
set_option maxRecDepth 100000
namespace Go.Proofs.YtkfaaeefbndkjaaGreat
open Go.EV
noncomputable section
theorem enough : chk ((Fast.evS c4 100000).call 310 [.int .u64 1000, .int .u64 400, .int .u64 100000000, .int .u64 2000] ⟨H0, [], true⟩) (.bool true) = true := by kernel_rfl
def enoughP : Prim := memoP [.int .u64 1000, .int .u64 400, .int .u64 100000000, .int .u64 2000] (.bool true)
theorem enoughAt : PrimOk1 Tryz.prog 310 enoughP := memoP_ok c4_call _ _ 100000 rfl (by kernel_rfl) (by rw [evCall_run]; exact chk_ok enough)
theorem from0 : chk ((Fast.evS c4 100000).call 217 [.agg ⟨u8s [61, 203, 117, 189, 137, 197, 20, 104, 21, 221, 192, 209, 215, 49, 76, 183, 70, 25, 253, 247, 43, 253, 106, 115, 55, 132, 161, 91, 255, 182, 29, 187]⟩] ⟨H0, [], true⟩) (u64s [7499836474858523453, 13207986610177629461, 8316738027179022662, 13483134067287360567]) = true := by kernel_rfl
theorem fromAt0 : PrimOk1 Tryz.prog 217 (memoP [.agg ⟨u8s [61, 203, 117, 189, 137, 197, 20, 104, 21, 221, 192, 209, 215, 49, 76, 183, 70, 25, 253, 247, 43, 253, 106, 115, 55, 132, 161, 91, 255, 182, 29, 187]⟩] (u64s [7499836474858523453, 13207986610177629461, 8316738027179022662, 13483134067287360567])) := memoP_ok c4_call _ _ 100000 (by kernel_rfl) (by kernel_rfl) (by rw [evCall_run]; exact chk_ok from0)
theorem from1 : chk ((Fast.evS c4 100000).call 217 [.agg ⟨u8s [64, 212, 44, 169, 105, 242, 46, 26, 213, 113, 80, 86, 103, 22, 131, 220, 56, 26, 102, 175, 166, 60, 188, 192, 220, 97, 234, 162, 38, 110, 30, 39]⟩] ⟨H0, [], true⟩) (u64s [1886711829538591808, 15889568543378797013, 13888042037508708920, 2818811529001591260]) = true := by kernel_rfl
theorem fromAt1 : PrimOk1 Tryz.prog 217 (memoP [.agg ⟨u8s [64, 212, 44, 169, 105, 242, 46, 26, 213, 113, 80, 86, 103, 22, 131, 220, 56, 26, 102, 175, 166, 60, 188, 192, 220, 97, 234, 162, 38, 110, 30, 39]⟩] (u64s [1886711829538591808, 15889568543378797013, 13888042037508708920, 2818811529001591260])) := memoP_ok c4_call _ _ 100000 (by kernel_rfl) (by kernel_rfl) (by rw [evCall_run]; exact chk_ok from1)
theorem from2 : chk ((Fast.evS c4 100000).call 217 [.agg ⟨u8s [20, 49, 69, 247, 232, 101, 135, 221, 216, 185, 213, 122, 165, 72, 198, 16, 93, 164, 102, 241, 61, 176, 16, 193, 90, 163, 10, 130, 202, 14, 88, 175]⟩] ⟨H0, [], true⟩) (u64s [15962839455493337364, 1208733425563187672, 13911813029036991581, 12634865017515844442]) = true := by kernel_rfl
theorem fromAt2 : PrimOk1 Tryz.prog 217 (memoP [.agg ⟨u8s [20, 49, 69, 247, 232, 101, 135, 221, 216, 185, 213, 122, 165, 72, 198, 16, 93, 164, 102, 241, 61, 176, 16, 193, 90, 163, 10, 130, 202, 14, 88, 175]⟩] (u64s [15962839455493337364, 1208733425563187672, 13911813029036991581, 12634865017515844442])) := memoP_ok c4_call _ _ 100000 (by kernel_rfl) (by kernel_rfl) (by rw [evCall_run]; exact chk_ok from2)
theorem from3 : chk ((Fast.evS c4 100000).call 217 [.agg ⟨u8s [211, 169, 67, 33, 28, 126, 13, 224, 245, 251, 222, 243, 99, 19, 224, 29, 249, 76, 204, 212, 238, 83, 113, 129, 153, 165, 118, 121, 190, 255, 49, 11]⟩] ⟨H0, [], true⟩) (u64s [16144698898475362771, 2152741941897264117, 9327328588498488569, 806707001822717337]) = true := by kernel_rfl
theorem fromAt3 : PrimOk1 Tryz.prog 217 (memoP [.agg ⟨u8s [211, 169, 67, 33, 28, 126, 13, 224, 245, 251, 222, 243, 99, 19, 224, 29, 249, 76, 204, 212, 238, 83, 113, 129, 153, 165, 118, 121, 190, 255, 49, 11]⟩] (u64s [16144698898475362771, 2152741941897264117, 9327328588498488569, 806707001822717337])) := memoP_ok c4_call _ _ 100000 (by kernel_rfl) (by kernel_rfl) (by rw [evCall_run]; exact chk_ok from3)
def fromP : Prim := (orP (memoP [.agg ⟨u8s [61, 203, 117, 189, 137, 197, 20, 104, 21, 221, 192, 209, 215, 49, 76, 183, 70, 25, 253, 247, 43, 253, 106, 115, 55, 132, 161, 91, 255, 182, 29, 187]⟩] (u64s [7499836474858523453, 13207986610177629461, 8316738027179022662, 13483134067287360567])) (orP (memoP [.agg ⟨u8s [64, 212, 44, 169, 105, 242, 46, 26, 213, 113, 80, 86, 103, 22, 131, 220, 56, 26, 102, 175, 166, 60, 188, 192, 220, 97, 234, 162, 38, 110, 30, 39]⟩] (u64s [1886711829538591808, 15889568543378797013, 13888042037508708920, 2818811529001591260])) (orP (memoP [.agg ⟨u8s [20, 49, 69, 247, 232, 101, 135, 221, 216, 185, 213, 122, 165, 72, 198, 16, 93, 164, 102, 241, 61, 176, 16, 193, 90, 163, 10, 130, 202, 14, 88, 175]⟩] (u64s [15962839455493337364, 1208733425563187672, 13911813029036991581, 12634865017515844442])) (memoP [.agg ⟨u8s [211, 169, 67, 33, 28, 126, 13, 224, 245, 251, 222, 243, 99, 19, 224, 29, 249, 76, 204, 212, 238, 83, 113, 129, 153, 165, 118, 121, 190, 255, 49, 11]⟩] (u64s [16144698898475362771, 2152741941897264117, 9327328588498488569, 806707001822717337])))))
theorem fromP_at : PrimOk1 Tryz.prog 217 fromP := (PrimOk1.or fromAt0 (PrimOk1.or fromAt1 (PrimOk1.or fromAt2 fromAt3)))
theorem fromP_good : PrimGood1 fromP := (PrimGood1.or (memoP_good _ _) (PrimGood1.or (memoP_good _ _) (PrimGood1.or (memoP_good _ _) (memoP_good _ _))))
def prims7 : List (Nat × Prim) := (310, enoughP) :: (217, fromP) :: prims4
theorem prims7_ok : ∀ e ∈ prims7, PrimOk1 Tryz.prog e.1 e.2 ∧ PrimGood1 e.2 := by
  intro e he
  rcases List.mem_cons.1 he with rfl | he
  · exact ⟨enoughAt, memoP_good _ _⟩
  · rcases List.mem_cons.1 he with rfl | he
    · exact ⟨fromP_at, fromP_good⟩
    · exact prims4_ok e he
def c7 : Ctx := ctxOf prims7
theorem c7_call (f : Nat) : SCall Tryz.prog c7 f := (ctx_sound prims7 prims7_ok f).call
theorem live24 : chk ((Fast.evS c7 100000).call 29 [] ⟨H0, [], true⟩) (.bool true) = true := by kernel_rfl
theorem liveAt24 : PrimOk1 Tryz.prog 29 (memoP [] (.bool true)) := memoP_ok c7_call _ _ 100000 rfl rfl (by rw [evCall_run]; exact chk_ok live24)
end
end Go.Proofs.YtkfaaeefbndkjaaGreat
