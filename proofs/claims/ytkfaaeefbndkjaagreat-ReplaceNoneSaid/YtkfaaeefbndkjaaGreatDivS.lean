/-
  Quotients of wide numbers that the runs meet.
-/
import Derived.Test.YtkfaaeefbndkjaaGreatPrim2
import Derived.Test.YtkfaaeefbndkjaaGreatEvY3
set_option maxRecDepth 100000
namespace Go.Proofs.YtkfaaeefbndkjaaGreat
open Go.EV
noncomputable section
theorem div0 : chk ((Fast.evS c2 100000).call 158 [u64s [18446744073709551615, 18446744073709551615, 18446744073709551615, 9223373136366403583], u64s [1, 0, 0, 9223370937343148032]] ⟨H0, [], true⟩) (.tuple #[u64s [1, 0, 0, 0], u64s [18446744073709551614, 18446744073709551615, 18446744073709551615, 2199023255551], .int .i64 0]) = true := by kernel_rfl
theorem divAt0 : PrimOk1 Tryz.prog 158 (memoP [u64s [18446744073709551615, 18446744073709551615, 18446744073709551615, 9223373136366403583], u64s [1, 0, 0, 9223370937343148032]] (.tuple #[u64s [1, 0, 0, 0], u64s [18446744073709551614, 18446744073709551615, 18446744073709551615, 2199023255551], .int .i64 0])) := memoP_ok c2_call _ _ 100000 (by kernel_rfl) (by kernel_rfl) (by rw [evCall_run]; exact chk_ok div0)
theorem div1 : chk ((Fast.evS c2 100000).call 158 [u64s [10000000000, 0, 0, 0], u64s [100000000, 0, 0, 0]] ⟨H0, [], true⟩) (.tuple #[u64s [100, 0, 0, 0], u64s [0, 0, 0, 0], .int .i64 0]) = true := by kernel_rfl
theorem divAt1 : PrimOk1 Tryz.prog 158 (memoP [u64s [10000000000, 0, 0, 0], u64s [100000000, 0, 0, 0]] (.tuple #[u64s [100, 0, 0, 0], u64s [0, 0, 0, 0], .int .i64 0])) := memoP_ok c2_call _ _ 100000 (by kernel_rfl) (by kernel_rfl) (by rw [evCall_run]; exact chk_ok div1)
theorem div2 : chk ((Fast.evS c2 100000).call 158 [u64s [5000, 0, 0, 0], u64s [1000, 0, 0, 0]] ⟨H0, [], true⟩) (.tuple #[u64s [5, 0, 0, 0], u64s [0, 0, 0, 0], .int .i64 0]) = true := by kernel_rfl
theorem divAt2 : PrimOk1 Tryz.prog 158 (memoP [u64s [5000, 0, 0, 0], u64s [1000, 0, 0, 0]] (.tuple #[u64s [5, 0, 0, 0], u64s [0, 0, 0, 0], .int .i64 0])) := memoP_ok c2_call _ _ 100000 (by kernel_rfl) (by kernel_rfl) (by rw [evCall_run]; exact chk_ok div2)
theorem div3 : chk ((Fast.evS c2 100000).call 158 [u64s [110000, 0, 0, 0], u64s [1000, 0, 0, 0]] ⟨H0, [], true⟩) (.tuple #[u64s [110, 0, 0, 0], u64s [0, 0, 0, 0], .int .i64 0]) = true := by kernel_rfl
theorem divAt3 : PrimOk1 Tryz.prog 158 (memoP [u64s [110000, 0, 0, 0], u64s [1000, 0, 0, 0]] (.tuple #[u64s [110, 0, 0, 0], u64s [0, 0, 0, 0], .int .i64 0])) := memoP_ok c2_call _ _ 100000 (by kernel_rfl) (by kernel_rfl) (by rw [evCall_run]; exact chk_ok div3)
end
end Go.Proofs.YtkfaaeefbndkjaaGreat
