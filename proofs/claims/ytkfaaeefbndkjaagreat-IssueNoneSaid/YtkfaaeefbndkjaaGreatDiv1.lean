/-
  A part of the proof: Div1.
-/
import Derived.Test.YtkfaaeefbndkjaaGreatPrim2
set_option maxRecDepth 100000
namespace Go.Proofs.YtkfaaeefbndkjaaGreat
open Go.EV
theorem div1 : chk ((Fast.ev c2 100000).call 158 [u64s [10000000000, 0, 0, 0], u64s [100000000, 0, 0, 0]] ⟨H0, [], true⟩) (.tuple #[u64s [100, 0, 0, 0], u64s [0, 0, 0, 0], .int .i64 0]) = true := by kernel_rfl
end Go.Proofs.YtkfaaeefbndkjaaGreat
