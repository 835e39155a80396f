/-
  A part of the proof: Div3.
-/
import Derived.Test.YtkfaaeefbndkjaaGreatPrim2
set_option maxRecDepth 100000
namespace Go.Proofs.YtkfaaeefbndkjaaGreat
open Go.EV
theorem div3 : chk ((Fast.ev c2 100000).call 158 [u64s [110000, 0, 0, 0], u64s [1000, 0, 0, 0]] ⟨H0, [], true⟩) (.tuple #[u64s [110, 0, 0, 0], u64s [0, 0, 0, 0], .int .i64 0]) = true := by kernel_rfl
end Go.Proofs.YtkfaaeefbndkjaaGreat
