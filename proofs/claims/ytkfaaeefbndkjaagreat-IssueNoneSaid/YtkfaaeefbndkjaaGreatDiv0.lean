/-
  A part of the proof: Div0.
-/
import Derived.Test.YtkfaaeefbndkjaaGreatPrim2
set_option maxRecDepth 100000
namespace Go.Proofs.YtkfaaeefbndkjaaGreat
open Go.EV
theorem div0 : chk ((Fast.ev c2 100000).call 158 [u64s [18446744073709551615, 18446744073709551615, 18446744073709551615, 9223373136366403583], u64s [1, 0, 0, 9223370937343148032]] ⟨H0, [], true⟩) (.tuple #[u64s [1, 0, 0, 0], u64s [18446744073709551614, 18446744073709551615, 18446744073709551615, 2199023255551], .int .i64 0]) = true := by kernel_rfl
end Go.Proofs.YtkfaaeefbndkjaaGreat
