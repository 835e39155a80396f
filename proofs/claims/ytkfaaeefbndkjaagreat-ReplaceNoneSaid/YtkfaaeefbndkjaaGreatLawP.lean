/-
  ReplaceNone's run, whatever the number.
-/
import Derived.Test.YtkfaaeefbndkjaaGreatLive24
set_option maxRecDepth 100000
namespace Go.Proofs.YtkfaaeefbndkjaaGreat
open Go.EV
noncomputable section
def prims8 : List (Nat × Prim) := (29, memoP [] (.bool true)) :: prims4
theorem prims8_ok : ∀ e ∈ prims8, PrimOk1 Tryz.prog e.1 e.2 ∧ PrimGood1 e.2 := by
  intro e he
  rcases List.mem_cons.1 he with rfl | he
  · exact ⟨liveAt24, memoP_good _ _⟩
  · exact prims4_ok e he
def c8 : Ctx := ctxOf prims8
theorem c8_call (f : Nat) : SCall Tryz.prog c8 f := (ctx_sound prims8 prims8_ok f).call
def rP (id : Int) : R Value := (Fast.evS c8 100000).call 5 [.int .u64 id] ⟨H0, [], true⟩
theorem rP_good (id : Int) : goodR (rP id) = true := by kernel_rfl
theorem rP_val (id : Int) : rVal (rP id) = .bool true := by kernel_rfl
theorem rP_true (id : Int) : okAs (rP id) (.bool true) := okAs_of (rP_good id) (rP_val id)
end
end Go.Proofs.YtkfaaeefbndkjaaGreat
