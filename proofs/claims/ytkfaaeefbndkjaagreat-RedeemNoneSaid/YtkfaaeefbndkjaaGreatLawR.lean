/-
  RedeemNone's run, whatever the number and the word.
-/
import Derived.Test.YtkfaaeefbndkjaaGreatLive23
set_option maxRecDepth 100000
namespace Go.Proofs.YtkfaaeefbndkjaaGreat
open Go.EV
noncomputable section
def prims6 : List (Nat × Prim) := (19, memoP [] (.bool true)) :: prims4
theorem prims6_ok : ∀ e ∈ prims6, PrimOk1 Tryz.prog e.1 e.2 ∧ PrimGood1 e.2 := by
  intro e he
  rcases List.mem_cons.1 he with rfl | he
  · exact ⟨liveAt23, memoP_good _ _⟩
  · exact prims4_ok e he
def c6 : Ctx := ctxOf prims6
theorem c6_call (f : Nat) : SCall Tryz.prog c6 f := (ctx_sound prims6 prims6_ok f).call
def rR (id : Int) (b : Bool) : R Value := (Fast.evS c6 100000).call 4 [.int .u64 id, .bool b] ⟨H0, [], true⟩
theorem rR_good (id : Int) (b : Bool) : goodR (rR id b) = true := by kernel_rfl
theorem rR_val (id : Int) (b : Bool) : rVal (rR id b) = .bool true := by kernel_rfl
theorem rR_true (id : Int) (b : Bool) : okAs (rR id b) (.bool true) := okAs_of (rR_good id b) (rR_val id b)
end
end Go.Proofs.YtkfaaeefbndkjaaGreat
