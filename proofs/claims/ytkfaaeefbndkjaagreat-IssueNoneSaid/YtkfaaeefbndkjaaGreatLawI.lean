/-
  A part of the proof: LawI.
-/
import Derived.Test.YtkfaaeefbndkjaaGreatLive22
set_option maxRecDepth 100000
namespace Go.Proofs.YtkfaaeefbndkjaaGreat
open Go.EV
noncomputable section
def prims5 : List (Nat × Prim) := (8, memoP [] (.bool true)) :: prims4
theorem prims5_ok : ∀ e ∈ prims5, PrimOk1 Tryz.prog e.1 e.2 ∧ PrimGood1 e.2 := by
  intro e he
  rcases List.mem_cons.1 he with rfl | he
  · exact ⟨liveAt22, memoP_good _ _⟩
  · exact prims4_ok e he
def c5 : Ctx := ctxOf prims5
theorem c5_call (f : Nat) : SCall Tryz.prog c5 f := (ctx_sound prims5 prims5_ok f).call
def rI (id sign : Int) : R Value := (Fast.ev c5 100000).call 3 [.int .u64 id, .int .u8 sign] ⟨H0, [], true⟩
theorem rI_good (id sign : Int) : goodR (rI id sign) = true := by kernel_rfl
end
end Go.Proofs.YtkfaaeefbndkjaaGreat
