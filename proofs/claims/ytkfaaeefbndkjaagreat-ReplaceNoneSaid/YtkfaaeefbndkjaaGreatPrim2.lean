/-
  A part of the proof: Prim2.
-/
import Derived.Test.YtkfaaeefbndkjaaGreatPrim1
import Derived.Test.YtkfaaeefbndkjaaGreatEvZ2
namespace Go.Proofs.YtkfaaeefbndkjaaGreat
open Go.EV
theorem leftP_good : PrimGood1 leftP := .same fun args h v h' hp => by
  unfold leftP at hp
  repeat' split at hp
  all_goals first | (cases hp; rfl) | cases hp
theorem left_good : PrimGood1 (orP leftP fun _ _ => none) := PrimGood1.or leftP_good (.same fun _ _ _ _ hp => by cases hp)
noncomputable def prims2 : List (Nat × Prim) := [(213, add64P), (266, sub64P), (329, turnP), (210, orP leftP fun _ _ => none)]
theorem prims2_ok : ∀ e ∈ prims2, PrimOk1 Tryz.prog e.1 e.2 ∧ PrimGood1 e.2 := by
  intro e he
  simp only [prims2, List.mem_cons, List.not_mem_nil, or_false] at he
  rcases he with rfl | rfl | rfl | rfl
  · exact ⟨add64_at, add64_good⟩
  · exact ⟨sub64_at, sub64_good⟩
  · exact ⟨turn_at, turn_good⟩
  · exact ⟨left_at, left_good⟩
noncomputable def c2 : Ctx := ctxOf prims2
theorem c2_call (f : Nat) : SCall Tryz.prog c2 f := (ctx_sound prims2 prims2_ok f).call
end Go.Proofs.YtkfaaeefbndkjaaGreat
namespace Go.Proofs.YtkfaaeefbndkjaaGreat
def u32s (l : List Nat) : List Value := l.map fun (n : Nat) => .int .u32 (n : Int)
end Go.Proofs.YtkfaaeefbndkjaaGreat
