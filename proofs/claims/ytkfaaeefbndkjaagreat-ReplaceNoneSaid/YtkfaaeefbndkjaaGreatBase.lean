/-
  A part of the proof: Base.
-/
import Derived.Test.YtkfaaeefbndkjaaGreatTab
import Derived.Test.YtkfaaeefbndkjaaGreatEvX
set_option maxRecDepth 100000
namespace Go.Proofs.YtkfaaeefbndkjaaGreat
open Go.EV
theorem evMixed : Tryz.prog.follows .mixedOrders = true := by kernel_rfl
noncomputable def ctxOf (l : List (Nat × Prim)) : Ctx := ⟨tyT.get, fnT.get, flT.get, primT l⟩
theorem ctx_tbl (l : List (Nat × Prim)) : Tbl Tryz.prog (ctxOf l) := ⟨fun t ti h => by simpa using T.AllF.get tyT_ok h, fun t ds h => by simpa using T.AllF.get flT_ok h⟩
theorem ctx_fn (l : List (Nat × Prim)) : ∀ k fn, (ctxOf l).fns k = some fn → FnOk Tryz.prog k fn := fun k fn h => by simpa using T.AllF.get fnT_ok h
theorem ctx_sound (l : List (Nat × Prim)) (h : ∀ e ∈ l, PrimOk1 Tryz.prog e.1 e.2 ∧ PrimGood1 e.2) (f : Nat) : SAll Tryz.prog (ctxOf l) f :=
  sound evMixed (ctx_tbl l) (ctx_fn l) (.of_list (l := l) rfl fun e he => (h e he).1) (.of_list (l := l) rfl fun e he => (h e he).2) f
theorem add64_at : PrimOk1 Tryz.prog 213 add64P := add64_ok Tryz.func213 (by kernel_rfl) (by kernel_rfl) (by kernel_rfl) (by kernel_rfl)
theorem sub64_at : PrimOk1 Tryz.prog 266 sub64P := sub64_ok Tryz.func266 (by kernel_rfl) (by kernel_rfl) (by kernel_rfl) (by kernel_rfl)
def prims1 : List (Nat × Prim) := [(213, add64P), (266, sub64P)]
theorem prims1_ok : ∀ e ∈ prims1, PrimOk1 Tryz.prog e.1 e.2 ∧ PrimGood1 e.2 := by
  intro e he
  simp only [prims1, List.mem_cons, List.not_mem_nil, or_false] at he
  rcases he with rfl | rfl
  · exact ⟨add64_at, add64_good⟩
  · exact ⟨sub64_at, sub64_good⟩
noncomputable def c1 : Ctx := ctxOf prims1
theorem c1_call (f : Nat) : SCall Tryz.prog c1 f := (ctx_sound prims1 prims1_ok f).call
def u64s (l : List Nat) : Value := .agg ⟨l.map fun (n : Nat) => .int .u64 (n : Int)⟩
def u8s (l : List Nat) : List Value := l.map fun (n : Nat) => .int .u8 (n : Int)
end Go.Proofs.YtkfaaeefbndkjaaGreat
