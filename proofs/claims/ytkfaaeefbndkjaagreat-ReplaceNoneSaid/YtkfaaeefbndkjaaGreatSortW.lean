/-
  A part of the proof: SortW.
-/
import Derived.Test.YtkfaaeefbndkjaaGreatPrim2
import Derived.Test.YtkfaaeefbndkjaaGreatEvK4
set_option maxRecDepth 100000
namespace Go.Proofs.YtkfaaeefbndkjaaGreat
open Go.EV
noncomputable section
theorem c1_all (f : Nat) : SAll Tryz.prog c1 f := ctx_sound prims1 prims1_ok f
theorem c1_good (f : Nat) : GoodF c1 f := goodF c1 (.of_list (l := prims1) rfl fun e he => (prims1_ok e he).2) f
theorem whoAt : SortedAt Tryz.prog c1 163 214 267 216 200 30 189 Tryz.f163 Tryz.f214 Tryz.f267 Tryz.f216 where
  S := ctx_fn prims1 163 _ (by kernel_rfl)
  C := ctx_fn prims1 214 _ (by kernel_rfl)
  A := ctx_fn prims1 267 _ (by kernel_rfl)
  K := ctx_fn prims1 216 _ (by kernel_rfl)
  bS := by kernel_rfl
  bC := by kernel_rfl
  bA := by kernel_rfl
  bK := by kernel_rfl
  oS := by kernel_rfl
  oC := by kernel_rfl
  oA := by kernel_rfl
  und := ⟨30, _, Tryz.underlying200⟩
def whoN : CallN := cnS c1 1000 163 214 267 216 200 30 189 Tryz.f163 Tryz.f214 Tryz.f267 Tryz.f216
theorem whoN_ok : NOk Tryz.prog whoN := cnS_ok (ctx_tbl prims1) c1_all c1_good whoAt
theorem who0 : ((whoN 163 [keyArg 216 0] ⟨H2 (.cells none [.map (some 1)]) (.map []), [], true⟩).map (List.map projS)) = some (List.replicate 1 (sortS [] [])) := by kernel_rfl
theorem who1 (v : Value) : ((whoN 163 [keyArg 216 0] ⟨H2 (.cells none [.map (some 1)]) (.map [(.int .u8 1, v)]), [], true⟩).map (List.map projS)) = some (List.replicate 1 (sortS (u8s [1]) [(.int .u8 1, v)])) := by kernel_rfl
theorem who2 (v x : Value) : ((whoN 163 [keyArg 216 0] ⟨H2 (.cells none [.map (some 1)]) (.map [(.int .u8 1, v), (.int .u8 2, x)]), [], true⟩).map (List.map projS)) = some (List.replicate 2 (sortS (u8s [1, 2]) [(.int .u8 1, v), (.int .u8 2, x)])) := by kernel_rfl
end
end Go.Proofs.YtkfaaeefbndkjaaGreat
