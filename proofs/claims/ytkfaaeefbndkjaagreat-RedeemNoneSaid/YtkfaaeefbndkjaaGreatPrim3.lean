/-
  The contexts in which lives() and the laws are run.
-/
import Derived.Test.YtkfaaeefbndkjaaGreatSortW
import Derived.Test.YtkfaaeefbndkjaaGreatBlkA
import Derived.Test.YtkfaaeefbndkjaaGreatBlkB
import Derived.Test.YtkfaaeefbndkjaaGreatDivS
set_option maxRecDepth 100000
namespace Go.Proofs.YtkfaaeefbndkjaaGreat
open Go.EV
noncomputable section
def blkP : Prim := (orP (memoW (u32s [1779033703, 3144134277, 1013904242, 2773480762, 1359893119, 2600822924, 528734635, 1541459225]) (u32s [3808757846, 2864941414, 451186789, 1792076375, 3748331279, 4142854918, 4174130925, 1327759945]) 0 none 64 64 (some 1) (u8s [1, 0, 0, 0, 0, 0, 0, 0, 0, 0, 0, 0, 0, 0, 0, 0, 0, 0, 0, 0, 0, 0, 0, 0, 0, 0, 0, 0, 0, 0, 0, 0, 0, 0, 0, 0, 0, 0, 0, 0, 0, 0, 0, 0, 0, 0, 0, 0, 0, 0, 0, 0, 0, 0, 0, 0, 0, 0, 0, 0, 0, 0, 0, 0, 0, 0, 0, 0, 232, 3, 0, 0, 255, 255, 127, 32, 0, 0, 0, 0, 128, 0, 0, 0, 0, 0, 0, 0, 0, 0, 0, 0, 0, 0, 0, 0, 0, 0, 0, 0, 0, 0, 0, 0, 0, 0, 0, 0, 0, 0, 0, 0, 0, 0, 0, 0, 0, 0, 0, 0, 0, 0, 0, 0, 0, 0, 2, 128])) (orP (memoW (u32s [3808757846, 2864941414, 451186789, 1792076375, 3748331279, 4142854918, 4174130925, 1327759945]) (u32s [478653751, 2408814129, 410979757, 2637431061, 2032083081, 240975632, 92160392, 4067046073]) 64 none 64 64 (some 1) (u8s [1, 0, 0, 0, 0, 0, 0, 0, 0, 0, 0, 0, 0, 0, 0, 0, 0, 0, 0, 0, 0, 0, 0, 0, 0, 0, 0, 0, 0, 0, 0, 0, 0, 0, 0, 0, 0, 0, 0, 0, 0, 0, 0, 0, 0, 0, 0, 0, 0, 0, 0, 0, 0, 0, 0, 0, 0, 0, 0, 0, 0, 0, 0, 0, 0, 0, 0, 0, 232, 3, 0, 0, 255, 255, 127, 32, 0, 0, 0, 0, 128, 0, 0, 0, 0, 0, 0, 0, 0, 0, 0, 0, 0, 0, 0, 0, 0, 0, 0, 0, 0, 0, 0, 0, 0, 0, 0, 0, 0, 0, 0, 0, 0, 0, 0, 0, 0, 0, 0, 0, 0, 0, 0, 0, 0, 0, 2, 128])) (orP (memoW (u32s [1779033703, 3144134277, 1013904242, 2773480762, 1359893119, 2600822924, 528734635, 1541459225]) (u32s [1036744125, 2311394408, 366854353, 3610332343, 1176108535, 738028147, 931438939, 4290125243]) 0 none 64 64 (some 1) (u8s [28, 135, 173, 55, 143, 147, 150, 49, 24, 127, 13, 173, 157, 52, 1, 21, 121, 31, 32, 137, 14, 92, 255, 16, 5, 126, 65, 136, 242, 106, 50, 185, 128, 0, 0, 0, 0, 0, 0, 0, 0, 0, 0, 0, 0, 0, 0, 0, 0, 0, 0, 0, 0, 0, 0, 0, 0, 0, 0, 0, 0, 0, 1, 0])) (orP (memoW (u32s [1779033703, 3144134277, 1013904242, 2773480762, 1359893119, 2600822924, 528734635, 1541459225]) (u32s [3808757846, 2864941414, 451186789, 1792076375, 3748331279, 4142854918, 4174130925, 1327759945]) 0 none 64 64 (some 1) (u8s [1, 0, 0, 0, 0, 0, 0, 0, 0, 0, 0, 0, 0, 0, 0, 0, 0, 0, 0, 0, 0, 0, 0, 0, 0, 0, 0, 0, 0, 0, 0, 0, 0, 0, 0, 0, 0, 0, 0, 0, 0, 0, 0, 0, 0, 0, 0, 0, 0, 0, 0, 0, 0, 0, 0, 0, 0, 0, 0, 0, 0, 0, 0, 0, 0, 0, 0, 0, 232, 3, 0, 0, 255, 255, 127, 32, 1, 0, 0, 0, 128, 0, 0, 0, 0, 0, 0, 0, 0, 0, 0, 0, 0, 0, 0, 0, 0, 0, 0, 0, 0, 0, 0, 0, 0, 0, 0, 0, 0, 0, 0, 0, 0, 0, 0, 0, 0, 0, 0, 0, 0, 0, 0, 0, 0, 0, 2, 128])) (orP (memoW (u32s [3808757846, 2864941414, 451186789, 1792076375, 3748331279, 4142854918, 4174130925, 1327759945]) (u32s [1847735129, 3710884657, 2465850028, 4230842938, 232911551, 2092591105, 2044253373, 2538232379]) 64 none 64 64 (some 1) (u8s [1, 0, 0, 0, 0, 0, 0, 0, 0, 0, 0, 0, 0, 0, 0, 0, 0, 0, 0, 0, 0, 0, 0, 0, 0, 0, 0, 0, 0, 0, 0, 0, 0, 0, 0, 0, 0, 0, 0, 0, 0, 0, 0, 0, 0, 0, 0, 0, 0, 0, 0, 0, 0, 0, 0, 0, 0, 0, 0, 0, 0, 0, 0, 0, 0, 0, 0, 0, 232, 3, 0, 0, 255, 255, 127, 32, 1, 0, 0, 0, 128, 0, 0, 0, 0, 0, 0, 0, 0, 0, 0, 0, 0, 0, 0, 0, 0, 0, 0, 0, 0, 0, 0, 0, 0, 0, 0, 0, 0, 0, 0, 0, 0, 0, 0, 0, 0, 0, 0, 0, 0, 0, 0, 0, 0, 0, 2, 128])) (memoW (u32s [1779033703, 3144134277, 1013904242, 2773480762, 1359893119, 2600822924, 528734635, 1541459225]) (u32s [1087646889, 1777479194, 3580973142, 1729528796, 941254319, 2788998336, 3697404578, 644750887]) 0 none 64 64 (some 1) (u8s [110, 34, 51, 89, 221, 47, 155, 49, 146, 249, 226, 172, 252, 45, 138, 58, 13, 225, 242, 191, 124, 186, 104, 1, 121, 216, 212, 189, 151, 74, 90, 59, 128, 0, 0, 0, 0, 0, 0, 0, 0, 0, 0, 0, 0, 0, 0, 0, 0, 0, 0, 0, 0, 0, 0, 0, 0, 0, 0, 0, 0, 0, 1, 0])))))))
theorem blkP_at : PrimOk1 Tryz.prog 290 blkP := (PrimOk1.or blkAt0 (PrimOk1.or blkAt1 (PrimOk1.or blkAt2 (PrimOk1.or blkAt3 (PrimOk1.or blkAt4 blkAt5)))))
theorem blkP_good : PrimGood1 blkP := (PrimGood1.or (memoW_good _ _ _ _ _ _ _ _) (PrimGood1.or (memoW_good _ _ _ _ _ _ _ _) (PrimGood1.or (memoW_good _ _ _ _ _ _ _ _) (PrimGood1.or (memoW_good _ _ _ _ _ _ _ _) (PrimGood1.or (memoW_good _ _ _ _ _ _ _ _) (memoW_good _ _ _ _ _ _ _ _))))))
def divP : Prim := (orP (memoP [u64s [18446744073709551615, 18446744073709551615, 18446744073709551615, 9223373136366403583], u64s [1, 0, 0, 9223370937343148032]] (.tuple #[u64s [1, 0, 0, 0], u64s [18446744073709551614, 18446744073709551615, 18446744073709551615, 2199023255551], .int .i64 0])) (orP (memoP [u64s [10000000000, 0, 0, 0], u64s [100000000, 0, 0, 0]] (.tuple #[u64s [100, 0, 0, 0], u64s [0, 0, 0, 0], .int .i64 0])) (orP (memoP [u64s [5000, 0, 0, 0], u64s [1000, 0, 0, 0]] (.tuple #[u64s [5, 0, 0, 0], u64s [0, 0, 0, 0], .int .i64 0])) (memoP [u64s [110000, 0, 0, 0], u64s [1000, 0, 0, 0]] (.tuple #[u64s [110, 0, 0, 0], u64s [0, 0, 0, 0], .int .i64 0])))))
theorem divP_at : PrimOk1 Tryz.prog 158 divP := (PrimOk1.or divAt0 (PrimOk1.or divAt1 (PrimOk1.or divAt2 divAt3)))
theorem divP_good : PrimGood1 divP := (PrimGood1.or (memoP_good _ _) (PrimGood1.or (memoP_good _ _) (PrimGood1.or (memoP_good _ _) (memoP_good _ _))))
theorem whoAt0 : PrimOk1 Tryz.prog 163 (sortedP 216 [] []) := sortedP_ok whoN_ok (by kernel_rfl) (by kernel_rfl) fun vs hv => by
  obtain rfl : vs = [] := List.eq_nil_of_length_eq_zero hv
  exact outs_of who0
theorem whoAt1 : PrimOk1 Tryz.prog 163 (sortedP 216 (u8s [1]) (u8s [1])) := sortedP_ok whoN_ok (by kernel_rfl) (by kernel_rfl) fun vs hv => by
  match vs, hv with
  | [v], _ => exact outs_of (who1 v)
theorem whoAt2 : PrimOk1 Tryz.prog 163 (sortedP 216 (u8s [1, 2]) (u8s [1, 2])) := sortedP_ok whoN_ok (by kernel_rfl) (by kernel_rfl) fun vs hv => by
  match vs, hv with
  | [v, x], _ => exact outs_of (who2 v x)
def whoP : Prim := (orP (sortedP 216 [] []) (orP (sortedP 216 (u8s [1]) (u8s [1])) (sortedP 216 (u8s [1, 2]) (u8s [1, 2]))))
theorem whoP_at : PrimOk1 Tryz.prog 163 whoP := (PrimOk1.or whoAt0 (PrimOk1.or whoAt1 whoAt2))
theorem whoP_good : PrimGood1 whoP := (PrimGood1.or (sortedP_good _ _ _) (PrimGood1.or (sortedP_good _ _ _) (sortedP_good _ _ _)))
def prims3 : List (Nat × Prim) := [(213, add64P), (266, sub64P), (290, blkP)]
theorem prims3_ok : ∀ e ∈ prims3, PrimOk1 Tryz.prog e.1 e.2 ∧ PrimGood1 e.2 := by
  intro e he
  simp only [prims3, List.mem_cons, List.not_mem_nil, or_false] at he
  rcases he with rfl | rfl | rfl
  · exact ⟨add64_at, add64_good⟩
  · exact ⟨sub64_at, sub64_good⟩
  · exact ⟨blkP_at, blkP_good⟩
def c3 : Ctx := ctxOf prims3
theorem c3_call (f : Nat) : SCall Tryz.prog c3 f := (ctx_sound prims3 prims3_ok f).call
theorem dbl0 : chkG ((Fast.evS c3 100000).call 190 [.slice (some ⟨0, 0, some 0⟩) 80 80] ⟨H1 (.cells (some 1) (u8s [1, 0, 0, 0, 0, 0, 0, 0, 0, 0, 0, 0, 0, 0, 0, 0, 0, 0, 0, 0, 0, 0, 0, 0, 0, 0, 0, 0, 0, 0, 0, 0, 0, 0, 0, 0, 0, 0, 0, 0, 0, 0, 0, 0, 0, 0, 0, 0, 0, 0, 0, 0, 0, 0, 0, 0, 0, 0, 0, 0, 0, 0, 0, 0, 0, 0, 0, 0, 232, 3, 0, 0, 255, 255, 127, 32, 0, 0, 0, 0])), [], true⟩) (.agg ⟨u8s [61, 203, 117, 189, 137, 197, 20, 104, 21, 221, 192, 209, 215, 49, 76, 183, 70, 25, 253, 247, 43, 253, 106, 115, 55, 132, 161, 91, 255, 182, 29, 187]⟩) (some 1) (u8s [1, 0, 0, 0, 0, 0, 0, 0, 0, 0, 0, 0, 0, 0, 0, 0, 0, 0, 0, 0, 0, 0, 0, 0, 0, 0, 0, 0, 0, 0, 0, 0, 0, 0, 0, 0, 0, 0, 0, 0, 0, 0, 0, 0, 0, 0, 0, 0, 0, 0, 0, 0, 0, 0, 0, 0, 0, 0, 0, 0, 0, 0, 0, 0, 0, 0, 0, 0, 232, 3, 0, 0, 255, 255, 127, 32, 0, 0, 0, 0]) = true := by kernel_rfl
theorem dblAt0 : PrimOk1 Tryz.prog 190 (memoG (some 0) (some 1) (u8s [1, 0, 0, 0, 0, 0, 0, 0, 0, 0, 0, 0, 0, 0, 0, 0, 0, 0, 0, 0, 0, 0, 0, 0, 0, 0, 0, 0, 0, 0, 0, 0, 0, 0, 0, 0, 0, 0, 0, 0, 0, 0, 0, 0, 0, 0, 0, 0, 0, 0, 0, 0, 0, 0, 0, 0, 0, 0, 0, 0, 0, 0, 0, 0, 0, 0, 0, 0, 232, 3, 0, 0, 255, 255, 127, 32, 0, 0, 0, 0]) (.agg ⟨u8s [61, 203, 117, 189, 137, 197, 20, 104, 21, 221, 192, 209, 215, 49, 76, 183, 70, 25, 253, 247, 43, 253, 106, 115, 55, 132, 161, 91, 255, 182, 29, 187]⟩)) := memoG_ok c3_call (some 0) (some 1) _ _ 100000 (by kernel_rfl) (by kernel_rfl) (by rw [evCall_run]; exact chkG_ok dbl0)
theorem dbl1 : chkG ((Fast.evS c3 100000).call 190 [.slice (some ⟨0, 0, some 0⟩) 80 80] ⟨H1 (.cells (some 1) (u8s [1, 0, 0, 0, 0, 0, 0, 0, 0, 0, 0, 0, 0, 0, 0, 0, 0, 0, 0, 0, 0, 0, 0, 0, 0, 0, 0, 0, 0, 0, 0, 0, 0, 0, 0, 0, 0, 0, 0, 0, 0, 0, 0, 0, 0, 0, 0, 0, 0, 0, 0, 0, 0, 0, 0, 0, 0, 0, 0, 0, 0, 0, 0, 0, 0, 0, 0, 0, 232, 3, 0, 0, 255, 255, 127, 32, 1, 0, 0, 0])), [], true⟩) (.agg ⟨u8s [64, 212, 44, 169, 105, 242, 46, 26, 213, 113, 80, 86, 103, 22, 131, 220, 56, 26, 102, 175, 166, 60, 188, 192, 220, 97, 234, 162, 38, 110, 30, 39]⟩) (some 1) (u8s [1, 0, 0, 0, 0, 0, 0, 0, 0, 0, 0, 0, 0, 0, 0, 0, 0, 0, 0, 0, 0, 0, 0, 0, 0, 0, 0, 0, 0, 0, 0, 0, 0, 0, 0, 0, 0, 0, 0, 0, 0, 0, 0, 0, 0, 0, 0, 0, 0, 0, 0, 0, 0, 0, 0, 0, 0, 0, 0, 0, 0, 0, 0, 0, 0, 0, 0, 0, 232, 3, 0, 0, 255, 255, 127, 32, 1, 0, 0, 0]) = true := by kernel_rfl
theorem dblAt1 : PrimOk1 Tryz.prog 190 (memoG (some 0) (some 1) (u8s [1, 0, 0, 0, 0, 0, 0, 0, 0, 0, 0, 0, 0, 0, 0, 0, 0, 0, 0, 0, 0, 0, 0, 0, 0, 0, 0, 0, 0, 0, 0, 0, 0, 0, 0, 0, 0, 0, 0, 0, 0, 0, 0, 0, 0, 0, 0, 0, 0, 0, 0, 0, 0, 0, 0, 0, 0, 0, 0, 0, 0, 0, 0, 0, 0, 0, 0, 0, 232, 3, 0, 0, 255, 255, 127, 32, 1, 0, 0, 0]) (.agg ⟨u8s [64, 212, 44, 169, 105, 242, 46, 26, 213, 113, 80, 86, 103, 22, 131, 220, 56, 26, 102, 175, 166, 60, 188, 192, 220, 97, 234, 162, 38, 110, 30, 39]⟩)) := memoG_ok c3_call (some 0) (some 1) _ _ 100000 (by kernel_rfl) (by kernel_rfl) (by rw [evCall_run]; exact chkG_ok dbl1)
def dblP : Prim := (orP (memoG (some 0) (some 1) (u8s [1, 0, 0, 0, 0, 0, 0, 0, 0, 0, 0, 0, 0, 0, 0, 0, 0, 0, 0, 0, 0, 0, 0, 0, 0, 0, 0, 0, 0, 0, 0, 0, 0, 0, 0, 0, 0, 0, 0, 0, 0, 0, 0, 0, 0, 0, 0, 0, 0, 0, 0, 0, 0, 0, 0, 0, 0, 0, 0, 0, 0, 0, 0, 0, 0, 0, 0, 0, 232, 3, 0, 0, 255, 255, 127, 32, 0, 0, 0, 0]) (.agg ⟨u8s [61, 203, 117, 189, 137, 197, 20, 104, 21, 221, 192, 209, 215, 49, 76, 183, 70, 25, 253, 247, 43, 253, 106, 115, 55, 132, 161, 91, 255, 182, 29, 187]⟩)) (memoG (some 0) (some 1) (u8s [1, 0, 0, 0, 0, 0, 0, 0, 0, 0, 0, 0, 0, 0, 0, 0, 0, 0, 0, 0, 0, 0, 0, 0, 0, 0, 0, 0, 0, 0, 0, 0, 0, 0, 0, 0, 0, 0, 0, 0, 0, 0, 0, 0, 0, 0, 0, 0, 0, 0, 0, 0, 0, 0, 0, 0, 0, 0, 0, 0, 0, 0, 0, 0, 0, 0, 0, 0, 232, 3, 0, 0, 255, 255, 127, 32, 1, 0, 0, 0]) (.agg ⟨u8s [64, 212, 44, 169, 105, 242, 46, 26, 213, 113, 80, 86, 103, 22, 131, 220, 56, 26, 102, 175, 166, 60, 188, 192, 220, 97, 234, 162, 38, 110, 30, 39]⟩)))
theorem dblP_at : PrimOk1 Tryz.prog 190 dblP := (PrimOk1.or dblAt0 dblAt1)
theorem dblP_good : PrimGood1 dblP := (PrimGood1.or (memoG_good _ _ _ _) (memoG_good _ _ _ _))
def prims4 : List (Nat × Prim) := [(213, add64P), (266, sub64P), (190, dblP), (158, divP), (163, whoP)]
theorem prims4_ok : ∀ e ∈ prims4, PrimOk1 Tryz.prog e.1 e.2 ∧ PrimGood1 e.2 := by
  intro e he
  simp only [prims4, List.mem_cons, List.not_mem_nil, or_false] at he
  rcases he with rfl | rfl | rfl | rfl | rfl
  · exact ⟨add64_at, add64_good⟩
  · exact ⟨sub64_at, sub64_good⟩
  · exact ⟨dblP_at, dblP_good⟩
  · exact ⟨divP_at, divP_good⟩
  · exact ⟨whoP_at, whoP_good⟩
def c4 : Ctx := ctxOf prims4
theorem c4_call (f : Nat) : SCall Tryz.prog c4 f := (ctx_sound prims4 prims4_ok f).call
end
end Go.Proofs.YtkfaaeefbndkjaaGreat
