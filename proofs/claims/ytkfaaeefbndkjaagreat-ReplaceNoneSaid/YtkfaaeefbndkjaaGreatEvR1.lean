/-
  From the evaluator's run of a law to the row's own words.
-/
import Derived.Test.YtkfaaeefbndkjaaGreatEvZ2
import Derived.ChangeSame
import Derived.Below
namespace Go.EV
open Go.RowKit (Below)
theorem calls_of_run {P : Program} {c : Ctx} {f k : Nat} {args : List Value} {v : Value} (hS : SCall P c f) (hr : okAs (evCall c f k args ⟨H0, [], true⟩) v) (hp : c.prim k = none) (ha : allB pureV args = true) (hv : pureV v = true) (w : World) :
    Calls P k args.toArray w fun e w' => e = .returned v ∧ Below w.heap.size w w' := by
  obtain ⟨s', h1, h2⟩ := hr
  have hI0 : InvA w.heap.size w (fun _ => none) H0 w := ⟨⟨Nat.le_refl _, Below.refl _ _, fun b o hb => by simp [H0, H.get, T.get_leaf] at hb, fun b b' o o' i i' hb => by simp [H0, H.get, T.get_leaf] at hb⟩, fun b _ => rfl⟩
  refine ((hS k args _ v s' h1 h2 w.heap.size w _ w args hI0 (LV.of_pureV ha)).2 hp).2.mono ?_
  rintro e w' ⟨v', rfl, J', st, hvr⟩
  rw [VR.pureV_eq hv hvr]
  exact ⟨rfl, st.inv.below⟩
end Go.EV
namespace Go.ChangeShapes
open Go.WideShapes
/-- A law over arguments without addresses: what lay there before lies there still. -/
theorem post_of_below {H : Type} {enc : TypeId × Value → H} {P : Program} {f : Func} {s : ChangeSpec} {apart fresh handsOn again : Bool} {W W' : World} {args : Array Value} {v : Value} {ds gs : List (DataW H)}
    (hW : DataW.Whole enc P f.params.toList s.vars apart W args.toList ds gs [])
    (hres : ∀ (b : Nat) (sp : Nat → Bool) (hd : Bool), DataW.TrodAll enc P W' b sp hd f.resultTypes.toList (v.resultList f.resultTypes.size) (s.fn H (ds ++ gs)).results [])
    (hargs : ∀ sp : Nat → Bool, DataW.TrodAll enc P W' 0 sp true f.params.toList args.toList (s.fn H (ds ++ gs)).args [])
    (hvars : ∀ sp : Nat → Bool, DataW.TrodVars enc P W' sp s.vars (s.fn H (ds ++ gs)).vars [])
    (hB : RowKit.Below W.heap.size W W')
    (hok : ∀ (j : Nat) (t : TypeId) (r : Value), f.resultTypes[j]? = some t → (v.resultList f.resultTypes.size)[j]? = some r → Value.okWide P W' .any 0 t r) :
    s.post enc P f apart fresh handsOn again W args v W' := by
  refine ⟨ds, gs, [], [], [], [], hW, hres _ _ _, hargs _, hvars _, hB.frame _, fun _ => ?_⟩
  obtain ⟨_, _, _, _, _, hz, hn⟩ := hW
  refine ⟨hok, _, _, [], ⟨[], [], trodAll_append (hargs _) (hres _ _ _), hvars _, rfl, ?_, ?_⟩, fun p hp _ => by cases hp⟩
  · intro b off hp
    cases hp
  · intro ha
    exact List.nodup_nil
end Go.ChangeShapes
