/-
  maps.Keys' iterator, as the library's text has it, at whatever types.
-/
import Derived.Test.YtkfaaeefbndkjaaGreatEvK3
namespace Go.EV
noncomputable section
def keysKF (tm tk ty : Nat) : KF where
  o1 := { dst := some 4, op := .load tm (.tmp 1), type := tm, pos := "iter.go:27", after := #[], guard := none }
  o2 := { dst := some 5, op := .range tm (.tmp 4), type := 0, pos := "iter.go:27", after := #[{ on := 0, ground := .data }], guard := none }
  src := 4
  ty := tm
  B := {
    on := { dst := some 6, op := .next (.tmp 5) false, type := 0, pos := "iter.go:27", after := #[], guard := none }
    r1 := [{ dst := some 7, op := .extract (.tmp 6) 0, type := 4, pos := "iter.go:27", after := #[{ on := 0, ground := .data }], guard := none }]
    c1 := .cond (.tmp 7) .skip (.exit 0)
    oe := { dst := some 8, op := .entry (.tmp 5), type := 0, pos := "iter.go:27", after := #[], guard := none }
    r2 := [{ dst := some 9, op := .extract (.tmp 8) 0, type := tk, pos := "iter.go:27", after := #[{ on := 0, ground := .data }], guard := none },
      { dst := some 3, op := .assign (.tmp 9), type := tk, pos := "iter.go:27", after := #[{ on := 1, ground := .data }, { on := 0, ground := .phase }, { on := 1, ground := .phase }], guard := none }]
    c4 := .seq (.region 3 #[{ dst := some 10, op := .move (.tmp 0), type := ty, pos := "iter.go:28", after := #[], guard := none },
      { dst := some 11, op := .move (.tmp 3), type := tk, pos := "iter.go:28", after := #[], guard := none },
      { dst := some 12, op := .call { callee := .value (.tmp 10), args := #[.tmp 11], argTypes := #[tk] }, type := 4, pos := "iter.go:28", after := #[{ on := 0, ground := .data }, { on := 1, ground := .data }], guard := none },
      { dst := some 13, op := .unOp .not 4 (.tmp 12), type := 4, pos := "iter.go:28", after := #[{ on := 2, ground := .data }], guard := none }] false)
      (.cond (.tmp 13) .ret .skip)
    it := 5 }
theorem keysKF_ok {P : Program} {tm tk ty : Nat} (h : ∃ k e, P.underlying tm = some (.map k e)) : (keysKF tm tk ty).Ok P :=
  ⟨⟨rfl, rfl, rfl, rfl, rfl, rfl, rfl, rfl⟩, rfl, rfl, rfl, rfl, h⟩
def bodyOf (fn : Func) : Code := match fn.body with
  | some b => b
  | none => .skip
theorem outs_of {X : Option (List (Value × St))} {n : Nat} {t : Option (Nat × Option Nat × Nat × Nat × Bool) × Option Ob × Option Ob × Option Ob} (h : X.map (List.map projS) = some (List.replicate n t)) : ∃ outs, X = some outs ∧ ∀ o ∈ outs, projS o = t := by
  cases X with
  | none => cases h
  | some outs =>
    simp only [Option.map_some, Option.some.injEq] at h
    refine ⟨outs, rfl, fun o ho => ?_⟩
    have : projS o ∈ List.map projS outs := List.mem_map_of_mem ho
    rw [h] at this
    exact (List.mem_replicate.1 this).2
/-- The numbers of a family of functions: slices.Sorted, Collect, AppendSeq, the iterator of maps.Keys. -/
structure SortedAt (P : Program) (c : Ctx) (kS kC kA kK tm tk ty : Nat) (fS fC fA fK : Func) : Prop where
  S : FnOk P kS fS
  C : FnOk P kC fC
  A : FnOk P kA fA
  K : FnOk P kK fK
  bS : fS.body = some (bodyOf fS)
  bC : fC.body = some (bodyOf fC)
  bA : fA.body = some (bodyOf fA)
  bK : fK.body = some ((keysKF tm tk ty).code 0 1 2)
  oS : okC (bodyOf fS) = true
  oC : okC (bodyOf fC) = true
  oA : okC (bodyOf fA) = true
  und : ∃ k e, P.underlying tm = some (.map k e)
def cnK (c : Ctx) (f kK tm tk ty : Nat) (fK : Func) : CallN := cnOf kK (runN c fK (kCode c f (keysKF tm tk ty)))
def cnUp (c : Ctx) (f : Nat) (cn : CallN) (k : Nat) (fn : Func) : CallN := cnOf k (runN c fn (evN c f cn (bodyOf fn)))
def cnS (c : Ctx) (f kS kC kA kK tm tk ty : Nat) (fS fC fA fK : Func) : CallN := cnUp c f (cnUp c f (cnUp c f (cnK c f kK tm tk ty fK) kA fA) kC fC) kS fS
theorem cnS_ok {P : Program} {c : Ctx} (hT : Tbl P c) (hS : ∀ f, SAll P c f) (hg : ∀ f, GoodF c f) {f kS kC kA kK tm tk ty : Nat} {fS fC fA fK : Func} (h : SortedAt P c kS kC kA kK tm tk ty fS fC fA fK) : NOk P (cnS c f kS kC kA kK tm tk ty fS fC fA fK) := by
  have h0 : NOk P (cnK c f kK tm tk ty fK) := cnOf_ok hT h.K h.bK fun tm' s outs he => kCode_ok hS hg (keysKF_ok h.und) 0 1 2 he
  have h1 : NOk P (cnUp c f (cnK c f kK tm tk ty fK) kA fA) := cnOf_ok hT h.A h.bA fun tm' s outs he => evN_ok hS h0 _ _ _ _ he h.oA
  have h2 : NOk P (cnUp c f (cnUp c f (cnK c f kK tm tk ty fK) kA fA) kC fC) := cnOf_ok hT h.C h.bC fun tm' s outs he => evN_ok hS h1 _ _ _ _ he h.oC
  exact cnOf_ok hT h.S h.bS fun tm' s outs he => evN_ok hS h2 _ _ _ _ he h.oS
end
end Go.EV
