/-
  Known answers at a slice over a whole block of plain cells.
-/
import Derived.Test.YtkfaaeefbndkjaaGreatEvY
namespace Go.EV
noncomputable section
def memoG (spot vec : Option Nat) (cs : List Value) (v : Value) : Prim := fun args h => match args with
  | [.slice (some a) n cap] => match Nat.beq a.off 0, eqO a.spot spot, Nat.beq n cs.length, Nat.beq cap cs.length, h.get a.block with
    | true, true, true, true, some (.cells vec' cs') => match eqO vec' vec, eqL cs' cs with
      | true, true => some (v, h)
      | _, _ => none
    | _, _, _, _, _ => none
  | _ => none
theorem memoG_good (spot vec : Option Nat) (cs : List Value) (v : Value) : PrimGood1 (memoG spot vec cs v) := .same fun args h v h' hp => by
  unfold memoG at hp
  repeat' split at hp
  all_goals first | (cases hp; rfl) | cases hp
theorem memoG_ok {P : Program} {c : Ctx} {k : Nat} (hS : ∀ f, SCall P c f) (spot vec : Option Nat) (cs : List Value) (v : Value) (f : Nat) (hv : pureR v = true) (ha : allB pure0 cs = true)
    (hr : okAs1 (evCall c f k [.slice (some ⟨0, 0, spot⟩) cs.length cs.length] ⟨H1 (.cells vec cs), [], true⟩) v (.cells vec cs)) : PrimOk1 P k (memoG spot vec cs v) := by
  refine PrimOk1.slice hS fun args h v' h' hp => ?_
  unfold memoG at hp
  split at hp
  · rename_i a n cap
    split at hp
    · rename_i vec' cs' h1 h2 h3 h4 hg
      split at hp
      · rename_i h5 h6
        cases hp
        have e1 := Nat.eq_of_beq_eq_true h1
        have e2 := eqO_eq h2
        have e3 := Nat.eq_of_beq_eq_true h3
        have e4 := Nat.eq_of_beq_eq_true h4
        have e5 := eqO_eq h5
        have e6 := eqL_eq h6
        obtain ⟨b, off, spot'⟩ := a
        simp only at e1 e2 hg
        subst e1; subst e2; subst e3; subst e4; subst e5; subst e6
        obtain ⟨s', r1, r2, r3⟩ := hr
        exact ⟨rfl, hv, b, 0, spot', _, _, vec', cs', rfl, hg, ha, f, s', r1, r2, r3⟩
      · cases hp
    · cases hp
  · cases hp
def chkG (r : R Value) (v : Value) (vec : Option Nat) (cs : List Value) : Bool := match r with
  | .ok v' s => match eqR v' v, s.ob, s.h.get 0 with
    | true, true, some (.cells vec' cs') => match eqO vec' vec with
      | true => eqL cs' cs
      | false => false
    | _, _, _ => false
  | .err _ => false
theorem chkG_ok {r : R Value} {v : Value} {vec : Option Nat} {cs : List Value} (h : chkG r v vec cs = true) : okAs1 r v (.cells vec cs) := by
  unfold chkG at h
  split at h
  · rename_i v' s
    split at h
    · rename_i vec' cs' e1 e2 e3
      split at h
      · rename_i e4
        exact ⟨s, by rw [eqR_eq e1], e2, by rw [e3, eqO_eq e4, eqL_eq h]⟩
      · cases h
    · cases h
  · cases h
end
end Go.EV
