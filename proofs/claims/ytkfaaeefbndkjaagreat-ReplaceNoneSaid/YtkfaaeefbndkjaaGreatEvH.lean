/-
  Each operation, on: arithmetic, conversions, slices, fields, elements, maps.
-/
import Derived.Test.YtkfaaeefbndkjaaGreatEvG
namespace Go.EV
open Go.RowKit (Below)
section
variable {B0 : Nat} {w0 : World} {J : Inj} {h h' : H} {w : World} {P : Program} {c : Ctx} {v : Value}

theorem VR.int_inv {J : Inj} {k : IntKind} {n : Int} {x' : Value} (hv : VR J (.int k n) x') : x' = .int k n := by cases hv; rfl
theorem VR.bool_inv {J : Inj} {b : Bool} {x' : Value} (hv : VR J (.bool b) x') : x' = .bool b := by cases hv; rfl
theorem VR.string_inv {J : Inj} {s : ByteArray} {x' : Value} (hv : VR J (.string s) x') : x' = .string s := by cases hv; rfl

theorem PR.pure_val {x : Option Value} {v : Value} (he : PR.pure h x = .val v h') : h' = h ∧ x = some v := by
  cases x with
  | none => simp [PR.pure] at he
  | some y => simp [PR.pure] at he; exact ⟨he.2.symm, by rw [he.1]⟩

theorem VR.not_float {J : Inj} {x x' : Value} (hv : VR J x x') : (∀ k a, x' ≠ .float k a) ∧ (∀ k a b, x' ≠ .complex k a b) := by
  cases hv <;> exact ⟨fun _ _ e => Value.noConfusion e, fun _ _ _ e => Value.noConfusion e⟩

theorem op_binOp (hT : Tbl P c) (hI : Inv B0 w0 J h w) {ρ ρ' : Operand → Value} {op : BinOp} {t u : TypeId} {x y : Operand} {o : Oper} (ho : o.op = .binOp op t x y u) (hx : VR J (ρ x) (ρ' x)) (hy : VR J (ρ y) (ρ' y)) (he : evOp c ρ (.binOp op t x y u) h = .val v h') :
    OpOk B0 w0 ((execOp ρ' o).run P w) J h w v h' := by
  simp only [evOp] at he
  obtain ⟨rfl, hb⟩ := PR.pure_val he
  have key : ∀ v', (eqGuard op t x y (ρ' x) (ρ' y)).run P w = .ok () w → (Go.binOp op t (ρ' x) (ρ' y)).run P w = .ok v' w → VR J v v' → OpOk B0 w0 ((execOp ρ' o).run P w) J h' w v h' := by
    intro v' h1 h2 h3
    refine OpOk.stay hI (v' := v') ?_ h3
    simp [execOp, ho, h1, h2]
  unfold binop at hb
  split at hb
  · rename_i k a k' b hs hρx hρy
    rw [hρx] at hx; rw [hρy] at hy
    have e1 := hx.int_inv; have e2 := hy.int_inv
    have hb2 : decide (b < 0) = false := by
      cases hd : decide (b < 0) with
      | false => rfl
      | true => simp [binShift, hd] at hb
    have hlt : ¬ b < 0 := by simpa using hb2
    have hg := eqGuard_int (P := P) (w := w) op t x y (a := ρ' x) (b := ρ' y) (by rw [e1]; simp) (by rw [e1]; simp)
    cases op <;> simp [isShift] at hs
    · simp only [binShift, hb2] at hb
      cases hb
      exact key _ hg (by rw [e1, e2]; simp [Go.binOp, Op.shift, hlt]) (.int _ _)
    · simp only [binShift, hb2] at hb
      cases hb
      exact key _ hg (by rw [e1, e2]; simp [Go.binOp, Op.shift, hlt]) (.int _ _)
  · rename_i k a k' b hs hρx hρy
    rw [hρx] at hx; rw [hρy] at hy
    have e1 := hx.int_inv; have e2 := hy.int_inv
    split at hb
    · rename_i hk
      have hk : k = k' := by simpa using hk
      subst hk
      obtain ⟨h1, h2⟩ := binI_rel (P := P) (w := w) (J := J) hs hb t
      exact key _ (eqGuard_int _ _ _ _ (by rw [e1]; simp) (by rw [e1]; simp)) (by rw [e1, e2]; exact h1) h2
    · cases hb
  · rename_i a b hs hρx hρy
    rw [hρx] at hx; rw [hρy] at hy
    have e1 := hx.string_inv; have e2 := hy.string_inv
    have hg := eqGuard_int (P := P) (w := w) op t x y (a := ρ' x) (b := ρ' y) (by rw [e1]; simp) (by rw [e1]; simp)
    unfold binS at hb
    split at hb
    · split at hb
      · cases hb
      · rename_i hlt
        cases hb
        have hlt : ¬ (((a.size + b.size : Nat) : Int) > IntKind.i64.max) := by simpa using hlt
        refine key _ hg ?_ (.string _)
        rw [e1, e2]
        simp only [Go.binOp, Op.stringOp, hlt, if_false, Sem.run_pure]
    · cases hb; exact key _ hg (by rw [e1, e2]; simp [Go.binOp, Op.stringOp]) (.bool _)
    · cases hb; exact key _ hg (by rw [e1, e2]; simp [Go.binOp, Op.stringOp]) (.bool _)
    · cases hb
  · rename_i hs n1 n2
    split at hb
    · rename_i r hq
      cases hb
      unfold eqT at hq
      split at hq
      · rename_i ds ti hfl hti
        obtain ⟨⟨f, hle, hf⟩, hg⟩ := hT.fl _ _ hfl
        have hk := hT.tt _ _ hti
        rw [hk.agg] at hq
        have hrun := cmpV_run hf (by omega) hI hx hy hq
        obtain ⟨hsh, hni⟩ := cmpV_shape hx hy hq
        refine key _ (eqGuard_flat hg hni) ?_ (.bool _)
        rw [(binOp_eq_other (fun k a l b e => ?_) (fun k a l b e => hx.not_float.1 _ _ e.1) (fun k a b l p q e => hx.not_float.2 _ _ _ e.1) (fun a b e => ?_)).1]
        · simp [hrun]
        · rcases hsh k a l b with q | ⟨_, _, _, q1, q2⟩
          · exact q e
          · exact n1 _ _ _ _ q1 q2
        · obtain ⟨e1, e2⟩ := e
          rw [e1] at hx; rw [e2] at hy
          cases hρx : ρ x <;> rw [hρx] at hx <;> cases hx
          cases hρy : ρ y <;> rw [hρy] at hy <;> cases hy
          exact n2 _ _ hρx hρy
      · cases hq
    · rename_i r hq
      cases hb
      unfold eqT at hq
      split at hq
      · rename_i ds ti hfl hti
        obtain ⟨⟨f, hle, hf⟩, hg⟩ := hT.fl _ _ hfl
        have hk := hT.tt _ _ hti
        rw [hk.agg] at hq
        have hrun := cmpV_run hf (by omega) hI hx hy hq
        obtain ⟨hsh, hni⟩ := cmpV_shape hx hy hq
        refine key _ (eqGuard_flat hg hni) ?_ (.bool _)
        rw [(binOp_eq_other (fun k a l b e => ?_) (fun k a l b e => hx.not_float.1 _ _ e.1) (fun k a b l p q e => hx.not_float.2 _ _ _ e.1) (fun a b e => ?_)).2]
        · simp [hrun]
        · rcases hsh k a l b with q | ⟨_, _, _, q1, q2⟩
          · exact q e
          · exact n1 _ _ _ _ q1 q2
        · obtain ⟨e1, e2⟩ := e
          rw [e1] at hx; rw [e2] at hy
          cases hρx : ρ x <;> rw [hρx] at hx <;> cases hx
          cases hρy : ρ y <;> rw [hρy] at hy <;> cases hy
          exact n2 _ _ hρx hρy
      · cases hq
    · cases hb
  · cases hb
end
end Go.EV
