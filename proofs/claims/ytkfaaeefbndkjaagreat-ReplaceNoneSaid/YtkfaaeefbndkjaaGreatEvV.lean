/-
  Functions that the evaluator takes as known: how such a table is shown right, out of the evaluator's own word.
-/
import Derived.Test.YtkfaaeefbndkjaaGreatEvU
namespace Go.EV
noncomputable section
open Go.RowKit (Below)

abbrev Prim := List Value → H → Option (Value × H)
def PrimOk1 (P : Program) (k : Nat) (p : Prim) : Prop := ∀ (B0 : Nat) (w0 : World) J h w args args' v h', InvA B0 w0 J h w → LV J args args' → p args h = some (v, h') →
  CF P k args'.toArray w fun v' w' => ∃ J', Stp B0 w0 J h w J' h' w' ∧ VR J' v v'
def PrimGood1 (p : Prim) : Prop := ∀ args h v h', p args h = some (v, h') → GH h h'

def primT : List (Nat × Prim) → Nat → Option Prim
  | [], _ => none
  | (k', p) :: r, k => match Nat.beq k' k with
    | true => some p
    | false => primT r k
theorem primT_mem : ∀ {l : List (Nat × Prim)} {k : Nat} {p : Prim}, primT l k = some p → (k, p) ∈ l
  | [], k, p, h => by cases h
  | (k', q) :: r, k, p, h => by
    unfold primT at h
    split at h
    · rename_i e
      cases h
      have := Nat.eq_of_beq_eq_true e
      subst this; simp
    · exact List.mem_cons_of_mem _ (primT_mem h)
theorem PrimOk.of_list {P : Program} {c : Ctx} {l : List (Nat × Prim)} (hc : c.prim = primT l) (h : ∀ e ∈ l, PrimOk1 P e.1 e.2) : PrimOk P c := fun k p hp => by
  rw [hc] at hp
  exact h _ (primT_mem hp)
theorem PrimGood.of_list {c : Ctx} {l : List (Nat × Prim)} (hc : c.prim = primT l) (h : ∀ e ∈ l, PrimGood1 e.2) : PrimGood c := fun k p hp => by
  rw [hc] at hp
  exact h _ (primT_mem hp)

def orP (p q : Prim) : Prim := fun a h => match p a h with
  | some r => some r
  | none => q a h
theorem PrimOk1.or {P : Program} {k : Nat} {p q : Prim} (hp : PrimOk1 P k p) (hq : PrimOk1 P k q) : PrimOk1 P k (orP p q) := by
  intro B0 w0 J h w args args' v h' hI hl he
  unfold orP at he
  split at he
  · rename_i r hr
    cases he
    exact hp B0 w0 J h w args args' v h' hI hl hr
  · exact hq B0 w0 J h w args args' v h' hI hl he
theorem PrimGood1.or {p q : Prim} (hp : PrimGood1 p) (hq : PrimGood1 q) : PrimGood1 (orP p q) := by
  intro args h v h' he
  unfold orP at he
  split at he
  · rename_i r hr
    cases he
    exact hp args h v h' hr
  · exact hq args h v h' he

/-! ### Values without addresses -/
section
variable {J J' : Inj}
theorem VR.pure0_eq {v v' : Value} (h : pure0 v = true) (hv : VR J v v') : v' = v := by
  cases hv <;> first | rfl | simp [pure0] at h
theorem LV.pure0_eq : ∀ {l l' : List Value}, allB pure0 l = true → LV J l l' → l' = l
  | [], l', _, hl => hl.nil_left
  | x :: r, l', h, hl => by
    obtain ⟨y, r', rfl, h1, h2⟩ := hl.cons_left
    simp only [allB] at h
    split at h
    · rename_i hx
      rw [VR.pure0_eq hx h1, LV.pure0_eq h h2]
    · cases h
theorem VR.pureV_eq {v v' : Value} (h : pureV v = true) (hv : VR J v v') : v' = v := by
  cases v with
  | agg a =>
    obtain ⟨l⟩ := a
    cases hv with
    | agg h1 h2 => rw [LV.pure0_eq (l := l) h ⟨h1, h2⟩]
  | _ => exact VR.pure0_eq h hv
theorem LV.pureV_eq : ∀ {l l' : List Value}, allB pureV l = true → LV J l l' → l' = l
  | [], l', _, hl => hl.nil_left
  | x :: r, l', h, hl => by
    obtain ⟨y, r', rfl, h1, h2⟩ := hl.cons_left
    simp only [allB] at h
    split at h
    · rename_i hx
      rw [VR.pureV_eq hx h1, LV.pureV_eq h h2]
    · cases h
theorem LV.of_pureV {l : List Value} (h : allB pureV l = true) : LV J l l := ⟨rfl, fun i x x' a b => by
  rw [a] at b; cases b
  exact VR.of_pure J (allB_mem h x (List.mem_of_getElem? a))⟩
def pureR : Value → Bool
  | .tuple vs => allB pureV vs.toList
  | v => pureV v
theorem VR.pureR_move {v v' : Value} (h : pureR v = true) (hv : VR J v v') : VR J' v v' := by
  cases v with
  | tuple a =>
    obtain ⟨l⟩ := a
    cases hv with
    | tuple h1 h2 =>
      rename_i a'
      rw [LV.pureV_eq (l := l) h ⟨h1, h2⟩]
      have := LV.of_pureV (J := J') (l := l) h
      exact .tuple this.1 this.2
  | _ => rw [VR.pureV_eq (by exact h) hv]; exact VR.of_pure J' (by exact h)
theorem LV.pure0_move {l l' : List Value} (h : allB pure0 l = true) (hl : LV J l l') : LV J' l l' := by
  rw [LV.pure0_eq h hl]
  refine ⟨rfl, fun i x x' a b => ?_⟩
  rw [a] at b; cases b
  exact VR.of_pure0 J' (allB_mem h x (List.mem_of_getElem? a))
end

def H0 : H := ⟨.leaf, 0, []⟩

/-- A call without addresses, of whatever heap: by its run from none. -/
theorem PrimOk1.plain {P : Program} {c : Ctx} {k : Nat} {p : Prim} (hS : ∀ f, SCall P c f)
    (hp : ∀ args h v h', p args h = some (v, h') → h' = h ∧ pureR v = true ∧ allB pureV args = true ∧ ∃ f s', evCall c f k args ⟨H0, [], true⟩ = .ok v s' ∧ s'.ob = true) : PrimOk1 P k p := by
  intro B0 w0 J h w args args' v h' hI hl he
  obtain ⟨rfl, hv, ha, f, s', hr, hob⟩ := hp args h v h' he
  have e := LV.pureV_eq ha hl
  subst e
  have hI0 : InvA B0 w0 (fun _ => none) H0 w := ⟨⟨hI.base, hI.below, fun b o hb => by simp [H0, H.get, T.get_leaf] at hb, fun b b' o o' i i' hb => by simp [H0, H.get, T.get_leaf] at hb⟩, fun b _ => rfl⟩
  have hc := (hS f k args' ⟨H0, [], true⟩ v s' hr hob B0 w0 _ w args' hI0 (LV.of_pureV ha)).1
  refine hc.mono fun v' w' ⟨J1, st, hvr⟩ => ⟨J, ?_, hvr.pureR_move hv⟩
  refine ⟨J.le_refl, ⟨hI.base, st.inv.below, fun b o hb => ?_, hI.inj⟩, Nat.le_refl _, fun _ _ h => .inl h, ⟨st.fr.size, fun k hk _ => st.fr.keep k hk (fun b o i hb => by simp [H0, H.get, T.get_leaf] at hb), st.fr.loops⟩, fun b o i hb hi _ => ⟨b, o, i, hb, hi, rfl⟩⟩
  obtain ⟨i, q, r, s⟩ := hI.live b o hb
  exact ⟨i, q, r, s.same (st.fr.keep _ s.lt (fun b o i hb => by simp [H0, H.get, T.get_leaf] at hb))⟩

def H1 (o : Ob) : H := ⟨T.leaf.set 0 (some o), 1, []⟩
theorem H1_get (o : Ob) (b : Nat) : (H1 o).get b = if b = 0 then some o else none := by
  by_cases e : b = 0
  · subst e; simp [H1, H.get, T.get_set_same]
  · simp only [H1, H.get, if_neg e]; rw [T.get_set_ne _ _ (Ne.symm e), T.get_leaf]

/-- A call with one slice of plain cells, that is not written: by its run from a heap of that one. -/
theorem PrimOk1.slice {P : Program} {c : Ctx} {k : Nat} {p : Prim} (hS : ∀ f, SCall P c f)
    (hp : ∀ args h v h', p args h = some (v, h') → h' = h ∧ pureR v = true ∧ ∃ b off spot n cap vec cs, args = [.slice (some ⟨b, off, spot⟩) n cap] ∧ h.get b = some (.cells vec cs) ∧ allB pure0 cs = true ∧
      ∃ f s', evCall c f k [.slice (some ⟨0, off, spot⟩) n cap] ⟨H1 (.cells vec cs), [], true⟩ = .ok v s' ∧ s'.ob = true ∧ s'.h.get 0 = some (.cells vec cs)) : PrimOk1 P k p := by
  intro B0 w0 J h w args args' v h' hI hl he
  obtain ⟨rfl, hv, b, off, spot, n, cap, vec, cs, rfl, hb, hcs, f, s', hr, hob, hkeep⟩ := hp args h v h' he
  obtain ⟨i, hj, hi, hO⟩ := hI.live b _ hb
  obtain ⟨y, r, rfl, hy, hr2⟩ := hl.cons_left
  have := hr2.nil_left; subst this
  let J0 : Inj := fun x => if x = 0 then some i else none
  have hJ0 : J0 0 = some i := rfl
  have hmoveO : ∀ {Ja Jb : Inj} {w : World}, ObR Ja w i (.cells vec cs) → ObR Jb w i (.cells vec cs) := by
    rintro Ja Jb w ⟨arr, e, lo, hi, h1, h2, h3⟩
    refine ⟨arr, e, lo, hi, h1, fun k v hk => ?_, h3⟩
    obtain ⟨v', a, b⟩ := h2 k v hk
    have hp := allB_mem hcs v (List.mem_of_getElem? hk)
    rw [VR.pure0_eq hp b] at a
    exact ⟨v, a, VR.of_pure0 _ hp⟩
  have hy0 : VR J0 (.slice (some ⟨0, off, spot⟩) n cap) y := by
    cases hy with
    | slice h1 h2 h3 => rw [hj] at h1; cases h1; exact .slice hJ0 h2 h3
    | loose h1 h2 h3 => rw [hj] at h1; cases h1; exact .loose hJ0 h2 h3
  have hI0 : InvA B0 w0 J0 (H1 (.cells vec cs)) w := by
    refine ⟨⟨hI.base, hI.below, fun x o hx => ?_, fun x x' o o' i1 i2 hx hx' _ _ _ => ?_⟩, fun x hx => ?_⟩
    · rw [H1_get] at hx
      split at hx
      · rename_i e; subst e; cases hx; exact ⟨i, rfl, hi, hmoveO hO⟩
      · cases hx
    · rw [H1_get] at hx hx'
      split at hx <;> split at hx' <;> first | omega | (cases hx; done) | (cases hx'; done)
    · have : 1 ≤ x := hx
      show (if x = 0 then some i else none) = none
      rw [if_neg (by omega)]
  have hc := (hS f k _ ⟨H1 (.cells vec cs), [], true⟩ v s' hr hob B0 w0 _ w [y] hI0 (.cons hy0 .nil)).1
  refine hc.mono fun v' w' ⟨J1, st, hvr⟩ => ⟨J, ?_, hvr.pureR_move hv⟩
  have himg : ∀ (k : Nat), k < w.heap.size → k ≠ i.blk → w'.heap[k]? = w.heap[k]? := fun k hk hne => st.fr.keep k hk fun x o ix hx hjx => by
    rw [H1_get] at hx
    split at hx
    · rename_i e; subst e; rw [hJ0] at hjx; cases hjx; exact Ne.symm hne
    · cases hx
  refine ⟨J.le_refl, ⟨hI.base, st.inv.below, fun x o hx => ?_, hI.inj⟩, Nat.le_refl _, fun _ _ h => .inl h, ⟨st.fr.size, fun k hk hn => himg k hk (Ne.symm (hn b _ i hb hj)), st.fr.loops⟩, fun b o i hb hi _ => ⟨b, o, i, hb, hi, rfl⟩⟩
  obtain ⟨ix, q, r, s⟩ := hI.live x o hx
  by_cases e : x = b
  · subst e
    rw [hb] at hx; cases hx
    rw [hj] at q; cases q
    obtain ⟨i2, q2, _, s2⟩ := st.inv.live 0 _ hkeep
    rw [st.le _ _ hJ0] at q2; cases q2
    exact ⟨i, hj, r, hmoveO s2⟩
  · exact ⟨ix, q, r, s.same (himg _ s.lt fun e2 => e (hI.inj x b _ _ _ _ hx hb q hj e2))⟩

/-! ### Functions that the model itself answers -/
theorem PrimOk1.value {P : Program} {k : Nat} {p : Prim}
    (hp : ∀ args h v h', p args h = some (v, h') → h' = h ∧ pureR v = true ∧ allB pureV args = true ∧ ∀ w, (callFunc k args.toArray).run P w = .ok (.value v) w) : PrimOk1 P k p := by
  intro B0 w0 J h w args args' v h' hI hl he
  obtain ⟨rfl, hv, ha, hr⟩ := hp args h v h' he
  have e := LV.pureV_eq ha hl
  subst e
  refine .inl ⟨v, w, hr w, J, .refl hI.toInv0, ?_⟩
  cases v with
  | tuple a =>
    obtain ⟨l⟩ := a
    have := LV.of_pureV (J := J) (l := l) hv
    exact .tuple this.1 this.2
  | _ => exact VR.of_pure J (by exact hv)
theorem PrimGood1.same {p : Prim} (hp : ∀ args h v h', p args h = some (v, h') → h' = h) : PrimGood1 p := fun args h v h' he => by rw [hp args h v h' he]; exact .refl _
end
end Go.EV
