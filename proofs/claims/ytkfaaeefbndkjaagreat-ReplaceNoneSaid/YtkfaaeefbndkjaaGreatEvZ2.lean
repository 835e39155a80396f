/-
  Known answers that write one block of plain cells and read another one.
-/
import Derived.Test.YtkfaaeefbndkjaaGreatEvZ
namespace Go.EV
noncomputable section
def H2 (o0 o1 : Ob) : H := ⟨(T.leaf.set 0 (some o0)).set 1 (some o1), 2, []⟩
theorem H2_get (o0 o1 : Ob) (b : Nat) : (H2 o0 o1).get b = if b = 1 then some o1 else if b = 0 then some o0 else none := by
  by_cases e : b = 1
  · subst e; simp [H2, H.get, T.get_set_same]
  · simp only [H2, H.get, if_neg e]; rw [T.get_set_ne _ _ (Ne.symm e)]
    by_cases e2 : b = 0
    · subst e2; simp [T.get_set_same]
    · rw [if_neg e2, T.get_set_ne _ _ (Ne.symm e2), T.get_leaf]
theorem ObR.plain_move {Ja Jb : Inj} {w : World} {i : BI} {vec : Option Nat} {cs : List Value} (hcs : allB pure0 cs = true) (h : ObR Ja w i (.cells vec cs)) : ObR Jb w i (.cells vec cs) := by
  obtain ⟨arr, e, lo, hi, h1, h2, h3⟩ := h
  refine ⟨arr, e, lo, hi, h1, fun k v hk => ?_, h3⟩
  obtain ⟨v', a, b⟩ := h2 k v hk
  have hp := allB_mem hcs v (List.mem_of_getElem? hk)
  rw [VR.pure0_eq hp b] at a
  exact ⟨v, a, VR.of_pure0 _ hp⟩
/-- A call with a pointer to a block of plain cells, that it writes, and a slice over another one, that it reads: by its run from a heap of these two. -/
theorem PrimOk1.write {P : Program} {c : Ctx} {k : Nat} {p : Prim} (hS : ∀ f, SCall P c f)
    (hp : ∀ args h v h', p args h = some (v, h') → pureR v = true ∧ ∃ b0 b1 off spot n cap vec0 cs0 cs0' vec1 cs1, args = [.pointer (some ⟨b0, 0, none⟩), .slice (some ⟨b1, off, spot⟩) n cap] ∧ b0 ≠ b1 ∧
      h.get b0 = some (.cells vec0 cs0) ∧ h.get b1 = some (.cells vec1 cs1) ∧ allB pure0 cs0 = true ∧ allB pure0 cs0' = true ∧ allB pure0 cs1 = true ∧ h.upd b0 (some (.cells vec0 cs0')) = some h' ∧
      ∃ f s', evCall c f k [.pointer (some ⟨0, 0, none⟩), .slice (some ⟨1, off, spot⟩) n cap] ⟨H2 (.cells vec0 cs0) (.cells vec1 cs1), [], true⟩ = .ok v s' ∧ s'.ob = true ∧ s'.h.get 0 = some (.cells vec0 cs0') ∧ s'.h.get 1 = some (.cells vec1 cs1)) : PrimOk1 P k p := by
  intro B0 w0 J h w args args' v h' hI hl he
  obtain ⟨hv, b0, b1, off, spot, n, cap, vec0, cs0, cs0', vec1, cs1, rfl, hne, hb0, hb1, hcs0, hcs0', hcs1, hu, f, s', hr, hob, hk0, hk1⟩ := hp args h v h' he
  obtain ⟨i0, hj0, hi0, hO0⟩ := hI.live b0 _ hb0
  obtain ⟨i1, hj1, hi1, hO1⟩ := hI.live b1 _ hb1
  obtain ⟨xa, r, rfl, hxa, hl2⟩ := hl.cons_left
  obtain ⟨ya, r, rfl, hya, hr2⟩ := hl2.cons_left
  have := hr2.nil_left; subst this
  let J0 : Inj := fun x => if x = 1 then some i1 else if x = 0 then some i0 else none
  have hJ0 : J0 0 = some i0 := rfl
  have hJ1 : J0 1 = some i1 := rfl
  have hx0 : VR J0 (.pointer (some ⟨0, 0, none⟩)) xa := by
    cases hxa with
    | ptr h1 => rw [hj0] at h1; cases h1; exact .ptr hJ0
  have hy0 : VR J0 (.slice (some ⟨1, off, spot⟩) n cap) ya := by
    cases hya with
    | slice h1 h2 h3 => rw [hj1] at h1; cases h1; exact .slice hJ1 h2 h3
    | loose h1 h2 h3 => rw [hj1] at h1; cases h1; exact .loose hJ1 h2 h3
  have hbne : i0.blk ≠ i1.blk := fun e => hne (hI.inj b0 b1 _ _ _ _ hb0 hb1 hj0 hj1 e)
  have hI0 : InvA B0 w0 J0 (H2 (.cells vec0 cs0) (.cells vec1 cs1)) w := by
    refine ⟨⟨hI.base, hI.below, fun x o hx => ?_, fun x x' o o' ia ib hx hx' hja hjb hblk => ?_⟩, fun x hx => ?_⟩
    · rw [H2_get] at hx
      split at hx
      · rename_i e; subst e; cases hx; exact ⟨i1, rfl, hi1, hO1.plain_move hcs1⟩
      · split at hx
        · rename_i e; subst e; cases hx; exact ⟨i0, rfl, hi0, hO0.plain_move hcs0⟩
        · cases hx
    · rw [H2_get] at hx hx'
      have h1 : x = 1 ∨ x = 0 := by
        split at hx
        · exact .inl (by assumption)
        · split at hx
          · exact .inr (by assumption)
          · cases hx
      have h2 : x' = 1 ∨ x' = 0 := by
        split at hx'
        · exact .inl (by assumption)
        · split at hx'
          · exact .inr (by assumption)
          · cases hx'
      rcases h1 with rfl | rfl <;> rcases h2 with rfl | rfl
      · rfl
      · rw [hJ1] at hja; rw [hJ0] at hjb; cases hja; cases hjb; exact absurd hblk.symm hbne
      · rw [hJ0] at hja; rw [hJ1] at hjb; cases hja; cases hjb; exact absurd hblk hbne
      · rfl
    · have : 2 ≤ x := hx
      show (if x = 1 then some i1 else if x = 0 then some i0 else none) = none
      rw [if_neg (by omega), if_neg (by omega)]
  have hc := (hS f k _ ⟨H2 (.cells vec0 cs0) (.cells vec1 cs1), [], true⟩ v s' hr hob B0 w0 _ w [xa, ya] hI0 (.cons hx0 (.cons hy0 .nil))).1
  refine hc.mono fun v' w' ⟨J1, st, hvr⟩ => ⟨J, ?_, hvr.pureR_move hv⟩
  have himg : ∀ (k : Nat), k < w.heap.size → k ≠ i0.blk → k ≠ i1.blk → w'.heap[k]? = w.heap[k]? := fun k hk hn0 hn1 => st.fr.keep k hk fun x o ix hx hjx => by
    rw [H2_get] at hx
    split at hx
    · rename_i e; subst e; rw [hJ1] at hjx; cases hjx; exact Ne.symm hn1
    · split at hx
      · rename_i e; subst e; rw [hJ0] at hjx; cases hjx; exact Ne.symm hn0
      · cases hx
  obtain ⟨hun, hur, hus, hune⟩ := H.upd_some hu
  have hold : ∀ x o, h'.get x = some o → ∃ o', h.get x = some o' := fun x o hx => by
    by_cases e : x = b0
    · subst e; exact ⟨_, hb0⟩
    · rw [hune x e] at hx; exact ⟨o, hx⟩
  refine ⟨J.le_refl, ⟨hI.base, st.inv.below, fun x o hx => ?_, fun x x' o o' ia ib hx hx' => ?_⟩, by omega, fun _ _ h => .inl h, ⟨st.fr.size, fun k hk hn => himg k hk (Ne.symm (hn b0 _ i0 hb0 hj0)) (Ne.symm (hn b1 _ i1 hb1 hj1)), st.fr.loops⟩, fun x o i hb hi _ => ?_⟩
  · by_cases e : x = b0
    · subst e
      rw [hus] at hx; cases hx
      obtain ⟨i2, q2, _, s2⟩ := st.inv.live 0 _ hk0
      rw [st.le _ _ hJ0] at q2; cases q2
      exact ⟨i0, hj0, hi0, s2.plain_move hcs0'⟩
    · rw [hune x e] at hx
      by_cases e1 : x = b1
      · subst e1
        rw [hb1] at hx; cases hx
        obtain ⟨i2, q2, _, s2⟩ := st.inv.live 1 _ hk1
        rw [st.le _ _ hJ1] at q2; cases q2
        exact ⟨i1, hj1, hi1, s2.plain_move hcs1⟩
      · obtain ⟨ix, q, r, s⟩ := hI.live x o hx
        exact ⟨ix, q, r, s.same (himg _ s.lt (fun e2 => e (hI.inj x b0 _ _ _ _ hx hb0 q hj0 e2)) (fun e2 => e1 (hI.inj x b1 _ _ _ _ hx hb1 q hj1 e2)))⟩
  · obtain ⟨o1, h1⟩ := hold x o hx
    obtain ⟨o2, h2⟩ := hold x' o' hx'
    exact hI.inj x x' o1 o2 ia ib h1 h2
  · obtain ⟨o1, h1⟩ := hold x o hb
    exact ⟨x, o1, i, h1, hi, rfl⟩

def eqC (o : Option Ob) (vec : Option Nat) (cs : List Value) : Bool := match o with
  | some (.cells vec' cs') => match eqO vec' vec with
    | true => eqL cs' cs
    | false => false
  | _ => false
theorem eqC_eq {o : Option Ob} {vec : Option Nat} {cs : List Value} (h : eqC o vec cs = true) : o = some (.cells vec cs) := by
  unfold eqC at h
  split at h
  · split at h
    · rename_i e; rw [eqO_eq e, eqL_eq h]
    · cases h
  · cases h
/-- 'p.f(s)': the block at p is turned from cs0 into cs0', where s lies over a block of cells cs1. -/
def memoW (cs0 cs0' : List Value) (off : Nat) (spot : Option Nat) (n cap : Nat) (vec1 : Option Nat) (cs1 : List Value) : Prim := fun args h => match args with
  | [.pointer (some a), .slice (some b) n' cap'] => match Nat.beq a.off 0 && eqO a.spot none && Nat.beq b.off off && eqO b.spot spot && Nat.beq n' n && Nat.beq cap' cap && !(Nat.beq a.block b.block) && eqC (h.get a.block) none cs0 && eqC (h.get b.block) vec1 cs1 with
    | true => match h.upd a.block (some (.cells none cs0')) with
      | some h' => some (.tuple #[], h')
      | none => none
    | false => none
  | _ => none
theorem memoW_good (cs0 cs0' : List Value) (off : Nat) (spot : Option Nat) (n cap : Nat) (vec1 : Option Nat) (cs1 : List Value) : PrimGood1 (memoW cs0 cs0' off spot n cap vec1 cs1) := fun args h v h' hp => by
  unfold memoW at hp
  split at hp
  · split at hp
    · split at hp
      · rename_i hu; cases hp; exact GH.upd hu
      · cases hp
    · cases hp
  · cases hp
def chkW (r : R Value) (cs0' : List Value) (vec1 : Option Nat) (cs1 : List Value) : Bool := match r with
  | .ok v s => match eqR v (.tuple #[]) && eqC (s.h.get 0) none cs0' && eqC (s.h.get 1) vec1 cs1 with
    | true => s.ob
    | false => false
  | .err _ => false
theorem memoW_ok {P : Program} {c : Ctx} {k : Nat} (hS : ∀ f, SCall P c f) (cs0 cs0' : List Value) (off : Nat) (spot : Option Nat) (n cap : Nat) (vec1 : Option Nat) (cs1 : List Value) (f : Nat)
    (ha : allB pure0 cs0 = true) (hb : allB pure0 cs0' = true) (hc : allB pure0 cs1 = true)
    (hr : chkW (evCall c f k [.pointer (some ⟨0, 0, none⟩), .slice (some ⟨1, off, spot⟩) n cap] ⟨H2 (.cells none cs0) (.cells vec1 cs1), [], true⟩) cs0' vec1 cs1 = true) : PrimOk1 P k (memoW cs0 cs0' off spot n cap vec1 cs1) := by
  refine PrimOk1.write hS fun args h v h' hp => ?_
  unfold memoW at hp
  split at hp
  · rename_i a b n' cap'
    split at hp
    · rename_i hh
      simp only [Bool.and_eq_true, Bool.not_eq_true'] at hh
      obtain ⟨⟨⟨⟨⟨⟨⟨⟨h1, h2⟩, h3⟩, h4⟩, h5⟩, h6⟩, h7⟩, h8⟩, h9⟩ := hh
      split at hp
      · rename_i hx hu
        cases hp
        obtain ⟨ab, ao, asp⟩ := a
        obtain ⟨bb, bo, bs⟩ := b
        have g1 : ao = 0 := Nat.eq_of_beq_eq_true h1
        have g2 : asp = none := eqO_eq h2
        have g3 : bo = off := Nat.eq_of_beq_eq_true h3
        have g4 : bs = spot := eqO_eq h4
        have g5 : n' = n := Nat.eq_of_beq_eq_true h5
        have g6 : cap' = cap := Nat.eq_of_beq_eq_true h6
        have g8 : h.get ab = some (.cells none cs0) := eqC_eq h8
        have g9 : h.get bb = some (.cells vec1 cs1) := eqC_eq h9
        have g7 : ¬ ab = bb := fun e => by
          have h7 : Nat.beq ab bb = false := h7
          rw [e] at h7; simp at h7
        have gu : h.upd ab (some (.cells none cs0')) = some _ := hu
        clear h1 h2 h3 h4 h5 h6 h7 h8 h9 hu
        subst g1; subst g2; subst g3; subst g4; subst g5; subst g6
        unfold chkW at hr
        split at hr
        · rename_i v s' hrun
          split at hr
          · rename_i hq
            simp only [Bool.and_eq_true] at hq
            have q1 := eqR_eq hq.1.1
            subst q1
            exact ⟨rfl, ab, bb, bo, bs, n', cap', none, cs0, cs0', vec1, cs1, rfl, g7, g8, g9, ha, hb, hc, gu, f, s', hrun, hr, eqC_eq hq.1.2, eqC_eq hq.2⟩
          · cases hr
        · cases hr
      · cases hp
    · cases hp
  · cases hp
end
end Go.EV
