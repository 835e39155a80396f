/-
  What no evaluation breaks: the duties, the numbers, the blocks that are not to be written. Which operations leave all as it was.
-/
import Derived.Test.YtkfaaeefbndkjaaGreatEvM
import Derived.RangeFuncRecord
import Derived.RangeFuncCalls
namespace Go.EV
open Go.RowKit (Below)

/-- The blocks that are not to be written stay. -/
structure GH (h h' : H) : Prop where
  next : h.next ≤ h'.next
  ro : h'.ro = h.ro
  keep : ∀ b ∈ h.ro, b < h.next → h'.get b = h.get b
theorem GH.refl (h : H) : GH h h := ⟨Nat.le_refl _, rfl, fun _ _ _ => rfl⟩
theorem GH.trans {a b c : H} (x : GH a b) (y : GH b c) : GH a c :=
  ⟨Nat.le_trans x.next y.next, y.ro.trans x.ro, fun k hk hl => (y.keep k (by rw [x.ro]; exact hk) (Nat.lt_of_lt_of_le hl x.next)).trans (x.keep k hk hl)⟩
theorem GH.new (h : H) (o : Ob) : GH h (h.new o) := ⟨by simp [H.new], rfl, fun b _ hb => H.get_new_ne _ _ (by omega)⟩
theorem free_not_mem : ∀ {b : Nat} {l : List Nat}, H.free b l = true → b ∉ l
  | b, [], _ => by simp
  | b, x :: r, h => by
    simp only [H.free] at h
    split at h
    · cases h
    · rename_i hx
      have h1 := free_not_mem h
      intro hm
      rcases List.mem_cons.1 hm with rfl | hm
      · simp at hx
      · exact h1 hm
theorem GH.upd {h h' : H} {b : Nat} {o : Option Ob} (hu : h.upd b o = some h') : GH h h' := by
  obtain ⟨h1, h2, h3, h4⟩ := H.upd_some hu
  refine ⟨by omega, h2, fun k hk _ => h4 k ?_⟩
  intro e; subst e
  unfold H.upd at hu
  split at hu
  · rename_i hf; exact free_not_mem hf hk
  · cases hu
theorem GH.write {h h' : H} {b o : Nat} {vs : List Value} (hw : h.write b o vs = some h') : GH h h' := by
  unfold H.write at hw
  repeat' split at hw
  all_goals first | exact GH.upd hw | cases hw
theorem GH.grow {h h' : H} {size bytes need : Nat} {old src : List Value} {v : Value} (he : EV.grow h size bytes old src need = some (v, h')) : GH h h' := by
  unfold EV.grow at he
  split at he
  · cases he; exact GH.new _ _
  · cases he
theorem GH.append {h h' : H} {ei : TI} {s v : Value} {m : Nat} {src : List Value} (he : EV.append h ei s m src = some (v, h')) : GH h h' := by
  unfold EV.append at he
  repeat' split at he
  all_goals first
    | exact GH.grow he
    | (cases he; exact GH.refl _)
    | (cases he; done)
    | skip
  · rename_i hw; cases he; exact GH.write hw
  · rename_i hu; exact (GH.upd hu).trans (GH.grow he)
theorem GH.copyB {h h' : H} {ei : TI} {d x v : Value} (he : EV.copyB h ei d x = some (v, h')) : GH h h' := by
  unfold EV.copyB at he
  repeat' split at he
  all_goals first
    | (cases he; exact GH.refl _)
    | (cases he; done)
    | skip
  rename_i hw; cases he; exact GH.write hw

theorem GH.pure {h h' : H} {x : Option Value} {v : Value} (he : PR.pure h x = .val v h') : GH h h' := by
  obtain ⟨rfl, _⟩ := PR.pure_val he; exact GH.refl _
theorem GH.unitU {h h' : H} {b : Nat} {o : Option Ob} {v : Value} (he : PR.unit (h.upd b o) = .val v h') : GH h h' := GH.upd (PR.unit_val he).1
theorem GH.unitW {h h' : H} {b o : Nat} {vs : List Value} {v : Value} (he : PR.unit (h.write b o vs) = .val v h') : GH h h' := GH.write (PR.unit_val he).1

theorem builtin_good {c : Ctx} {b : Builtin} {ts : Array Nat} {args : List Value} {h h' : H} {v : Value} (he : builtin c b ts args h = .val v h') : GH h h' := by
  unfold builtin at he
  split at he
  · split at he
    · exact GH.pure he
    · cases he
  · split at he
    · split at he
      · cases he; exact GH.refl _
      · split at he
        · cases he; exact GH.refl _
        · cases he
      · cases he
    · cases he
  · exact GH.pure he
  · exact GH.pure he
  · split at he
    · split at he
      · split at he
        · split at he
          · split at he
            · exact GH.append (PR.of_val he)
            · cases he
          · cases he
        · split at he
          · split at he
            · exact GH.append (PR.of_val he)
            · cases he
          · cases he
      · cases he
    · cases he
  · split at he
    · split at he
      · exact GH.copyB (PR.of_val he)
      · cases he
    · cases he
  · split at he
    · split at he
      · split at he
        · split at he
          · exact GH.unitU he
          · cases he
        · cases he
      · cases he
    · cases he
  · cases he

theorem mapStore_good {c : Ctx} {ρ : Operand → Value} {t : Nat} {m k x : Operand} {h h' : H} {v : Value} (he : evOp.mapStore c ρ h t m k x = .val v h') : GH h h' := by
  unfold evOp.mapStore at he
  repeat' split at he
  all_goals first
    | exact GH.unitU he
    | (cases he; done)

/-- Does an operation look only, or make one new object? -/
def Plain (h : H) (h' : H) : Prop := h' = h ∨ ∃ o, h' = h.new o
theorem Plain.pure {h h' : H} {x : Option Value} {v : Value} (he : PR.pure h x = .val v h') : Plain h h' := by
  obtain ⟨rfl, _⟩ := PR.pure_val he; exact .inl rfl
theorem Plain.good {h h' : H} (p : Plain h h') : GH h h' := by
  rcases p with rfl | ⟨o, rfl⟩
  · exact .refl _
  · exact .new _ _

theorem builtin_plain {c : Ctx} {b : Builtin} {ts : Array Nat} {args : List Value} {h h' : H} {v : Value} (hb : b = .len ∨ b = .min ∨ b = .max) (he : builtin c b ts args h = .val v h') : Plain h h' := by
  unfold builtin at he
  split at he
  · split at he
    · exact Plain.pure he
    · cases he
  · simp at hb
  · exact Plain.pure he
  · exact Plain.pure he
  · simp at hb
  · simp at hb
  · simp at hb
  · cases he

theorem evOp_plain {c : Ctx} {ρ : Operand → Value} {op : Op} {h h' : H} {v : Value} (hp : eff op = false) (he : evOp c ρ op h = .val v h') : Plain h h' := by
  cases op
  case call cl =>
    cases hc : cl.callee with
    | builtin b =>
      simp only [evOp, hc] at he
      refine builtin_plain ?_ he
      cases b <;> simp_all [eff]
    | value f => simp [eff, hc] at hp
    | invoke _ _ => simp [eff, hc] at hp
  case convert s t x =>
    simp only [evOp, convert] at he
    repeat' split at he
    all_goals first | exact Plain.pure he | (cases he; exact .inl rfl) | (cases he; exact .inr ⟨_, rfl⟩) | (cases he; done)
  case slice t x lo hi mx =>
    simp only [evOp, sliceX] at he
    repeat' split at he
    all_goals first | exact Plain.pure he | (cases he; exact .inl rfl) | (cases he; exact .inr ⟨_, rfl⟩) | (cases he; done)
  case makeSlice t l k' =>
    simp only [evOp, makeSlice] at he
    repeat' split at he
    all_goals first | exact Plain.pure he | (cases he; exact .inl rfl) | (cases he; exact .inr ⟨_, rfl⟩) | (cases he; done)
  case indexAddr t l k' =>
    simp only [evOp, indexP] at he
    repeat' split at he
    all_goals first | exact Plain.pure he | (cases he; exact .inl rfl) | (cases he; exact .inr ⟨_, rfl⟩) | (cases he; done)
  case index t l k' =>
    simp only [evOp, indexV] at he
    repeat' split at he
    all_goals first | exact Plain.pure he | (cases he; exact .inl rfl) | (cases he; exact .inr ⟨_, rfl⟩) | (cases he; done)
  case unOp op t x =>
    cases op <;> simp only [evOp] at he
    all_goals (repeat' split at he)
    all_goals first | exact Plain.pure he | (cases he; exact .inl rfl) | (cases he; exact .inr ⟨_, rfl⟩) | (cases he; done)
  case makeFunc fn a b =>
    cases fn <;> simp only [evOp] at he <;> first | (cases he; exact .inl rfl) | (cases he; done)
  case makeMap t r =>
    cases r <;> simp only [evOp] at he <;> first | (cases he; exact .inr ⟨_, rfl⟩) | (cases he; done)
  all_goals first
    | (simp [eff] at hp; done)
    | skip
  all_goals simp only [evOp] at he
  all_goals (repeat' split at he)
  all_goals first | exact Plain.pure he | (cases he; exact .inl rfl) | (cases he; exact .inr ⟨_, rfl⟩) | (cases he; done)

theorem evOp_good {c : Ctx} {ρ : Operand → Value} {op : Op} {h h' : H} {v : Value} (he : evOp c ρ op h = .val v h') : GH h h' := by
  by_cases hp : eff op = false
  · exact (evOp_plain hp he).good
  · cases op
    case call cl =>
      cases hc : cl.callee with
      | builtin b => simp only [evOp, hc] at he; exact builtin_good he
      | value f => simp only [evOp, hc] at he; exact absurd he invoke_not_val
      | invoke _ _ => simp only [evOp, hc] at he; cases he
    case mapUpdate => exact mapStore_good he
    case insert => exact mapStore_good he
    case store t a x =>
      simp only [evOp] at he
      repeat' split at he
      all_goals first | exact GH.unitW he | (cases he; done)
    case typeAssert x s t ok =>
      cases ok <;> simp only [evOp] at he
      all_goals (repeat' split at he)
      all_goals first | (cases he; exact GH.refl _) | (cases he; done)
    all_goals first
      | (exact absurd rfl hp)
      | (simp [evOp] at he; done)

/-! ### Hiding, and back -/
theorem foldl_set_none : ∀ (ms : List Nat) (t : T Ob) (b : Nat), (ms.foldl (fun t b => t.set b none) t).get b = if b ∈ ms then none else t.get b
  | [], t, b => by simp
  | m :: ms, t, b => by
    simp only [List.foldl_cons, foldl_set_none ms]
    by_cases h : b ∈ ms
    · simp [h]
    · by_cases e : b = m
      · subst e; simp [h, T.get_set_same]
      · simp [h, e, T.get_set_ne _ _ (Ne.symm e)]
theorem foldl_set_of (g : Nat → Option Ob) : ∀ (ms : List Nat) (t : T Ob) (b : Nat), (ms.foldl (fun t b => t.set b (g b)) t).get b = if b ∈ ms then g b else t.get b
  | [], t, b => by simp
  | m :: ms, t, b => by
    simp only [List.foldl_cons, foldl_set_of g ms]
    by_cases h : b ∈ ms
    · simp [h]
    · by_cases e : b = m
      · subst e; simp [h, T.get_set_same]
      · simp [h, e, T.get_set_ne _ _ (Ne.symm e)]
theorem hide_get (h : H) (ms rs : List Nat) (b : Nat) : (hide h ms rs).get b = if b ∈ ms then none else h.get b := foldl_set_none ms h.objs b
theorem restore_get (h old : H) (ms : List Nat) (b : Nat) : (restore h old ms).get b = if b ∈ ms then old.get b else h.get b := foldl_set_of old.get ms h.objs b
theorem only_get (h : H) (bs : List Nat) (b : Nat) : (only h bs).get b = if b ∈ bs then h.get b else none := by
  have := foldl_set_of h.get bs .leaf b
  rw [T.get_leaf] at this
  exact this
theorem GH.back {h h' : H} {ms rs : List Nat} (g : GH (hide h ms rs) h') : GH h (restore h' h ms) := by
  refine ⟨g.next, rfl, fun b hb hl => ?_⟩
  rw [restore_get]
  split
  · rfl
  · rename_i hn
    rw [g.keep b (by simp [hide, hb]) hl, hide_get, if_neg hn]

structure G (s s' : St) : Prop where
  ob : s'.ob = true → s.ob = true
  h : GH s.h s'.h
theorem G.refl (s : St) : G s s := ⟨id, .refl _⟩
theorem G.trans {a b c : St} (x : G a b) (y : G b c) : G a c := ⟨fun h => x.ob (y.ob h), x.h.trans y.h⟩
theorem G.heap {s : St} {h' : H} (g : GH s.h h') : G s ⟨h', s.orc, s.ob⟩ := ⟨id, g⟩
theorem dec_h (b : Bool) (s : St) : (dec b s).2.h = s.h := by
  unfold dec; repeat' split
  all_goals rfl
theorem dec_ob (b : Bool) (s : St) (h : (dec b s).2.ob = true) : (dec b s).1 = b ∧ s.ob = true := by
  unfold dec at h ⊢
  repeat' split at h
  all_goals simp_all
theorem G.dec (b : Bool) (s : St) : G s (EV.dec b s).2 := ⟨fun h => (dec_ob b s h).2, by rw [dec_h]; exact .refl _⟩
theorem G.dec' {b b' : Bool} {s s' : St} (h : EV.dec b s = (b', s')) : G s s' := by have := G.dec b s; rw [h] at this; exact this
theorem dec_true {b b' : Bool} {s s' : St} (h : EV.dec b s = (b', s')) (ho : s'.ob = true) : b' = b ∧ s.ob = true ∧ s'.h = s.h := by
  have h1 := dec_ob b s
  have h2 := dec_h b s
  rw [h] at h1 h2
  exact ⟨(h1 ho).1, (h1 ho).2, h2⟩
theorem wants_good {ops : List Oper} {o : Oper} {tm : Tm} {s s' : St} {b : Bool} (h : wants ops o tm s = some (b, s')) : G s s' := by
  unfold wants at h
  split at h
  · cases h; exact .refl _
  · split at h
    · split at h
      rename_i hd
      cases h
      exact G.dec' hd
    · cases h
theorem G.bump (s : St) : G s (bump s) := ⟨id, ⟨by simp [EV.bump], rfl, fun _ _ _ => rfl⟩⟩
theorem evPure_good {c : Ctx} {tm : Tm} {o : Oper} {s s' : St} {v : Value} {ob : Option Ob} (h : evPure c tm o s = some (v, ob, s')) : G s s' := by
  unfold evPure at h
  split at h
  · split at h
    · split at h
      · rename_i hd; cases h; exact (G.dec' hd).trans (G.bump _)
      · rename_i hd; cases h; exact (G.dec' hd).trans (G.bump _)
    · cases h
  · split at h
    · split at h
      · cases h; exact G.bump _
      · split at h
        · cases h; exact ⟨id, GH.new _ _⟩
        · cases h
    · cases h

/-- What is asked of a primitive, to break nothing. -/
def PrimGood (c : Ctx) : Prop := ∀ k p, c.prim k = some p → ∀ args h v h', p args h = some (v, h') → GH h h'

structure GoodF (c : Ctx) (f : Nat) : Prop where
  code : ∀ code tm s r s', evCode c f code tm s = .ok r s' → G s s'
  ops : ∀ all ops tm s r s', evOps c f all ops tm s = .ok r s' → G s s'
  step : ∀ o tm s r s', evStep c f o tm s = .ok r s' → G s s'
  draw : ∀ ops todo done ds tm s r s', evDraw c f ops todo done ds tm s = .ok r s' → G s s'
  call : ∀ k args s r s', evCall c f k args s = .ok r s' → G s s'

theorem goodF (c : Ctx) (hP : PrimGood c) : ∀ f, GoodF c f := by
  intro f
  induction f with
  | zero =>
    refine ⟨?_, ?_, ?_, ?_, ?_⟩ <;> intros <;> rename_i h
    · simp [evCode] at h
    · simp [evOps] at h
    · simp [evStep] at h
    · simp [evDraw] at h
    · simp [evCall] at h
  | succ f ih =>
    refine ⟨?_, ?_, ?_, ?_, ?_⟩
    · intro code tm s r s' h
      simp only [evCode] at h
      split at h
      · cases h; exact .refl _
      · cases h; exact .refl _
      · exact ih.ops _ _ _ _ _ _ h
      · exact ih.draw _ _ _ _ _ _ _ _ h
      · split at h
        · rename_i ha; exact (ih.code _ _ _ _ _ ha).trans (ih.code _ _ _ _ _ h)
        · rename_i ha; exact ih.code _ _ _ _ _ h
      · split at h
        · split at h
          · rename_i hd; exact (G.dec' hd).trans (ih.code _ _ _ _ _ h)
          · rename_i hd; exact (G.dec' hd).trans (ih.code _ _ _ _ _ h)
        · cases h
      · split at h
        · rename_i ha
          split at h <;> (cases h; exact ih.code _ _ _ _ _ ha)
        · exact ih.code _ _ _ _ _ h
      · split at h
        · rename_i ha; exact (ih.code _ _ _ _ _ ha).trans (ih.code _ _ _ _ _ h)
        · exact ih.code _ _ _ _ _ h
      · split at h
        · cases h
        · exact ih.code _ _ _ _ _ h
      · cases h; exact .refl _
      · cases h; exact .refl _
      · split at h
        · rename_i hinv
          have hh : GH s.h ‹H› := by
            unfold EV.invoke at hinv
            split at hinv <;> first | (cases hinv; exact GH.new _ _) | (cases hinv; done)
          split at h
          · cases h
          · split at h
            · rename_i hc
              have g1 : G s _ := (G.heap hh).trans (ih.call _ _ _ _ _ hc)
              split at h
              · split at h
                · rename_i hu; cases h; exact g1.trans (G.heap (GH.upd hu))
                · cases h
              · split at h
                · rename_i hu; cases h; exact g1.trans (G.heap (GH.upd hu))
                · cases h
              · split at h
                · rename_i hu; cases h; exact g1.trans (G.heap (GH.upd hu))
                · cases h
              · cases h
            · cases h
        · cases h
      · cases h
    · intro all ops tm s r s' h
      cases ops with
      | nil => simp only [evOps] at h; cases h; exact .refl _
      | cons o rest =>
        simp only [evOps] at h
        split at h
        · cases h
        · rename_i hw
          split at h
          · exact (wants_good hw).trans (ih.ops _ _ _ _ _ _ h)
          · cases h
        · rename_i hw
          split at h
          · rename_i hs
            split at h
            · exact ((wants_good hw).trans (ih.step _ _ _ _ _ hs)).trans (ih.ops _ _ _ _ _ _ h)
            · cases h
          · cases h
    · intro o tm s r s' h
      simp only [evStep] at h
      split at h
      · split at h
        · split at h
          · rename_i hd; cases h; exact G.dec' hd
          · rename_i hd; cases h; exact G.dec' hd
        · cases h
      · split at h
        · rename_i he; cases h; exact G.heap (evOp_good he)
        · rename_i he
          obtain ⟨cl, f', e1, e2, e3⟩ := evOp_nc (.inl he)
          rw [e3] at he
          have hh : s.h = ‹H› := by
            unfold EV.invoke at he
            split at he <;> first | (cases he; rfl) | (cases he; done)
          subst hh
          exact ih.call _ _ _ _ _ h
        · rename_i he
          obtain ⟨cl, f', e1, e2, e3⟩ := evOp_nc (.inr he)
          rw [e3] at he
          have hh : s.h = ‹H› := by
            unfold EV.invoke at he
            split at he <;> first | (cases he; rfl) | (cases he; done)
          subst hh
          split at h
          · split at h
            · cases h
            · split at h
              · rename_i ha
                have g1 : G s _ := ih.code _ _ _ _ _ ha
                split at h
                · split at h
                  · cases h
                  · rename_i hu
                    split at h
                    · rename_i hb
                      have g2 : G s _ := (g1.trans (G.heap (GH.upd hu))).trans (ih.code _ _ _ _ _ hb)
                      split at h
                      · split at h
                        · split at h
                          · rename_i hu2; cases h; exact g2.trans (G.heap (GH.upd hu2))
                          · cases h
                        · split at h
                          · rename_i hu2; cases h; exact g2.trans (G.heap (GH.upd hu2))
                          · cases h
                        · split at h
                          · rename_i hu2; cases h; exact g2.trans (G.heap (GH.upd hu2))
                          · cases h
                        · cases h
                      · cases h
                    · cases h
                · cases h
              · cases h
              · cases h
          · cases h
        · cases h
    · intro ops todo done ds tm s r s' h
      cases todo with
      | nil => simp only [evDraw] at h; cases h; exact .refl _
      | cons t ts =>
        simp only [evDraw] at h
        split at h
        · split at h
          · cases h
          · split at h
            · cases h
            · rename_i hw
              split at h
              · exact ((wants_good hw).trans (G.bump _)).trans (ih.draw _ _ _ _ _ _ _ _ h)
              · cases h
            · rename_i hw
              split at h
              · cases h
              · split at h
                · cases h
                · rename_i hp
                  split at h
                  · exact ((wants_good hw).trans (evPure_good hp)).trans (ih.draw _ _ _ _ _ _ _ _ h)
                  · cases h
        · split at h
          · cases h
          · split at h
            · split at h
              · cases h
              · rename_i hw
                split at h
                · exact (wants_good hw).trans (ih.draw _ _ _ _ _ _ _ _ h)
                · cases h
              · rename_i hw
                split at h
                · cases h
                · rename_i hs
                  split at h
                  · have g1 := ih.step _ _ _ _ _ hs
                    have g2 := ih.draw _ _ _ _ _ _ _ _ h
                    exact (wants_good hw).trans ⟨fun ho => g1.ob (g2.ob ho), (GH.back g1.h).trans g2.h⟩
                  · cases h
            · cases h
            · cases h
    · intro k args s r s' h
      simp only [evCall] at h
      split at h
      · rename_i hp
        split at h
        · rename_i he; cases h; exact G.heap (hP _ _ hp _ _ _ _ he)
        · cases h
      · split at h
        · cases h
        · split at h
          · split at h
            · rename_i hc
              split at h
              · split at h
                · cases h; exact ih.code _ _ _ _ _ hc
                · cases h
              · split at h
                · cases h; exact ih.code _ _ _ _ _ hc
                · cases h
              · cases h
            · cases h
          · cases h
end Go.EV
