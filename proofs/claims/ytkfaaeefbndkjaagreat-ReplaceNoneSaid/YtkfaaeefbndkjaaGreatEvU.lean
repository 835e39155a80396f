/-
  The evaluator's word is the program's: regions whose order is drawn: the whole.
-/
import Derived.Test.YtkfaaeefbndkjaaGreatEvT
namespace Go.EV
open Go.RowKit (Below)

section
variable {P : Program} {c : Ctx} {ops : Array Oper} {F : Fence} {n : Nat} {Q : Exit → Act → World → Prop} {B0 : Nat} {w0 : World} {Ji : Inj} {hi : H} {wi : World} {ai : Act} {x : X} {tm' : Tm} {s' : St}

def DrawAt (P : Program) (c : Ctx) (ops : Array Oper) (F : Fence) (n : Nat) (Q : Exit → Act → World → Prop) (B0 : Nat) (w0 : World) (Ji : Inj) (hi : H) (wi : World) (ai : Act) (x : X) (tm' : Tm) (s' : St) (N : Nat) : Prop :=
  ∀ (U : List Lag) (todo : List Todo) (done : Nat) (ds : List Done) (tm : Tm) (s : St) (f : Nat) (listed : Array Bool) (J : Inj) (a : Act) (w : World),
    U.length + todo.length ≤ N → (∀ g, g < f → SStep P c g) → evDraw c f ops.toList todo done ds tm s = .ok (x, tm') s' → (∀ q ∈ todo, okOper q.o = true) → RelO ops U todo done ds listed → RelV ops U tm J a → RelH P ops B0 w0 Ji hi wi U s.h J w → Mks ai wi a w → Wd F w →
    wpAnyIn F n P .any ops Q N listed a w

theorem RelH.inv_sub {U : List Lag} {h : H} {J : Inj} {w : World} (R : RelH P ops B0 w0 Ji hi wi U h J w) {y : Lag} (hy : y ∈ U) (hm : ∀ z ∈ U, y.on.testBit z.i = false) : Inv B0 w0 J y.sub w := by
  refine ⟨R.acc.inv.part fun b o hb => ?_, (R.low y hy).1⟩
  rw [hide_get, if_neg, R.subU y hy b o hb]
  intro hmm
  obtain ⟨z, hz, e⟩ := mem_madeL.1 hmm
  have := R.touch y hy z hz b o e hb
  rw [hm z hz] at this; cases this

theorem apart_spec {l m : List Nat} (h : apart l m = true) {b : Nat} (hl : b ∈ l) : b ∉ m := by
  intro hm
  have h1 := allB_mem h b hl
  have h2 := allB_mem h1 b hm
  simp at h2
theorem looseMade_mem {ds : List Done} {on : Nat} {d : Done} {b : Nat} (hd : d ∈ ds) (hn : on.testBit d.i = false) (hb : d.made = some b) : b ∈ looseMade ds on := by
  unfold looseMade
  rw [List.mem_flatMap]
  refine ⟨d, hd, ?_⟩
  have : sub (bit d.i) on = false := by
    cases h : sub (bit d.i) on with
    | false => rfl
    | true => rw [(sub_bit _ _).1 h] at hn; cases hn
  rw [this, hb]; simp
theorem looseRead_mem {ds : List Done} {on : Nat} {d : Done} {b : Nat} (hd : d ∈ ds) (hn : on.testBit d.i = false) (hb : b ∈ d.blocks) : b ∈ looseRead ds on := by
  unfold looseRead
  rw [List.mem_flatMap]
  refine ⟨d, hd, ?_⟩
  have : sub (bit d.i) on = false := by
    cases h : sub (bit d.i) on with
    | false => rfl
    | true => rw [(sub_bit _ _).1 h] at hn; cases hn
  rw [this]; exact hb

theorem draw_adv (hT : Tbl P c) (hg : ∀ f, GoodF c f) (hob : s'.ob = true) {N : Nat} (IH : DrawAt P c ops F n Q B0 w0 Ji hi wi ai x tm' s' N) {listed : Array Bool} {J : Inj} {a : Act} {w : World} {i : Nat} (hr : i ∈ Region.ready .any ops listed)
    (hmk : Mks ai wi a w) (hwd : Wd F w) : ∀ (f : Nat) (U : List Lag) (todo : List Todo) (done : Nat) (ds : List Done) (tm : Tm) (s : St),
    U.length + todo.length ≤ N + 1 → (∀ g, g < f → SStep P c g) → evDraw c f ops.toList todo done ds tm s = .ok (x, tm') s' → (∀ q ∈ todo, okOper q.o = true) → RelO ops U todo done ds listed → RelV ops U tm J a → RelH P ops B0 w0 Ji hi wi U s.h J w →
    wpOpIn F n P ops Q i (wpAnyIn F n P .any ops Q N (listed.setIfInBounds i true)) a w := by
  intro f
  induction f with
  | zero => intro U todo done ds tm s _ _ he; simp [evDraw] at he
  | succ f ihf =>
    intro U todo done ds tm s hN hS he hok R V Hh
    obtain ⟨o, ho, hnd, hn⟩ := R.ready.1 hr
    by_cases hU : ∃ y ∈ U, y.i = i
    · obtain ⟨y, hy, rfl⟩ := hU
      have hyo := R.uops y hy
      rw [ho] at hyo; cases hyo
      have hm : ∀ z ∈ U, y.on.testBit z.i = false := fun z hz => R.miss' hy hn hz
      obtain ⟨J', v', w', hwp, hst, hv⟩ := (Hh.lag y hy).run B0 w0 J a w (Hh.inv_sub hy hm) (V.reads hy hm)
      refine hwp F n Q _ hwd ?_
      have hlen := without_length hy
      refine IH _ todo done ds tm s (f + 1) _ J' _ w' (by omega) hS he hok (R.exec hy hn) (V.exec R hy hm hst.le hv) (Hh.exec R hy hm hst) ?_ (hwd.stp hst)
      exact hmk.trans Hh.acc.fr.size (Mks.stp (Hh.inv_sub hy hm).toInv0 hst (put_defers _ _ _))
    · have hnd' : done.testBit i = false := by
        cases h : done.testBit i with
        | false => rfl
        | true => exact absurd ⟨h, fun y hy e => hU ⟨y, hy, e⟩⟩ hnd
      have hlt := (Array.getElem?_eq_some_iff.1 ho).1
      obtain ⟨q, hq, hqi⟩ : ∃ q ∈ todo, q.i = i := (R.cover i hlt).resolve_left (by simp [hnd'])
      obtain ⟨hqo, hqn, _⟩ := R.td q hq
      rw [hqi, ho] at hqo
      cases hqo
      cases todo with
      | nil => cases hq
      | cons t ts =>
        simp only [evDraw] at he
        split at he
        · -- an operation without effect
          rename_i p r hf
          obtain ⟨hp, hs, heff⟩ := findR_some hf
          have hpm := hp.mem_iff (a := p)
          obtain ⟨hpo, hpn, hpd⟩ := R.td p (hpm.2 (by simp))
          have hlen := hp.length_eq
          simp only [List.length_cons] at hlen hN
          have hok' : ∀ q ∈ r, okOper q.o = true := fun q hq => hok q (hp.mem_iff.2 (by simp [hq]))
          have hS' : ∀ g, g < f → SStep P c g := fun g hg => hS g (by omega)
          split at he
          · cases he
          · rename_i hcl
            split at he
            · cases he
            · rename_i s1 hw
              split at he
              · rename_i tm1 htp
                have hob1 : s1.ob = true := ((hg f).draw _ _ _ _ _ _ _ _ he).ob hob
                obtain ⟨hL, hh⟩ := lag_un (P := P) (i := p.i) (on := closure ds p.need) hpo hw hob1
                have R' := R.push (y := ⟨p.i, p.o, closure ds p.need, tm, .tuple #[], ⟨.leaf, s1.h.next, []⟩, ⟨.leaf, s1.h.next, []⟩, none⟩) (d := ⟨p.i, closure ds p.need, p.o.dst, readsOf ops.toList p.o, [], none⟩) hp hs rfl rfl rfl rfl rfl rfl rfl rfl
                  (fun b o hb => by simp [H.get, T.get_leaf] at hb)
                have V' := V.push R hpd (y := ⟨p.i, p.o, closure ds p.need, tm, .tuple #[], ⟨.leaf, s1.h.next, []⟩, ⟨.leaf, s1.h.next, []⟩, none⟩) rfl rfl rfl rfl rfl (R'.self _ (by simp)) hcl htp
                refine ihf _ r _ _ tm1 (bump s1) (by simp only [List.length_cons]; omega) hS' he hok' R' V' ?_
                refine Hh.push hL (by rw [hh]) (by simp [bump, hh]) (fun b _ => by rw [← hh]; rfl) (fun b hb => by cases hb) (fun _ => ?_) (fun b o hb => by simp [H.get, T.get_leaf] at hb) (fun z hz b o _ hb => by simp [H.get, T.get_leaf] at hb)
                have := Hh.fresh (Nat.le_refl _)
                rw [← hh] at this ⊢
                exact this
              · cases he
            · rename_i s1 hw
              split at he
              · cases he
              · rename_i hap
                split at he
                · cases he
                · rename_i v ob s2 hpu
                  split at he
                  · rename_i tm1 htp
                    have hob2 : s2.ob = true := ((hg f).draw _ _ _ _ _ _ _ _ he).ob hob
                    have hh := wants_h hw
                    obtain ⟨hL, hh2⟩ := lag_mk (i := p.i) (on := closure ds p.need) hT hpo (hok p (hpm.2 (by simp))) heff hw hpu hob2
                    have hsubm : ∀ b o, (only s1.h (foot (opd tm) p.o.op)).get b = some o → b ∈ foot (opd tm) p.o.op ∧ s.h.get b = some o := fun b o hb => by
                      rw [only_get] at hb
                      split at hb
                      · rename_i hm; exact ⟨hm, by rw [← hh]; exact hb⟩
                      · cases hb
                    have R' := R.push (y := ⟨p.i, p.o, closure ds p.need, tm, v, only s1.h (foot (opd tm) p.o.op), subA (only s1.h (foot (opd tm) p.o.op)) ob, madeA s1.h.next ob⟩)
                      (d := ⟨p.i, closure ds p.need, p.o.dst, readsOf ops.toList p.o, foot (opd tm) p.o.op, madeA s1.h.next ob⟩) hp hs rfl rfl rfl rfl rfl rfl rfl rfl (fun b o hb => (hsubm b o hb).1)
                    have V' := V.push R hpd (y := ⟨p.i, p.o, closure ds p.need, tm, v, only s1.h (foot (opd tm) p.o.op), subA (only s1.h (foot (opd tm) p.o.op)) ob, madeA s1.h.next ob⟩) rfl rfl rfl rfl rfl (R'.self _ (by simp)) hcl htp
                    have he2 : evDraw c f ops.toList r (Nat.lor done (bit p.i)) (⟨p.i, closure ds p.need, p.o.dst, readsOf ops.toList p.o, foot (opd tm) p.o.op, madeA s1.h.next ob⟩ :: ds) tm1 s2 = .ok (x, tm') s' := by
                      cases ob <;> exact he
                    refine ihf _ r _ _ tm1 s2 (by simp only [List.length_cons]; omega) hS' he2 hok' R' V' ?_
                    have hfr := Hh.fresh (Nat.le_refl _)
                    rw [← hh] at hfr
                    refine Hh.push hL (by rw [← hh]; rfl) (by rw [hh2, ← hh]; cases ob <;> rfl) (fun b hb => ?_) (fun b hb => ?_) (fun hm => ?_) (fun b o hb => (hsubm b o hb).2) (fun z hz b o hm hb => ?_)
                    · rw [← hh] at hb ⊢
                      rw [hh2]
                      cases ob with
                      | none => rfl
                      | some x => exact H.get_new_ne _ _ hb
                    · rw [hh2]
                      cases ob with
                      | none => cases hb
                      | some x =>
                        cases hb
                        exact (H.get_new_same _ _).trans (H.get_new_same (only s1.h (foot (opd tm) p.o.op)) x).symm
                    · rw [hh2, ← hh]
                      cases ob with
                      | none => exact hfr
                      | some x => cases hm
                    · obtain ⟨h3, h4⟩ := hsubm b o hb
                      obtain ⟨d, hd, e1, _, _, _, e5, _⟩ := R.uds z hz
                      cases hon : (closure ds p.need).testBit z.i with
                      | true => rfl
                      | false => exact absurd (looseMade_mem hd (by rw [e1]; exact hon) (e5.trans hm)) (apart_spec hap h3)
                  · cases he
        · -- an operation with an effect
          rename_i hf
          split at he
          · cases he
          · rename_i p r hf2
            obtain ⟨hp, hs, heff⟩ := findR_some hf2
            have hpm := hp.mem_iff (a := p)
            obtain ⟨hpo, hpn, hpd⟩ := R.td p (hpm.2 (by simp))
            have hlen := hp.length_eq
            simp only [List.length_cons] at hlen hN
            have hok' : ∀ q ∈ r, okOper q.o = true := fun q hq => hok q (hp.mem_iff.2 (by simp [hq]))
            have hS' : ∀ g, g < f → SStep P c g := fun g hg => hS g (by omega)
            split at he
            · rename_i hone hcl
              -- it is the one that comes next
              have hsq : sub q.need done = true := (sub_iff _ _).2 fun j hj => (hn j (by rw [← hqn]; exact hj)).1
              have hqp : q = p := by
                rcases List.mem_cons.1 (hp.mem_iff.1 hq) with e | e
                · exact e
                · have h1 := findR_none hf q hq hsq
                  have h2 := findR_none hone q e hsq
                  cases heq : eff q.o.op with
                  | true => exact absurd heq h2
                  | false => exact absurd heq h1
              subst hqp
              subst hqi
              have hn' : ∀ j, q.need.testBit j = true → done.testBit j = true ∧ ∀ y ∈ U, y.i ≠ j := fun j hj => hn j (by rw [← hqn]; exact hj)
              have hm : ∀ z ∈ U, (closure ds q.need).testBit z.i = false := fun z hz => R.miss hn' hz
              have hv := V.effReads R hm hcl
              split at he
              · cases he
              · rename_i s1 hw
                split at he
                · rename_i tm1 htp
                  have hob1 : s1.ob = true := ((hg f).draw _ _ _ _ _ _ _ _ he).ob hob
                  obtain ⟨h1, h2, h3⟩ := wants_run (J := J) (a := a) hw hob1 hv
                  simp only [wpOpIn, ho]
                  rw [if_neg (by simp [h1])]
                  refine ⟨fun _ _ => hwd.fn _, ?_⟩
                  refine IH U r _ _ tm1 s1 f _ J _ w (by omega) hS' he hok' (R.eff hp hn' rfl rfl) (V.eff R hm hcl htp (Inj.le_refl J) (VR.undef J)) (by rw [h3]; exact Hh) ?_ hwd
                  intro S hS0 h0
                  rw [put_defers]; exact hmk S hS0 h0
                · cases he
              · rename_i s1 hw
                split at he
                · cases he
                · rename_i v s2 hst
                  split at he
                  · rename_i tm1 htp
                    have hob2 : s2.ob = true := ((hg f).draw _ _ _ _ _ _ _ _ he).ob hob
                    have g2 := (hg f).step _ _ _ _ _ hst
                    obtain ⟨h1, h2, h3⟩ := wants_run (J := J) (a := a) hw (g2.ob hob2) hv
                    simp only [wpOpIn, ho]
                    rw [if_pos h1]
                    rw [h3] at hst he g2
                    have hlm : ∀ b ∈ madeL U, b ∈ looseMade ds (closure ds q.need) := fun b hb => by
                      obtain ⟨z, hz, e⟩ := mem_madeL.1 hb
                      obtain ⟨d, hd, e1, _, _, _, e5, _⟩ := R.uds z hz
                      exact looseMade_mem hd (by rw [e1]; exact hm z hz) (e5.trans e)
                    have hlr : ∀ y ∈ U, ∀ b o, y.sub.get b = some o → b ∈ looseRead ds (closure ds q.need) := fun z hz b o hb => by
                      obtain ⟨d, hd, e1, _, _, _, _, e6⟩ := R.uds z hz
                      exact looseRead_mem hd (by rw [e1]; exact hm z hz) (e6 b o hb)
                    have hI : InvA B0 w0 J (hide s.h (looseMade ds (closure ds q.need)) (looseRead ds (closure ds q.need))) w := by
                      refine ⟨Hh.acc.inv.part fun b o hb => ?_, Hh.all⟩
                      rw [hide_get] at hb
                      split at hb
                      · cases hb
                      · rename_i hnm
                        rw [hide_get, if_neg (fun hmm => hnm (hlm b hmm))]; exact hb
                    refine hS f (by omega) q.o tm _ v s2 hst hob2 B0 w0 J w a F n _ Q hI (reads_opd (hok q hq) hv) hwd fun J' v' w' st hvr => ?_
                    refine IH U r _ _ tm1 _ f _ J' _ w' (by omega) hS' he hok' (R.eff hp hn' rfl rfl) (V.eff R hm hcl htp st.le hvr) (Hh.eff hlm hlr st g2.h) ?_ (hwd.stp st)
                    exact hmk.trans Hh.acc.fr.size (Mks.stp hI.toInv0 st (put_defers _ _ _))
                  · cases he
            · cases he
            · cases he

theorem draw_all (hT : Tbl P c) (hg : ∀ f, GoodF c f) (hob : s'.ob = true) (k : ∀ J' a' w', Stp B0 w0 Ji hi wi J' s'.h w' → TR J' tm' a'.tmps → Mks ai wi a' w' → Q (exOf x) a' w') : ∀ N, DrawAt P c ops F n Q B0 w0 Ji hi wi ai x tm' s' N := by
  have fin : ∀ (N : Nat) (done : Nat) (ds : List Done) (tm : Tm) (s : St) (f : Nat) (listed : Array Bool) (J : Inj) (a : Act) (w : World), evDraw c f ops.toList [] done ds tm s = .ok (x, tm') s' → RelO ops [] [] done ds listed → RelV ops [] tm J a → RelH P ops B0 w0 Ji hi wi [] s.h J w → Mks ai wi a w →
      wpAnyIn F n P .any ops Q N listed a w := by
    intro N done ds tm s f listed J a w he R V Hh hmk
    have hr : Region.ready .any ops listed = [] := by
      cases h : Region.ready .any ops listed with
      | nil => rfl
      | cons i l =>
        obtain ⟨o, ho, hn, _⟩ := R.ready.1 (h ▸ List.mem_cons_self : i ∈ Region.ready .any ops listed)
        have hlt := (Array.getElem?_eq_some_iff.1 ho).1
        rcases R.cover i hlt with h2 | ⟨q, hq, _⟩
        · exact absurd ⟨h2, by simp⟩ hn
        · cases hq
    cases f with
    | zero => simp [evDraw] at he
    | succ f =>
      simp only [evDraw] at he
      cases he
      exact wpAnyIn_done hr (k J a w Hh.acc ⟨V.size, fun t => V.val t (by simp)⟩ hmk) N
  intro N
  induction N with
  | zero =>
    intro U todo done ds tm s f listed J a w hN hS he hok R V Hh hmk hwd
    have h1 : U = [] := List.length_eq_zero_iff.1 (by omega)
    have h2 : todo = [] := List.length_eq_zero_iff.1 (by omega)
    subst h1; subst h2
    exact fin 0 done ds tm s f listed J a w he R V Hh hmk
  | succ N ih =>
    intro U todo done ds tm s f listed J a w hN hS he hok R V Hh hmk hwd
    by_cases hz : U = [] ∧ todo = []
    · obtain ⟨rfl, rfl⟩ := hz
      exact fin _ done ds tm s f listed J a w he R V Hh hmk
    · have hne : U ≠ [] ∨ ∃ q ∈ todo, sub q.need done = true := by
        by_cases hU : U = []
        · right
          cases f with
          | zero => simp [evDraw] at he
          | succ f =>
            cases todo with
            | nil => exact absurd ⟨hU, rfl⟩ hz
            | cons t ts =>
              simp only [evDraw] at he
              split at he
              · rename_i p r hf
                obtain ⟨hp, hs, _⟩ := findR_some hf
                exact ⟨p, hp.mem_iff.2 (by simp), hs⟩
              · split at he
                · cases he
                · rename_i p r hf
                  obtain ⟨hp, hs, _⟩ := findR_some hf
                  exact ⟨p, hp.mem_iff.2 (by simp), hs⟩
        · exact .inl hU
      obtain ⟨i0, hi0⟩ := R.some_ready hne
      refine ⟨fun h0 => (by rw [h0] at hi0; cases hi0), fun i hir => ?_⟩
      exact draw_adv hT hg hob ih hir hmk hwd f U todo done ds tm s hN hS he hok R V Hh

theorem prep_mem : ∀ (l : List Oper) (n : Nat) (q : Todo), q ∈ prep n l ↔ ∃ j o, l[j]? = some o ∧ q = ⟨n + j, needs o, o⟩
  | [], n, q => by simp [prep]
  | o :: l, n, q => by
    simp only [prep, List.mem_cons, prep_mem l]
    constructor
    · rintro (rfl | ⟨j, o', h1, rfl⟩)
      · exact ⟨0, o, rfl, rfl⟩
      · exact ⟨j + 1, o', by simpa using h1, by rw [show n + 1 + j = n + (j + 1) by omega]⟩
    · rintro ⟨j, o', h1, rfl⟩
      cases j with
      | zero => simp at h1; subst h1; exact .inl rfl
      | succ j => exact .inr ⟨j, o', by simpa using h1, by rw [show n + 1 + j = n + (j + 1) by omega]⟩
theorem prep_map : ∀ (l : List Oper) (n : Nat), (prep n l).map (·.i) = List.range' n l.length
  | [], n => rfl
  | o :: l, n => by simp [prep, prep_map l, List.range'_succ]
theorem prep_length (l : List Oper) (n : Nat) : (prep n l).length = l.length := by
  have := congrArg List.length (prep_map l n)
  simpa using this

theorem sdraw_of {f : Nat} (hT : Tbl P c) (hg : ∀ f, GoodF c f) (hS : ∀ g, g < f → SStep P c g) : SDraw P c f := by
  intro ops tm s x tm' s' he hob hok B0 w0 J w a F n Q hI hT2 hw k
  have hh : hide s.h (madeL []) [] = s.h := rfl
  refine draw_all (x := x) (tm' := tm') (s' := s') (Ji := J) (hi := s.h) (wi := w) (ai := a) hT hg hob k ops.size [] (prep 0 ops.toList) 0 [] tm s f _ J a w (by simp [prep_length]) hS he (fun q hq => ?_) ?_ ⟨hT2.1, by simp, fun t _ => hT2.2 t, by simp, by simp, by simp, by simp, by simp, by simp⟩
    ⟨.refl hI.toInv0, hI.all, by simp, by simp, by simp, by simp, by simp, by simp⟩ (fun _ _ h => h) hw
  · obtain ⟨j, o, h1, rfl⟩ := (prep_mem _ _ _).1 hq
    exact allB_mem hok o (List.mem_of_getElem? h1)
  · refine ⟨by simp, by simp, by simp, by simp, List.Pairwise.nil, by simp, by simp, fun i => by simp, by simp, by simp, fun q hq => ?_, ?_, fun i hi => ?_, fun i h => by simp at h, by simp, fun i hi => ?_⟩
    · obtain ⟨j, o, h1, rfl⟩ := (prep_mem _ _ _).1 hq
      exact ⟨by simpa using h1, rfl, by simp⟩
    · rw [prep_map]; exact List.nodup_range'
    · right
      exact ⟨⟨i, needs ops[i], ops[i]⟩, (prep_mem _ _ _).2 ⟨i, ops[i], by simp [hi], by simp⟩, rfl⟩
    · simp [Array.getD_eq_getD_getElem?, hi]
end

/-- THE EVALUATOR's WORD IS THE PROGRAM's. -/
structure SAll (P : Program) (c : Ctx) (f : Nat) : Prop where
  code : SCode P c f
  ops : SOps P c f
  step : SStep P c f
  draw : SDraw P c f
  call : SCall P c f
  loop : SLoop P c f

theorem sound {P : Program} {c : Ctx} (hm : P.follows .mixedOrders = true) (hT : Tbl P c) (hF : ∀ k fn, c.fns k = some fn → FnOk P k fn) (hP : PrimOk P c) (hG : PrimGood c) : ∀ f, SAll P c f := by
  have hg := goodF c hG
  intro f
  induction f using Nat.strongRecOn with
  | _ f ih =>
    cases f with
    | zero =>
      refine ⟨?_, ?_, ?_, sdraw_of hT hg (fun g h => by omega), ?_, ?_⟩
      · intro code tm s x tm' s' he; simp [evCode] at he
      · intro ops rest tm s x tm' s' he; simp [evOps] at he
      · intro o tm s v s' he; simp [evStep] at he
      · intro k args s v s' he; simp [evCall] at he
      · intro b tm s x tm' s' he; simp [evCode] at he
    | succ f =>
      have p := ih f (by omega)
      have hl := sloop_succ (hg f) p.code p.loop
      exact ⟨scode_succ hm (hg f) p.code p.ops p.draw p.call hl, sops_succ (hg f) p.step p.ops, sstep_succ hT (hg f) p.code p.call, sdraw_of hT hg fun g hlt => (ih g hlt).step, scall_succ hT hF hP p.code, hl⟩
end Go.EV
