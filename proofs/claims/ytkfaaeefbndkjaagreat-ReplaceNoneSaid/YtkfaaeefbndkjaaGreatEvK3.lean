/-
  slices.Sorted over maps.Keys: the sorted keys, whatever order the map hands them over in.
-/
import Derived.Test.YtkfaaeefbndkjaaGreatEvK2
namespace Go.EV
open Go.RowKit (Below)
noncomputable section

def nRes (c : Ctx) (fn : Func) (o : X × Tm × St) : Option (List (Value × St)) := match o.1 with
  | .normal => match resultL c o.2.2.h o.2.1 fn.results.toList with
    | some vs => some [(oneOf vs, o.2.2)]
    | none => none
  | .ret => match resultL c o.2.2.h o.2.1 fn.results.toList with
    | some vs => some [(oneOf vs, o.2.2)]
    | none => none
  | _ => none
def runN (c : Ctx) (fn : Func) (g : Tm → St → Option (List (X × Tm × St))) (args : List Value) (s : St) : Option (List (Value × St)) := match Nat.ble args.length fn.ntmps with
  | true => match g ⟨iniT 0 args .leaf, fn.ntmps⟩ s with
    | some outs => bindO (nRes c fn) outs
    | none => none
  | false => none
def cnOf (k0 : Nat) (g : List Value → St → Option (List (Value × St))) : CallN := fun k args s => match Nat.beq k k0 with
  | true => g args s
  | false => none

theorem cnOf_ok {P : Program} {c : Ctx} {k : Nat} {fn : Func} {b : Code} {g : Tm → St → Option (List (X × Tm × St))} (hT : Tbl P c) (hfo : FnOk P k fn) (hb : fn.body = some b)
    (hg : ∀ tm s outs, g tm s = some outs → CodeN P b tm s outs) : NOk P (cnOf k (runN c fn g)) := by
  intro k' args s outs' he
  unfold cnOf at he
  split at he
  · rename_i hk
    have := Nat.eq_of_beq_eq_true hk
    subst this
    unfold runN at he
    split at he
    · rename_i hle
      split at he
      · rename_i outs ho
        refine fnN_ok hT hfo hb (Nat.le_of_ble_eq_true hle) (hg _ _ _ ho) fun o hmem => ?_
        obtain ⟨o1, h1, h2⟩ := bindO_mem he o hmem
        obtain ⟨x, tm, s1⟩ := o
        unfold nRes at h1
        split at h1
        · rename_i hx
          split at h1
          · rename_i vs hvs
            cases h1
            exact ⟨.inl hx, vs, hvs, h2 _ (List.mem_singleton.2 rfl)⟩
          · cases h1
        · rename_i hx
          split at h1
          · rename_i vs hvs
            cases h1
            exact ⟨.inr hx, vs, hvs, h2 _ (List.mem_singleton.2 rfl)⟩
          · cases h1
        · cases h1
      · cases he
    · cases he
  · cases he

/-- What is asked of an outcome: the slice, its block, and that the map stands. -/
def projS (o : Value × St) : Option (Nat × Option Nat × Nat × Nat × Bool) × Option Ob × Option Ob × Option Ob := match o.1 with
  | .slice (some a) n c => (some (a.off, a.spot, n, c, Nat.ble 2 a.block), o.2.h.get a.block, o.2.h.get 0, o.2.h.get 1)
  | .slice none n c => (none, some (.cells (some n) [.int .i64 c]), o.2.h.get 0, o.2.h.get 1)
  | _ => (some (1, none, 0, 0, false), none, none, none)
def sortS (ks : List Value) (es : List (Value × Value)) : Option (Nat × Option Nat × Nat × Nat × Bool) × Option Ob × Option Ob × Option Ob := match ks with
  | [] => (none, some (.cells (some 0) [.int .i64 0]), some (.cells none [.map (some 1)]), some (.map es))
  | _ :: _ => (some (0, some 0, ks.length, ks.length, true), some (.cells (some 1) ks), some (.cells none [.map (some 1)]), some (.map es))
def keyArg (kK b : Nat) : Value := .func (.func kK) ⟨[]⟩ ⟨[.pointer (some ⟨b, 0, none⟩)]⟩
def keysAre : List Value → List (Value × Value) → Bool
  | [], [] => true
  | k :: ks, (k', v) :: r => match eq0 k' k, pureV v with
    | true, true => keysAre ks r
    | _, _ => false
  | _, _ => false
theorem keysAre_eq : ∀ {ks : List Value} {es : List (Value × Value)}, keysAre ks es = true → ∃ vs : List Value, es = ks.zip vs ∧ vs.length = ks.length ∧ ∀ e ∈ es, pureV e.2 = true
  | [], [], _ => ⟨[], rfl, rfl, fun e he => by cases he⟩
  | k :: ks, (k', v) :: r, h => by
    simp only [keysAre] at h
    split at h
    · rename_i h1 h2
      obtain ⟨vs, e1, e2, e3⟩ := keysAre_eq h
      refine ⟨v :: vs, by rw [eq0_eq h1, e1]; rfl, by simp [e2], fun e he => ?_⟩
      rcases List.mem_cons.1 he with rfl | he
      · exact h2
      · exact e3 e he
    · cases h
  | [], _ :: _, h => by simp [keysAre] at h
  | _ :: _, [], h => by simp [keysAre] at h
/-- 'slices.Sorted(maps.Keys(m))', where the map's keys are ks: sorted, so. -/
def sortedP (kK : Nat) (ks so : List Value) : Prim := fun args h => match args with
  | [.func (.func f) fa cap] => match fa.toList, cap.toList with
    | [], [.pointer (some a)] => match Nat.beq f kK, Nat.beq a.off 0, eqO a.spot none, h.get a.block with
      | true, true, true, some (.cells none [.map (some m)]) => match h.get m with
        | some (.map es) => match keysAre ks es with
          | true => match so with
            | [] => some (.slice none 0 0, h)
            | _ :: _ => some (.slice (some ⟨h.next, 0, some 0⟩) so.length so.length, h.new (.cells (some 1) so))
          | false => none
        | _ => none
      | _, _, _, _ => none
    | _, _ => none
  | _ => none
theorem sortedP_good (kK : Nat) (ks so : List Value) : PrimGood1 (sortedP kK ks so) := fun args h v h' hp => by
  unfold sortedP at hp
  repeat' split at hp
  all_goals first | (cases hp; exact .refl _) | (cases hp; exact .new _ _) | cases hp

theorem sortedP_ok {P : Program} {cn : CallN} (hN : NOk P cn) {kS kK : Nat} {ks so : List Value} (hks : allB pure0 ks = true) (hso : allB pure0 so = true)
    (hrun : ∀ vs : List Value, vs.length = ks.length → ∃ outs, cn kS [keyArg kK 0] ⟨H2 (.cells none [.map (some 1)]) (.map (ks.zip vs)), [], true⟩ = some outs ∧ ∀ o ∈ outs, projS o = sortS so (ks.zip vs)) : PrimOk1 P kS (sortedP kK ks so) := by
  intro B0 w0 J h w args args' v h' hI hl he
  unfold sortedP at he
  split at he
  · rename_i f fa cap
    split at he
    · rename_i a hfa hcap
      split at he
      · rename_i m hf ho hs hga
        split at he
        · rename_i es hgm
          split at he
          · rename_i hkeys
            obtain ⟨ab, ao, asp⟩ := a
            have gf : f = kK := Nat.eq_of_beq_eq_true hf
            have go : ao = 0 := Nat.eq_of_beq_eq_true ho
            have gs : asp = none := eqO_eq hs
            have hga : h.get ab = some (.cells none [.map (some m)]) := hga
            clear hf ho hs
            subst gf; subst go; subst gs
            obtain ⟨fa⟩ := fa
            obtain ⟨cap⟩ := cap
            simp only at hfa hcap
            subst hfa; subst hcap
            obtain ⟨vs, rfl, hvl, hpv⟩ := keysAre_eq hkeys
            obtain ⟨outs, hcn, hprj⟩ := hrun vs hvl
            obtain ⟨y, r, rfl, hy, hr2⟩ := hl.cons_left
            have := hr2.nil_left; subst this
            obtain ⟨ia, hja, hBa, hOa⟩ := hI.live ab _ hga
            obtain ⟨im, hjm, hBm, hOm⟩ := hI.live m _ hgm
            have hne : ab ≠ m := fun e => by subst e; rw [hga] at hgm; cases hgm
            have hbne : ia.blk ≠ im.blk := fun e => hne (hI.inj ab m _ _ _ _ hga hgm hja hjm e)
            let J0 : Inj := fun x => if x = 1 then some im else if x = 0 then some ia else none
            have hJ0 : J0 0 = some ia := rfl
            have hJ1 : J0 1 = some im := rfl
            have hkp : ∀ e ∈ ks.zip vs, pure0 e.1 = true := fun e he => allB_mem hks _ (List.of_mem_zip he).1
            have moveM : ∀ {Ja Jb : Inj} {w : World}, ObR Ja w im (.map (ks.zip vs)) → ObR Jb w im (.map (ks.zip vs)) := by
              rintro Ja Jb w ⟨ents, clock, h1, h2, h3, h4, h5⟩
              refine ⟨ents, clock, h1, h2, fun k e e' q1 q2 => ?_, h4, h5⟩
              obtain ⟨x1, x2⟩ := h3 k e e' q1 q2
              have hm := List.mem_of_getElem? q1
              rw [VR.pure0_eq (hkp e hm) x1, VR.pureV_eq (hpv e hm) x2]
              exact ⟨VR.of_pure0 _ (hkp e hm), VR.of_pure _ (hpv e hm)⟩
            have moveA : ∀ {Ja Jb : Inj} {w : World} {x x' : Nat}, Ja x = some im → Jb x' = some im → ObR Ja w ia (.cells none [.map (some x)]) → ObR Jb w ia (.cells none [.map (some x')]) := by
              rintro Ja Jb w x x' e1 e2 ⟨arr, e, lo, hi, h1, h2, h3⟩
              refine ⟨arr, e, lo, hi, h1, fun k v hk => ?_, h3⟩
              cases k with
              | succ k => simp at hk
              | zero =>
                simp at hk; subst hk
                obtain ⟨v', q1, q2⟩ := h2 0 _ rfl
                refine ⟨v', q1, ?_⟩
                cases q2 with
                | map hj => rw [e1] at hj; cases hj; exact .map e2
            have hy0 : VR J0 (keyArg f 0) y := by
              unfold keyArg
              cases hy with
              | func h1 h2 h3 h4 =>
                rename_i a1 c1
                have l1 := LV.nil_left ⟨h1, h2⟩
                subst l1
                obtain ⟨z, r, rfl, hz, hr⟩ := LV.cons_left ⟨h3, h4⟩
                have := hr.nil_left; subst this
                cases hz with
                | ptr hj =>
                  rw [hja] at hj; cases hj
                  have l2 : LV J0 [.pointer (some ⟨0, 0, none⟩)] [.pointer (some ⟨ia.blk, 0 + ia.shift, none⟩)] := .cons (.ptr hJ0) .nil
                  exact .func rfl (fun i x x' h => by simp at h) l2.1 l2.2
            have hI0 : InvA B0 w0 J0 (H2 (.cells none [.map (some 1)]) (.map (ks.zip vs))) w := by
              refine ⟨⟨hI.base, hI.below, fun x o hx => ?_, fun x x' o o' i1 i2 hx hx' hja' hjb' hblk => ?_⟩, fun x hx => ?_⟩
              · rw [H2_get] at hx
                split at hx
                · rename_i e; subst e; cases hx; exact ⟨im, rfl, hBm, moveM hOm⟩
                · split at hx
                  · rename_i e; subst e; cases hx; exact ⟨ia, rfl, hBa, moveA hjm hJ1 hOa⟩
                  · cases hx
              · rw [H2_get] at hx hx'
                have h1 : x = 1 ∨ x = 0 := by
                  split at hx
                  · exact .inl (by assumption)
                  · split at hx
                    · exact .inr (by assumption)
                    · cases hx
                have h2 : x' = 1 ∨ x' = 0 := by
                  split at hx'
                  · exact .inl (by assumption)
                  · split at hx'
                    · exact .inr (by assumption)
                    · cases hx'
                rcases h1 with rfl | rfl <;> rcases h2 with rfl | rfl
                · rfl
                · rw [hJ1] at hja'; rw [hJ0] at hjb'; cases hja'; cases hjb'; exact absurd hblk.symm hbne
                · rw [hJ0] at hja'; rw [hJ1] at hjb'; cases hja'; cases hjb'; exact absurd hblk hbne
                · rfl
              · have : 2 ≤ x := hx
                show (if x = 1 then some im else if x = 0 then some ia else none) = none
                rw [if_neg (by omega), if_neg (by omega)]
            obtain ⟨henter, hcalls⟩ := hN kS [keyArg f 0] _ outs hcn B0 w0 J0 w [y] hI0 (.cons hy0 .nil)
            refine .inr ⟨henter, hcalls.mono ?_⟩
            rintro e w' ⟨v', he', o, hmem, J1, st, hvr⟩
            refine ⟨v', he', ?_⟩
            have hpr := hprj o hmem
            have himg : ∀ (k : Nat), k < w.heap.size → k ≠ ia.blk → k ≠ im.blk → w'.heap[k]? = w.heap[k]? := fun k hk hn0 hn1 => st.fr.keep k hk fun x o ix hx hjx => by
              rw [H2_get] at hx
              split at hx
              · rename_i e; subst e; rw [hJ1] at hjx; cases hjx; exact Ne.symm hn1
              · split at hx
                · rename_i e; subst e; rw [hJ0] at hjx; cases hjx; exact Ne.symm hn0
                · cases hx
            have get01 : o.2.h.get 0 = some (.cells none [.map (some 1)]) ∧ o.2.h.get 1 = some (.map (ks.zip vs)) := by
              unfold projS sortS at hpr
              split at hpr <;> split at hpr
              all_goals first | exact ⟨congrArg (fun t => t.2.2.1) hpr, congrArg (fun t => t.2.2.2) hpr⟩ | exact absurd (congrArg (fun t => t.2.2.1) hpr) (by simp)
            have old : ∀ x ox, h.get x = some ox → ∃ i, J x = some i ∧ B0 ≤ i.blk ∧ ObR J w' i ox := fun x ox hx => by
              obtain ⟨ix, q, r, s⟩ := hI.live x ox hx
              by_cases e : x = ab
              · subst e
                rw [hga] at hx; cases hx
                rw [hja] at q; cases q
                obtain ⟨i2, q2, _, s2⟩ := st.inv.live 0 _ get01.1
                rw [st.le _ _ hJ0] at q2; cases q2
                exact ⟨ia, hja, r, moveA (st.le _ _ hJ1) hjm s2⟩
              · by_cases e1 : x = m
                · subst e1
                  rw [hgm] at hx; cases hx
                  rw [hjm] at q; cases q
                  obtain ⟨i2, q2, _, s2⟩ := st.inv.live 1 _ get01.2
                  rw [st.le _ _ hJ1] at q2; cases q2
                  exact ⟨im, hjm, r, moveM s2⟩
                · exact ⟨ix, q, r, s.same (himg _ s.lt (fun e2 => e (hI.inj x ab _ _ _ _ hx hga q hja e2)) (fun e2 => e1 (hI.inj x m _ _ _ _ hx hgm q hjm e2)))⟩
            have hfr : Fr J h w w' := ⟨st.fr.size, fun k hk hn => himg k hk (Ne.symm (hn ab _ ia hga hja)) (Ne.symm (hn m _ im hgm hjm)), st.fr.loops⟩
            cases so with
            | nil =>
              cases he
              refine ⟨J, ⟨J.le_refl, ⟨hI.base, st.inv.below, old, hI.inj⟩, Nat.le_refl _, fun _ _ h => .inl h, hfr, fun b o i hb hi _ => ⟨b, o, i, hb, hi, rfl⟩⟩, ?_⟩
              unfold projS sortS at hpr
              split at hpr
              · simp at hpr
              · rename_i n0 c0 ho1
                simp at hpr
                obtain ⟨⟨e1, e2⟩, _⟩ := hpr
                have e2 : c0 = 0 := by omega
                subst e1; subst e2
                rw [ho1] at hvr
                cases hvr with
                | sliceNil hle => exact .sliceNil hle
              · simp at hpr
            | cons x0 r0 =>
              cases he
              unfold projS sortS at hpr
              split at hpr
              · rename_i a1 n1 c1 ho1
                simp only [Prod.mk.injEq, Option.some.injEq] at hpr
                obtain ⟨⟨q1, q2, q3, q4, q5⟩, q6, _, _⟩ := hpr
                obtain ⟨bb, bo, bs⟩ := a1
                simp only at q1 q2 q5 q6
                subst q1; subst q2; subst q3; subst q4
                have q5 := Nat.le_of_ble_eq_true q5
                rw [ho1] at hvr
                obtain ⟨ib, hjb, hBb, hOb⟩ := st.inv.live bb _ q6
                have hnew : w.heap.size ≤ ib.blk := by
                  rcases Nat.lt_or_ge ib.blk w.heap.size with hlt | hge
                  · exfalso
                    obtain ⟨b1, o1, i1, g1, g2, g3⟩ := st.img bb _ ib q6 hjb hlt
                    rw [H2_get] at g1
                    split at g1
                    · rename_i e; subst e
                      rw [hJ1] at g2; cases g2
                      have := st.inv.inj 1 bb _ _ _ _ get01.2 q6 (st.le _ _ hJ1) hjb g3
                      omega
                    · split at g1
                      · rename_i e; subst e
                        rw [hJ0] at g2; cases g2
                        have := st.inv.inj 0 bb _ _ _ _ get01.1 q6 (st.le _ _ hJ0) hjb g3
                        omega
                      · cases g1
                  · exact hge
                have hle := Inj.le_upd hI.one ib
                have hgn : ∀ b o', (h.new (.cells (some 1) (x0 :: r0))).get b = some o' → (b = h.next ∧ o' = .cells (some 1) (x0 :: r0)) ∨ (b ≠ h.next ∧ h.get b = some o') := fun b o' hb => by
                  by_cases e : b = h.next
                  · subst e; rw [H.get_new_same] at hb; cases hb; exact .inl ⟨rfl, rfl⟩
                  · rw [H.get_new_ne _ _ e] at hb; exact .inr ⟨e, hb⟩
                refine ⟨J.upd h.next ib, ⟨hle, ⟨hI.base, st.inv.below, fun b o' hb => ?_, fun b b' o1 o2 i1 i2 hb hb' hj1 hj2 hblk => ?_⟩, by simp [H.new], fun b i hj => ?_, hfr, fun b o' i hb hj hlt => ?_⟩, ?_⟩
                · rcases hgn b o' hb with ⟨rfl, rfl⟩ | ⟨_, hb1⟩
                  · exact ⟨ib, Inj.upd_same _ _ _, hBb, hOb.plain_move hso⟩
                  · obtain ⟨i, g1, g2, g3⟩ := old b o' hb1
                    exact ⟨i, hle _ _ g1, g2, g3.mono hle⟩
                · rcases hgn b o1 hb with ⟨rfl, rfl⟩ | ⟨n1, hb1⟩ <;> rcases hgn b' o2 hb' with ⟨rfl, rfl⟩ | ⟨n2, hb2⟩
                  · rfl
                  · rw [Inj.upd_same] at hj1; cases hj1
                    rw [Inj.upd_ne _ _ n2] at hj2
                    obtain ⟨i, g1, _, g3⟩ := hI.live b' o2 hb2
                    rw [hj2] at g1; cases g1
                    have := g3.lt
                    omega
                  · rw [Inj.upd_same] at hj2; cases hj2
                    rw [Inj.upd_ne _ _ n1] at hj1
                    obtain ⟨i, g1, _, g3⟩ := hI.live b o1 hb1
                    rw [hj1] at g1; cases g1
                    have := g3.lt
                    omega
                  · rw [Inj.upd_ne _ _ n1] at hj1
                    rw [Inj.upd_ne _ _ n2] at hj2
                    exact hI.inj b b' o1 o2 i1 i2 hb1 hb2 hj1 hj2 hblk
                · by_cases e : b = h.next
                  · subst e; exact .inr ⟨Nat.le_refl _, by simp [H.new]⟩
                  · rw [Inj.upd_ne _ _ e] at hj; exact .inl hj
                · rcases hgn b o' hb with ⟨rfl, rfl⟩ | ⟨n1, hb1⟩
                  · rw [Inj.upd_same] at hj; cases hj; omega
                  · rw [Inj.upd_ne _ _ n1] at hj
                    exact ⟨b, o', i, hb1, hj, rfl⟩
                · cases hvr with
                  | loose g1 g2 g3 =>
                    rw [hjb] at g1; cases g1
                    exact .loose (Inj.upd_same _ _ _) g2 g3
              · simp at hpr
              · simp at hpr
          · cases he
        · cases he
      · cases he
    · cases he
  · cases he
end
end Go.EV
