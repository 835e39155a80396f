/-
  The evaluator's word is the program's: regions whose order is drawn: the heap's part, and the whole.
-/
import Derived.Test.YtkfaaeefbndkjaaGreatEvS
namespace Go.EV
open Go.RowKit (Below)

theorem mem_madeL {U : List Lag} {b : Nat} : b ∈ madeL U ↔ ∃ y ∈ U, y.made = some b := by
  unfold madeL; rw [List.mem_filterMap]

noncomputable def subA (h : H) : Option Ob → H
  | none => h
  | some x => h.new x
def madeA (n : Nat) : Option Ob → Option Nat
  | none => none
  | some _ => some n
noncomputable def afterA (s : St) : Option Ob → H
  | none => (bump s).h
  | some x => s.h.new x
theorem wants_h {ops : List Oper} {o : Oper} {tm : Tm} {s s1 : St} {b : Bool} (hw : wants ops o tm s = some (b, s1)) : s1.h = s.h := by
  unfold wants at hw
  split at hw
  · cases hw; rfl
  · split at hw
    · rename_i b0 _
      cases hd : EV.dec b0 s with
      | mk b1 s3 =>
        rw [hd] at hw
        have := dec_h b0 s
        rw [hd] at this
        cases hw
        exact this
    · cases hw

section
variable {P : Program} {c : Ctx} {ops : Array Oper} {tm : Tm} {o : Oper} {s s1 s2 : St} {v : Value} {i on : Nat}

theorem lag_un (hi : ops[i]? = some o) (hw : wants ops.toList o tm s = some (false, s1)) (hob : s1.ob = true) : LagOk P ops ⟨i, o, on, tm, .tuple #[], ⟨.leaf, s1.h.next, []⟩, ⟨.leaf, s1.h.next, []⟩, none⟩ ∧ s1.h = s.h := by
  have hs := wants_h hw
  refine ⟨⟨fun B0 w0 J a w hI hv => ⟨J, Go.undef, w, fun F n Q K hwd hk => ?_, .refl hI.toInv0, VR.undef J⟩, .inl ⟨rfl, rfl⟩⟩, hs⟩
  obtain ⟨h1, _, _⟩ := wants_run (J := J) (a := a) hw hob hv
  simp only [wpOpIn, hi]
  rw [if_neg (by simp [h1])]
  exact ⟨fun _ _ => hwd.fn _, hk⟩

theorem lag_mk (hT : Tbl P c) (hi : ops[i]? = some o) (hok : okOper o = true) (heff : eff o.op = false) {ob : Option Ob} (hw : wants ops.toList o tm s = some (true, s1)) (hp : evPure c tm o s1 = some (v, ob, s2)) (hob : s2.ob = true) :
    LagOk P ops ⟨i, o, on, tm, v, only s1.h (foot (opd tm) o.op), subA (only s1.h (foot (opd tm) o.op)) ob, madeA s1.h.next ob⟩ ∧
      s2.h = afterA s1 ob := by
  have hob1 : s1.ob = true := (evPure_good hp).ob hob
  unfold evPure at hp
  split at hp
  · rename_i x y z hop
    split at hp
    · rename_i b hb
      have fin : ∀ {u : Operand} {s3 : St}, EV.dec b s1 = (b, s3) → s3.ob = true → s3.h = s1.h → u = (if b then y else z) → v = opd tm u → ob = none → s2 = bump s3 → LagOk P ops ⟨i, o, on, tm, v, only s1.h (foot (opd tm) o.op), subA (only s1.h (foot (opd tm) o.op)) ob, madeA s1.h.next ob⟩ ∧
          s2.h = afterA s1 ob := by
        rintro u s3 _ _ h3 hu rfl rfl rfl
        refine ⟨⟨fun B0 w0 J a w hI hv => ⟨J, a.eval u, w, fun F n Q K hwd hk => ?_, .refl hI.toInv0, ?_⟩, .inl ⟨rfl, rfl⟩⟩, by simp [bump, afterA, h3]⟩
        · obtain ⟨h1, _, _⟩ := wants_run (J := J) (a := a) hw hob1 hv
          simp only [wpOpIn, hi]
          rw [if_pos h1]
          have hx : ∀ x' ∈ opsOf (.pick x y z), VR J (opd tm x') (a.eval x') := by rw [← hop]; exact reads_opd hok hv
          have hx := hx x (by simp [opsOf])
          rw [hb] at hx
          have hx := hx.bool_inv
          refine wpIn_of_run hwd (by simp [hop]) ?_
          have : (execOp a.eval o).run P w = .ok (.value (a.eval u)) w := by simp only [execOp, hop, hx, hu]; cases b <;> simp [asBool]
          rw [this]
          exact hk
        · have hx : ∀ x' ∈ opsOf (.pick x y z), VR J (opd tm x') (a.eval x') := by rw [← hop]; exact reads_opd hok hv
          exact hx u (by rw [hu]; cases b <;> simp [opsOf])
      split at hp
      · rename_i s3 hd
        cases hp
        obtain ⟨e1, e2, e3⟩ := dec_true hd hob
        subst e1
        exact fin hd hob e3 rfl rfl rfl rfl
      · rename_i s3 hd
        cases hp
        obtain ⟨e1, e2, e3⟩ := dec_true hd hob
        subst e1
        exact fin hd hob e3 rfl rfl rfl rfl
    · cases hp
  · split at hp
    · rename_i v1 h1 hev
      have hpl := evOp_plain heff hev
      have run : ∀ (B0 : Nat) (w0 : World) J a w, Inv B0 w0 J (only s1.h (foot (opd tm) o.op)) w → (∀ t ∈ readsOf ops.toList o, VR J (tget tm t) (a.tmps.getD t Go.undef)) →
          ∃ J' v' w', (∀ F n Q K, Wd F w → K (a.put o.dst v') w' → wpOpIn F n P ops Q i K a w) ∧ Stp B0 w0 J (only s1.h (foot (opd tm) o.op)) w J' h1 w' ∧ VR J' v1 v' := by
        intro B0 w0 J a w hI hv
        obtain ⟨J', v', w', hr, hst, hvr⟩ := op_val (P := P) hT hI (reads_opd hok hv) hev
        have fin : ∀ {F : Fence} {n : Nat} {Q : Exit → Act → World → Prop} {K : Act → World → Prop}, Wd F w → o.uponIn F n P a K Q ((execOp a.eval o).run P w) → wpOpIn F n P ops Q i K a w := by
          intro F n Q K hwd hu
          obtain ⟨h1, _, _⟩ := wants_run (J := J) (a := a) hw hob1 hv
          simp only [wpOpIn, hi]
          rw [if_pos h1]
          exact wpIn_of_run hwd (val_not_defer hev) hu
        rcases hr with hr | ⟨hr, rfl⟩
        · exact ⟨J', v', w', fun F n Q K hwd hk => fin hwd (by rw [hr]; exact hk), hst, hvr⟩
        · exact ⟨J', _, w', fun F n Q K hwd hk => fin hwd (by rw [hr]; exact hk), hst, hvr⟩
      split at hp
      · rename_i hn
        cases hp
        have hn := Nat.eq_of_beq_eq_true hn
        have : h1 = only s1.h (foot (opd tm) o.op) := by
          rcases hpl with e | ⟨x, e⟩
          · exact e
          · rw [e] at hn; simp [H.new, only] at hn
        rw [this] at run
        exact ⟨⟨run, .inl ⟨rfl, rfl⟩⟩, rfl⟩
      · split at hp
        · rename_i x hn hx
          cases hp
          have hn := Nat.eq_of_beq_eq_true hn
          have : h1 = (only s1.h (foot (opd tm) o.op)).new x := by
            rcases hpl with e | ⟨x', e⟩
            · rw [e] at hn; simp [only] at hn
            · rw [e] at hx
              have h2 : ((only s1.h (foot (opd tm) o.op)).new x').get (only s1.h (foot (opd tm) o.op)).next = some x' := H.get_new_same _ _
              have h3 : (only s1.h (foot (opd tm) o.op)).next = s1.h.next := rfl
              rw [h3, hx] at h2
              cases h2
              exact e
          rw [this] at run
          exact ⟨⟨run, .inr ⟨rfl, x, rfl⟩⟩, rfl⟩
        · cases hp
    · cases hp
end

/-- The heap's part. -/
structure RelH (P : Program) (ops : Array Oper) (B0 : Nat) (w0 : World) (Ji : Inj) (hi : H) (wi : World) (U : List Lag) (h : H) (J : Inj) (w : World) : Prop where
  acc : Stp B0 w0 Ji hi wi J (hide h (madeL U) []) w
  all : ∀ b, h.next ≤ b → J b = none
  low : ∀ y ∈ U, J y.sub.next = none ∧ hi.next ≤ y.sub.next ∧ y.sub.next < h.next
  dif : ∀ y ∈ U, ∀ z ∈ U, y.sub.next = z.sub.next → y.i = z.i
  lag : ∀ y ∈ U, LagOk P ops y
  subU : ∀ y ∈ U, ∀ b o, y.sub.get b = some o → h.get b = some o
  madeU : ∀ y ∈ U, ∀ b, y.made = some b → h.get b = y.sub'.get b
  touch : ∀ y ∈ U, ∀ z ∈ U, ∀ b o, z.made = some b → y.sub.get b = some o → y.on.testBit z.i = true

section
variable {P : Program} {ops : Array Oper} {B0 : Nat} {w0 : World} {Ji J J' : Inj} {hi h h1 : H} {wi w w' : World} {U : List Lag} {todo r : List Todo} {done : Nat} {ds : List Done} {listed : Array Bool} {v' : Value}

theorem LagOk.made_num {y : Lag} (hL : LagOk P ops y) {b : Nat} (hb : y.made = some b) : b = y.sub.next := by
  rcases hL.made with ⟨h1, _⟩ | ⟨h1, _⟩
  · rw [h1] at hb; cases hb
  · rw [h1] at hb; cases hb; rfl
theorem RelH.made_low (R : RelH P ops B0 w0 Ji hi wi U h J w) {b : Nat} (hb : b ∈ madeL U) : b < h.next := by
  obtain ⟨y, hy, hm⟩ := mem_madeL.1 hb
  rw [(R.lag y hy).made_num hm]
  exact (R.low y hy).2.2
theorem RelH.fresh (R : RelH P ops B0 w0 Ji hi wi U h J w) {b : Nat} (hb : h.next ≤ b) : h.get b = none := by
  cases hg : h.get b with
  | none => rfl
  | some o =>
    have : (hide h (madeL U) []).get b = some o := by
      rw [hide_get, if_neg (fun hm => by have := R.made_low hm; omega)]; exact hg
    obtain ⟨i, hj, _⟩ := R.acc.inv.live b o this
    rw [R.all b hb] at hj; cases hj

theorem RelH.push (R : RelH P ops B0 w0 Ji hi wi U h J w) {y : Lag} (hL : LagOk P ops y) (hn : y.sub.next = h.next) (hn1 : h1.next = h.next + 1)
    (hget : ∀ b, b ≠ h.next → h1.get b = h.get b) (hmade : ∀ b, y.made = some b → h1.get b = y.sub'.get b) (hnone : y.made = none → h1.get h.next = none)
    (hsub : ∀ b o, y.sub.get b = some o → h.get b = some o) (ht : ∀ z ∈ U, ∀ b o, z.made = some b → y.sub.get b = some o → y.on.testBit z.i = true) : RelH P ops B0 w0 Ji hi wi (y :: U) h1 J w := by
  have hfr := R.fresh (Nat.le_refl _)
  have hne : ∀ b o, h.get b = some o → b ≠ h.next := fun b o hb e => by rw [e, hfr] at hb; cases hb
  have hml : ∀ b, y.made = some b → b = h.next := fun b hb => by rw [← hn]; exact hL.made_num hb
  have hsz := R.acc.next
  refine ⟨R.acc.shrink (fun b o hb => ?_) (by show h.next ≤ h1.next; omega), fun b hb => R.all b (by omega), fun z hz => ?_, fun z hz u hu he => ?_, fun z hz => ?_, fun z hz b o hb => ?_, fun z hz b hb => ?_, fun z hz u hu b o hb ho => ?_⟩
  · rw [hide_get] at hb ⊢
    split at hb
    · cases hb
    · rename_i hnm
      have h2 : b ∉ madeL U := fun hm => hnm (by
        obtain ⟨z, hz, e⟩ := mem_madeL.1 hm
        exact mem_madeL.2 ⟨z, by simp [hz], e⟩)
      rw [if_neg h2]
      by_cases e : b = h.next
      · subst e
        cases hm : y.made with
        | none => rw [hnone hm] at hb; cases hb
        | some b' =>
          exact absurd (mem_madeL.2 ⟨y, by simp, by rw [hm, hml b' hm]⟩) hnm
      · rw [← hget b e]; exact hb
  · rcases List.mem_cons.1 hz with rfl | hz
    · rw [hn]; exact ⟨R.all _ (Nat.le_refl _), hsz, by omega⟩
    · obtain ⟨a1, a2, a3⟩ := R.low z hz; exact ⟨a1, a2, by omega⟩
  · rcases List.mem_cons.1 hz with e1 | hz1
    · rcases List.mem_cons.1 hu with e2 | hu1
      · rw [e1, e2]
      · subst e1
        have := (R.low u hu1).2.2
        omega
    · rcases List.mem_cons.1 hu with e2 | hu1
      · subst e2
        have := (R.low z hz1).2.2
        omega
      · exact R.dif z hz1 u hu1 he
  · rcases List.mem_cons.1 hz with rfl | hz
    · exact hL
    · exact R.lag z hz
  · rcases List.mem_cons.1 hz with rfl | hz
    · have := hsub b o hb
      rw [hget b (hne b o this)]; exact this
    · have := R.subU z hz b o hb
      rw [hget b (hne b o this)]; exact this
  · rcases List.mem_cons.1 hz with rfl | hz
    · exact hmade b hb
    · have h2 := (R.lag z hz).made_num hb
      have h3 := (R.low z hz).2.2
      rw [hget b (by omega)]; exact R.madeU z hz b hb
  · rcases List.mem_cons.1 hz with e1 | hz1
    · rcases List.mem_cons.1 hu with e2 | hu1
      · subst e1; subst e2
        exact absurd (hml b hb) (hne b o (hsub b o ho))
      · subst e1; exact ht u hu1 b o hb ho
    · rcases List.mem_cons.1 hu with e2 | hu1
      · subst e2
        exact absurd (hml b hb) (hne b o (R.subU z hz1 b o ho))
      · exact R.touch z hz1 u hu1 b o hb ho

theorem RelH.exec (O : RelO ops U todo done ds listed) (R : RelH P ops B0 w0 Ji hi wi U h J w) {y : Lag} (hy : y ∈ U) (hm : ∀ z ∈ U, y.on.testBit z.i = false) (hst : Stp B0 w0 J y.sub w J' y.sub' w') : RelH P ops B0 w0 Ji hi wi (without U y.i) h J' w' := by
  have hL := R.lag y hy
  have sub : ∀ z ∈ without U y.i, z ∈ U ∧ z.i ≠ y.i := fun z hz => mem_without.1 hz
  obtain ⟨l1, l2, l3⟩ := R.low y hy
  have hnew : ∀ b i, J' b = some i → J b = some i ∨ b = y.sub.next := fun b i hb => by
    rcases hst.new b i hb with e | ⟨e1, e2⟩
    · exact .inl e
    · rcases hL.made with ⟨_, q⟩ | ⟨_, x, q⟩
      · rw [q] at e2; omega
      · rw [q] at e2; simp [H.new] at e2; exact .inr (by omega)
  have hsubset : ∀ b o, y.sub.get b = some o → (hide h (madeL U) []).get b = some o := fun b o hb => by
    rw [hide_get, if_neg, R.subU y hy b o hb]
    intro hmm
    obtain ⟨z, hz, e⟩ := mem_madeL.1 hmm
    have := R.touch y hy z hz b o e hb
    rw [hm z hz] at this; cases this
  refine ⟨Stp.ext R.acc hst hsubset (fun b o hb => ?_) R.acc.next (fun b i hb => ?_) (Nat.le_refl _), fun b hb => ?_, fun z hz => ?_, fun z hz u hu => R.dif z (sub z hz).1 u (sub u hu).1, fun z hz => R.lag z (sub z hz).1, fun z hz => R.subU z (sub z hz).1, fun z hz => R.madeU z (sub z hz).1, fun z hz u hu => R.touch z (sub z hz).1 u (sub u hu).1⟩
  · rw [hide_get] at hb
    split at hb
    · cases hb
    · rename_i hnm
      by_cases e : y.made = some b
      · rw [R.madeU y hy b e] at hb; exact .inl hb
      · have h2 : b ∉ madeL U := fun hmm => by
          obtain ⟨z, hz, e2⟩ := mem_madeL.1 hmm
          by_cases e3 : z.i = y.i
          · have := O.uniq hz hy e3; subst this; exact e e2
          · exact hnm (mem_madeL.2 ⟨z, mem_without.2 ⟨hz, e3⟩, e2⟩)
        cases hs : y.sub.get b with
        | none => exact .inr ⟨by rw [hide_get, if_neg h2]; exact hb, rfl⟩
        | some o' =>
          have h3 := R.subU y hy b o' hs
          rw [hb] at h3; cases h3
          left
          rcases hL.made with ⟨_, q⟩ | ⟨q1, x, q⟩
          · rw [q]; exact hs
          · rw [q, H.get_new_ne _ _ (fun e4 => e (by rw [q1, e4]))]; exact hs
  · rcases hnew b i hb with e | e
    · exact .inl e
    · rw [e]; exact .inr ⟨l2, l3⟩
  · cases hj : J' b with
    | none => rfl
    | some i =>
      rcases hnew b i hj with e | e
      · rw [R.all b hb] at e; cases e
      · omega
  · obtain ⟨hz1, hz2⟩ := sub z hz
    obtain ⟨a1, a2, a3⟩ := R.low z hz1
    refine ⟨?_, a2, a3⟩
    cases hj : J' z.sub.next with
    | none => rfl
    | some i =>
      rcases hnew _ i hj with e | e
      · rw [a1] at e; cases e
      · exact absurd (R.dif z hz1 y hy e) hz2

theorem RelH.eff (R : RelH P ops B0 w0 Ji hi wi U h J w) {lm lr : List Nat} (hlm : ∀ b ∈ madeL U, b ∈ lm) (hlr : ∀ y ∈ U, ∀ b o, y.sub.get b = some o → b ∈ lr) {h2 : H} (hst : Stp B0 w0 J (hide h lm lr) w J' h2 w') (hg : GH (hide h lm lr) h2) :
    RelH P ops B0 w0 Ji hi wi U (restore h2 h lm) J' w' := by
  have hnx : h.next ≤ h2.next := hst.next
  have hnew : ∀ b i, J' b = some i → J b = some i ∨ (h.next ≤ b ∧ b < h2.next) := hst.new
  have hge : ∀ b, b ∈ lm → (restore h2 h lm).get b = h.get b := fun b hb => by rw [restore_get, if_pos hb]
  refine ⟨Stp.ext R.acc hst (fun b o hb => ?_) (fun b o hb => ?_) (by have := R.acc.next; exact Nat.le_trans this hnx) (fun b i hb => ?_) hnx, fun b hb => ?_, fun y hy => ?_, R.dif, R.lag, fun y hy b o hb => ?_, fun y hy b hb => ?_, R.touch⟩
  · rw [hide_get] at hb
    split at hb
    · cases hb
    · rename_i hn
      rw [hide_get, if_neg (fun hm => hn (hlm b hm))]; exact hb
  · rw [hide_get] at hb
    split at hb
    · cases hb
    · rename_i hn
      by_cases e : b ∈ lm
      · rw [hge b e] at hb
        exact .inr ⟨by rw [hide_get, if_neg hn]; exact hb, by rw [hide_get, if_pos e]⟩
      · rw [restore_get, if_neg e] at hb
        exact .inl hb
  · rcases hnew b i hb with e | ⟨e1, e2⟩
    · exact .inl e
    · exact .inr ⟨Nat.le_trans R.acc.next e1, e2⟩
  · have hb : h2.next ≤ b := hb
    cases hj : J' b with
    | none => rfl
    | some i =>
      rcases hnew b i hj with e | ⟨e1, e2⟩
      · rw [R.all b (by omega)] at e; cases e
      · omega
  · obtain ⟨a1, a2, a3⟩ := R.low y hy
    refine ⟨?_, a2, Nat.lt_of_lt_of_le a3 hnx⟩
    cases hj : J' y.sub.next with
    | none => rfl
    | some i =>
      rcases hnew _ i hj with e | ⟨e1, e2⟩
      · rw [a1] at e; cases e
      · omega
  · have h3 := R.subU y hy b o hb
    by_cases e : b ∈ lm
    · rw [hge b e]; exact h3
    · rw [restore_get, if_neg e]
      have hlt : b < h.next := by
        rcases Nat.lt_or_ge b h.next with q | q
        · exact q
        · rw [R.fresh q] at h3; cases h3
      rw [hg.keep b (by simp [hide, hlr y hy b o hb]) hlt, hide_get, if_neg e]; exact h3
  · rw [hge b (hlm b (mem_madeL.2 ⟨y, hy, hb⟩))]
    exact R.madeU y hy b hb
end
end Go.EV
