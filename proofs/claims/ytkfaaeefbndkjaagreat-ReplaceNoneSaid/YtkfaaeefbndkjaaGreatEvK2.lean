/-
  Functions with more than one outcome: calls, ranges over functions, straight code.
-/
import Derived.Test.YtkfaaeefbndkjaaGreatEvK1
namespace Go.EV
open Go.RowKit (Below)
noncomputable section

abbrev CallN := Nat → List Value → St → Option (List (Value × St))
def NOk (P : Program) (cn : CallN) : Prop := ∀ k args s outs, cn k args s = some outs → ∀ (B0 : Nat) (w0 : World) J w args', InvA B0 w0 J s.h w → LV J args args' →
  (callFunc k args'.toArray).run P w = .ok (.enter k args'.toArray) w ∧ Calls P k args'.toArray w fun e w' => ∃ v', e = .returned v' ∧ ∃ o ∈ outs, ∃ J', Stp B0 w0 J s.h w J' o.2.h w' ∧ VR J' o.1 v'
def CodeN (P : Program) (b : Code) (tm : Tm) (s : St) (outs : List (X × Tm × St)) : Prop := ∀ (B0 : Nat) (w0 : World) J w a F n Q, InvA B0 w0 J s.h w → TR J tm a.tmps → Wd F w →
  (∀ o ∈ outs, ∀ J' a' w', Stp B0 w0 J s.h w J' o.2.2.h w' → TR J' o.2.1 a'.tmps → Mks a w a' w' → Q (exOf o.1) a' w') → b.wpIn F n P Q a w

section
variable {B0 : Nat} {w0 : World} {J J' : Inj} {h h' : H} {w w' : World} {P : Program} {c : Ctx} {F : Fence} {n : Nat} {a : Act}

theorem fnN_ok {k : Nat} {fn : Func} {b : Code} {args : List Value} {s : St} {outs : List (X × Tm × St)} {outs' : List (Value × St)} (hT : Tbl P c) (hfo : FnOk P k fn) (hb : fn.body = some b) (hle : args.length ≤ fn.ntmps)
    (hcode : CodeN P b ⟨iniT 0 args .leaf, fn.ntmps⟩ s outs)
    (hres : ∀ o ∈ outs, (o.1 = .normal ∨ o.1 = .ret) ∧ ∃ vs, resultL c o.2.2.h o.2.1 fn.results.toList = some vs ∧ (oneOf vs, o.2.2) ∈ outs') :
    ∀ (B0 : Nat) (w0 : World) J w args', InvA B0 w0 J s.h w → LV J args args' →
      (callFunc k args'.toArray).run P w = .ok (.enter k args'.toArray) w ∧ Calls P k args'.toArray w fun e w' => ∃ v', e = .returned v' ∧ ∃ o ∈ outs', ∃ J', Stp B0 w0 J s.h w J' o.2.h w' ∧ VR J' o.1 v' := by
  intro B0 w0 J w args' hI hl
  have henter := callFunc_enter (P := P) hfo (by rw [hb]; rfl) args'.toArray w
  refine ⟨henter, ?_⟩
  refine callsIn_wide (n := 0).1 (callsIn_of_wp_marks hfo.funcs hb trivial ?_)
  have hTR : TR J ⟨iniT 0 args .leaf, fn.ntmps⟩ (args'.toArray ++ Array.replicate (fn.ntmps - args'.toArray.size) Go.undef) := TR.init hl hle
  have hBs : B0 ≤ w.heap.size := Nat.le_trans hI.base hI.below.size
  refine hcode B0 w0 J w _ _ _ _ hI hTR (.inl rfl) fun o ho J1 a1 w1 st1 t1 m1 => ?_
  have hmk := m1 w.heap.size (Nat.le_refl _) ⟨[], rfl, List.nodup_nil, fun r hr => by cases hr⟩
  obtain ⟨hx, vs, hvs, hmem⟩ := hres o ho
  have fin : ∀ w', Stp B0 w0 J s.h w J1 o.2.2.h w' → ∃ v', (results fn a1.tmps).run P w' = .ok v' w' ∧ (∃ v'', Ending.returned v' = .returned v'' ∧ ∃ o ∈ outs', ∃ J', Stp B0 w0 J s.h w J' o.2.h w' ∧ VR J' o.1 v'') := by
    intro w' st'
    obtain ⟨v', h1, h2⟩ := run_results hT (st'.all hI).one t1 hvs
    exact ⟨v', h1, v', rfl, _, hmem, J1, st', h2⟩
  obtain ⟨x, tm1, s1⟩ := o
  rcases hx with hx | hx <;> (simp only at hx; subst hx; exact leavesM hBs fin _ w1 st1 hmk)

/-- A number is given out: nothing lies there yet; one object is spoken of no more. -/
theorem Stp.numb (hI : InvA B0 w0 J h w) {m : Nat} {hk : H} (hu : h.upd m none = some hk) (i : BI) : Stp B0 w0 J h w (J.upd h.next i) ⟨hk.objs, hk.next + 1, hk.ro⟩ w := by
  obtain ⟨hn, -, hs, hne⟩ := H.upd_some hu
  have hget : ∀ b o, (⟨hk.objs, hk.next + 1, hk.ro⟩ : H).get b = some o → h.get b = some o ∧ b ≠ m ∧ b ≠ h.next := fun b o hb => by
    have hb : hk.get b = some o := hb
    have e1 : b ≠ m := fun e => by subst e; rw [hs] at hb; cases hb
    rw [hne b e1] at hb
    refine ⟨hb, e1, fun e => ?_⟩
    obtain ⟨i, q, _⟩ := hI.live b o hb
    rw [hI.all b (by omega)] at q; cases q
  have hle := Inj.le_upd hI.one i
  refine ⟨hle, ⟨hI.base, hI.below, fun b o hb => ?_, fun b b' o o' ia ib hb hb' hj hj' => ?_⟩, by show h.next ≤ hk.next + 1; omega, fun b j hj => ?_, ⟨Nat.le_refl _, fun _ _ _ => rfl, fun _ r hr => ⟨r, hr, rfl⟩⟩, fun b o j hb hj _ => ?_⟩
  · obtain ⟨h1, _, _⟩ := hget b o hb
    obtain ⟨j, q, r, s⟩ := hI.live b o h1
    exact ⟨j, hle _ _ q, r, s.mono hle⟩
  · obtain ⟨h1, _, e1⟩ := hget b o hb
    obtain ⟨h2, _, e2⟩ := hget b' o' hb'
    rw [Inj.upd_ne _ _ e1] at hj
    rw [Inj.upd_ne _ _ e2] at hj'
    exact hI.inj b b' o o' ia ib h1 h2 hj hj'
  · by_cases e : b = h.next
    · exact .inr ⟨by omega, by show b < hk.next + 1; omega⟩
    · rw [Inj.upd_ne _ _ e] at hj; exact .inl hj
  · obtain ⟨h1, _, e1⟩ := hget b o hb
    rw [Inj.upd_ne _ _ e1] at hj
    exact ⟨b, o, j, h1, hj, rfl⟩

/-- An object is spoken of again. -/
theorem Stp.again (st : Stp B0 w0 J h w J' h' w') {m : Nat} {o : Ob} {i : BI} (hj : J' m = some i) (hB : B0 ≤ i.blk) (hO : ObR J' w' i o) (hni : NI J' h' i.blk) (himg : i.blk < w.heap.size → ∃ b1 o1 i1, h.get b1 = some o1 ∧ J b1 = some i1 ∧ i1.blk = i.blk) :
    Stp B0 w0 J h w J' ⟨h'.objs.set m (some o), h'.next, h'.ro⟩ w' := by
  have hI := st.inv
  have hget : ∀ b o', (⟨h'.objs.set m (some o), h'.next, h'.ro⟩ : H).get b = some o' → (b = m ∧ o' = o) ∨ (b ≠ m ∧ h'.get b = some o') := fun b o' hb => by
    by_cases e : b = m
    · subst e
      have : (h'.objs.set b (some o)).get b = some o' := hb
      rw [T.get_set_same] at this
      cases this; exact .inl ⟨rfl, rfl⟩
    · have : (h'.objs.set m (some o)).get b = some o' := hb
      rw [T.get_set_ne _ _ (Ne.symm e)] at this
      exact .inr ⟨e, this⟩
  refine ⟨st.le, ⟨hI.base, hI.below, fun b o' hb => ?_, fun b b' o1 o2 ia ib hb hb' hja hjb hblk => ?_⟩, st.next, st.new, st.fr, fun b o' ib hb hjb hlt => ?_⟩
  · rcases hget b o' hb with ⟨rfl, rfl⟩ | ⟨_, h1⟩
    · exact ⟨i, hj, hB, hO⟩
    · exact hI.live b o' h1
  · rcases hget b o1 hb with ⟨rfl, rfl⟩ | ⟨e1, h1⟩ <;> rcases hget b' o2 hb' with ⟨rfl, rfl⟩ | ⟨e2, h2⟩
    · rfl
    · rw [hj] at hja; cases hja
      exact absurd hblk.symm (hni b' o2 ib h2 hjb)
    · rw [hj] at hjb; cases hjb
      exact absurd hblk (hni b o1 ia h1 hja)
    · exact hI.inj b b' o1 o2 ia ib h1 h2 hja hjb hblk
  · rcases hget b o' hb with ⟨rfl, rfl⟩ | ⟨_, h1⟩
    · rw [hj] at hjb; cases hjb; exact himg hlt
    · exact st.img b o' ib h1 hjb hlt
end

/-! ### 'func(yield) { for k := range m { .. } }' -/
structure KF where
  o1 : Oper
  o2 : Oper
  B : KB
  src : Nat
  ty : Nat
def KF.code (K : KF) (i0 i1 i2 : Nat) : Code := .seq (.region i0 ⟨[K.o1, K.o2]⟩ false) (.block 0 (.loop (K.B.body i1 i2)))
structure KF.Ok (P : Program) (K : KF) : Prop where
  b : K.B.Ok
  g1 : K.o1.guard = none
  g2 : K.o2.guard = none
  op2 : K.o2.op = .range K.ty (.tmp K.src)
  ok1 : okOper K.o1 = true
  und : ∃ k e, P.underlying K.ty = some (.map k e)
def kEnd (m : Nat) (es : List (Value × Value)) : X × Tm × St → Option (List (X × Tm × St))
  | (.exit 0, tm, s) => some [(.normal, tm, ⟨⟨s.h.objs.set m (some (.map es)), s.h.next, s.h.ro⟩, s.orc, s.ob⟩)]
  | _ => none
def kCode (c : Ctx) (f : Nat) (K : KF) (tm : Tm) (s : St) : Option (List (X × Tm × St)) := match evStep c f K.o1 tm s with
  | .ok v s1 => match s1.ob, tput K.o1.dst v tm with
    | true, some tm1 => match tget tm1 K.src with
      | .map (some m) => match s1.h.get m, s1.h.upd m none with
        | some (.map es), some hk => match tput K.o2.dst (.pointer (some ⟨s1.h.next, 0, none⟩)) tm1 with
          | some tm2 => match isIt K.B.it s1.h.next tm2 with
            | true => match kLoop c f K.B s1.h.next es.length es tm2 ⟨⟨hk.objs, hk.next + 1, hk.ro⟩, s1.orc, s1.ob⟩ with
              | some outs => bindO (kEnd m es) outs
              | none => none
            | false => none
          | none => none
        | _, _ => none
      | _ => none
    | _, _ => none
  | .err _ => none

theorem kCode_ok {P : Program} {c : Ctx} (hS : ∀ f, SAll P c f) (hg : ∀ f, GoodF c f) {f : Nat} {K : KF} (hK : K.Ok P) (i0 i1 i2 : Nat) {tm : Tm} {s : St} {outs : List (X × Tm × St)} (he : kCode c f K tm s = some outs) : CodeN P (K.code i0 i1 i2) tm s outs := by
  intro B0 w0 J w a F n Q hI hT hw k
  unfold kCode at he
  split at he
  · rename_i v s1 hst
    split at he
    · rename_i tm1 hob ht1
      split at he
      · rename_i m hm
        split at he
        · rename_i es hk hes hu
          split at he
          · rename_i tm2 ht2
            split at he
            · rename_i hit
              split at he
              · rename_i outs0 hloop
                unfold KF.code
                refine wpIn_seq (wpIn_region ?_)
                have hrange : List.range (⟨[K.o1, K.o2]⟩ : Array Oper).size = [0, 1] := rfl
                rw [hrange, wpOpsIn_cons]
                have ho0 : (⟨[K.o1, K.o2]⟩ : Array Oper)[0]? = some K.o1 := rfl
                have ho1 : (⟨[K.o1, K.o2]⟩ : Array Oper)[1]? = some K.o2 := rfl
                simp only [wpOpIn, ho0]
                rw [if_pos (by simp [Region.wanted, hK.g1])]
                refine (hS f).step K.o1 tm s v s1 hst hob B0 w0 J w a F n _ _ hI (fun x hx => opd_rel hT (allB_mem hK.ok1 x hx)) hw fun J1 v1 w1 st1 vr1 => ?_
                have hI1 := st1.all hI
                have tr1 := (hT.mono st1.le).put vr1 ht1
                have hw1 := hw.stp st1
                have mk1 : Mks a w (a.put K.o1.dst v1) w1 := (Mks.stp hI.toInv0 st1 rfl).put _ _
                rw [wpOpsIn_cons]
                simp only [wpOpIn, ho1]
                rw [if_pos (by simp [Region.wanted, hK.g2])]
                refine wpIn_of_run hw1 (by simp [hK.op2]) ?_
                obtain ⟨im, hjm, hBm, ents, clock, hbm, hlen, hrel, hborn, hnd⟩ := hI1.live m _ hes
                have hev : (a.put K.o1.dst v1).eval (.tmp K.src) = .map (some im.blk) := by
                  have hv := tr1.2 K.src
                  rw [hm] at hv
                  generalize hx : (a.put K.o1.dst v1).tmps.getD K.src Go.undef = y at hv
                  cases hv with
                  | map hj => rw [hjm] at hj; cases hj; exact hx
                obtain ⟨tk, te, hund⟩ := hK.und
                have hrun : (execOp (a.put K.o1.dst v1).eval K.o2).run P w1 = .ok (.value (.pointer (some ⟨w1.heap.size, 0, none⟩))) (w1.alloc (.mapIter (some im.blk) clock #[] clock)) := by
                  have hg1 : (getObj im.blk).run P w1 = .ok (.map ents clock) w1 := by simp [getObj, Sem.run, hbm]
                  simp [execOp, hK.op2, hev, Instr.range, Sem.run_bind, run_underlying hund, hg1, Result.andThen]
                rw [hrun]
                have st2 := Stp.extra hI1.toInv0 (.mapIter (some im.blk) clock #[] clock)
                have hI2 := st2.all hI1
                have st3 := Stp.numb hI2 hu ⟨w1.heap.size, 0, 0⟩
                have hI3 := st3.all hI2
                have st23 := st2.trans st3
                have stall := st1.trans st23
                have tr3 : TR (J1.upd s1.h.next ⟨w1.heap.size, 0, 0⟩) tm2 ((a.put K.o1.dst v1).put K.o2.dst (.pointer (some ⟨w1.heap.size, 0, none⟩))).tmps :=
                  (tr1.mono st3.le).put (VR.ptr (i := ⟨w1.heap.size, 0, 0⟩) (Inj.upd_same _ _ _)) ht2
                have mk3 : Mks a w ((a.put K.o1.dst v1).put K.o2.dst (.pointer (some ⟨w1.heap.size, 0, none⟩))) (w1.alloc (.mapIter (some im.blk) clock #[] clock)) :=
                  (mk1.put _ _).trans st1.fr.size (Mks.stp hI1.toInv0 st2 rfl)
                show (Code.block 0 (.loop (K.B.body i1 i2))).wpIn F n P Q _ _
                refine wpIn_block (wpIn_loop_rounds (es.length + 1) ?_)
                have hbmlt : im.blk < w1.heap.size := (Array.getElem?_eq_some_iff.1 hbm).1
                obtain ⟨hun, -, hus, hune⟩ := H.upd_some hu
                have hgetk : ∀ b o, (⟨hk.objs, hk.next + 1, hk.ro⟩ : H).get b = some o → s1.h.get b = some o ∧ b ≠ m ∧ b ≠ s1.h.next := fun b o hb => by
                  have hb : hk.get b = some o := hb
                  have e1 : b ≠ m := fun e => by subst e; rw [hus] at hb; cases hb
                  rw [hune b e1] at hb
                  refine ⟨hb, e1, fun e => ?_⟩
                  obtain ⟨i, q, _⟩ := hI1.live b o hb
                  rw [hI1.all b (by omega)] at q; cases q
                refine kLoop_ok hS hg hK.b s1.h.next i1 i2 es.length es tm2 _ outs0 hloop hit (J1.upd s1.h.next ⟨w1.heap.size, 0, 0⟩) _ _ F n _ w1.heap.size im.blk ents clock #[] clock clock stall hI3.all tr3 (hw1.stp st23) mk3 ?_ ?_
                  (Nat.le_trans hI1.base hI1.below.size) st1.fr.size (by omega) (Inj.upd_same _ _ _) (World.alloc_heap_new _ _) (Nat.le_refl _) (Nat.le_refl _) hborn ?_ hnd ?_ ?_
                · intro b o i hb hj e
                  obtain ⟨h1, h2, h3⟩ := hgetk b o hb
                  rw [Inj.upd_ne _ _ h3] at hj
                  obtain ⟨i', q, _, sO⟩ := hI1.live b o h1
                  rw [q] at hj; cases hj
                  have := sO.lt
                  omega
                · intro b o i hb hj e
                  obtain ⟨h1, h2, h3⟩ := hgetk b o hb
                  rw [Inj.upd_ne _ _ h3] at hj
                  exact h2 (hI1.inj b m _ _ _ _ h1 hes hj hjm e)
                · rw [Below.heap_alloc _ _ _ hbmlt]; exact hbm
                · have : leftOf ents #[] = ents := by unfold leftOf; simp
                  rw [this]
                  exact ⟨hlen, fun i kv e h1 h2 => ⟨((hrel i kv e h1 h2).1.mono st3.le), ((hrel i kv e h1 h2).2.mono st3.le)⟩⟩
                · intro o ho J' a' w' hle' st' hA' tr' m' hbm' hni'
                  obtain ⟨o1, h1, h2⟩ := bindO_mem he o ho
                  unfold kEnd at h1
                  split at h1
                  · rename_i tm' s'
                    cases h1
                    have hj' : J' m = some im := hle' _ _ (st3.le _ _ hjm)
                    have sta := Stp.again (m := m) (o := .map es) st' hj' hBm ⟨ents, clock, hbm', hlen, fun i kv e q1 q2 => ⟨(hrel i kv e q1 q2).1.mono (Inj.le_trans st3.le hle'), (hrel i kv e q1 q2).2.mono (Inj.le_trans st3.le hle')⟩, hborn, hnd⟩ hni' (fun hlt => st1.img m _ im hes hjm hlt)
                    exact k _ (h2 _ (List.mem_singleton.2 rfl)) J' a' w' sta tr' m'
                  · cases h1
              · cases he
            · cases he
          · cases he
        · cases he
      · cases he
    · cases he
  · cases he

/-! ### Straight code with such calls -/
def nCall (c : Ctx) (cn : CallN) (tm : Tm) (o : Oper) (s : St) : Option (List (Value × St)) := match evOp c (opd tm) o.op s.h with
  | .call k args h => cn k args ⟨h, s.orc, s.ob⟩
  | _ => none
def evOpsN (c : Ctx) (f : Nat) (cn : CallN) : List Oper → Tm → St → Option (List (X × Tm × St))
  | [], tm, s => some [(.normal, tm, s)]
  | o :: r, tm, s => match o.guard with
    | some _ => none
    | none => match nCall c cn tm o s with
      | some outs => bindO (fun (y : Value × St) => match tput o.dst y.1 tm with
        | some tm' => evOpsN c f cn r tm' y.2
        | none => none) outs
      | none => match evStep c f o tm s with
        | .ok v s' => match s'.ob, tput o.dst v tm with
          | true, some tm' => evOpsN c f cn r tm' s'
          | _, _ => none
        | .err _ => none
def unblock (id : Nat) : X → X
  | .exit i => match Nat.beq i id with
    | true => .normal
    | false => .exit i
  | x => x
def nLeave (l : Nat) (tm : Tm) (y : Value × St) : Option (List (X × Tm × St)) := match y.2.h.get l with
  | some (.loop false none _ _ _ _) => match y.2.h.upd l none with
    | some h' => some [(.normal, tm, ⟨h', y.2.orc, y.2.ob⟩)]
    | none => none
  | _ => none
def evN (c : Ctx) (f : Nat) (cn : CallN) : Code → Tm → St → Option (List (X × Tm × St))
  | .seq a b, tm, s => match evN c f cn a tm s with
    | some outs => bindO (fun (o : X × Tm × St) => match o.1 with
      | .normal => evN c f cn b o.2.1 o.2.2
      | x => some [(x, o.2.1, o.2.2)]) outs
    | none => none
  | .block id b, tm, s => match evN c f cn b tm s with
    | some outs => some (outs.map fun o => (unblock id o.1, o.2.1, o.2.2))
    | none => none
  | .region _ ops false, tm, s => evOpsN c f cn ops.toList tm s
  | .rangeFunc g ps assign body, tm, s => match invoke (opd tm g) [.func (.yield s.h.next) #[] #[]] (s.h.new (.loop false none tm ps assign body)) with
    | .call k args h => match cn k args ⟨h, s.orc, s.ob⟩ with
      | some outs => bindO (nLeave s.h.next tm) outs
      | none => none
    | _ => none
  | .ret, tm, s => some [(.ret, tm, s)]
  | _, _, _ => none

theorem evOpsN_ok {P : Program} {c : Ctx} (hS : ∀ f, SAll P c f) {f : Nat} {cn : CallN} (hN : NOk P cn) (ops : Array Oper) : ∀ (rest : List Oper) (tm : Tm) (s : St) (outs : List (X × Tm × St)), evOpsN c f cn rest tm s = some outs → allB okOper rest = true →
    ∀ (B0 : Nat) (w0 : World) J w a F n Q (i : Nat), (∀ j o, rest[j]? = some o → ops[i + j]? = some o) → InvA B0 w0 J s.h w → TR J tm a.tmps → Wd F w →
    (∀ o ∈ outs, ∀ J' a' w', Stp B0 w0 J s.h w J' o.2.2.h w' → TR J' o.2.1 a'.tmps → Mks a w a' w' → Q (exOf o.1) a' w') → wpOpsIn F n P ops Q (List.range' i rest.length) a w := by
  intro rest
  induction rest with
  | nil =>
    intro tm s outs he hok B0 w0 J w a F n Q i hi hI hT hw k
    simp only [evOpsN] at he
    cases he
    simp only [List.length_nil, List.range'_zero, wpOpsIn]
    exact k _ (List.mem_singleton.2 rfl) J a w (.refl hI.toInv0) hT (fun _ _ h => h)
  | cons o r ih =>
    intro tm s outs he hok B0 w0 J w a F n Q i hi hI hT hw k
    have hoi := hi 0 o (by simp)
    simp only [allB] at hok
    split at hok
    · rename_i hoko
      simp only [evOpsN] at he
      rw [List.length_cons, List.range'_succ, wpOpsIn_cons]
      simp only [Nat.add_zero] at hoi
      simp only [wpOpIn, hoi]
      have hi' : ∀ j o', r[j]? = some o' → ops[i + 1 + j]? = some o' := fun j o' hj => by rw [show i + 1 + j = i + (j + 1) by omega]; exact hi (j + 1) o' (by simpa using hj)
      split at he
      · cases he
      · rename_i hgd
        rw [if_pos (by simp [Region.wanted, hgd])]
        have hρ : ∀ x ∈ opsOf o.op, VR J (opd tm x) (a.eval x) := fun x hx => opd_rel hT (allB_mem hoko x hx)
        split at he
        · rename_i outs0 hn
          unfold nCall at hn
          split at hn
          · rename_i k' args h1 hop
            obtain ⟨rfl, hd, as', hl, hr⟩ := op_call (P := P) hρ hop
            obtain ⟨henter, hcalls⟩ := hN k' args _ outs0 hn B0 w0 J w as' hI hl
            refine wpIn_of_CF hw hd (hr w) (.inr ⟨henter, hcalls.mono fun e w' ⟨v', q1, q2⟩ => ⟨v', q1, q2⟩⟩) fun v' w' ⟨y, hy, J1, st1, vr1⟩ => ?_
            obtain ⟨o1, h1, h2⟩ := bindO_mem he y hy
            split at h1
            · rename_i tm' hp
              exact ih tm' y.2 o1 h1 hok B0 w0 J1 w' (a.put o.dst v') F n Q (i + 1) hi' (st1.all hI) ((hT.mono st1.le).put vr1 hp) (hw.stp st1) fun o2 ho2 J' a' w'' st2 tr2 m2 =>
                k o2 (h2 o2 ho2) J' a' w'' (st1.trans st2) tr2 ((Mks.stp hI.toInv0 st1 (put_defers _ _ _)).trans st1.fr.size m2)
            · cases h1
          · cases hn
        · split at he
          · rename_i v s1 hst
            split at he
            · rename_i tm' hob hp
              refine (hS f).step o tm s v s1 hst hob B0 w0 J w a F n _ _ hI hρ hw fun J1 v1 w1 st1 vr1 => ?_
              exact ih tm' s1 outs he hok B0 w0 J1 w1 (a.put o.dst v1) F n Q (i + 1) hi' (st1.all hI) ((hT.mono st1.le).put vr1 hp) (hw.stp st1) fun o2 ho2 J' a' w'' st2 tr2 m2 =>
                k o2 ho2 J' a' w'' (st1.trans st2) tr2 ((Mks.stp hI.toInv0 st1 (put_defers _ _ _)).trans st1.fr.size m2)
            · cases he
          · cases he
    · cases hok

theorem evN_ok {P : Program} {c : Ctx} (hS : ∀ f, SAll P c f) {f : Nat} {cn : CallN} (hN : NOk P cn) : ∀ (code : Code) (tm : Tm) (s : St) (outs : List (X × Tm × St)), evN c f cn code tm s = some outs → okC code = true → CodeN P code tm s outs := by
  intro code
  induction code with
  | seq x y ihx ihy =>
    intro tm s outs he hok B0 w0 J w a F n Q hI hT hw k
    simp only [evN] at he
    simp only [okC] at hok
    split at hok
    · rename_i hokx
      split at he
      · rename_i outs0 h0
        refine wpIn_seq (ihx tm s outs0 h0 hokx B0 w0 J w a F n _ hI hT hw fun o ho J1 a1 w1 st1 tr1 m1 => ?_)
        obtain ⟨o1, h1, h2⟩ := bindO_mem he o ho
        obtain ⟨xo, tmo, so⟩ := o
        cases xo with
        | normal => exact ihy tmo so o1 h1 hok B0 w0 J1 w1 a1 F n Q (st1.all hI) tr1 (hw.stp st1) fun o2 ho2 J' a' w'' st2 tr2 m2 => k o2 (h2 o2 ho2) J' a' w'' (st1.trans st2) tr2 (m1.trans st1.fr.size m2)
        | exit i => cases h1; exact k _ (h2 _ (List.mem_singleton.2 rfl)) J1 a1 w1 st1 tr1 m1
        | goto l => cases h1; exact k _ (h2 _ (List.mem_singleton.2 rfl)) J1 a1 w1 st1 tr1 m1
        | ret => cases h1; exact k _ (h2 _ (List.mem_singleton.2 rfl)) J1 a1 w1 st1 tr1 m1
      · cases he
    · cases hok
  | block id b ih =>
    intro tm s outs he hok B0 w0 J w a F n Q hI hT hw k
    simp only [evN] at he
    simp only [okC] at hok
    split at he
    · rename_i outs0 h0
      cases he
      refine wpIn_block (ih tm s outs0 h0 hok B0 w0 J w a F n _ hI hT hw fun o ho J1 a1 w1 st1 tr1 m1 => ?_)
      have := k (unblock id o.1, o.2.1, o.2.2) (List.mem_map.2 ⟨o, ho, rfl⟩) J1 a1 w1 st1 tr1 m1
      obtain ⟨xo, tmo, so⟩ := o
      cases xo with
      | normal => exact this
      | exit i =>
        simp only [exOf, Exit.inBlock]
        simp only [unblock] at this
        split at this
        · rename_i hid; rw [if_pos (Nat.eq_of_beq_eq_true hid)]; exact this
        · rename_i hid; rw [if_neg (fun e => by subst e; simp at hid)]; exact this
      | goto l => exact this
      | ret => exact this
    · cases he
  | region id ops draw =>
    intro tm s outs he hok B0 w0 J w a F n Q hI hT hw k
    cases draw with
    | true => simp [evN] at he
    | false =>
      simp only [evN] at he
      simp only [okC] at hok
      refine wpIn_region ?_
      rw [List.range_eq_range']
      have := evOpsN_ok hS hN ops ops.toList tm s outs he hok B0 w0 J w a F n Q 0 (fun j o hj => by simpa using hj) hI hT hw k
      simpa using this
  | ret =>
    intro tm s outs he hok B0 w0 J w a F n Q hI hT hw k
    simp only [evN] at he
    cases he
    exact wpIn_ret (k _ (List.mem_singleton.2 rfl) J a w (.refl hI.toInv0) hT (fun _ _ h => h))
  | rangeFunc g ps asg bo ih1 ih2 =>
    intro tm s outs he hok B0 w0 J w a F n Q hI hT hw k
    simp only [okC] at hok
    split at hok
    · rename_i hog hoka
      simp only [evN] at he
      split at he
      · rename_i k' args h1 hinv
        split at he
        · rename_i outs0 hn
          refine wpIn_rangeFunc fun fn _ => ?_
          obtain ⟨l, mark, w1, hrun, st, mks⟩ := enter_loop hI hw hT hoka hok (ps := ps) fn
          have hI1 := st.all hI
          have hfn := (opd_rel hT hog).mono st.le
          have hy : LV (J.upd s.h.next ⟨l, 0, 0⟩) [.func (.yield s.h.next) #[] #[]] [.func (.yield l) #[] #[]] := .cons (.yield (Inj.upd_same J s.h.next ⟨l, 0, 0⟩)) .nil
          obtain ⟨rfl, as', hl', d, hof, hinvk⟩ := invoke_call (P := P) hfn hy hinv
          obtain ⟨henter, hcalls⟩ := hN k' args _ outs0 hn B0 w0 _ w1 as' hI1 hl'
          have hres : (resolve a.eval (rangeCall g l) 0).run P w1 = .ok d w1 := by
            have := hof w1
            simpa [resolve, rangeCall, Act.eval] using this
          refine ⟨l, mark, w1, d, w1, k', as'.toArray, w1, hrun, hres, fun _ _ => hw.fn _, by rw [hinvk, henter], hw.depth, ((hw.stp st).calls hcalls).mono ?_⟩
          rintro e w3 ⟨v', rfl, y, hyo, J3, st3, hv3⟩
          have hI3 := st3.all hI1
          have hJ3 : J3 s.h.next = some ⟨l, 0, 0⟩ := st3.le _ _ (Inj.upd_same _ _ _)
          have mk3 : Mks a w { a with defers := mark ++ a.defers } w3 := mks.trans st.fr.size (Mks.stp hI1.toInv0 st3 rfl)
          obtain ⟨o1, h1, h2⟩ := bindO_mem he y hyo
          unfold nLeave at h1
          split at h1
          · rename_i hget
            split at h1
            · rename_i h4 hu
              cases h1
              obtain ⟨i, r, hj, hheap, hpend, _, _, _, _, _, _, hstate⟩ := hI3.toInv0.loop hget
              rw [hJ3] at hj; cases hj
              have st4 := Stp.loopEnd hI3.toInv0 hget hJ3 hu { r with state := .exhausted } hheap rfl
              simp only [rangePost]
              refine ⟨none, _, ?_, k _ (h2 _ (List.mem_singleton.2 rfl)) J3 _ _ ((st.trans st3).trans st4) (hT.mono (Inj.le_trans st.le st3.le)) (mk3.trans (Nat.le_trans st.fr.size st3.fr.size) (Mks.stp hI3.toInv0 st4 rfl))⟩
              rw [← hpend]
              exact run_endLoop hheap (by rw [hstate]; simp [lst])
            · cases h1
          · cases h1
        · cases he
      · cases he
    · cases hok
  | _ => intro tm s outs he; simp [evN] at he
end
end Go.EV
