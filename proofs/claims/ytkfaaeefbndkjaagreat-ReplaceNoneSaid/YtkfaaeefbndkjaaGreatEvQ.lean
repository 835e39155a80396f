/-
  The evaluator's word is the program's: code, calls.
-/
import Derived.Test.YtkfaaeefbndkjaaGreatEvP
import Derived.Scope
namespace Go.EV
open Go.RowKit (Below)

/-- A scope that no jump to a label leaves. -/
theorem wpIn_scope {F : Fence} {n : Nat} {P : Program} {Q : Exit → Act → World → Prop} {a : Act} {w : World} {c : Code} (h : c.wpIn F n P (Exit.noGoto Q) a w) : (Code.scope c).wpIn F n P Q a w := by
  intro b k cs hro hb hr
  have h0 : (lone (b.atR a (.code (.scope c) :: k)) cs w).fenced P F := fenced_calm hb hr rfl
  have s0 : step P (lone (b.atR a (.code (.scope c) :: k)) cs w) = .next (lone (b.atR a (.code c :: .inScope c :: k)) cs w) := step_lone_go (by simp [stepG, stepG.exec, Frame.atR])
  have s1 : ∀ a w, step P (lone (b.atR a (.inScope c :: k)) cs w) = .next (lone (b.atR a k) cs w) := fun a w => step_lone_go (by simp [stepG, stepG.exec, Frame.atR])
  obtain ⟨e, a₁, w₁, hq, harr⟩ := h b (.inScope c :: k) cs hro hb hr
  cases e with
  | normal => exact ⟨.normal, a₁, w₁, hq, .head h0 s0 (StepsIn.trans harr (.one (fenced_calm hb hr rfl) (s1 _ _)))⟩
  | exit id =>
    have hx : exitTo id (.inScope c :: k) = exitTo id k := by simp [exitTo]
    exact ⟨.exit id, a₁, w₁, hq, fun k' hk => .head h0 s0 (harr.1 k' (by rw [hx]; exact hk)),
      fun hr' hk => let ⟨k₁, h1, h2⟩ := harr.2 hr' (by rw [hx]; exact hk); ⟨k₁, h1, .head h0 s0 h2⟩⟩
  | goto l => exact hq.elim
  | ret => exact ⟨_, a₁, w₁, hq, .of_steps (.one h0 s0) harr⟩
  | panic ch => exact ⟨_, a₁, w₁, hq, .of_steps (.one h0 s0) harr⟩
  | outgrown => exact ⟨_, a₁, w₁, hq, .of_steps (.one h0 s0) harr⟩

section
variable {B0 : Nat} {w0 : World} {J : Inj} {h h' : H} {w w' : World} {P : Program} {c : Ctx} {v : Value} {F : Fence} {n : Nat} {a : Act}

/-- A new object that nobody speaks of. -/
theorem Stp.extra (hI : Inv0 B0 w0 J h w) (x : Obj) : Stp B0 w0 J h w J h (w.alloc x) := by
  have hold : ∀ k, k < w.heap.size → (w.alloc x).heap[k]? = w.heap[k]? := fun k hk => Below.heap_alloc w x k hk
  have hsz : B0 ≤ w.heap.size := Nat.le_trans hI.base hI.below.size
  refine ⟨J.le_refl, ⟨hI.base, hI.below.alloc hsz x, fun b o hb => ?_, hI.inj⟩, Nat.le_refl _, fun _ _ h => .inl h, ⟨by simp, fun k hk _ => hold k hk, fun k r hr => ⟨r, ?_, rfl⟩⟩, fun b o i hb hj _ => ⟨b, o, i, hb, hj, rfl⟩⟩
  · obtain ⟨i, q, r, s⟩ := hI.live b o hb
    exact ⟨i, q, r, s.same (hold _ s.lt)⟩
  · rw [hold k (Array.getElem?_eq_some_iff.1 hr).1]; exact hr

/-- The loop's record, laid. -/
theorem enter_loop (hI : InvA B0 w0 J h w) (hw : Wd F w) {tm : Tm} (hT : TR J tm a.tmps) {ps : Array Tmp} {as bo : Code} (h1 : okC as = true) (h2 : okC bo = true) (fn : FuncId) :
    ∃ l mark w1, (Instr.enterLoop fn a.tmps ps as bo F.round).run P w = .ok (l, mark) w1 ∧ Stp B0 w0 J h w (J.upd h.next ⟨l, 0, 0⟩) (h.new (.loop false none tm ps as bo)) w1 ∧
      Mks a w { a with defers := mark ++ a.defers } w1 := by
  rcases hw with rfl | ⟨l0, r0, rfl, hl0⟩
  · refine ⟨_, _, _, run_enterLoop_outer fn a.tmps ps as bo, ?_, fun S hS hm => ?_⟩
    · have s1 := Stp.extra hI.toInv0 (.deferred (some []))
      have hI1 : Inv B0 w0 J h (w.alloc (.deferred (some []))) := ⟨s1.inv, hI.one.fresh⟩
      refine s1.trans (Stp.alloc (i := ⟨w.heap.size + 1, 0, 0⟩) hI1 (by simp) ⟨{ state := .ready, pending := none, fn, tmps := a.tmps, params := ps, assign := as, body := bo, defers := w.heap.size }, ?_, rfl, hT.mono (Inj.le_upd hI1 _), rfl, rfl, rfl, h1, h2, rfl⟩)
      have := World.alloc_heap_new (w.alloc (.deferred (some []))) (.loop { state := .ready, pending := none, fn, tmps := a.tmps, params := ps, assign := as, body := bo, defers := w.heap.size })
      simpa using this
    · obtain ⟨rs, q1, q2, q3⟩ := hm
      have hnew : ((w.alloc (.deferred (some []))).alloc (.loop { state := .ready, pending := none, fn, tmps := a.tmps, params := ps, assign := as, body := bo, defers := w.heap.size })).heap[w.heap.size]? = some (.deferred (some [])) := by
        rw [Below.heap_alloc _ _ _ (by simp)]
        exact World.alloc_heap_new _ _
      have hold : ∀ k, k < w.heap.size → ((w.alloc (.deferred (some []))).alloc (.loop { state := .ready, pending := none, fn, tmps := a.tmps, params := ps, assign := as, body := bo, defers := w.heap.size })).heap[k]? = w.heap[k]? := fun k hk => by
        rw [Below.heap_alloc _ _ _ (by simp; omega), Below.heap_alloc _ _ _ hk]
      refine ⟨w.heap.size :: rs, by simp [q1], List.nodup_cons.2 ⟨fun hmem => ?_, q2⟩, fun r hr => ?_⟩
      · have := (Array.getElem?_eq_some_iff.1 (q3 _ hmem).2).1
        omega
      · rcases List.mem_cons.1 hr with rfl | hr
        · exact ⟨hS, hnew⟩
        · exact ⟨(q3 r hr).1, by rw [hold r (Array.getElem?_eq_some_iff.1 (q3 r hr).2).1]; exact (q3 r hr).2⟩
  · have hrun : (Instr.enterLoop fn a.tmps ps as bo (some l0)).run P w = .ok (w.heap.size, []) (w.alloc (.loop { state := .ready, pending := none, fn, tmps := a.tmps, params := ps, assign := as, body := bo, defers := r0.defers })) := by
      unfold Instr.enterLoop
      simp only [Sem.run_bind, run_getLoop hl0, run_newObj_alloc, Result.andThen, Sem.run_pure]
    have st := Stp.alloc (i := ⟨w.heap.size, 0, 0⟩) (o := .loop false none tm ps as bo) (x := .loop { state := .ready, pending := none, fn, tmps := a.tmps, params := ps, assign := as, body := bo, defers := r0.defers }) hI.one rfl
      ⟨{ state := .ready, pending := none, fn, tmps := a.tmps, params := ps, assign := as, body := bo, defers := r0.defers }, World.alloc_heap_new _ _, rfl, hT.mono (Inj.le_upd hI.one _), rfl, rfl, rfl, h1, h2, rfl⟩
    exact ⟨_, _, _, hrun, st, Mks.stp hI.toInv0 st (by simp)⟩

theorem X.exit_ne {x : X} (h : x ≠ .normal) : exOf x ≠ .normal := by cases x <;> simp_all [exOf]

def SLoop (P : Program) (c : Ctx) (f : Nat) : Prop := ∀ b tm s x tm' s', evCode c f (.loop b) tm s = .ok (x, tm') s' → s'.ob = true → okC b = true →
  ∀ (B0 : Nat) (w0 : World) J w a F n Q, InvA B0 w0 J s.h w → TR J tm a.tmps → Wd F w →
    (∀ J' a' w', Stp B0 w0 J s.h w J' s'.h w' → TR J' tm' a'.tmps → Mks a w a' w' → Q (exOf x) a' w') → Code.roundsIn F n P b Q f a w

theorem sloop_succ {f : Nat} (hg : GoodF c f) (hc : SCode P c f) (hl : SLoop P c f) : SLoop P c (f + 1) := by
  intro b tm s x tm' s' he hob hok B0 w0 J w a F n Q hI hT hw k
  simp only [evCode] at he
  rw [roundsIn_succ]
  split at he
  · rename_i tm1 s1 h1
    have hob1 := (hg.code _ _ _ _ _ he).ob hob
    refine hc _ _ _ _ _ _ h1 hob1 hok B0 w0 J w a F n _ hI hT hw fun J1 a1 w1 st1 t1 m1 => ?_
    exact hl b tm1 s1 x tm' s' he hob hok B0 w0 J1 w1 a1 F n Q (st1.all hI) t1 (hw.stp st1) fun J2 a2 w2 st2 t2 m2 => k J2 a2 w2 (st1.trans st2) t2 (m1.trans st1.fr.size m2)
  · rename_i hne
    refine hc _ _ _ _ _ _ he hob hok B0 w0 J w a F n _ hI hT hw fun J1 a1 w1 st1 t1 m1 => ?_
    have := k J1 a1 w1 st1 t1 m1
    cases x with
    | normal => exact absurd he (hne _ _)
    | exit i => exact this
    | goto l => exact this
    | ret => exact this

theorem scode_succ {f : Nat} (hm : P.follows .mixedOrders = true) (hg : GoodF c f) (hc : SCode P c f) (ho : SOps P c f) (hd : SDraw P c f) (hcall : SCall P c f) (hl : SLoop P c (f + 1)) : SCode P c (f + 1) := by
  intro code tm s x tm' s' he hob hok B0 w0 J w a F n Q hI hT hw k
  have stay : Stp B0 w0 J s.h w J s.h w := .refl hI.toInv0
  cases code with
  | skip => simp only [evCode] at he; cases he; exact wpIn_skip (k J a w stay hT (fun _ _ h => h))
  | label l => simp only [evCode] at he; cases he; exact wpIn_label (k J a w stay hT (fun _ _ h => h))
  | region id ops draw =>
    simp only [okC] at hok
    cases draw with
    | false =>
      simp only [evCode] at he
      refine wpIn_region ?_
      rw [List.range_eq_range']
      have := ho ops ops.toList tm s x tm' s' he hob hok B0 w0 J w a F n Q 0 (fun j o hj => by simpa using hj) hI hT hw k
      simpa using this
    | true =>
      simp only [evCode] at he
      refine wpIn_region_any hm ?_
      have st := Stp.drew hI.toInv0
      exact hd ops tm s x tm' s' he hob hok B0 w0 J w.drew a F n Q (st.all hI) hT (hw.stp st) fun J' a' w' st' ht hm => k J' a' w' (st.trans st') ht ((Mks.stp hI.toInv0 st rfl).trans st.fr.size hm)
  | seq x1 y1 =>
    simp only [evCode] at he
    simp only [okC] at hok
    split at hok
    · rename_i hok1
      refine wpIn_seq ?_
      split at he
      · rename_i tm1 s1 h1
        have hob1 := (hg.code _ _ _ _ _ he).ob hob
        refine hc _ _ _ _ _ _ h1 hob1 hok1 B0 w0 J w a F n _ hI hT hw fun J1 a1 w1 st1 t1 m1 => ?_
        exact hc _ _ _ _ _ _ he hob hok B0 w0 J1 w1 a1 F n Q (st1.all hI) t1 (hw.stp st1) fun J2 a2 w2 st2 t2 m2 => k J2 a2 w2 (st1.trans st2) t2 (m1.trans st1.fr.size m2)
      · rename_i hne
        refine hc _ _ _ _ _ _ he hob hok1 B0 w0 J w a F n _ hI hT hw fun J1 a1 w1 st1 t1 m1 => ?_
        have := k J1 a1 w1 st1 t1 m1
        cases x with
        | normal => exact absurd he (hne _ _)
        | exit i => exact this
        | goto l => exact this
        | ret => exact this
    · cases hok
  | cond x1 y1 z1 =>
    simp only [evCode] at he
    simp only [okC] at hok
    split at hok
    · rename_i hox hok1
      have hx := opd_rel hT hox
      split at he
      · rename_i b hb
        rw [hb] at hx
        have hx := hx.bool_inv
        split at he
        · rename_i s1 hdd
          have hob1 := (hg.code _ _ _ _ _ he).ob hob
          obtain ⟨e1, e2, e3⟩ := dec_true hdd hob1
          subst e1
          exact wpIn_cond_true hx (hc _ _ _ _ _ _ he hob hok1 B0 w0 J w a F n Q (by rw [e3]; exact hI) hT hw (by rw [e3]; exact k))
        · rename_i s1 hdd
          have hob1 := (hg.code _ _ _ _ _ he).ob hob
          obtain ⟨e1, e2, e3⟩ := dec_true hdd hob1
          subst e1
          exact wpIn_cond_false hx (hc _ _ _ _ _ _ he hob hok B0 w0 J w a F n Q (by rw [e3]; exact hI) hT hw (by rw [e3]; exact k))
      · cases he
    · cases hok
  | block id b =>
    simp only [evCode] at he
    simp only [okC] at hok
    refine wpIn_block ?_
    split at he
    · rename_i i tm1 s1 h1
      split at he
      · rename_i hid
        cases he
        refine hc _ _ _ _ _ _ h1 hob hok B0 w0 J w a F n _ hI hT hw fun J1 a1 w1 st1 t1 m1 => ?_
        have := k J1 a1 w1 st1 t1 m1
        simp only [exOf, Exit.inBlock] at this ⊢
        rw [if_pos (Nat.eq_of_beq_eq_true hid)]
        exact this
      · rename_i hid
        cases he
        refine hc _ _ _ _ _ _ h1 hob hok B0 w0 J w a F n _ hI hT hw fun J1 a1 w1 st1 t1 m1 => ?_
        have := k J1 a1 w1 st1 t1 m1
        simp only [exOf, Exit.inBlock] at this ⊢
        rw [if_neg (fun e => by subst e; simp at hid)]
        exact this
    · rename_i hne
      refine hc _ _ _ _ _ _ he hob hok B0 w0 J w a F n _ hI hT hw fun J1 a1 w1 st1 t1 m1 => ?_
      have := k J1 a1 w1 st1 t1 m1
      cases x with
      | normal => exact this
      | exit i => exact absurd he (hne _ _ _)
      | goto l => exact this
      | ret => exact this
  | loop b =>
    simp only [okC] at hok
    exact wpIn_loop_rounds (f + 1) (hl b tm s x tm' s' he hob hok B0 w0 J w a F n Q hI hT hw k)
  | scope b =>
    simp only [evCode] at he
    simp only [okC] at hok
    refine wpIn_scope ?_
    split at he
    · cases he
    · rename_i hne
      refine hc _ _ _ _ _ _ he hob hok B0 w0 J w a F n _ hI hT hw fun J1 a1 w1 st1 t1 m1 => ?_
      have := k J1 a1 w1 st1 t1 m1
      cases x with
      | normal => exact this
      | exit i => exact this
      | goto l => exact absurd he (hne _ _ _)
      | ret => exact this
  | exit id => simp only [evCode] at he; cases he; exact wpIn_exit (k J a w stay hT (fun _ _ h => h))
  | ret => simp only [evCode] at he; cases he; exact wpIn_ret (k J a w stay hT (fun _ _ h => h))
  | rangeFunc g ps as bo =>
    simp only [okC] at hok
    split at hok
    · rename_i hog hoka
      simp only [evCode] at he
      split at he
      · rename_i k' args h1 hinv
        split at he
        · cases he
        · rename_i hprim
          split at he
          · rename_i v1 s1 hca
            have hob1 : s1.ob = true := by
              repeat' split at he
              all_goals first | (cases he; exact hob) | cases he
            refine wpIn_rangeFunc fun fn _ => ?_
            obtain ⟨l, mark, w1, hrun, st, mks⟩ := enter_loop hI hw hT hoka hok (ps := ps) fn
            have hI1 := st.all hI
            have hfn := (opd_rel hT hog).mono st.le
            have hy : LV (J.upd s.h.next ⟨l, 0, 0⟩) [.func (.yield s.h.next) #[] #[]] [.func (.yield l) #[] #[]] := .cons (.yield (Inj.upd_same J s.h.next ⟨l, 0, 0⟩)) .nil
            obtain ⟨rfl, as', hl', d, hof, hinvk⟩ := invoke_call (P := P) hfn hy hinv
            obtain ⟨henter, hcalls⟩ := (hcall k' args _ v1 s1 hca hob1 B0 w0 _ w1 as' hI1 hl').2 hprim
            have hres : (resolve a.eval (rangeCall g l) 0).run P w1 = .ok d w1 := by
              have := hof w1
              simpa [resolve, rangeCall, Act.eval] using this
            refine ⟨l, mark, w1, d, w1, k', as'.toArray, w1, hrun, hres, fun _ _ => hw.fn _, by rw [hinvk, henter], hw.depth, ((hw.stp st).calls hcalls).mono ?_⟩
            rintro e w3 ⟨v', rfl, J3, st3, hv3⟩
            have hI3 := st3.all hI1
            have hJ3 : J3 s.h.next = some ⟨l, 0, 0⟩ := st3.le _ _ (Inj.upd_same _ _ _)
            have mk3 : Mks a w { a with defers := mark ++ a.defers } w3 := mks.trans st.fr.size (Mks.stp hI1.toInv0 st3 rfl)
            have fin : ∀ {dd : Bool} {p : Option Code} {tl : Tm} {pp : Array Tmp} {aa bb : Code} {h4 : H}, s1.h.get s.h.next = some (.loop dd p tl pp aa bb) → lst dd p ≠ .busy → s1.h.upd s.h.next none = some h4 →
                ∃ w4, (Instr.endLoop l).run P w3 = .ok p w4 ∧ Stp B0 w0 J s.h w J3 h4 w4 ∧ TR J3 tm a.tmps ∧ Mks a w { a with defers := mark ++ a.defers } w4 := by
              intro dd p tl pp aa bb h4 hget hnb hu
              obtain ⟨i, r, hj, hheap, hpend, _, _, _, _, _, _, hstate⟩ := hI3.toInv0.loop hget
              rw [hJ3] at hj; cases hj
              have st4 := Stp.loopEnd hI3.toInv0 hget hJ3 hu { r with state := .exhausted } hheap rfl
              refine ⟨_, ?_, (st.trans st3).trans st4, hT.mono (Inj.le_trans st.le st3.le), mk3.trans (Nat.le_trans st.fr.size st3.fr.size) (Mks.stp hI3.toInv0 st4 rfl)⟩
              rw [← hpend]
              exact run_endLoop hheap (by rw [hstate]; exact hnb)
            simp only [rangePost]
            split at he
            · rename_i hget
              split at he
              · rename_i hu
                cases he
                obtain ⟨w4, h1, h2, h3, h4⟩ := fin hget (by simp [lst]) hu
                exact ⟨none, w4, h1, k J3 _ w4 h2 h3 h4⟩
              · cases he
            · rename_i hget
              split at he
              · rename_i hu
                cases he
                obtain ⟨w4, h1, h2, h3, h4⟩ := fin hget (by simp [lst]) hu
                exact ⟨some .ret, w4, h1, wpIn_ret (k J3 _ w4 h2 h3 h4)⟩
              · cases he
            · rename_i i _ _ _ _ hget
              split at he
              · rename_i hu
                cases he
                obtain ⟨w4, h1, h2, h3, h4⟩ := fin hget (by simp [lst]) hu
                exact ⟨some (.exit i), w4, h1, wpIn_exit (k J3 _ w4 h2 h3 h4)⟩
              · cases he
            · cases he
          · cases he
      · cases he
    · cases hok
  | _ => simp [evCode] at he
end
end Go.EV
