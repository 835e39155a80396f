/-
  The evaluator's word is the program's: calls.
-/
import Derived.Test.YtkfaaeefbndkjaaGreatEvQ
namespace Go.EV
open Go.RowKit (Below)
section
variable {B0 : Nat} {w0 : World} {J : Inj} {h h' : H} {w w' : World} {P : Program} {c : Ctx} {v : Value}

theorem iniT_get : ∀ (l : List Value) (n : Nat) (t : T Value) (k : Nat), (iniT n l t).get k = if n ≤ k ∧ k < n + l.length then l[k - n]? else t.get k
  | [], n, t, k => by simp [iniT]; omega
  | v :: r, n, t, k => by
    simp only [iniT, iniT_get r, List.length_cons]
    by_cases h : n + 1 ≤ k ∧ k < n + 1 + r.length
    · rw [if_pos h, if_pos (by omega), show k - n = k - (n + 1) + 1 by omega]; simp
    · rw [if_neg h]
      by_cases e : k = n
      · subst e; rw [if_pos (by omega), T.get_set_same]; simp
      · rw [if_neg (by omega), T.get_set_ne _ _ (Ne.symm e)]

theorem TR.init {args args' : List Value} {nt : Nat} (hl : LV J args args') (hle : args.length ≤ nt) : TR J ⟨iniT 0 args .leaf, nt⟩ (args'.toArray ++ Array.replicate (nt - args'.toArray.size) Go.undef) := by
  have hlen := hl.1
  refine ⟨by simp; omega, fun t => ?_⟩
  have hget : tget ⟨iniT 0 args .leaf, nt⟩ t = (args[t]?).getD (.tuple #[]) := by
    unfold tget
    simp only [iniT_get, T.get_leaf]
    by_cases ht : t < args.length
    · rw [if_pos ⟨by omega, by omega⟩]; simp [ht]
    · rw [if_neg (by omega)]
      simp [ht]
  rw [hget, Array.getD_eq_getD_getElem?]
  by_cases ht : t < args.length
  · have h1 : args[t]? = some args[t] := List.getElem?_eq_getElem ht
    obtain ⟨x', hx', hr⟩ := hl.get h1
    rw [Array.getElem?_append_left (by simp; omega), List.getElem?_toArray, hx', h1]
    exact hr
  · rw [List.getElem?_eq_none (by omega)]
    have : (args'.toArray ++ Array.replicate (nt - args'.toArray.size) Go.undef)[t]?.getD Go.undef = Go.undef := by
      rw [Array.getElem?_append_right (by simp; omega), Array.getElem?_replicate]
      split <;> rfl
    rw [this]
    exact VR.undef J

theorem results_run (hT : Tbl P c) (hI : Inv B0 w0 J h w) {tm : Tm} {tmps : Array Value} (ht : TR J tm tmps) : ∀ (rs : List ResultVar) (vs : List Value), resultL c h tm rs = some vs →
    ∃ vs' : List Value, (rs.mapM (m := Sem) fun
      | .tmp t => pure (tmps.getD t Go.undef)
      | .cell a t => do loadVar t (← asAddr (tmps.getD a Go.undef))).run P w = .ok vs' w ∧ LV J vs vs'
  | [], vs, hr => by simp [resultL] at hr; subst hr; exact ⟨[], by simp, .nil⟩
  | r :: rs, vs, hr => by
    simp only [resultL] at hr
    split at hr
    · rename_i v vs1 hv hvs
      cases hr
      obtain ⟨vs', h1, h2⟩ := results_run hT hI ht rs vs1 hvs
      cases r with
      | tmp t =>
        simp [resultV] at hv
        subst hv
        exact ⟨tmps.getD t Go.undef :: vs', by simp only [List.mapM_cons, Sem.run_bind, Sem.run_pure, Result.andThen_ok, h1], .cons (ht.2 t) h2⟩
      | cell t ty =>
        simp only [resultV] at hv
        split at hv
        · rename_i ad ti htg hti
          split at hv
          · rename_i cs hcs
            have hp := ht.2 t
            rw [htg] at hp
            obtain ⟨b, o, i, rfl, hj, hp'⟩ := hp.ptr_inv
            obtain ⟨x', hx, hrel⟩ := run_loadVar_rel hT hI hti hj hcs hv
            refine ⟨x' :: vs', ?_, .cons hrel h2⟩
            have ha : ∀ w, (asAddr (Value.pointer (some ⟨i.blk, o + i.shift, none⟩))).run P w = .ok ⟨i.blk, o + i.shift, none⟩ w := fun w => by simp [asAddr]
            simp only [List.mapM_cons, Sem.run_bind, hp', ha, Sem.run_pure, Result.andThen_ok, hx, h1]
          · cases hv
        · cases hv
    · cases hr

theorem oneOf_rel {vs vs' : List Value} (hl : LV J vs vs') : VR J (oneOf vs) (if h : vs'.toArray.size = 1 then vs'.toArray[0] else .tuple vs'.toArray) := by
  unfold oneOf
  split
  · obtain ⟨x', rfl, hx⟩ := arr1 hl
    simpa using hx
  · rename_i hne
    have : ¬ (vs'.toArray.size = 1) := by
      intro e
      have e : vs'.length = 1 := by simpa using e
      have h1 : vs.length = 1 := hl.1.trans e
      obtain ⟨x, rfl⟩ := List.length_eq_one_iff.1 h1
      exact hne x rfl
    rw [dif_neg this]
    exact .tuple hl.1 hl.2

theorem run_results (hT : Tbl P c) (hI : Inv B0 w0 J h w) {tm : Tm} {tmps : Array Value} (ht : TR J tm tmps) {fn : Func} {vs : List Value} (hr : resultL c h tm fn.results.toList = some vs) :
    ∃ v', (results fn tmps).run P w = .ok v' w ∧ VR J (oneOf vs) v' := by
  obtain ⟨vs', h1, h2⟩ := results_run hT hI ht _ _ hr
  refine ⟨_, ?_, oneOf_rel h2⟩
  unfold results
  rw [Sem.run_bind, Array.mapM_eq_mapM_toList, Sem.run_map]
  exact congrArg (fun r : Result (List Value) => (r.andThen fun (a : List Value) w' => Result.ok a.toArray w').andThen fun a w' => Sem.run P (pure (if h : a.size = 1 then a[0] else Value.tuple a)) w') h1

/-- A mark's block is shut. -/
theorem Stp.shut {J0 : Inj} {h0 : H} {we : World} (hB : B0 ≤ we.heap.size) (s : Stp B0 w0 J0 h0 we J h w) {r : Nat} {d : Option (List Deferred)} (hr : w.heap[r]? = some (.deferred d)) (hle : we.heap.size ≤ r) (e : Option (List Deferred)) :
    Stp B0 w0 J0 h0 we J h (w.putObj r (.deferred e)) := by
  have hI := s.inv
  refine ⟨s.le, ⟨hI.base, ?_, fun b o hb => ?_, hI.inj⟩, s.next, s.new, ⟨by simpa using s.fr.size, fun k hk hn => ?_, fun k l hl => ?_⟩, s.img⟩
  · have hb := hI.below
    exact ⟨hb.os, hb.tape, hb.output, by simpa using hb.size, fun k hk => by rw [World.putObj_heap_other (by omega)]; exact hb.block k hk⟩
  · obtain ⟨i, q, r1, o1⟩ := hI.live b o hb
    exact ⟨i, q, r1, o1.same (World.putObj_heap_other (hI.not_image hr (by simp) (by simp) (by simp) b o i hb q))⟩
  · rw [World.putObj_heap_other (by omega)]; exact s.fr.keep k hk hn
  · obtain ⟨r', h1, h2⟩ := s.fr.loops k l hl
    refine ⟨r', ?_, h2⟩
    rw [World.putObj_heap_other]
    · exact h1
    · intro e; subst e; rw [hr] at h1; cases h1

theorem leavesM {J0 : Inj} {h0 : H} {we : World} (hB : B0 ≤ we.heap.size) {F : Fence} {n : Nat} {fn : Func} {tmps : Array Value} {R : Ending → World → Prop}
    (fin : ∀ w', Stp B0 w0 J0 h0 we J h w' → ∃ v, (results fn tmps).run P w' = .ok v w' ∧ R (.returned v) w') :
    ∀ (ds : List Deferred) (w : World), Stp B0 w0 J0 h0 we J h w → Mk we.heap.size ds w → LeavesInM F n P fn tmps R ds .returning w
  | [], w, s, _ => fin w s
  | d :: ds, w, s, hm => by
    obtain ⟨rs, h1, h2, h3⟩ := hm
    cases rs with
    | nil => simp at h1
    | cons r rs =>
      simp only [List.map_cons, List.cons.injEq] at h1
      obtain ⟨h4, h5⟩ := h1
      obtain ⟨h6, h7⟩ := List.nodup_cons.1 h2
      obtain ⟨h8, h9⟩ := h3 r (by simp)
      refine ⟨by simp, .inl ⟨r, _, h4, run_takeDeferred h9, leavesM hB fin ds _ (s.shut hB h9 h8 none) ⟨rs, h5, h7, fun q hq => ?_⟩⟩⟩
      obtain ⟨g1, g2⟩ := h3 q (by simp [hq])
      exact ⟨g1, by rw [World.putObj_heap_other (fun e => h6 (by rw [← e]; exact hq))]; exact g2⟩

theorem callFunc_enter {k : Nat} {fn : Func} (hf : FnOk P k fn) (hb : fn.body.isSome = true) (args : Array Value) (w : World) : (callFunc k args).run P w = .ok (.enter k args) w := by
  have hn : (fn.body.isNone) = false := by cases hx : fn.body <;> simp_all
  have h1 := hf.funcs
  have h2 := hf.name
  have h2 : ¬ (fn.name = "runtime.NumGoroutine") := by simpa using h2
  have hx : (program).run P w = .ok P w := rfl
  unfold callFunc
  rw [Sem.run_bind, hx, Result.andThen_ok]
  simp [h1, h2, hn]

theorem scall_succ {f : Nat} (hT : Tbl P c) (hF : ∀ k fn, c.fns k = some fn → FnOk P k fn) (hP : PrimOk P c) (hc : SCode P c f) : SCall P c (f + 1) := by
  intro k args s v s' he hob B0 w0 J w args' hI hl
  simp only [evCall] at he
  split at he
  · rename_i p hp
    split at he
    · rename_i v1 h1 hpe
      cases he
      exact ⟨hP k p hp B0 w0 J s.h w args args' v h1 hI hl hpe, fun e => by rw [hp] at e; cases e⟩
    · cases he
  · split at he
    · cases he
    · rename_i fn hfn
      have hfo := hF k fn hfn
      split at he
      · rename_i b hb hle
        have hle := Nat.le_of_ble_eq_true hle
        have henter := callFunc_enter (P := P) hfo (by rw [hb]; rfl) args'.toArray w
        suffices hcalls : Calls P k args'.toArray w (fun e w' => ∃ v', e = .returned v' ∧ ∃ J', Stp B0 w0 J s.h w J' s'.h w' ∧ VR J' v v') from ⟨.inr ⟨henter, hcalls⟩, fun _ => ⟨henter, hcalls⟩⟩
        refine callsIn_wide (n := 0).1 (callsIn_of_wp_marks hfo.funcs hb trivial ?_)
        have hTR : TR J ⟨iniT 0 args .leaf, fn.ntmps⟩ (args'.toArray ++ Array.replicate (fn.ntmps - args'.toArray.size) Go.undef) := TR.init hl hle
        have hBs : B0 ≤ w.heap.size := Nat.le_trans hI.base hI.below.size
        split at he
        · rename_i x tm s1 hcode
          have hob1 : s1.ob = true := by
            repeat' split at he
            all_goals first | (cases he; exact hob) | cases he
          refine hc b _ s x tm s1 hcode hob1 (hfo.code b hb) B0 w0 J w _ _ _ _ hI hTR (.inl rfl) fun J1 a1 w1 st1 t1 m1 => ?_
          have hmk := m1 w.heap.size (Nat.le_refl _) ⟨[], rfl, List.nodup_nil, fun r hr => by cases hr⟩
          have fin : ∀ {vs : List Value}, resultL c s1.h tm fn.results.toList = some vs → ∀ w', Stp B0 w0 J s.h w J1 s1.h w' → ∃ v', (results fn a1.tmps).run P w' = .ok v' w' ∧ (∃ v'', Ending.returned v' = .returned v'' ∧ ∃ J', Stp B0 w0 J s.h w J' s1.h w' ∧ VR J' (oneOf vs) v'') := by
            intro vs hvs w' st'
            obtain ⟨v', h1, h2⟩ := run_results hT (st'.all hI).one t1 hvs
            exact ⟨v', h1, v', rfl, J1, st', h2⟩
          cases x with
          | normal =>
            simp only at he
            split at he
            · rename_i vs hvs
              cases he
              exact leavesM hBs (fin hvs) _ w1 st1 hmk
            · cases he
          | ret =>
            simp only at he
            split at he
            · rename_i vs hvs
              cases he
              exact leavesM hBs (fin hvs) _ w1 st1 hmk
            · cases he
          | exit i => cases he
          | goto l => cases he
        · cases he
      · cases he
end
end Go.EV
