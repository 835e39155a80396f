/-
  The evaluator's word is the program's: the shapes of it; operations, calls, rounds.
-/
import Derived.Test.YtkfaaeefbndkjaaGreatEvN
namespace Go.EV
open Go.RowKit (Below)

/-- What a call comes to: at once a value; or a function's body that returns one. -/
def CF (P : Program) (k : Nat) (args : Array Value) (w : World) (R : Value → World → Prop) : Prop :=
  (∃ v' w', (callFunc k args).run P w = .ok (.value v') w' ∧ R v' w') ∨ ((callFunc k args).run P w = .ok (.enter k args) w ∧ Calls P k args w fun e w' => ∃ v', e = .returned v' ∧ R v' w')
theorem CF.mono {P : Program} {k : Nat} {args : Array Value} {w : World} {R R' : Value → World → Prop} (h : CF P k args w R) (hr : ∀ v w, R v w → R' v w) : CF P k args w R' := by
  rcases h with ⟨v', w', h1, h2⟩ | ⟨h1, h2⟩
  · exact .inl ⟨v', w', h1, hr _ _ h2⟩
  · exact .inr ⟨h1, h2.mono fun e w' ⟨v', he, h⟩ => ⟨v', he, hr _ _ h⟩⟩

def PrimOk (P : Program) (c : Ctx) : Prop := ∀ k p, c.prim k = some p → ∀ (B0 : Nat) (w0 : World) J h w args args' v h', InvA B0 w0 J h w → LV J args args' → p args h = some (v, h') →
  CF P k args'.toArray w fun v' w' => ∃ J', Stp B0 w0 J h w J' h' w' ∧ VR J' v v'
structure FnOk (P : Program) (k : Nat) (fn : Func) : Prop where
  funcs : P.funcs[k]? = some fn
  name : (fn.name == "runtime.NumGoroutine") = false
  code : ∀ b, fn.body = some b → okC b = true

/-- The frames' kinds: a function's own, or a round's. -/
def Wd (F : Fence) (w : World) : Prop := F = Fence.wide ∨ ∃ l r, F = Fence.wide.inRound l ∧ w.heap[l]? = some (.loop r)

def Mk (S : Nat) (ds : List Deferred) (w : World) : Prop := ∃ rs : List Nat, ds.map (·.target) = rs.map Target.collected ∧ rs.Nodup ∧ ∀ r ∈ rs, S ≤ r ∧ w.heap[r]? = some (.deferred (some []))
def Mks (a : Act) (w : World) (a' : Act) (w' : World) : Prop := ∀ S, S ≤ w.heap.size → Mk S a.defers w → Mk S a'.defers w'

def exOf : X → Exit
  | .normal => .normal
  | .exit i => .exit i
  | .goto l => .goto l
  | .ret => .ret

section
variable {B0 : Nat} {w0 : World} {J : Inj} {h h' : H} {w w' : World} {P : Program} {c : Ctx} {v : Value} {F : Fence} {n : Nat} {a : Act}

theorem Wd.fn (hw : Wd F w) (f : FuncId) : F.fn f := by
  rcases hw with rfl | ⟨l, r, rfl, _⟩ <;> trivial
theorem Wd.depth (hw : Wd F w) : F.depth.isSome = true → 1 ≤ n := by
  rcases hw with rfl | ⟨l, r, rfl, _⟩ <;> simp [Fence.wide, Fence.inRound]
theorem Wd.stp {J' : Inj} (hw : Wd F w) (hs : Stp B0 w0 J h w J' h' w') : Wd F w' := by
  rcases hw with rfl | ⟨l, r, rfl, hl⟩
  · exact .inl rfl
  · obtain ⟨r', h1, _⟩ := hs.fr.loops l r hl
    exact .inr ⟨l, r', rfl, h1⟩
theorem Wd.calls (hw : Wd F w) {f : FuncId} {args : Array Value} {w1 : World} {R : Ending → World → Prop} (hc : Calls P f args w1 R) : CallsIn F n P f args w1 R := by
  rcases hw with rfl | ⟨l, r, rfl, _⟩
  · exact callsIn_wide.2 hc
  · exact CallsIn.inRound l (callsIn_wide.2 hc)

theorem Inv0.not_image (hI : Inv0 B0 w0 J h w) {r : Nat} {x : Obj} (hx : w.heap[r]? = some x) (hd : ∀ y e f, x ≠ .cells y e f) (hm : ∀ y e, x ≠ .map y e) (hl : ∀ y, x ≠ .loop y) : ∀ b o i, h.get b = some o → J b = some i → i.blk ≠ r := by
  intro b o i hb hj he
  obtain ⟨i', hj', _, hO⟩ := hI.live b o hb
  rw [hj] at hj'; cases hj'
  rw [← he] at hx
  cases o with
  | cells vec cs => obtain ⟨arr, e, lo, hi, h1, _⟩ := hO; rw [h1] at hx; cases hx; exact hd arr e (lo, hi) rfl
  | map es => obtain ⟨en, cl, h1, _⟩ := hO; rw [h1] at hx; cases hx; exact hm en cl rfl
  | loop d p tm ps x y => obtain ⟨r', h1, _⟩ := hO; rw [h1] at hx; cases hx; exact hl r' rfl
theorem Stp.keepsDeferred {J' : Inj} (hI : Inv0 B0 w0 J h w) (hs : Stp B0 w0 J h w J' h' w') {r : Nat} {d : Option (List Deferred)} (hr : w.heap[r]? = some (.deferred d)) : w'.heap[r]? = some (.deferred d) := by
  rw [hs.fr.keep r (Array.getElem?_eq_some_iff.1 hr).1 (hI.not_image hr (by simp) (by simp) (by simp))]
  exact hr
theorem Mk.stp {J' : Inj} {S : Nat} {ds : List Deferred} (hI : Inv0 B0 w0 J h w) (hs : Stp B0 w0 J h w J' h' w') (hm : Mk S ds w) : Mk S ds w' := by
  obtain ⟨rs, h1, h2, h3⟩ := hm
  exact ⟨rs, h1, h2, fun r hr => ⟨(h3 r hr).1, hs.keepsDeferred hI (h3 r hr).2⟩⟩
theorem Mks.stp {J' : Inj} {a' : Act} (hI : Inv0 B0 w0 J h w) (hs : Stp B0 w0 J h w J' h' w') (hd : a'.defers = a.defers) : Mks a w a' w' := fun S _ hm => by rw [hd]; exact hm.stp hI hs
theorem Mks.trans {a' a'' : Act} {w'' : World} (h1 : Mks a w a' w') (hsz : w.heap.size ≤ w'.heap.size) (h2 : Mks a' w' a'' w'') : Mks a w a'' w'' := fun S hS hm => h2 S (Nat.le_trans hS hsz) (h1 S hS hm)

/-! ### A function's value, called -/
theorem invoke_call {fn fn' : Value} {args args' : List Value} {k : Nat} {as : List Value} (hf : VR J fn fn') (ha : LV J args args') (he : EV.invoke fn args h = .call k as h') :
    h' = h ∧ ∃ as', LV J as as' ∧ ∃ d, (∀ w, (Deferred.ofValue fn' args'.toArray).run P w = .ok d w) ∧ ∀ w, (Go.invoke d.target d.args).run P w = (callFunc k as'.toArray).run P w := by
  unfold EV.invoke at he
  split at he
  · rename_i f first cap
    cases he
    cases hf with
    | func h1 h2 h3 h4 =>
      rename_i x y x' y'
      refine ⟨rfl, y ++ args' ++ y', (LV.append ⟨h1, h2⟩ ha).append ⟨h3, h4⟩, { target := .fn (.func k) ⟨y'⟩, args := ⟨y⟩ ++ args'.toArray }, fun w => by simp [Deferred.ofValue], fun w => ?_⟩
      simp only [Go.invoke]
      congr 2
      apply Array.ext'
      simp
  · cases he
  · cases he
theorem invoke_round {fn fn' : Value} {args args' : List Value} {l : Nat} {as : List Value} (hf : VR J fn fn') (he : EV.invoke fn args h = .round l as h') :
    h' = h ∧ as = args ∧ ∃ i d, J l = some i ∧ (∀ w, (Deferred.ofValue fn' args'.toArray).run P w = .ok d w) ∧ ∀ w, (Go.invoke d.target d.args).run P w = (Instr.yield i.blk args'.toArray).run P w := by
  unfold EV.invoke at he
  split at he
  · cases he
  · cases he
    cases hf with
    | yield hj =>
      rename_i i0
      refine ⟨rfl, rfl, i0, { target := .fn (.yield i0.blk) #[], args := args'.toArray }, hj, fun w => by simp [Deferred.ofValue], fun w => ?_⟩
      simp only [Go.invoke]
  · cases he

theorem resolve_value {ρ' : Operand → Value} {cl : Call} {f : Operand} {ty : TypeId} (hc : cl.callee = .value f) : resolve ρ' cl ty = Deferred.ofValue (ρ' f) (cl.args.toList.map ρ').toArray := by
  have e1 : (cl.args.toList.map ρ').toArray = cl.args.map ρ' := by apply Array.ext'; simp
  simp only [resolve, hc, e1]

/-- An operation that goes into a function. -/
theorem op_call {ρ ρ' : Operand → Value} {o : Oper} {k : Nat} {as : List Value} (hρ : ∀ x ∈ opsOf o.op, VR J (ρ x) (ρ' x)) (he : evOp c ρ o.op h = .call k as h') :
    h' = h ∧ (∀ x, o.op ≠ .defer x) ∧ ∃ as', LV J as as' ∧ ∀ w, (execOp ρ' o).run P w = (callFunc k as'.toArray).run P w := by
  obtain ⟨cl, f, e1, e2, e3⟩ := evOp_nc (.inl he)
  rw [e3] at he
  rw [e1] at hρ
  simp only [opsOf, e2] at hρ
  have ha := args_rel cl.args.toList (fun x hx => hρ x (by simp at hx; simp [hx]))
  obtain ⟨h1, as', h2, d, h3, h4⟩ := invoke_call (P := P) (hρ f (by simp)) ha he
  refine ⟨h1, by simp [e1], as', h2, fun w => ?_⟩
  simp only [execOp, e1, Sem.run_bind, resolve_value e2, h3, Result.andThen_ok, h4]
theorem op_round {ρ ρ' : Operand → Value} {o : Oper} {l : Nat} {as : List Value} (hρ : ∀ x ∈ opsOf o.op, VR J (ρ x) (ρ' x)) (he : evOp c ρ o.op h = .round l as h') :
    h' = h ∧ (∀ x, o.op ≠ .defer x) ∧ ∃ i as', J l = some i ∧ LV J as as' ∧ ∀ w, (execOp ρ' o).run P w = (Instr.yield i.blk as'.toArray).run P w := by
  obtain ⟨cl, f, e1, e2, e3⟩ := evOp_nc (.inr he)
  rw [e3] at he
  rw [e1] at hρ
  simp only [opsOf, e2] at hρ
  have ha := args_rel cl.args.toList (fun x hx => hρ x (by simp at hx; simp [hx]))
  obtain ⟨h1, h2, i, d, h3, h4, h5⟩ := invoke_round (P := P) (args' := cl.args.toList.map ρ') (hρ f (by simp)) he
  refine ⟨h1, by simp [e1], i, _, h3, h2 ▸ ha, fun w => ?_⟩
  simp only [execOp, e1, Sem.run_bind, resolve_value e2, h4, Result.andThen_ok, h5]

theorem val_not_defer {ρ : Operand → Value} {op : Op} (he : evOp c ρ op h = .val v h') : ∀ x, op ≠ .defer x := by
  intro x e; subst e; simp [evOp] at he

/-! ### Guards -/
theorem gval_run {ops : Array Oper} {tm : Tm} {j : Nat} {b : Bool} (hg : gval ops.toList tm j = some b) (hv : ∀ d, dstAt ops.toList j = some d → VR J (tget tm d) (a.tmps.getD d Go.undef)) : yielded ops a.tmps j = some b := by
  unfold gval at hg
  split at hg
  · rename_i d hd
    split at hg
    · rename_i b' hb
      cases hg
      have hv := hv d hd
      rw [hb] at hv
      have hv := hv.bool_inv
      unfold dstAt at hd
      split at hd
      · rename_i o ho
        have ho : ops[j]? = some o := by simpa using ho
        have : a.tmps[d]? = some (.bool b) := by
          rw [Array.getD_eq_getD_getElem?] at hv
          cases hx : a.tmps[d]? with
          | none => rw [hx] at hv; simp [Go.undef] at hv
          | some y => rw [hx] at hv; simp at hv; exact congrArg some hv
        simp [yielded, ho, hd, this]
      · cases hd
    · cases hg
  · cases hg
theorem wants_run {ops : Array Oper} {o : Oper} {tm : Tm} {s s' : St} {b : Bool} (hw : wants ops.toList o tm s = some (b, s')) (ho : s'.ob = true)
    (hv : ∀ t ∈ readsOf ops.toList o, VR J (tget tm t) (a.tmps.getD t Go.undef)) : Region.wanted o (yielded ops a.tmps) = b ∧ s.ob = true ∧ s'.h = s.h := by
  unfold wants at hw
  unfold Region.wanted
  split at hw
  · rename_i hg; cases hw; rw [hg]; exact ⟨rfl, ho, rfl⟩
  · rename_i j want hg
    rw [hg]
    split at hw
    · rename_i b0 hgv
      cases hd : EV.dec b0 s with
      | mk b' s'' =>
      rw [hd] at hw
      cases hw
      obtain ⟨h1, h2, h3⟩ := dec_true hd ho
      subst h1
      have := gval_run (J := J) (a := a) hgv (fun d hdd => hv d (by simp [readsOf, hg, hdd]))
      simp [this, h2, h3]
    · cases hw
theorem mem_tmpsOf : ∀ {l : List Operand} {t : Tmp}, .tmp t ∈ l → t ∈ tmpsOf l
  | [], t, h => by simp at h
  | x :: r, t, h => by
    rcases List.mem_cons.1 h with h | h
    · subst h; simp [tmpsOf]
    · have := mem_tmpsOf h
      cases x <;> simp [tmpsOf, this]
theorem reads_opd {ops : List Oper} {o : Oper} {tm : Tm} (hok : okOper o = true) (hv : ∀ t ∈ readsOf ops o, VR J (tget tm t) (a.tmps.getD t Go.undef)) : ∀ x ∈ opsOf o.op, VR J (opd tm x) (a.eval x) := by
  intro x hx
  have ho := allB_mem hok x hx
  cases x with
  | tmp t =>
    have h1 := mem_tmpsOf hx
    refine hv t ?_
    unfold readsOf
    split
    · exact h1
    · split
      · simp [h1]
      · exact h1
  | const v => exact VR.of_pure J ho
  | global g => simp [okO] at ho
  | func f => exact .func (a := []) (a' := []) (c := []) (c' := []) rfl (fun i x x' h => by simp at h) rfl (fun i x x' h => by simp at h)
end

/-! ### The shapes -/
def SCode (P : Program) (c : Ctx) (f : Nat) : Prop := ∀ code tm s x tm' s', evCode c f code tm s = .ok (x, tm') s' → s'.ob = true → okC code = true →
  ∀ (B0 : Nat) (w0 : World) J w a F n Q, InvA B0 w0 J s.h w → TR J tm a.tmps → Wd F w →
    (∀ J' a' w', Stp B0 w0 J s.h w J' s'.h w' → TR J' tm' a'.tmps → Mks a w a' w' → Q (exOf x) a' w') → code.wpIn F n P Q a w
def SOps (P : Program) (c : Ctx) (f : Nat) : Prop := ∀ (ops : Array Oper) rest tm s x tm' s', evOps c f ops.toList rest tm s = .ok (x, tm') s' → s'.ob = true → allB okOper rest = true →
  ∀ (B0 : Nat) (w0 : World) J w a F n Q (i : Nat), (∀ j o, rest[j]? = some o → ops[i + j]? = some o) → InvA B0 w0 J s.h w → TR J tm a.tmps → Wd F w →
    (∀ J' a' w', Stp B0 w0 J s.h w J' s'.h w' → TR J' tm' a'.tmps → Mks a w a' w' → Q (exOf x) a' w') → wpOpsIn F n P ops Q (List.range' i rest.length) a w
def SStep (P : Program) (c : Ctx) (f : Nat) : Prop := ∀ o tm s v s', evStep c f o tm s = .ok v s' → s'.ob = true →
  ∀ (B0 : Nat) (w0 : World) J w a F n next Q, InvA B0 w0 J s.h w → (∀ x ∈ opsOf o.op, VR J (opd tm x) (a.eval x)) → Wd F w →
    (∀ J' v' w', Stp B0 w0 J s.h w J' s'.h w' → VR J' v v' → next (a.put o.dst v') w') → o.wpIn F n P a w next Q
def SDraw (P : Program) (c : Ctx) (f : Nat) : Prop := ∀ (ops : Array Oper) tm s x tm' s', evDraw c f ops.toList (prep 0 ops.toList) 0 [] tm s = .ok (x, tm') s' → s'.ob = true → allB okOper ops.toList = true →
  ∀ (B0 : Nat) (w0 : World) J w a F n Q, InvA B0 w0 J s.h w → TR J tm a.tmps → Wd F w →
    (∀ J' a' w', Stp B0 w0 J s.h w J' s'.h w' → TR J' tm' a'.tmps → Mks a w a' w' → Q (exOf x) a' w') → wpAnyIn F n P .any ops Q ops.size (Array.replicate ops.size false) a w
def SCall (P : Program) (c : Ctx) (f : Nat) : Prop := ∀ k args s v s', evCall c f k args s = .ok v s' → s'.ob = true →
  ∀ (B0 : Nat) (w0 : World) J w args', InvA B0 w0 J s.h w → LV J args args' → CF P k args'.toArray w (fun v' w' => ∃ J', Stp B0 w0 J s.h w J' s'.h w' ∧ VR J' v v') ∧
    (c.prim k = none → (callFunc k args'.toArray).run P w = .ok (.enter k args'.toArray) w ∧ Calls P k args'.toArray w fun e w' => ∃ v', e = .returned v' ∧ ∃ J', Stp B0 w0 J s.h w J' s'.h w' ∧ VR J' v v')
end Go.EV
