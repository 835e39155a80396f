/-
  A range over a map whose order is drawn: all orders are run; whatever order comes, one of the outcomes is the machine's.
-/
import Derived.Test.YtkfaaeefbndkjaaGreatEvZ2
import Derived.Maps.RangeRun
namespace Go.EV
open Go.RowKit (Below)
open Go.ChangeMaps (setBlock)
noncomputable section

def bindO {α β : Type} (g : α → Option (List β)) : List α → Option (List β)
  | [] => some []
  | x :: r => match g x with
    | some a => match bindO g r with
      | some b => some (a ++ b)
      | none => none
    | none => none
theorem bindO_mem {α β : Type} {g : α → Option (List β)} : ∀ {l : List α} {ys : List β}, bindO g l = some ys → ∀ x ∈ l, ∃ a, g x = some a ∧ ∀ y ∈ a, y ∈ ys
  | [], ys, h, x, hx => by cases hx
  | z :: r, ys, h, x, hx => by
    simp only [bindO] at h
    split at h
    · rename_i a ha
      split at h
      · rename_i b hb
        cases h
        rcases List.mem_cons.1 hx with rfl | hx
        · exact ⟨a, ha, fun y hy => by simp [hy]⟩
        · obtain ⟨a', h1, h2⟩ := bindO_mem hb x hx
          exact ⟨a', h1, fun y hy => by simp [h2 y hy]⟩
      · cases h
    · cases h

/-- The pieces of 'for k := range m { .. }'. -/
structure KB where
  on : Oper
  r1 : List Oper
  c1 : Code
  oe : Oper
  r2 : List Oper
  c4 : Code
  it : Nat
def KB.body (B : KB) (i1 i2 : Nat) : Code := .seq (.region i1 ⟨B.on :: B.r1⟩ false) (.seq B.c1 (.block 1 (.seq (.region i2 ⟨B.oe :: B.r2⟩ false) B.c4)))
structure KB.Ok (B : KB) : Prop where
  on : B.on.op = .next (.tmp B.it) false
  ong : B.on.guard = none
  oe : B.oe.op = .entry (.tmp B.it)
  oeg : B.oe.guard = none
  r1 : allB okOper B.r1 = true
  r2 : allB okOper B.r2 = true
  c1 : okC B.c1 = true
  c4 : okC B.c4 = true

def isIt (it itb : Nat) (tm : Tm) : Bool := match tget tm it with
  | .pointer (some a) => match Nat.beq a.block itb, Nat.beq a.off 0, eqO a.spot none with
    | true, true, true => true
    | _, _, _ => false
  | _ => false
theorem isIt_eq {it itb : Nat} {tm : Tm} (h : isIt it itb tm = true) : tget tm it = .pointer (some ⟨itb, 0, none⟩) := by
  unfold isIt at h
  split at h
  · rename_i a ha
    split at h
    · rename_i h1 h2 h3
      obtain ⟨b, o, s⟩ := a
      have h1 : b = itb := Nat.eq_of_beq_eq_true h1
      have h2 : o = 0 := Nat.eq_of_beq_eq_true h2
      have h3 : s = none := eqO_eq h3
      rw [ha, h1, h2, h3]
    · cases h
  · cases h

def kNext (c : Ctx) (f : Nat) (B : KB) (v6 : Value) (tm : Tm) (s : St) : Option (X × Tm × St) := match tput B.on.dst v6 tm with
  | none => none
  | some t6 => match evOps c f (B.on :: B.r1) B.r1 t6 s with
    | .ok (.normal, t7) s7 => match evCode c f B.c1 t7 s7 with
      | .ok (x, t8) s8 => match s8.ob with
        | true => some (x, t8, s8)
        | false => none
      | .err _ => none
    | _ => none
def kEntry (c : Ctx) (f : Nat) (B : KB) (itb : Nat) (v8 : Value) (tm : Tm) (s : St) : Option (Tm × St) := match tput B.oe.dst v8 tm with
  | none => none
  | some t9 => match evOps c f (B.oe :: B.r2) B.r2 t9 s with
    | .ok (.normal, t10) s10 => match evCode c f B.c4 t10 s10 with
      | .ok (.normal, t11) s11 => match s11.ob, isIt B.it itb t11 with
        | true, true => some (t11, s11)
        | _, _ => none
      | _ => none
    | _ => none
def kStep (c : Ctx) (f : Nat) (B : KB) (itb : Nat) (kv : Value × Value) (tm : Tm) (s : St) : Option (Tm × St) := match kNext c f B (.tuple #[.bool true, kv.1, kv.2]) tm s with
  | some (.normal, t8, s8) => match isIt B.it itb t8 with
    | true => kEntry c f B itb (.tuple #[kv.1, kv.2]) t8 s8
    | false => none
  | _ => none
def kLoop (c : Ctx) (f : Nat) (B : KB) (itb : Nat) : Nat → List (Value × Value) → Tm → St → Option (List (X × Tm × St))
  | _, [], tm, s => match kNext c f B (.tuple #[.bool false]) tm s with
    | some (.normal, _, _) => none
    | some o => some [o]
    | none => none
  | 0, _ :: _, _, _ => none
  | n + 1, kv :: r, tm, s => bindO (fun j => match (kv :: r)[j]? with
    | some x => match kStep c f B itb x tm s with
      | some (tm', s') => kLoop c f B itb n ((kv :: r).eraseIdx j) tm' s'
      | none => none
    | none => none) (List.range (kv :: r).length)

/-! ### Blocks that nobody speaks of -/
def NI (J : Inj) (h : H) (k : Nat) : Prop := ∀ b o i, h.get b = some o → J b = some i → i.blk ≠ k
section
variable {B0 : Nat} {w0 : World} {J J' : Inj} {h h' : H} {w w' : World} {P : Program} {c : Ctx} {F : Fence} {n : Nat} {a : Act}
theorem NI.stp {k : Nat} (hn : NI J h k) (hk : k < w.heap.size) (hs : Stp B0 w0 J h w J' h' w') : NI J' h' k ∧ w'.heap[k]? = w.heap[k]? := by
  refine ⟨fun b o i hb hj e => ?_, hs.fr.keep k hk hn⟩
  obtain ⟨b1, o1, i1, h1, h2, h3⟩ := hs.img b o i hb hj (e ▸ hk)
  exact hn b1 o1 i1 h1 h2 (h3.trans e)

theorem setBlock_heap (w : World) (b : Nat) (o : Obj) : (setBlock w b o).heap.size = w.heap.size ∧ (∀ k, k ≠ b → (setBlock w b o).heap[k]? = w.heap[k]?) ∧ (b < w.heap.size → (setBlock w b o).heap[b]? = some o) := by
  refine ⟨by simp [setBlock], fun k hk => ?_, fun hb => ?_⟩
  · simp only [setBlock]; exact Array.getElem?_setIfInBounds_ne (Ne.symm hk)
  · simp only [setBlock]; exact Array.getElem?_setIfInBounds_self_of_lt hb

variable {Js : Inj} {hs : H} {ws : World} {as0 : Act}
/-- A block that came since and that nobody speaks of is turned. -/
theorem Stp.hid (st : Stp B0 w0 Js hs ws J h w) {k : Nat} {x y : Obj} (hk : NI J h k) (hB : B0 ≤ k) (hw : ws.heap.size ≤ k) (hx : w.heap[k]? = some x) (hl : ∀ r, x ≠ .loop r) : Stp B0 w0 Js hs ws J h (setBlock w k y) := by
  obtain ⟨h1, h2, h3⟩ := setBlock_heap w k y
  have hI := st.inv
  refine ⟨st.le, ⟨hI.base, ?_, fun b o hb => ?_, hI.inj⟩, st.next, st.new, ⟨by rw [h1]; exact st.fr.size, fun j hj hn => ?_, fun j r hr => ?_⟩, st.img⟩
  · have hb := hI.below
    exact ⟨hb.os, hb.tape, hb.output, by rw [h1]; exact hb.size, fun j hj => by rw [h2 j (by omega)]; exact hb.block j hj⟩
  · obtain ⟨i, q, r, s⟩ := hI.live b o hb
    exact ⟨i, q, r, s.same (h2 _ (hk b o i hb q))⟩
  · rw [h2 j (by omega)]; exact st.fr.keep j hj hn
  · obtain ⟨r', q1, q2⟩ := st.fr.loops j r hr
    refine ⟨r', ?_, q2⟩
    rw [h2 j (fun e => by subst e; rw [hx] at q1; cases q1; exact hl r' rfl)]; exact q1
theorem Mks.hid (m : Mks as0 ws a w) {k : Nat} {x y : Obj} (hx : w.heap[k]? = some x) (hl : ∀ d, x ≠ .deferred d) : Mks as0 ws a (setBlock w k y) := fun S hS hm => by
  obtain ⟨rs, q1, q2, q3⟩ := m S hS hm
  refine ⟨rs, q1, q2, fun r hr => ⟨(q3 r hr).1, ?_⟩⟩
  rw [(setBlock_heap w k y).2.1 r (fun e => by subst e; have := (q3 r hr).2; rw [hx] at this; cases this; exact hl _ rfl)]
  exact (q3 r hr).2
theorem Mks.put (m : Mks as0 ws a w) (d : Option Tmp) (v : Value) : Mks as0 ws (a.put d v) w := fun S hS hm => by
  rw [put_defers]; exact m S hS hm
theorem Stp.drewS (st : Stp B0 w0 Js hs ws J h w) : Stp B0 w0 Js hs ws J h w.drew := st.trans (.drew st.inv)

/-! ### What is left -/
def KV (J : Inj) (rem : List (Value × Value)) (L : List MapEntry) : Prop := rem.length = L.length ∧ ∀ (i : Nat) kv e, rem[i]? = some kv → L[i]? = some e → VR J kv.1 e.key ∧ VR J kv.2 e.val
theorem KV.mono {rem : List (Value × Value)} {L : List MapEntry} (h : KV J rem L) (hJ : J.le J') : KV J' rem L := ⟨h.1, fun i kv e a b => ⟨(h.2 i kv e a b).1.mono hJ, (h.2 i kv e a b).2.mono hJ⟩⟩
theorem KV.erase {rem : List (Value × Value)} {L : List MapEntry} (h : KV J rem L) (j : Nat) : KV J (rem.eraseIdx j) (L.eraseIdx j) := by
  refine ⟨by simp [List.length_eraseIdx, h.1], fun i kv e a b => ?_⟩
  rw [List.getElem?_eraseIdx] at a b
  by_cases hi : i < j
  · rw [if_pos hi] at a b; exact h.2 i kv e a b
  · rw [if_neg hi] at a b; exact h.2 (i + 1) kv e a b
theorem filter_born : ∀ (L : List MapEntry) (j : Nat) (e : MapEntry), (L.map (·.born)).Nodup → L[j]? = some e → L.filter (fun x => !(x.born == e.born)) = L.eraseIdx j
  | [], j, e, hn, h => by simp at h
  | x :: r, j, e, hn, h => by
    simp only [List.map_cons, List.nodup_cons] at hn
    cases j with
    | zero =>
      simp at h; subst h
      simp only [List.filter_cons, beq_self_eq_true, Bool.not_true, Bool.false_eq_true, if_false, List.eraseIdx_cons_zero]
      rw [List.filter_eq_self]
      intro y hy
      have : y.born ≠ x.born := fun e => hn.1 (by rw [← e]; exact List.mem_map_of_mem hy)
      simpa using this
    | succ j =>
      simp at h
      have : x.born ≠ e.born := fun e1 => hn.1 (by rw [e1]; exact List.mem_map_of_mem (List.mem_of_getElem? h))
      have hx : (!(x.born == e.born)) = true := by simpa using this
      rw [List.filter_cons, if_pos hx, List.eraseIdx_cons_succ, filter_born r j e hn.2 h]
theorem leftOf_push (es : Array MapEntry) (seen : Array Nat) (j : Nat) (e : MapEntry) (hn : (es.toList.map (·.born)).Nodup) (h : (leftOf es seen).toList[j]? = some e) : (leftOf es (seen.push e.born)).toList = (leftOf es seen).toList.eraseIdx j := by
  have h1 : (leftOf es (seen.push e.born)).toList = (leftOf es seen).toList.filter (fun x => !(x.born == e.born)) := by
    unfold leftOf
    simp only [Array.toList_filter, List.filter_filter]
    congr 1
    funext x
    by_cases hx : x.born = e.born <;> simp [hx]
  rw [h1]
  refine filter_born _ j e ?_ h
  have : ((leftOf es seen).toList.map (·.born)).Sublist (es.toList.map (·.born)) := by
    unfold leftOf
    rw [Array.toList_filter]
    exact List.Sublist.map _ List.filter_sublist
  exact this.nodup hn

/-- The machine's part of the walk: the iterator at r, over the map at bm. -/
structure ItAt (w : World) (r bm : Nat) (ents : Array MapEntry) (clock : Nat) (seen : Array Nat) : Prop where
  it : ∃ since c0, w.heap[r]? = some (.mapIter (some bm) since seen c0) ∧ since ≤ c0 ∧ ∀ x ∈ ents.toList, x.born < since
  map : w.heap[bm]? = some (.map ents clock)
end

theorem kNext_ok {P : Program} {c : Ctx} (hS : ∀ f, SAll P c f) (hg : ∀ f, GoodF c f) {f : Nat} {B : KB} (hB : B.Ok) {v6 : Value} {tm : Tm} {s : St} {x : X} {t8 : Tm} {s8 : St} (he : kNext c f B v6 tm s = some (x, t8, s8))
    {B0 : Nat} {w0 : World} {J : Inj} {w : World} {a : Act} {F : Fence} {n : Nat} {Q : Exit → Act → World → Prop} {v6' : Value} (hI : InvA B0 w0 J s.h w) (hT : TR J tm a.tmps) (hv : VR J v6 v6') (hw : Wd F w)
    {Q1 : Exit → Act → World → Prop} (hQ1 : ∀ a' w', B.c1.wpIn F n P Q a' w' → Q1 .normal a' w')
    (k : ∀ J' a' w', Stp B0 w0 J s.h w J' s8.h w' → TR J' t8 a'.tmps → Mks (a.put B.on.dst v6') w a' w' → Q (exOf x) a' w') : wpOpsIn F n P ⟨B.on :: B.r1⟩ Q1 (List.range' 1 B.r1.length) (a.put B.on.dst v6') w := by
  unfold kNext at he
  split at he
  · cases he
  · rename_i t6 ht6
    split at he
    · rename_i t7 s7 hops
      split at he
      · rename_i x' t8' s8' hc
        split at he
        · rename_i hob
          cases he
          have hob7 := ((hg f).code _ _ _ _ _ hc).ob hob
          refine (hS f).ops ⟨B.on :: B.r1⟩ B.r1 t6 s .normal t7 s7 hops hob7 hB.r1 B0 w0 J w (a.put B.on.dst v6') F n Q1 1 (fun j o hj => by rw [Nat.add_comm]; simpa using hj) hI (hT.put hv ht6) hw fun J1 a1 w1 st1 tr1 m1 => ?_
          refine hQ1 a1 w1 ?_
          exact (hS f).code B.c1 t7 s7 x t8 s8 hc hob hB.c1 B0 w0 J1 w1 a1 F n Q (st1.all hI) tr1 (hw.stp st1) fun J2 a2 w2 st2 tr2 m2 => k J2 a2 w2 (st1.trans st2) tr2 (m1.trans st1.fr.size m2)
        · cases he
      · cases he
    · cases he

theorem exThen_ne {x : X} (h : x ≠ .normal) {R : Act → World → Prop} {Q : Exit → Act → World → Prop} {a : Act} {w : World} : Exit.then R Q (exOf x) a w = Q (exOf x) a w := by
  cases x <;> first | exact absurd rfl h | rfl

theorem kLoop_ok {P : Program} {c : Ctx} (hS : ∀ f, SAll P c f) (hg : ∀ f, GoodF c f) {f : Nat} {B : KB} (hB : B.Ok) (itb i1 i2 : Nat) : ∀ (n : Nat) (rem : List (Value × Value)) (tm : Tm) (s : St) (outs : List (X × Tm × St)),
    kLoop c f B itb n rem tm s = some outs → isIt B.it itb tm = true →
    ∀ {B0 : Nat} {w0 : World} {Js : Inj} {hs : H} {ws : World} {as0 : Act} (J : Inj) (w : World) (a : Act) (F : Fence) (m : Nat) (Q : Exit → Act → World → Prop) (r bm : Nat) (ents : Array MapEntry) (clock : Nat) (seen : Array Nat) (since c0 : Nat),
    Stp B0 w0 Js hs ws J s.h w → (∀ b, s.h.next ≤ b → J b = none) → TR J tm a.tmps → Wd F w → Mks as0 ws a w → NI J s.h r → NI J s.h bm → B0 ≤ r → ws.heap.size ≤ r → r ≠ bm → J itb = some ⟨r, 0, 0⟩ →
    w.heap[r]? = some (.mapIter (some bm) since seen c0) → since ≤ c0 → since ≤ clock → (∀ x ∈ ents.toList, x.born < since) → w.heap[bm]? = some (.map ents clock) → (ents.toList.map (·.born)).Nodup → KV J rem (leftOf ents seen).toList →
    (∀ o ∈ outs, ∀ J' a' w', J.le J' → Stp B0 w0 Js hs ws J' o.2.2.h w' → (∀ b, o.2.2.h.next ≤ b → J' b = none) → TR J' o.2.1 a'.tmps → Mks as0 ws a' w' → w'.heap[bm]? = some (.map ents clock) → NI J' o.2.2.h bm → Q (exOf o.1) a' w') →
    Code.roundsIn F m P (B.body i1 i2) Q (n + 1) a w := by
  intro n
  induction n with
  | zero => ?_
  | succ n ih => ?_
  all_goals
    intro rem tm s outs he hit B0 w0 Js hs ws as0 J w a F m Q r bm ents clock seen since c0 st hA hT hw mk nir nib hBr hwr hrb hJ hr hc0 hcl hold hbm hnd hkv k
    have hI : InvA B0 w0 J s.h w := ⟨st.inv, hA⟩
    have hev : ∀ {tm : Tm} {a : Act} {J' : Inj}, isIt B.it itb tm = true → TR J' tm a.tmps → J' itb = some ⟨r, 0, 0⟩ → a.eval (.tmp B.it) = .pointer (some ⟨r, 0, none⟩) := by
      intro tm a J' h1 h2 h3
      have hv := h2.2 B.it
      rw [isIt_eq h1] at hv
      generalize hx : a.tmps.getD B.it Go.undef = y at hv
      cases hv with
      | ptr hj => rw [h3] at hj; cases hj; exact hx
    have e0 := hev hit hT hJ
    rw [roundsIn_succ]
    unfold KB.body
    refine wpIn_seq (wpIn_region ?_)
    have hrange : List.range (⟨B.on :: B.r1⟩ : Array Oper).size = 0 :: List.range' 1 B.r1.length := by
      rw [List.range_eq_range']; simp [List.range'_succ]
    rw [hrange, wpOpsIn_cons]
    have ho0 : (⟨B.on :: B.r1⟩ : Array Oper)[0]? = some B.on := by simp
    simp only [wpOpIn, ho0]
    rw [if_pos (by simp [Region.wanted, hB.ong])]
    have hex : (execOp a.eval B.on).run P w = ((Instr.next (.pointer (some ⟨r, 0, none⟩)) false B.on.type).run P w).andThen fun v w' => .ok (.value v) w' := by
      simp [execOp, hB.on, e0]
    refine wpIn_of_run hw (by simp [hB.on]) ?_
    rw [hex]
    rcases run_next_at (P := P) w B.on.type r bm since c0 seen ents clock hr hbm hold hc0 with ⟨hz, hrun⟩ | ⟨e, hmem, w1, hw1, hrun⟩
  · have hrem : rem = [] := List.eq_nil_of_length_eq_zero (by rw [hkv.1]; simpa using hz)
    subst hrem
    simp only [kLoop] at he
    rw [hrun]
    split at he
    · cases he
    · rename_i o hne hk
      cases he
      obtain ⟨x, t8, s8⟩ := o
      have hx : x ≠ .normal := fun e => by subst e; exact hne _ _ rfl
      refine kNext_ok (v6' := .tuple #[.bool false]) hS hg hB hk hI hT (VR.tuple_iff.2 (.cons (.bool false) .nil)) hw (fun a' w' h => wpIn_seq h) fun J' a' w' st' tr' m' => ?_
      rw [exThen_ne hx, exThen_ne hx]
      have nb := nib.stp (Array.getElem?_eq_some_iff.1 hbm).1 st'
      exact k (x, t8, s8) (by simp) J' a' w' st'.le (st.trans st') (st'.all hI).all tr' ((mk.put _ _).trans st.fr.size m') (by rw [nb.2]; exact hbm) nb.1
    · cases he
  · exfalso
    have : rem ≠ [] := fun e1 => by
      subst e1
      have := hkv.1
      obtain ⟨j, hj⟩ := List.getElem?_of_mem hmem
      have hj := (List.getElem?_eq_some_iff.1 hj).1
      simp only [List.length_nil] at this
      omega
    cases rem with
    | nil => exact this rfl
    | cons x r => simp [kLoop] at he
  · have hrem : rem = [] := List.eq_nil_of_length_eq_zero (by rw [hkv.1]; simpa using hz)
    subst hrem
    simp only [kLoop] at he
    rw [hrun]
    split at he
    · cases he
    · rename_i o hne hk
      cases he
      obtain ⟨x, t8, s8⟩ := o
      have hx : x ≠ .normal := fun e => by subst e; exact hne _ _ rfl
      refine kNext_ok (v6' := .tuple #[.bool false]) hS hg hB hk hI hT (VR.tuple_iff.2 (.cons (.bool false) .nil)) hw (fun a' w' h => wpIn_seq h) fun J' a' w' st' tr' m' => ?_
      rw [exThen_ne hx, exThen_ne hx]
      have nb := nib.stp (Array.getElem?_eq_some_iff.1 hbm).1 st'
      exact k (x, t8, s8) (by simp) J' a' w' st'.le (st.trans st') (st'.all hI).all tr' ((mk.put _ _).trans st.fr.size m') (by rw [nb.2]; exact hbm) nb.1
    · cases he
  · obtain ⟨j, hj⟩ := List.getElem?_of_mem hmem
    have hjl := (List.getElem?_eq_some_iff.1 hj).1
    have hjr : j < rem.length := by rw [hkv.1]; exact hjl
    have hkj : rem[j]? = some rem[j] := List.getElem?_eq_getElem hjr
    obtain ⟨vk, vv⟩ := hkv.2 j _ _ hkj hj
    have hstep : ∃ tm' s' o1, kStep c f B itb rem[j] tm s = some (tm', s') ∧ kLoop c f B itb n (rem.eraseIdx j) tm' s' = some o1 ∧ ∀ o ∈ o1, o ∈ outs := by
      cases rem with
      | nil => simp at hjr
      | cons x0 r0 =>
        simp only [kLoop] at he
        obtain ⟨o1, h1, h2⟩ := bindO_mem he j (by simpa using hjr)
        rw [hkj] at h1
        simp only at h1
        split at h1
        · rename_i tm' s' hk
          exact ⟨tm', s', o1, hk, h1, h2⟩
        · cases h1
    obtain ⟨tm', s', o1, hk, hl, hsub⟩ := hstep
    generalize rem[j] = kv at hk vk vv
    rw [hrun]
    unfold kStep at hk
    split at hk
    · rename_i t8 s8 hn8
      split at hk
      · rename_i hit8
        -- the iterator's step
        have hr1 : w1.heap[r]? = some (.mapIter (some bm) since seen c0) := by rcases hw1 with rfl | rfl <;> exact hr
        have hbm1 : w1.heap[bm]? = some (.map ents clock) := by rcases hw1 with rfl | rfl <;> exact hbm
        have st1 : Stp B0 w0 Js hs ws J s.h w1 := by
          rcases hw1 with rfl | rfl
          · exact st
          · exact st.drewS
        have mk1 : Mks as0 ws a w1 := by rcases hw1 with rfl | rfl <;> exact mk
        obtain ⟨w2, hw2⟩ : ∃ w2, setBlock w1 r (.mapIter (some bm) since (seen.push e.born) clock) = w2 := ⟨_, rfl⟩
        rw [hw2]
        have st2 : Stp B0 w0 Js hs ws J s.h w2 := by rw [← hw2]; exact st1.hid nir hBr hwr hr1 (fun _ => by simp)
        have mk2 : Mks as0 ws a w2 := by rw [← hw2]; exact mk1.hid hr1 (fun _ => by simp)
        have hwd2 : Wd F w2 := by
          rcases hw with rfl | ⟨l, rl, rfl, hl0⟩
          · exact .inl rfl
          · refine .inr ⟨l, rl, rfl, ?_⟩
            have hl1 : w1.heap[l]? = some (.loop rl) := by rcases hw1 with rfl | rfl <;> exact hl0
            rw [← hw2, (setBlock_heap _ _ _).2.1 l (fun e => by subst e; rw [hr1] at hl1; cases hl1)]
            exact hl1
        have hr2 : w2.heap[r]? = some (.mapIter (some bm) since (seen.push e.born) clock) := by rw [← hw2]; exact (setBlock_heap _ _ _).2.2 (Array.getElem?_eq_some_iff.1 hr1).1
        have hbm2 : w2.heap[bm]? = some (.map ents clock) := by rw [← hw2, (setBlock_heap _ _ _).2.1 bm (Ne.symm hrb)]; exact hbm1
        have hI2 : InvA B0 w0 J s.h w2 := ⟨st2.inv, hA⟩
        refine kNext_ok (v6' := .tuple #[.bool true, e.key, e.val]) hS hg hB hn8 hI2 hT (VR.tuple_iff.2 (.cons (.bool true) (.cons vk (.cons vv .nil)))) hwd2 (fun a' w' h => wpIn_seq h) fun J3 a3 w3 st3 tr3 m3 => ?_
        obtain ⟨nir3, er3⟩ := nir.stp (Array.getElem?_eq_some_iff.1 hr2).1 st3
        obtain ⟨nib3, eb3⟩ := nib.stp (Array.getElem?_eq_some_iff.1 hbm2).1 st3
        rw [hr2] at er3
        rw [hbm2] at eb3
        have hwd3 := hwd2.stp st3
        have hI3 := st3.all hI2
        have hJ3 := st3.le _ _ hJ
        have e3 := hev hit8 tr3 hJ3
        have m03 := ((mk2.put B.on.dst (.tuple #[.bool true, e.key, e.val])).trans st2.fr.size m3)
        have st03 := st2.trans st3
        show (Code.block 1 _).wpIn F m P _ a3 w3
        refine wpIn_block (wpIn_seq (wpIn_region ?_))
        unfold kEntry at hk
        split at hk
        · cases hk
        · rename_i t9 ht9
          split at hk
          · rename_i t10 s10 ho10
            split at hk
            · rename_i t11 s11 hc11
              split at hk
              · rename_i hob hit11
                cases hk
                have hob10 := ((hg f).code _ _ _ _ _ hc11).ob hob
                have hrange : List.range (⟨B.oe :: B.r2⟩ : Array Oper).size = 0 :: List.range' 1 B.r2.length := by
                  rw [List.range_eq_range']; simp [List.range'_succ]
                rw [hrange, wpOpsIn_cons]
                have ho0 : (⟨B.oe :: B.r2⟩ : Array Oper)[0]? = some B.oe := by simp
                simp only [wpOpIn, ho0]
                rw [if_pos (by simp [Region.wanted, hB.oeg])]
                have hmem2 : e ∈ ents.toList := by
                  have : e ∈ (leftOf ents seen).toList := hmem
                  unfold leftOf at this
                  rw [Array.toList_filter] at this
                  exact (List.mem_filter.1 this).1
                have hrun3 := run_entry_at (P := P) w3 r bm since seen ents clock e er3 eb3 hmem2 hnd
                have hex3 : (execOp a3.eval B.oe).run P w3 = .ok (.value (.tuple #[e.key, e.val])) w3 := by
                  simp [execOp, hB.oe, e3, hrun3]
                refine wpIn_of_run hwd3 (by simp [hB.oe]) ?_
                rw [hex3]
                have hv9 : VR J3 (.tuple #[kv.1, kv.2]) (.tuple #[e.key, e.val]) := VR.tuple_iff.2 (.cons (vk.mono st3.le) (.cons (vv.mono st3.le) .nil))
                refine (hS f).ops ⟨B.oe :: B.r2⟩ B.r2 t9 s8 .normal t10 s10 ho10 hob10 hB.r2 B0 w0 J3 w3 _ F m _ 1 (fun j o hj => by rw [Nat.add_comm]; simpa using hj) hI3 (tr3.put hv9 ht9) hwd3 fun J4 a4 w4 st4 tr4 m4 => ?_
                refine (hS f).code B.c4 t10 s10 .normal tm' s' hc11 hob hB.c4 B0 w0 J4 w4 a4 F m _ (st4.all hI3) tr4 (hwd3.stp st4) fun J5 a5 w5 st5 tr5 m5 => ?_
                have st45 := st4.trans st5
                obtain ⟨nir5, er5⟩ := nir3.stp (Array.getElem?_eq_some_iff.1 er3).1 st45
                obtain ⟨nib5, eb5⟩ := nib3.stp (Array.getElem?_eq_some_iff.1 eb3).1 st45
                have hkv5 : KV J5 (rem.eraseIdx j) (leftOf ents (seen.push e.born)).toList := by
                  rw [leftOf_push ents seen j e hnd hj]
                  exact (hkv.erase j).mono (Inj.le_trans st3.le st45.le)
                show Code.roundsIn F m P (B.body i1 i2) Q (n + 1) a5 w5
                exact ih (rem.eraseIdx j) tm' s' o1 hl hit11 J5 w5 a5 F m Q r bm ents clock (seen.push e.born) since clock (st03.trans st45) (st45.all hI3).all tr5 (hwd3.stp st45)
                  (((m03.put _ _).trans st03.fr.size m4).trans (Nat.le_trans st03.fr.size st4.fr.size) m5) nir5 nib5 hBr hwr hrb (st45.le _ _ hJ3) (by rw [er5]; exact er3) hcl hcl hold (by rw [eb5]; exact eb3) hnd hkv5
                  (fun o ho J' a' w' h0 h1 h2 h3 h4 h5 h6 => k o (hsub o ho) J' a' w' (Inj.le_trans (Inj.le_trans st3.le st45.le) h0) h1 h2 h3 h4 h5 h6)
              · cases hk
            · cases hk
          · cases hk
      · cases hk
    · cases hk
end
end Go.EV
