/-
  Each operation, on: slice expressions, fields, elements, maps.
-/
import Derived.Test.YtkfaaeefbndkjaaGreatEvI
namespace Go.EV
open Go.RowKit (Below)
section
variable {B0 : Nat} {w0 : World} {J : Inj} {h h' : H} {w : World} {P : Program} {c : Ctx} {v : Value}

theorem op_arrayAt (hT : Tbl P c) (hI : Inv B0 w0 J h w) {ρ ρ' : Operand → Value} {t : TypeId} {x : Operand} (hx : VR J (ρ x) (ρ' x)) (he : evOp c ρ (.sliceToArrayPointer t x) h = .val v h') :
    OpOk B0 w0 (((fun v => Next.value v) <$> Instr.arrayAt t (ρ' x)).run P w) J h w v h' := by
  simp only [evOp] at he
  split at he
  · rename_i n ei a l k har hρ
    split at he
    · rename_i h1 h2
      cases he
      obtain ⟨e, hu, _⟩ := arrE_ok hT har
      have h1 : n ≤ l := by simpa using h1
      have h2 : 1 ≤ k := by simpa using h2
      rw [hρ] at hx
      obtain ⟨i, o', c', hj, hx', hn, hcc, ho, _⟩ := hx.slice_inv
      refine OpOk.stay hI (v' := .pointer (some ⟨i.blk, a.off + i.shift, none⟩)) ?_ (.ptr hj)
      rw [hx']
      simp [Instr.arrayAt, run_underlying hu, Nat.not_lt.2 h1, ho (by omega)]
    · cases he
  · cases he

theorem op_makeInterface (hT : Tbl P c) (hI : Inv B0 w0 J h w) {ρ ρ' : Operand → Value} {t : TypeId} {x : Operand} (hx : VR J (ρ x) (ρ' x)) (he : evOp c ρ (.makeInterface t x) h = .val v h') :
    OpOk B0 w0 (((fun v => Next.value v) <$> Instr.makeInterface t (ρ' x)).run P w) J h w v h' := by
  simp only [evOp] at he
  split at he
  · rename_i m ti hρ hti
    split at he
    · rename_i k e hu
      cases he
      have ht := (hT.tt _ _ hti).und
      rw [hu] at ht
      rw [hρ] at hx
      exact OpOk.stay hI (v' := .iface t (ρ' x)) (by simp [Instr.makeInterface, run_underlying ht]) (.iface hx)
    · cases he
  · cases he

theorem op_typeAssert (hT : Tbl P c) (hI : Inv B0 w0 J h w) {ρ ρ' : Operand → Value} {s t : TypeId} {x : Operand} {k : Bool} (hx : VR J (ρ x) (ρ' x)) (he : evOp c ρ (.typeAssert x s t k) h = .val v h') :
    OpOk B0 w0 (((fun v => Next.value v) <$> Instr.typeAssert (ρ' x) s t k).run P w) J h w v h' := by
  cases k with
  | true => simp [evOp] at he
  | false =>
    simp only [evOp] at he
    split at he
    · rename_i u m hρ
      split at he
      · rename_i ui htu hui
        have htu := Nat.eq_of_beq_eq_true htu
        subst htu
        split at he
        · rename_i k e hu
          cases he
          have ht := (hT.tt _ _ hui).und
          rw [hu] at ht
          rw [hρ] at hx
          cases hv : ρ' x <;> rw [hv] at hx <;> cases hx
          rename_i v1 hr
          refine OpOk.stay hI (v' := v1) ?_ hr
          simp [Instr.typeAssert, run_underlying ht]
        · cases he
      · cases he
    · cases he

theorem op_makeMap (hI : Inv B0 w0 J h w) {ρ ρ' : Operand → Value} {t : TypeId} {r : Option Operand} (he : evOp c ρ (.makeMap t r) h = .val v h') :
    OpOk B0 w0 (((fun v => Next.value v) <$> Instr.makeMap t (r.map ρ')).run P w) J h w v h' := by
  cases r with
  | some r => simp [evOp] at he
  | none =>
    simp only [evOp] at he
    cases he
    refine ⟨_, .map (some w.heap.size), w.alloc (.map #[] 0), .inl (by simp [Instr.makeMap]), Stp.alloc (i := ⟨w.heap.size, 0, 0⟩) hI rfl ?_, VR.map (i := ⟨w.heap.size, 0, 0⟩) (Inj.upd_same _ _ _)⟩
    exact ⟨#[], 0, heap_alloc_at w _, rfl, fun k e e' a => by simp at a, by simp, by simp⟩

theorem op_makeSlice (hT : Tbl P c) (hI : Inv B0 w0 J h w) {ρ ρ' : Operand → Value} {t : TypeId} {l k : Operand} (hl : VR J (ρ l) (ρ' l)) (hk : VR J (ρ k) (ρ' k)) (he : evOp c ρ (.makeSlice t l k) h = .val v h') :
    OpOk B0 w0 (((fun v => Next.value v) <$> Instr.makeSlice t (ρ' l) (ρ' k)).run P w) J h w v h' := by
  simp only [evOp, makeSlice] at he
  split at he
  · rename_i ei _ l' _ k' hei hρl hρk
    split at he
    · rename_i hd
      cases he
      have hd : 0 ≤ l' ∧ l' ≤ k' ∧ ei.bytes * k' ≤ 2 ^ 40 ∧ k' ≤ 2 ^ 40 := by simpa using hd
      obtain ⟨h1, h2, h3, h4⟩ := hd
      obtain ⟨e, hu, hke⟩ := sliceE_ok hT hei
      obtain ⟨z, hz, hzv, hzc⟩ := hke.zero
      obtain ⟨i, hi, hsz, hby, _⟩ := hke.info
      rw [hρl] at hl; rw [hρk] at hk
      obtain ⟨kn, rfl⟩ := Int.eq_ofNat_of_zero_le (show 0 ≤ k' by omega)
      obtain ⟨ln, rfl⟩ := Int.eq_ofNat_of_zero_le h1
      have hzl : z.cells.size = ei.size := by rw [← Array.length_toList, hzc, hke.zlen]
      have hw1 : IntKind.i64.wrap (ln : Int) = ln := by simp [IntKind.wrap, IntKind.bits, IntKind.signed]; omega
      have hw2 : IntKind.i64.wrap (kn : Int) = kn := by simp [IntKind.wrap, IntKind.bits, IntKind.signed]; omega
      have hb : ¬ (281474976710656 < (i.bytes : Int) * (kn : Int)) := by rw [hby]; omega
      have hrow := Stp.row (e := e) (cs := repL kn ei.zero) (arr := (Array.range (kn * ei.size)).map fun i => z.cells[i % z.cells.size]!) hI (by rw [← hzl, zeros_eq, hzc]; exact repL_rel (hke.zeroRel J) kn)
      have hty : ∀ w, (typeInfo e).run P w = .ok i w := fun w => by simp [typeInfo, hi]
      refine ⟨_, .slice (some ⟨w.heap.size, 0, none⟩) ln kn, _, .inl ?_, hrow, .slice (Inj.upd_same _ _ _) (by omega) (fun _ => rfl)⟩
      rw [hl.int_inv, hk.int_inv]
      have hle : ¬ ((kn : Int) < (ln : Int)) := by omega
      by_cases h0 : kn * ei.size = 0
      · have hr0 : ∀ f : Nat → Value, Array.map f (Array.range 0) = #[] := fun f => by rw [show Array.range 0 = #[] from rfl, Array.map_empty]
        simp [Instr.makeSlice, run_underlying hu, asInt, asIntOf, hty, hw1, hw2, hb, hle, hke.size w, h0, hr0, run_newRow]
        intro hh; exact absurd hh (by omega)
      · simp [Instr.makeSlice, run_underlying hu, asInt, asIntOf, hty, hw1, hw2, hb, hle, hke.size w, h0, hz, run_newRow]
        intro hh; exact absurd hh (by omega)
    · cases he
  · cases he

theorem op_fieldAddr (hT : Tbl P c) (hI : Inv B0 w0 J h w) {ρ ρ' : Operand → Value} {t f : Nat} {x : Operand} (hx : VR J (ρ x) (ρ' x)) (he : evOp c ρ (.fieldAddr t x f) h = .val v h') :
    OpOk B0 w0 (((fun v => Next.value v) <$> Instr.fieldAt t (ρ' x) f).run P w) J h w v h' := by
  simp only [evOp] at he
  split at he
  · rename_i a o fi hρ hsf
    split at he
    · cases he
    · rename_i hz
      cases he
      obtain ⟨ti, fs, fd, g1, g2, g3, g4, g5⟩ := structF_ok hsf
      have ht := (hT.tt _ _ g1).und
      rw [g2] at ht
      rw [hρ] at hx
      obtain ⟨b, o', i, rfl, hj, hρ'⟩ := hx.ptr_inv
      have hz : ¬ fi.size = 0 := fun e => by rw [e] at hz; simp at hz
      refine OpOk.stay hI (v' := .pointer (some ⟨i.blk, o' + o + i.shift, none⟩)) ?_ (.ptr hj)
      rw [hρ']
      simp [Instr.fieldAt, run_underlying ht, g3, Instr.sureAddr, fieldPlace, (hT.tt _ _ g5).size w, hz, g4, Addr.add_lit]
      omega
  · cases he

theorem subN_drop : ∀ (o n : Nat) (l r : List Value), subN o n l = some r → r = (l.drop o).take n ∧ o + n ≤ l.length
  | o, n, l, r, hs => by
    obtain ⟨h1, h2⟩ := subN_get hs
    have hlen : o + n ≤ l.length := by
      cases n with
      | zero =>
        unfold subN at hs
        split at hs
        · rename_i m hm
          clear hs
          revert m
          induction o generalizing l with
          | zero => intros; omega
          | succ o ih =>
            intro m hm
            cases l with
            | nil => simp [dropN] at hm
            | cons x l => simp only [dropN] at hm; have := ih l (by intro k v hv; exact absurd (h1 ▸ (List.getElem?_eq_some_iff.1 hv).1) (by omega)) m hm; simp; omega
        · cases hs
      | succ n =>
        have := h2 n r[n] (List.getElem?_eq_getElem (by omega))
        have := (List.getElem?_eq_some_iff.1 this).1
        omega
    refine ⟨List.ext_getElem? fun k => ?_, hlen⟩
    by_cases hk : k < n
    · rw [List.getElem?_take, if_pos hk, List.getElem?_drop, h2 k r[k] (List.getElem?_eq_getElem (by omega))]
      exact List.getElem?_eq_getElem (by omega)
    · rw [List.getElem?_eq_none (by omega), List.getElem?_eq_none (by simp; omega)]

theorem run_part_rel {t : TypeId} {ti : TI} (hk : TIok P t ti) {o : Nat} {l l' r : List Value} {x : Value} (hl : LV J l l') (hs : subN o ti.size l = some r) (hm : mkv ti.agg r = some x) (w : World) :
    ∃ x', (part t ⟨l'⟩ o).run P w = .ok x' w ∧ VR J x x' := by
  obtain ⟨i, hi, hsz, _⟩ := hk.info
  obtain ⟨rfl, hlen⟩ := subN_drop _ _ _ _ hs
  have h1 : aggB P t = false → i.size = 1 := fun ha => by
    rw [hk.agg, ha] at hm
    simp only [mkv] at hm
    split at hm
    · rename_i y hy
      have := congrArg List.length hy
      simp at this; omega
    · cases hm
  refine ⟨_, run_partOf hi hk.und w l' o (by rw [← hl.1]; omega) h1, ?_⟩
  rw [hsz, ← hk.agg]
  exact mkv_rel hm ((hl.dropD o).takeD ti.size)

theorem op_field (hT : Tbl P c) (hI : Inv B0 w0 J h w) {ρ ρ' : Operand → Value} {t f : Nat} {x : Operand} (hx : VR J (ρ x) (ρ' x)) (he : evOp c ρ (.field t x f) h = .val v h') :
    OpOk B0 w0 (((fun v => Next.value v) <$> Instr.field t (ρ' x) f).run P w) J h w v h' := by
  simp only [evOp] at he
  split at he
  · rename_i cs o fi hρ hsf
    split at he
    · rename_i l hl
      obtain ⟨rfl, hm⟩ := PR.pure_val he
      obtain ⟨ti, fs, fd, g1, g2, g3, g4, g5⟩ := structF_ok hsf
      have ht := (hT.tt _ _ g1).und
      rw [g2] at ht
      rw [hρ] at hx
      cases hv : ρ' x <;> rw [hv] at hx <;> cases hx
      rename_i a a' h1 h2
      obtain ⟨x', hx', hr⟩ := run_part_rel (hT.tt _ _ g5) (l := a) (l' := a') ⟨h1, h2⟩ hl hm w
      refine OpOk.stay hI (v' := x') ?_ hr
      simp [Instr.field, run_underlying ht, g3, asAgg, g4, hx']
    · cases he
  · cases he

theorem op_indexAddr (hT : Tbl P c) (hI : Inv B0 w0 J h w) {ρ ρ' : Operand → Value} {t : Nat} {x i : Operand} (hx : VR J (ρ x) (ρ' x)) (hi : VR J (ρ i) (ρ' i)) (he : evOp c ρ (.indexAddr t x i) h = .val v h') :
    OpOk B0 w0 (((fun v => Next.value v) <$> Instr.indexAt t (ρ' x) (ρ' i)).run P w) J h w v h' := by
  simp only [evOp, indexP] at he
  split at he
  · rename_i k n hρi
    rw [hρi] at hi
    split at he
    · rename_i a hρx
      split at he
      · rename_i m ei har
        split at he
        · rename_i hd
          cases he
          have hd : 0 ≤ n ∧ n < m := by simpa using hd
          obtain ⟨e, hu, hke⟩ := arrE_ok hT har
          rw [hρx] at hx
          obtain ⟨b, o', i', rfl, hj, hρ'⟩ := hx.ptr_inv
          refine OpOk.stay hI (v' := .pointer (some ⟨i'.blk, o' + n.toNat * ei.size + i'.shift, none⟩)) ?_ (.ptr hj)
          rw [hρ', hi.int_inv]
          simp [Instr.indexAt, run_underlying hu, asIntOf, Instr.sureAddr, hd, hke.size w, Addr.add_lit]
          omega
        · cases he
      · cases he
    · rename_i a m cap hρx
      split at he
      · rename_i ei hsl
        split at he
        · rename_i hd
          cases he
          have hd : 0 ≤ n ∧ n < m := by simpa using hd
          obtain ⟨e, hu, hke⟩ := sliceE_ok hT hsl
          rw [hρx] at hx
          obtain ⟨i', o', c', hj, hx', hn, hcc, ho, _⟩ := hx.slice_inv
          refine OpOk.stay hI (v' := .pointer (some ⟨i'.blk, a.off + n.toNat * ei.size + i'.shift, none⟩)) ?_ (.ptr hj)
          rw [hx', hi.int_inv, ho (by omega)]
          simp [Instr.indexAt, run_underlying hu, asIntOf, hd, hke.size w, Addr.add_lit]
          omega
        · cases he
      · cases he
    · cases he
  · cases he

theorem op_index (hT : Tbl P c) (hI : Inv B0 w0 J h w) {ρ ρ' : Operand → Value} {t : Nat} {x i : Operand} (hx : VR J (ρ x) (ρ' x)) (hi : VR J (ρ i) (ρ' i)) (he : evOp c ρ (.index t x i) h = .val v h') :
    OpOk B0 w0 (((fun v => Next.value v) <$> Instr.index t (ρ' x) (ρ' i)).run P w) J h w v h' := by
  simp only [evOp, indexV] at he
  split at he
  · rename_i k n cs hρi hρx
    rw [hρi] at hi; rw [hρx] at hx
    split at he
    · rename_i m ei har
      split at he
      · rename_i hd
        split at he
        · rename_i l hl
          obtain ⟨rfl, hm⟩ := PR.pure_val he
          have hd : 0 ≤ n ∧ n < m := by simpa using hd
          obtain ⟨e, hu, hke⟩ := arrE_ok hT har
          cases hv : ρ' x <;> rw [hv] at hx <;> cases hx
          rename_i a a' h1 h2
          obtain ⟨x', hx', hr⟩ := run_part_rel hke (l := a) (l' := a') ⟨h1, h2⟩ hl hm w
          refine OpOk.stay hI (v' := x') ?_ hr
          rw [hi.int_inv]
          simp [Instr.index, run_underlying hu, asIntOf, hd, hke.size w, hx']
        · cases he
      · cases he
    · cases he
  · rename_i k n s hρi hρx
    rw [hρi] at hi; rw [hρx] at hx
    split at he
    · rename_i ti hti
      split at he
      · rename_i hu
        split at he
        · rename_i hd
          split at he
          · rename_i b hb
            cases he
            have ht := (hT.tt _ _ hti).und
            rw [hu] at ht
            have hd : 0 ≤ n := by simpa using hd
            refine OpOk.stay hI (v' := .int .u8 b.toNat) ?_ (.int _ _)
            rw [hi.int_inv, hx.string_inv]
            simp [Instr.index, run_underlying ht, asIntOf, hd, hb]
          · cases he
        · cases he
      · cases he
    · cases he
  · cases he

theorem op_extract (hI : Inv B0 w0 J h w) {ρ ρ' : Operand → Value} {t : Operand} {i : Nat} (hx : VR J (ρ t) (ρ' t)) (he : evOp c ρ (.extract t i) h = .val v h') :
    OpOk B0 w0 (((fun v => Next.value v) <$> Instr.extract (ρ' t) i).run P w) J h w v h' := by
  simp only [evOp] at he
  split at he
  · rename_i vs hρ
    split at he
    · rename_i u hu
      cases he
      rw [hρ] at hx
      cases hv : ρ' t <;> rw [hv] at hx <;> cases hx
      rename_i a a' h1 h2
      obtain ⟨u', hu', hr⟩ := LV.get (J := J) ⟨h1, h2⟩ hu
      refine OpOk.stay hI (v' := u') ?_ hr
      simp [Instr.extract, hu']
    · cases he
  · cases he

/-! ### Slice expressions -/
def BR (J : Inj) (x x' : Option Value) : Prop := (x = none ∧ x' = none) ∨ (∃ u u', x = some u ∧ x' = some u' ∧ VR J u u')
theorem optRel {ρ ρ' : Operand → Value} {x : Option Operand} (h : ∀ y, x = some y → VR J (ρ y) (ρ' y)) : BR J (x.map ρ) (x.map ρ') := by
  cases x with
  | none => exact .inl ⟨rfl, rfl⟩
  | some y => exact .inr ⟨_, _, rfl, rfl, h y rfl⟩
theorem bound_some {u u' : Value} {d lim r : Nat} (hr : VR J u u') (hb : bound (some u) d lim = some r) : r ≤ lim ∧ ∀ (lim' : Nat) (code : BoundsCode) (w : World), lim ≤ lim' → (Instr.sliceBound u' lim' code).run P w = .ok r w := by
  unfold bound at hb
  split at hb
  · rename_i e; cases e
  · rename_i k i e
    cases e
    split at hb
    · rename_i hd
      cases hb
      have hd : 0 ≤ i ∧ i ≤ lim := by simpa using hd
      refine ⟨by omega, fun lim' code w hle => ?_⟩
      rw [hr.int_inv]
      have : 0 ≤ i ∧ i ≤ (lim' : Int) := ⟨hd.1, by omega⟩
      simp [Instr.sliceBound, asIntOf, this]
    · cases hb
  · cases hb

/-- The three bounds, where the abstract capacity is no greater than the true one. -/
theorem bounds_run {s : Bool} {len cap cap' m b l : Nat} {lo hi mx lo' hi' mx' : Option Value} (hlo : BR J lo lo') (hhi : BR J hi hi') (hmx : BR J mx mx')
    (hcap : cap ≤ cap') (hlen : len ≤ cap) (h1 : bound mx cap cap = some m) (h2 : bound hi len m = some b) (h3 : bound lo 0 b = some l) (hmh : mx = none ∨ hi.isSome = true) :
    (Instr.sliceBounds s len cap' lo' hi' mx').run P w = .ok (l, b, if mx.isSome = true then m else cap') w ∧ l ≤ b ∧ b ≤ m ∧ m ≤ cap ∧ (mx = none → m = cap) := by
  rcases hmx with ⟨rfl, rfl⟩ | ⟨um, um', rfl, rfl, hm⟩
  · have e1 : cap = m := by simpa [bound] using h1
    subst e1
    rcases hhi with ⟨rfl, rfl⟩ | ⟨uh, uh', rfl, rfl, hh⟩
    · have e2 : len = b := by simpa [bound] using h2
      subst e2
      rcases hlo with ⟨rfl, rfl⟩ | ⟨ul, ul', rfl, rfl, hl⟩
      · have e3 : 0 = l := by simpa [bound] using h3
        subst e3
        exact ⟨by simp [Instr.sliceBounds], by omega, hlen, Nat.le_refl _, fun _ => rfl⟩
      · obtain ⟨q, r⟩ := bound_some (P := P) hl h3
        exact ⟨by simp [Instr.sliceBounds, r _ _ w (Nat.le_refl _)], q, hlen, Nat.le_refl _, fun _ => rfl⟩
    · obtain ⟨q2, r2⟩ := bound_some (P := P) hh h2
      rcases hlo with ⟨rfl, rfl⟩ | ⟨ul, ul', rfl, rfl, hl⟩
      · have e3 : 0 = l := by simpa [bound] using h3
        subst e3
        exact ⟨by simp [Instr.sliceBounds, r2 _ _ w hcap], by omega, q2, Nat.le_refl _, fun _ => rfl⟩
      · obtain ⟨q, r⟩ := bound_some (P := P) hl h3
        exact ⟨by simp [Instr.sliceBounds, r2 _ _ w hcap, r _ _ w (Nat.le_refl _)], q, q2, Nat.le_refl _, fun _ => rfl⟩
  · obtain ⟨q1, r1⟩ := bound_some (P := P) hm h1
    rcases hhi with ⟨rfl, rfl⟩ | ⟨uh, uh', rfl, rfl, hh⟩
    · rcases hmh with e | e <;> cases e
    · obtain ⟨q2, r2⟩ := bound_some (P := P) hh h2
      rcases hlo with ⟨rfl, rfl⟩ | ⟨ul, ul', rfl, rfl, hl⟩
      · have e3 : 0 = l := by simpa [bound] using h3
        subst e3
        exact ⟨by simp [Instr.sliceBounds, r1 _ _ w hcap, r2 _ _ w (Nat.le_refl _)], by omega, q2, q1, fun e => by cases e⟩
      · obtain ⟨q, r⟩ := bound_some (P := P) hl h3
        exact ⟨by simp [Instr.sliceBounds, r1 _ _ w hcap, r2 _ _ w (Nat.le_refl _), r _ _ w (Nat.le_refl _)], q, q2, q1, fun e => by cases e⟩

theorem isSome_map {ρ : Operand → Value} {x : Option Operand} : (x.map ρ).isSome = x.isSome := by cases x <;> rfl

theorem op_slice (hT : Tbl P c) (hI : Inv B0 w0 J h w) {ρ ρ' : Operand → Value} {t : Nat} {x : Operand} {lo hi mx : Option Operand} (hx : VR J (ρ x) (ρ' x)) (hlo : ∀ y, lo = some y → VR J (ρ y) (ρ' y)) (hhi : ∀ y, hi = some y → VR J (ρ y) (ρ' y))
    (hmx : ∀ y, mx = some y → VR J (ρ y) (ρ' y)) (he : evOp c ρ (.slice t x lo hi mx) h = .val v h') :
    OpOk B0 w0 (((fun v => Next.value v) <$> Instr.sliceAt t (ρ' x) (lo.map ρ') (hi.map ρ') (mx.map ρ')).run P w) J h w v h' := by
  have l1 := optRel hlo
  have h1 := optRel hhi
  have m1 := optRel hmx
  simp only [evOp, sliceX] at he
  split at he
  · cases he
  · rename_i ti hti
    have ht := (hT.tt _ _ hti).und
    split at he
    · rename_i n e a hu hρ
      split at he
      · rename_i ei hei hm0
        split at he
        · rename_i b hb
          split at he
          · rename_i l hl
            cases he
            rw [hu] at ht; rw [hρ] at hx
            obtain ⟨b', o', i, rfl, hj, hρ'⟩ := hx.ptr_inv
            obtain ⟨hrun, q1, q2, q3, _⟩ := bounds_run (P := P) (w := w) (s := false) l1 h1 m1 (Nat.le_refl n) (Nat.le_refl n) (by rw [hm0]; rfl) hb hl (.inl hm0)
            rw [hm0] at hrun
            refine OpOk.stay hI (v' := .slice (some (if n = l then ⟨i.blk, o' + i.shift, none⟩ else (⟨i.blk, o' + i.shift, none⟩ : Addr).add (l * ei.size))) (b - l) (n - l)) ?_ ?_
            · rw [hρ']
              simp only [Instr.sliceAt, Sem.run_map, Sem.run_bind, run_underlying ht, Result.andThen_ok, Instr.sureAddr, Sem.run_pure, hrun, (hT.tt _ _ hei).size w]
              simp
            · by_cases hnl : n = l
              · rw [if_pos hnl]; exact .slice hj (by omega) (fun h0 => absurd h0 (by omega))
              · rw [if_neg hnl, Addr.add_lit]; exact .slice hj (by omega) (fun _ => by simp only; omega)
          · cases he
        · cases he
      · cases he
    · rename_i e s len cap hu hρ
      split at he
      · cases he
      · rename_i ei hei
        split at he
        · cases he
        · cases he
        · rename_i m hmh hm
          split at he
          · cases he
          · rename_i b hb
            split at he
            · cases he
            · rename_i l hl
              rw [hu] at ht; rw [hρ] at hx
              have hmh : mx.map ρ = none ∨ (hi.map ρ).isSome = true := by
                cases hq : mx.map ρ with
                | none => exact .inl rfl
                | some _ =>
                  rw [hq] at hmh
                  cases hq2 : hi.map ρ with
                  | none => rw [hq2] at hmh; simp at hmh
                  | some _ => exact .inr rfl
              have hrunS : ∀ (a' : Option Addr) (cap' : Nat), cap ≤ cap' → len ≤ cap → ρ' x = .slice a' len cap' →
                  (((fun v => Next.value v) <$> Instr.sliceAt t (ρ' x) (lo.map ρ') (hi.map ρ') (mx.map ρ')).run P w = .ok (.value (.slice (if (if (mx.map ρ).isSome = true then m else cap') = l then a' else a'.map (·.add (l * ei.size))) (b - l) ((if (mx.map ρ).isSome = true then m else cap') - l))) w) ∧ l ≤ b ∧ b ≤ m ∧ m ≤ cap ∧ (mx.map ρ = none → m = cap) := by
                intro a' cap' hcc hlc hρ'
                obtain ⟨hrun, q1, q2, q3, q4⟩ := bounds_run (P := P) (w := w) (s := true) l1 h1 m1 hcc hlc hm hb hl hmh
                refine ⟨?_, q1, q2, q3, q4⟩
                rw [hρ']
                simp only [Instr.sliceAt, Instr.slice, Sem.run_map, Sem.run_bind, run_underlying ht, Result.andThen_ok, hrun, (hT.tt _ _ hei).size w, Sem.run_pure]
              split at he
              · cases he
                cases hv : ρ' x <;> rw [hv] at hx <;> cases hx
                rename_i hlc
                obtain ⟨r1, r2, r3, r4, r5⟩ := hrunS none cap (Nat.le_refl _) hlc hv
                rw [hv] at r1
                refine OpOk.stay hI r1 ?_
                have hmm : (if (mx.map ρ).isSome = true then m else cap) = m := by
                  split
                  · rfl
                  · rename_i hh; exact (r5 (by cases hq : mx.map ρ with | none => rfl | some _ => rw [hq] at hh; simp at hh)).symm
                rw [hmm]
                simp only [Option.map_none, ite_self]
                exact .sliceNil (by omega)
              · rename_i a
                cases he
                obtain ⟨i, o', c', hj, hx', hn, hcc, ho, hsp⟩ := hx.slice_inv
                obtain ⟨r1, r2, r3, r4, r5⟩ := hrunS _ c' hcc hn hx'
                refine OpOk.stay hI r1 ?_
                cases hq : mx.map ρ with
                | none =>
                  have hm' := r5 hq
                  subst hm'
                  have hmx0 : mx = none := by cases mx with | none => rfl | some _ => simp at hq
                  simp only [Option.isSome_none, Bool.false_eq_true, if_false, Option.map_some]
                  by_cases hcl : c' = l
                  · rw [if_pos hcl]
                    refine VR.slice_mk hj (by omega) (fun h0 => absurd h0 (by omega)) ?_
                    rcases hsp with ⟨p1, p2⟩ | ⟨z, p1, p2⟩
                    · exact .inl ⟨p1, by omega⟩
                    · exact .inr ⟨z, p1, by omega⟩
                  · rw [if_neg hcl, Addr.add_lit]
                    refine VR.slice_mk hj (by omega) (fun h0 => ?_) ?_
                    · rw [ho (by omega)]; simp only; omega
                    · rcases hsp with ⟨p1, p2⟩ | ⟨z, p1, p2⟩
                      · exact .inl ⟨p1, by omega⟩
                      · exact .inr ⟨z, p1, by omega⟩
                | some um =>
                  obtain ⟨mv, rfl⟩ : ∃ y, mx = some y := by cases mx with | none => simp at hq | some y => exact ⟨y, rfl⟩
                  simp only [Option.map_some, Option.isSome_some, if_true]
                  by_cases hcl : m = l
                  · rw [if_pos hcl]
                    exact VR.slice_mk hj (by omega) (fun h0 => absurd h0 (by omega)) (.inl ⟨rfl, rfl⟩)
                  · rw [if_neg hcl, Addr.add_lit]
                    exact VR.slice_mk hj (by omega) (fun h0 => by rw [ho (by omega)]; simp only; omega) (.inl ⟨rfl, rfl⟩)
    · rename_i s hu hρ
      split at he
      · cases he
      · rename_i hm0
        split at he
        · rename_i b hb
          split at he
          · rename_i l hl
            cases he
            rw [hu] at ht; rw [hρ] at hx
            obtain ⟨hrun, q1, q2, q3, _⟩ := bounds_run (P := P) (w := w) (s := false) l1 h1 m1 (Nat.le_refl s.size) (Nat.le_refl s.size) (by rw [hm0]; rfl) hb hl (.inl hm0)
            have hmx0 : mx = none := by cases mx with | none => rfl | some _ => simp at hm0
            subst hmx0
            simp only [Option.map_none] at hrun
            refine OpOk.stay hI (v' := .string (s.extract l b)) ?_ (.string _)
            rw [hx.string_inv]
            simp [Instr.sliceAt, Instr.slice, run_underlying ht, hrun]
          · cases he
        · cases he
    · cases he
end
end Go.EV
