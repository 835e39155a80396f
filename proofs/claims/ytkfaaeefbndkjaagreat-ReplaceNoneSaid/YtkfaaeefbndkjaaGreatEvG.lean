/-
  Each operation: what the evaluator makes of it, the model makes of it.
-/
import Derived.Test.YtkfaaeefbndkjaaGreatEvF
namespace Go.EV
open Go.RowKit (Below)

structure TIok (P : Program) (t : TypeId) (ti : TI) : Prop where
  info : ∃ i, P.info? t = some i ∧ i.size = ti.size ∧ i.bytes = ti.bytes ∧ i.zero = mkv ti.agg ti.zero ∧ i.zero.isSome = true
  und : P.underlying t = some ti.und
  agg : ti.agg = aggB P t
  zpure : allB pure0 ti.zero = true
  zlen : ti.zero.length = ti.size
structure FLok (P : Program) (t : TypeId) (ds : List CD) : Prop where
  flat : ∃ f, f ≤ 100 ∧ flatF P f t = some ds
  guard : P.eqGuardType P.depth t = false

section
variable {P : Program} {t : TypeId} {ti : TI} {w : World}
theorem TIok.size (h : TIok P t ti) (w : World) : (sizeOf t).run P w = .ok ti.size w := by
  obtain ⟨i, h1, h2, _⟩ := h.info; simp [sizeOf, typeInfo, h1, h2]
theorem TIok.cellsOf (h : TIok P t ti) : P.cellsOf t = ti.size := by
  obtain ⟨i, h1, h2, _⟩ := h.info; simp [Program.cellsOf, h1, h2]
theorem TIok.isAgg (h : TIok P t ti) (w : World) : (isAgg t).run P w = .ok ti.agg w := by
  rw [h.agg]
  cases hu : ti.und <;> simp [Go.isAgg, run_underlying h.und, hu, aggB, h.und]
theorem TIok.zero (h : TIok P t ti) : ∃ z, (∀ w, (zeroValue t).run P w = .ok z w) ∧ mkv ti.agg ti.zero = some z ∧ z.cells.toList = ti.zero := by
  obtain ⟨i, h1, h2, h3, h4, h5⟩ := h.info
  obtain ⟨z, hz⟩ := Option.isSome_iff_exists.1 h5
  rw [hz] at h4
  refine ⟨z, fun w => by simp [zeroValue, typeInfo, h1, hz], h4.symm, ?_⟩
  cases ha : ti.agg with
  | true => rw [ha] at h4; simp [mkv] at h4; rw [h4]; rfl
  | false =>
    rw [ha] at h4
    simp only [mkv] at h4
    split at h4
    · rename_i v hv
      cases h4
      have := h.zpure
      rw [hv] at this ⊢
      have : pure0 z = true := allB_mem this z (by simp)
      cases z <;> first | rfl | (simp [pure0] at this)
    · cases h4
theorem TIok.zeroRel (h : TIok P t ti) (J : Inj) : LV J ti.zero ti.zero := by
  refine ⟨rfl, fun i x x' a b => ?_⟩
  rw [a] at b; cases b
  exact VR.of_pure0 J (allB_mem h.zpure x (List.mem_of_getElem? a))
end

/-- A step of the model, with the value that goes on. -/
def NextV (r : Result Next) (w' : World) (v' : Value) : Prop := r = .ok (.value v') w' ∨ (r = .ok .skip w' ∧ v' = Go.undef)

def OpOk (B0 : Nat) (w0 : World) (r : Result Next) (J : Inj) (h : H) (w : World) (v : Value) (h' : H) : Prop :=
  ∃ J' v' w', NextV r w' v' ∧ Stp B0 w0 J h w J' h' w' ∧ VR J' v v'

structure Tbl (P : Program) (c : Ctx) : Prop where
  tt : ∀ t ti, c.tt t = some ti → TIok P t ti
  fl : ∀ t ds, c.fl t = some ds → FLok P t ds

section
variable {B0 : Nat} {w0 : World} {J : Inj} {h h' : H} {w : World} {P : Program} {c : Ctx} {v : Value}

theorem OpOk.stay {r : Result Next} {v v' : Value} (hI : Inv B0 w0 J h w) (hr : r = .ok (.value v') w) (hv : VR J v v') : OpOk B0 w0 r J h w v h := ⟨J, v', w, .inl hr, .refl hI.toInv0, hv⟩
theorem OpOk.unit {r : Result Next} {w' : World} (hr : r = .ok .skip w') (hs : Stp B0 w0 J h w J h' w') : OpOk B0 w0 r J h w (.tuple #[]) h' := ⟨J, _, w', .inr ⟨hr, rfl⟩, hs, VR.undef J⟩

theorem mkv_rel {agg : Bool} {l l' : List Value} {v : Value} (hm : mkv agg l = some v) (hl : LV J l l') : VR J v (vOf agg l') := by
  cases agg with
  | true => simp [mkv] at hm; subst hm; exact .agg hl.1 hl.2
  | false =>
    simp only [mkv] at hm
    split at hm
    · cases hm
      obtain ⟨y, r, rfl, hy, _⟩ := hl.cons_left
      exact hy
    · cases hm

/-- The cells of a new row. -/
theorem ObR.fresh {J : Inj} {w : World} {i : BI} {cs : List Value} {arr : Array Value} {e : TypeId} (hb : w.heap[i.blk]? = some (.cells arr e (0, 0))) (hs : i.shift = 0) (hl : LV J cs arr.toList) : ObR J w i (.cells none cs) := by
  refine ⟨arr, e, 0, 0, hb, fun k v hv => ?_, fun k _ => by omega, rfl, rfl⟩
  obtain ⟨v', a, b⟩ := hl.get hv
  exact ⟨v', by rw [hs]; simpa using a, b⟩
theorem heap_alloc_at (w : World) (x : Obj) : (w.alloc x).heap[w.heap.size]? = some x := by
  show (w.heap.push x)[w.heap.size]? = some x
  simp

/-- A new row, and its address. -/
theorem Stp.row (hI : Inv B0 w0 J h w) {cs : List Value} {arr : Array Value} {e : TypeId} (hl : LV J cs arr.toList) :
    Stp B0 w0 J h w (J.upd h.next ⟨w.heap.size, 0, 0⟩) (h.new (.cells none cs)) (w.alloc (.cells arr e)) :=
  Stp.alloc hI rfl (ObR.fresh (e := e) (heap_alloc_at w _) rfl (hl.mono (Inj.le_upd hI _)))
theorem ptr_new (J : Inj) (h : H) (n : Nat) : VR (J.upd h.next ⟨n, 0, 0⟩) (.pointer (some ⟨h.next, 0, none⟩)) (.pointer (some ⟨n, 0, none⟩)) := VR.ptr (o := 0) (Inj.upd_same J h.next ⟨n, 0, 0⟩)
theorem run_newRow (w : World) (e : TypeId) (arr : Array Value) : (newRow e arr).run P w = .ok ⟨w.heap.size, 0, none⟩ (w.alloc (.cells arr e)) := by simp [newRow]

theorem op_alloc (hT : Tbl P c) (hI : Inv B0 w0 J h w) {e : TypeId} {ti : TI} (ht : c.tt e = some ti) :
    OpOk B0 w0 (((fun v => Next.value v) <$> Instr.alloc e true (.tuple #[])).run P w) J h w (.pointer (some ⟨h.next, 0, none⟩)) (h.new (.cells none ti.zero)) := by
  have hk := hT.tt e ti ht
  obtain ⟨z, hz, _, hzc⟩ := hk.zero
  refine ⟨_, _, _, .inl ?_, Stp.row (e := e) hI (by rw [hzc]; exact hk.zeroRel J), ptr_new J h _⟩
  simp [Instr.alloc, hz, newVar, run_newRow]

theorem op_box (hI : Inv B0 w0 J h w) {e : TypeId} {x x' : Value} (hx : VR J x x') :
    OpOk B0 w0 (((fun v => Next.value v) <$> Instr.box e x').run P w) J h w (.pointer (some ⟨h.next, 0, none⟩)) (h.new (.cells none (cellsOf x))) := by
  refine ⟨_, _, _, .inl ?_, Stp.row (e := e) hI hx.cells, ptr_new J h _⟩
  simp [Instr.box, newVar, run_newRow]

/-! ### Building -/
theorem foldl_set_get : ∀ (l : List (Value × Nat)) (cs : Array Value) (o : Nat) (s : Nat) (vs : List Value), l = vs.zipIdx s → (l.foldl (fun cs (p : Value × Nat) => cs.setIfInBounds (o + p.2) p.1) cs) = setArr cs (o + s) vs
  | [], cs, o, s, vs, hl => by
    cases vs with
    | nil => rfl
    | cons v r => simp at hl
  | p :: l, cs, o, s, vs, hl => by
    cases vs with
    | nil => simp at hl
    | cons v r =>
      simp only [List.zipIdx_cons, List.cons.injEq] at hl
      obtain ⟨rfl, hl⟩ := hl
      simp only [List.foldl_cons, setArr]
      rw [foldl_set_get l _ o (s + 1) r hl]
      rfl

theorem place_rel {o s : Nat} {cs cs1 : List Value} {cs' : Array Value} {v v' : Value} (hp : place o s cs v = some cs1) (hl : LV J cs cs'.toList) (hv : VR J v v') :
    v'.cells.size = s ∧ o + v'.cells.size ≤ cs'.size ∧ LV J cs1 (setArr cs' o v'.cells.toList).toList := by
  simp only [place] at hp
  split at hp
  · rename_i hs
    have hs := Nat.eq_of_beq_eq_true hs
    have hc := hv.cells
    obtain ⟨s1, s2, s3⟩ := splice_get o cs _ cs1 hp
    have hlen := hc.1
    have hlen2 := hl.1
    simp only [Array.length_toList] at hlen hlen2
    refine ⟨by omega, by omega, ⟨by simp [setArr_size]; omega, fun i x x' a b => ?_⟩⟩
    rw [s3 i] at a
    simp only [Array.getElem?_toList, setArr_get, Array.length_toList] at b
    by_cases hin : o ≤ i ∧ i < o + (cellsOf v).length
    · rw [if_pos hin] at a
      rw [if_pos ⟨hin.1, by omega, by omega⟩] at b
      exact hc.2 _ _ _ a (by simpa using b)
    · rw [if_neg hin] at a
      rw [if_neg (by omega)] at b
      exact hl.2 i _ _ a (by simpa using b)
  · cases hp

theorem fill_rel (pl : Nat → Option (Nat × Nat)) (pl' : Nat → Option (Nat × Nat)) (hpl : ∀ i x, pl i = some x → pl' i = some x) : ∀ (ps ps' : List (Nat × Value)) (cs cs1 : List Value) (cs' : Array Value),
    ps.length = ps'.length → (∀ (i : Nat) p p', ps[i]? = some p → ps'[i]? = some p' → p.1 = p'.1 ∧ VR J p.2 p'.2) → LV J cs cs'.toList → fill pl ps cs = some cs1 → ∃ arr, Instr.fill pl' cs' ps' = some arr ∧ LV J cs1 arr.toList
  | [], ps', cs, cs1, cs', hl, _, hc, hf => by
    have : ps' = [] := List.length_eq_zero_iff.1 hl.symm
    subst this
    simp [fill] at hf
    subst hf
    exact ⟨cs', rfl, hc⟩
  | (i, v) :: ps, [], cs, cs1, cs', hl, _, hc, hf => by simp at hl
  | (i, v) :: ps, (i', v') :: ps', cs, cs1, cs', hl, hp, hc, hf => by
    simp only [fill] at hf
    split at hf
    · rename_i o s hos
      split at hf
      · rename_i cs2 hcs2
        obtain ⟨h1, h2⟩ := hp 0 _ _ rfl rfl
        simp only at h1 h2
        subst h1
        obtain ⟨q1, q2, q3⟩ := place_rel hcs2 hc h2
        have hz : v'.cells.zipIdx.toList = v'.cells.toList.zipIdx 0 := by simp
        obtain ⟨arr, ha, hr⟩ := fill_rel pl pl' hpl ps ps' cs2 cs1 (setArr cs' o v'.cells.toList) (by simpa using hl) (fun j p p' a b => hp (j + 1) p p' (by simpa using a) (by simpa using b)) q3 hf
        refine ⟨arr, ?_, hr⟩
        simp only [Instr.fill, hpl _ _ hos]
        rw [if_neg (by simp [q1]; omega)]
        rw [← ha]
        congr 1
        rw [← Array.foldl_toList, hz]
        exact foldl_set_get _ cs' o 0 _ rfl
      · cases hf
    · cases hf

theorem parts_rel {ρ ρ' : Operand → Value} {ps : Array (Nat × Operand)} (hr : ∀ p ∈ ps.toList, VR J (ρ p.2) (ρ' p.2)) :
    (ps.toList.map fun p => (p.1, ρ p.2)).length = (ps.map fun (i, x) => (i, ρ' x)).toList.length ∧
    ∀ (i : Nat) p p', (ps.toList.map fun p => (p.1, ρ p.2))[i]? = some p → (ps.map fun (i, x) => (i, ρ' x)).toList[i]? = some p' → p.1 = p'.1 ∧ VR J p.2 p'.2 := by
  refine ⟨by simp, fun i p p' a b => ?_⟩
  simp only [Array.toList_map, List.getElem?_map, Option.map_eq_some_iff] at a b
  obtain ⟨x, hx, rfl⟩ := a
  obtain ⟨y, hy, rfl⟩ := b
  rw [hx] at hy; cases hy
  exact ⟨rfl, hr _ (List.mem_of_getElem? hx)⟩

theorem structF_ok {t i o : Nat} {fi : TI} (h : structF c t i = some (o, fi)) : ∃ ti fs f, c.tt t = some ti ∧ ti.und = .struct fs ∧ fs[i]? = some f ∧ f.offset = o ∧ c.tt f.type = some fi := by
  unfold structF at h
  split at h
  · rename_i ti hti
    split at h
    · rename_i fs hfs
      split at h
      · rename_i f hf
        split at h
        · rename_i fi' hfi; cases h; exact ⟨ti, fs, f, hti, hfs, hf, rfl, hfi⟩
        · cases h
      · cases h
    · cases h
  · cases h

theorem run_mapM_places (hT : Tbl P c) (w : World) : ∀ (fs : List Field), allB (fun f => (c.tt f.type).isSome) fs = true →
    ∃ l : List (Nat × Nat), (fs.mapM (m := Sem) fun f => do pure (f.offset, ← sizeOf f.type)).run P w = .ok l w ∧ l.length = fs.length ∧ ∀ (i : Nat) f, fs[i]? = some f → ∃ fi, c.tt f.type = some fi ∧ l[i]? = some (f.offset, fi.size)
  | [], _ => ⟨[], by simp, rfl, fun i f hf => by simp at hf⟩
  | f :: fs, ha => by
    simp only [allB] at ha
    split at ha
    · rename_i hs
      obtain ⟨fi, hfi⟩ := Option.isSome_iff_exists.1 hs
      obtain ⟨l, h1, h2, h3⟩ := run_mapM_places hT w fs ha
      refine ⟨(f.offset, fi.size) :: l, ?_, by simp [h2], fun i f' hf' => ?_⟩
      · simp only [List.mapM_cons, Sem.run_bind, (hT.tt _ _ hfi).size w, Result.andThen_ok, Sem.run_pure, h1]
      · cases i with
        | zero => simp at hf'; subst hf'; exact ⟨fi, hfi, rfl⟩
        | succ i => simpa using h3 i f' (by simpa using hf')
    · cases ha

theorem op_build (hT : Tbl P c) (hI : Inv B0 w0 J h w) {ρ ρ' : Operand → Value} {t : TypeId} {ps : Array (Nat × Operand)} (hr : ∀ p ∈ ps.toList, VR J (ρ p.2) (ρ' p.2)) (he : evOp c ρ (.build t ps) h = .val v h') :
    OpOk B0 w0 (((fun v => Next.value v) <$> Instr.build t (ps.map fun (i, x) => (i, ρ' x))).run P w) J h w v h' := by
  simp only [evOp] at he
  split at he
  · cases he
  · rename_i ti hti
    have hk := hT.tt t ti hti
    obtain ⟨z, hz, hzv, hzc⟩ := hk.zero
    obtain ⟨p1, p2⟩ := parts_rel hr
    split at he
    · rename_i fs hfs
      split at he
      · rename_i cs hcs
        split at he
        · rename_i hall
          cases he
          obtain ⟨l, m1, m2, m3⟩ := run_mapM_places hT w fs.toList hall
          have hpl : ∀ i x, (match structF c t i with | some (o, fi) => some (o, fi.size) | none => none) = some x → (l.toArray[·]?) i = some x := by
            intro i x hx
            split at hx
            · rename_i o fi hof
              cases hx
              obtain ⟨ti', fs', f, g1, g2, g3, g4, g5⟩ := structF_ok hof
              rw [hti] at g1; cases g1
              rw [hfs] at g2; cases g2
              obtain ⟨fi', k1, k2⟩ := m3 i f (by simpa using g3)
              rw [g5] at k1; cases k1
              simp [k2, g4]
            · cases hx
          obtain ⟨arr, ha, hrel⟩ := fill_rel _ _ hpl _ _ ti.zero cs z.cells p1 p2 (by rw [hzc]; exact hk.zeroRel J) hcs
          refine OpOk.stay hI (v' := .agg arr) ?_ (.agg hrel.1 hrel.2)
          have hfm : (fs.mapM (m := Sem) fun f => do pure (f.offset, ← sizeOf f.type)).run P w = .ok l.toArray w := by
            rw [Array.mapM_eq_mapM_toList]
            simp only [Sem.run_map, m1, Result.andThen_ok]
          have hund := run_underlying (w := w) hk.und
          rw [hfs] at hund
          simp only [Instr.build, Sem.run_map, Sem.run_bind, hz, Result.andThen_ok, hund, hfm]
          simp only [Array.toList_map, List.getElem?_toArray] at ha
          simp [ha]
        · cases he
      · cases he
    · rename_i n e hfs
      split at he
      · rename_i ei hei
        split at he
        · rename_i cs hcs
          cases he
          obtain ⟨arr, ha, hrel⟩ := fill_rel _ _ (fun i x hx => hx) _ _ ti.zero cs z.cells p1 p2 (by rw [hzc]; exact hk.zeroRel J) hcs
          refine OpOk.stay hI (v' := .agg arr) ?_ (.agg hrel.1 hrel.2)
          have hund := run_underlying (w := w) hk.und
          rw [hfs] at hund
          simp only [Instr.build, Sem.run_map, Sem.run_bind, hz, Result.andThen_ok, hund, (hT.tt _ _ hei).size w]
          simp only [Array.toList_map] at ha
          simp [ha]
        · cases he
      · cases he
    · cases he

theorem sliceE_ok (hT : Tbl P c) {t : TypeId} {ei : TI} (h : sliceE c t = some ei) : ∃ e, P.underlying t = some (.slice e) ∧ TIok P e ei := by
  unfold sliceE at h
  split at h
  · rename_i ti hti
    split at h
    · rename_i e he
      exact ⟨e, by rw [(hT.tt _ _ hti).und, he], hT.tt _ _ h⟩
    · cases h
  · cases h
theorem arrE_ok (hT : Tbl P c) {t n : Nat} {ei : TI} (h : arrE c t = some (n, ei)) : ∃ e, P.underlying t = some (.array n e) ∧ TIok P e ei := by
  unfold arrE at h
  split at h
  · rename_i ti hti
    split at h
    · rename_i n' e he
      split at h
      · rename_i ei' hei; cases h; exact ⟨e, by rw [(hT.tt _ _ hti).und, he], hT.tt _ _ hei⟩
      · cases h
    · cases h
  · cases h

theorem repL_get : ∀ (n : Nat) (l : List Value) (k : Nat), k < n * l.length → (repL n l)[k]? = l[k % l.length]?
  | 0, l, k, h => by omega
  | n + 1, l, k, h => by
    simp only [repL]
    by_cases hk : k < l.length
    · rw [List.getElem?_append_left hk, Nat.mod_eq_of_lt hk]
    · have hl : 0 < l.length := by
        cases Nat.eq_zero_or_pos l.length with
        | inl e => rw [e] at h; omega
        | inr p => exact p
      rw [List.getElem?_append_right (by omega), repL_get n l (k - l.length) (by rw [Nat.succ_mul] at h; omega)]
      rw [Nat.mod_eq_sub_mod (a := k) (by omega)]
theorem repL_rel {l l' : List Value} (hl : LV J l l') : ∀ n, LV J (repL n l) (repL n l')
  | 0 => .nil
  | n + 1 => hl.append (repL_rel hl n)
/-- The zero cells of n elements, as the model makes them. -/
theorem zeros_eq (z : Array Value) (n : Nat) : ((Array.range (n * z.size)).map fun i => z[i % z.size]!).toList = repL n z.toList := by
  apply List.ext_getElem?
  intro k
  by_cases hk : k < n * z.size
  · rw [repL_get n z.toList k (by simpa using hk)]
    have hz : 0 < z.size := by
      cases Nat.eq_zero_or_pos z.size with
      | inl e => rw [e] at hk; omega
      | inr p => exact p
    have hm : k % z.size < z.size := Nat.mod_lt _ hz
    simp [hk, getElem!_pos, hm]
  · have h1 : (repL n z.toList).length = n * z.size := by rw [repL_length]; simp
    rw [List.getElem?_eq_none (by simp; omega), List.getElem?_eq_none (by omega)]

theorem op_buildSlice (hT : Tbl P c) (hI : Inv B0 w0 J h w) {ρ ρ' : Operand → Value} {t n : Nat} {ps : Array (Nat × Operand)} (hr : ∀ p ∈ ps.toList, VR J (ρ p.2) (ρ' p.2)) (he : evOp c ρ (.buildSlice t n ps) h = .val v h') :
    OpOk B0 w0 (((fun v => Next.value v) <$> Instr.buildSlice t n (ps.map fun (i, x) => (i, ρ' x))).run P w) J h w v h' := by
  simp only [evOp] at he
  split at he
  · cases he
  · rename_i ei hei
    obtain ⟨e, hu, hk⟩ := sliceE_ok hT hei
    obtain ⟨z, hz, hzv, hzc⟩ := hk.zero
    obtain ⟨p1, p2⟩ := parts_rel hr
    split at he
    · rename_i cs hcs hle
      cases he
      have hle : n * ei.size ≤ 16777216 := by simpa using hle
      have hzl : z.cells.size = ei.size := by rw [← Array.length_toList, hzc, hk.zlen]
      have hz0 : LV J (repL n ei.zero) ((Array.range (n * ei.size)).map fun i => z.cells[i % z.cells.size]!).toList := by
        rw [← hzl, zeros_eq, hzc]
        exact repL_rel (hk.zeroRel J) n
      obtain ⟨arr, ha, hrel⟩ := fill_rel _ _ (fun i x hx => hx) _ _ _ cs _ p1 p2 hz0 hcs
      have hs := Stp.row (e := e) hI hrel
      refine ⟨_, .slice (some ⟨w.heap.size, 0, none⟩) n n, _, .inl ?_, hs, .slice (Inj.upd_same _ _ _) (Nat.le_refl _) (fun _ => rfl)⟩
      simp only [Array.toList_map] at ha
      have hgt : ¬ (16777216 < n * ei.size) := by omega
      by_cases h0 : n * ei.size = 0
      · have ha' : Instr.fill (fun i => some (i * ei.size, ei.size)) #[] (List.map (fun x => (x.fst, ρ' x.snd)) ps.toList) = some arr := by
          rw [← ha, h0, show Array.range 0 = #[] from rfl, Array.map_empty]
        have hr0 : ∀ f : Nat → Value, Array.map f (Array.range 0) = #[] := fun f => by rw [show Array.range 0 = #[] from rfl, Array.map_empty]
        simp [Instr.buildSlice, run_underlying hu, hk.size w, h0, hr0, ha', run_newRow]
      · simp [Instr.buildSlice, run_underlying hu, hk.size w, hgt, h0, hz, ha, run_newRow]
    · cases he

/-! ### Loads and stores -/
theorem cells_load {a : Addr} {n : Nat} {vs : List Value} (hn : vs.length = n) (hv : ∀ (k : Nat) v, vs[k]? = some v → w.cell? (a.add k) = some v) : (loadCells a n).run P w = .ok vs.toArray w := by
  subst hn; exact run_loadCells_list w a vs hv

theorem run_loadVar_rel (hT : Tbl P c) (hI : Inv B0 w0 J h w) {t : TypeId} {ti : TI} {b o : Nat} {i : BI} {cs : List Value} {x : Value} (ht : c.tt t = some ti) (hj : J b = some i) (hr : h.read b o ti.size = some cs) (hm : mkv ti.agg cs = some x) :
    ∃ x', (loadVar t ⟨i.blk, o + i.shift, none⟩).run P w = .ok x' w ∧ VR J x x' := by
  have hk := hT.tt t ti ht
  obtain ⟨hlen, vs', hl, hv⟩ := hI.read hr hj
  refine ⟨vOf ti.agg vs', ?_, mkv_rel hm hl⟩
  have hadd : ∀ (k : Nat) v, vs'[k]? = some v → w.cell? ((⟨i.blk, o + i.shift, none⟩ : Addr).add k) = some v := fun k v hkv => by
    rw [Addr.add_lit]; exact hv k v hkv
  have hl1 := hl.1
  have hi := hk.isAgg w
  have hs := hk.size w
  cases ha : ti.agg with
  | true =>
    rw [ha] at hi
    have hc := cells_load (P := P) (a := ⟨i.blk, o + i.shift, none⟩) (show vs'.length = ti.size by omega) hadd
    simp only [loadVar, Sem.run_bind, hi, Result.andThen_ok, if_true, hs, hc, Sem.run_pure, vOf]
  | false =>
    rw [ha] at hi hm
    simp only [mkv] at hm
    split at hm
    · cases hm
      obtain ⟨y, r, rfl, _, hr'⟩ := hl.cons_left
      have := hr'.nil_left; subst this
      have hc := hv 0 y rfl
      simp only [Nat.add_zero] at hc
      simp [loadVar, hi, hc, vOf]
    · cases hm

theorem VR.ptr_inv {J : Inj} {a : Addr} {x' : Value} (hv : VR J (.pointer (some a)) x') : ∃ b o i, a = ⟨b, o, none⟩ ∧ J b = some i ∧ x' = .pointer (some ⟨i.blk, o + i.shift, none⟩) := by
  cases hv with
  | ptr hj => exact ⟨_, _, _, rfl, hj, rfl⟩

theorem op_load (hT : Tbl P c) (hI : Inv B0 w0 J h w) {ρ ρ' : Operand → Value} {t : TypeId} {a : Operand} (hr : VR J (ρ a) (ρ' a)) (he : evOp c ρ (.load t a) h = .val v h') :
    OpOk B0 w0 (((fun v => Next.value v) <$> Instr.loadAt t (ρ' a)).run P w) J h w v h' := by
  simp only [evOp] at he
  split at he
  · rename_i ad ti hρ hti
    rw [hρ] at hr
    obtain ⟨b, o, i, rfl, hj, hρ'⟩ := hr.ptr_inv
    split at he
    · rename_i cs hcs
      cases hm : mkv ti.agg cs with
      | none => simp [hm, PR.pure] at he
      | some x =>
        simp only [hm, PR.pure] at he
        cases he
        obtain ⟨x', hx, hrel⟩ := run_loadVar_rel hT hI hti hj hcs hm
        refine OpOk.stay hI (v' := x') ?_ hrel
        simp [Instr.loadAt, hρ', Instr.sureAddr, hx]
    · cases he
  · cases he

theorem op_store (hT : Tbl P c) (hI : Inv B0 w0 J h w) {ρ ρ' : Operand → Value} {t : TypeId} {a x : Operand} (hr : VR J (ρ a) (ρ' a)) (hx : VR J (ρ x) (ρ' x)) (he : evOp c ρ (.store t a x) h = .val v h') :
    OpOk B0 w0 ((do Instr.storeAt t (ρ' a) (ρ' x); pure .skip : Sem Next).run P w) J h w v h' := by
  simp only [evOp] at he
  split at he
  · rename_i ad ti hρ hti
    rw [hρ] at hr
    obtain ⟨b, o, i, rfl, hj, hρ'⟩ := hr.ptr_inv
    have hk := hT.tt t ti hti
    split at he
    · rename_i hlen
      have hlen := Nat.eq_of_beq_eq_true hlen
      split at he
      · cases he
      · rename_i hne
        cases hw : h.write b o (cellsOf (ρ x)) with
        | none => simp [hw, PR.unit] at he
        | some h1 =>
          simp only [hw, PR.unit] at he
          cases he
          have hc := hx.cells
          obtain ⟨q1, q2, q3, q4⟩ := hI.write hw hj hc
          have hst := run_storeCells_cells (P := P) i.blk (o + i.shift) (ρ' x).cells.toList 0 w (by simpa using q1) (by simpa using q2) q3
          simp only [Nat.add_zero] at hst
          refine OpOk.unit ?_ q4
          have hsz : (ρ' x).cells.size = ti.size := by rw [← Array.length_toList, ← hc.1, hlen]
          simp [Instr.storeAt, hρ', Instr.sureAddr, storeVar, hk.size w, hsz, hst]
    · cases he
  · cases he

/-! ### Values -/
theorem op_nilCheck (hI : Inv B0 w0 J h w) {ρ ρ' : Operand → Value} {x : Operand} {o : Oper} (ho : o.op = .nilCheck x) (hr : VR J (ρ x) (ρ' x)) (he : evOp c ρ (.nilCheck x) h = .val v h') :
    OpOk B0 w0 ((execOp ρ' o).run P w) J h w v h' := by
  simp only [evOp] at he
  split at he
  · rename_i a hρ
    cases he
    rw [hρ] at hr
    obtain ⟨b, o', i, rfl, hj, hρ'⟩ := hr.ptr_inv
    refine OpOk.stay hI (v' := ρ' x) ?_ (by rw [hρ']; exact .ptr hj)
    simp [execOp, ho, hρ']
  · rename_i f a b hρ
    cases he
    rw [hρ] at hr
    refine OpOk.stay hI (v' := ρ' x) ?_ hr
    cases hv : ρ' x <;> rw [hv] at hr <;> cases hr
    simp [execOp, ho, hv]
  · rename_i f a b hρ
    cases he
    rw [hρ] at hr
    refine OpOk.stay hI (v' := ρ' x) ?_ hr
    cases hv : ρ' x <;> rw [hv] at hr <;> cases hr
    simp [execOp, ho, hv]
  · cases he

theorem binI_rel {op : BinOp} {k : IntKind} {a b : Int} {r : Value} (hs : isShift op = false) (hb : binI op k a b = some r) (t : TypeId) : (Go.binOp op t (.int k a) (.int k b)).run P w = .ok r w ∧ VR J r r := by
  cases op <;> simp only [binI, isShift] at hb hs
  all_goals try (cases hs; done)
  all_goals try (cases hb; exact ⟨by simp [Go.binOp, Op.intArith, Op.intBits, Op.intCmp], .int _ _⟩)
  all_goals try (cases hb; exact ⟨by simp [Go.binOp, Op.intCmp], .bool _⟩)
  · split at hb
    · cases hb
    · rename_i hz
      cases hb
      have hz : ¬ b = 0 := by simpa using hz
      exact ⟨by simp [Go.binOp, Op.intDiv, hz], .int _ _⟩
  · split at hb
    · cases hb
    · rename_i hz
      cases hb
      have hz : ¬ b = 0 := by simpa using hz
      exact ⟨by simp [Go.binOp, Op.intDiv, hz], .int _ _⟩

theorem eqGuard_int (op : BinOp) (t : TypeId) (x y : Operand) {a b : Value} (h1 : ∀ p q, ¬ (a = .agg p ∧ b = .agg q)) (h2 : ¬ (a = .nilIface ∧ b = .nilIface)) : (eqGuard op t x y a b).run P w = .ok () w := by
  cases op <;> first
    | (simp [eqGuard]; done)
    | (cases a <;> cases b <;> first
        | (simp [eqGuard]; done)
        | exact absurd ⟨rfl, rfl⟩ (h1 _ _)
        | exact absurd ⟨rfl, rfl⟩ h2)

theorem cmpV_shape {agg : Bool} {ds : List CD} {x y x' y' : Value} {r : Bool} (hx : VR J x x') (hy : VR J y y') (hc : cmpV h agg ds x y = some r) :
    (∀ k a l b, ¬ (x' = .int k a ∧ y' = .int l b) ∨ ∃ k a b, x = .int k a ∧ y = .int k b) ∧ ¬ (x' = .nilIface ∧ y' = .nilIface) := by
  refine ⟨fun k a l b => ?_, fun ⟨e1, e2⟩ => ?_⟩
  · by_cases he : x' = .int k a ∧ y' = .int l b
    · obtain ⟨rfl, rfl⟩ := he
      cases hx; cases hy
      unfold cmpV at hc
      cases agg with
      | true => simp at hc
      | false =>
        simp only at hc
        split at hc
        · rename_i d
          cases d <;> simp only [cmp1] at hc
          all_goals try (cases hc; done)
          split at hc
          · rename_i e; subst e; exact .inr ⟨_, _, _, rfl, rfl⟩
          · cases hc
        · cases hc
    · exact .inl he
  · subst e1; subst e2
    cases hx; cases hy
    unfold cmpV at hc
    cases agg with
    | true => simp at hc
    | false =>
      simp only at hc
      split at hc
      · rename_i d; cases d <;> simp [cmp1] at hc
      · cases hc

/-- '==' and '!=' of values that are neither two whole numbers nor two strings. -/
theorem binOp_eq_other {t : TypeId} {x y : Value} (h1 : ∀ k a l b, ¬ (x = .int k a ∧ y = .int l b)) (h2 : ∀ k a l b, ¬ (x = .float k a ∧ y = .float l b)) (h3 : ∀ k a b l p q, ¬ (x = .complex k a b ∧ y = .complex l p q))
    (h4 : ∀ a b, ¬ (x = .string a ∧ y = .string b)) : Go.binOp .eql t x y = (do pure (.bool (← Op.equal t x y))) ∧ Go.binOp .neq t x y = (do pure (.bool (!(← Op.equal t x y)))) := by
  cases x <;> cases y <;> first
    | exact ⟨rfl, rfl⟩
    | exact absurd ⟨rfl, rfl⟩ (h1 _ _ _ _)
    | exact absurd ⟨rfl, rfl⟩ (h2 _ _ _ _)
    | exact absurd ⟨rfl, rfl⟩ (h3 _ _ _ _ _ _)
    | exact absurd ⟨rfl, rfl⟩ (h4 _ _)

theorem eqGuard_flat {op : BinOp} {t : TypeId} {x y : Operand} {a b : Value} (hg : P.eqGuardType P.depth t = false) (h2 : ¬ (a = .nilIface ∧ b = .nilIface)) : (eqGuard op t x y a b).run P w = .ok () w := by
  cases op <;> first
    | (simp [eqGuard]; done)
    | (cases a <;> cases b <;> first
        | (simp [eqGuard, hg]; done)
        | exact absurd ⟨rfl, rfl⟩ h2)
end
end Go.EV
