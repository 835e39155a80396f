/-
  Maps: looking for a key, storing, deleting.
-/
import Derived.Test.YtkfaaeefbndkjaaGreatEvE
namespace Go.EV
open Go.RowKit (Below)

section
variable {B0 : Nat} {w0 : World} {J : Inj} {h : H} {w : World} {P : Program}

theorem plainKey_append : ∀ (a b : List CD), plainKey (a ++ b) = true → plainKey a = true ∧ plainKey b = true
  | [], b, h => ⟨rfl, h⟩
  | c :: a, b, h => by
    cases c <;> simp only [List.cons_append, plainKey] at h ⊢ <;> first | exact plainKey_append a b h | cases h

def ChkOk (P : Program) (d : Nat) (t : TypeId) (ds : List CD) : Prop :=
  ∀ (e : Bool) (w : World) (l : List Value), l.length = ds.length → (Instr.checkKey e d t (vOf (aggB P t) l)).run P w = .ok () w

theorem chk_fields {f d : Nat} (ih : ∀ t ds, flatF P f t = some ds → plainKey ds = true → ChkOk P d t ds) :
    ∀ (fs : List Field) (o : Nat) (ds : List CD), flatFs (flatF P f) fs o = some ds → plainKey ds = true → ∀ (e : Bool) (w : World) (l : List Value), o + ds.length ≤ l.length →
      (forIn fs PUnit.unit fun fl _ => if fl.name ≠ "_" then do
          let v ← part fl.type ⟨l⟩ fl.offset
          Instr.checkKey e d fl.type v
          pure (ForInStep.yield PUnit.unit)
        else pure (ForInStep.yield PUnit.unit) : Sem PUnit).run P w = .ok PUnit.unit w
  | [], o, ds, hf, hp, e, w, l, hl => by simp
  | fl :: fs, o, ds, hf, hp, e, w, l, hl => by
    simp only [flatFs] at hf
    split at hf
    · cases hf
    · rename_i hname
      split at hf
      · rename_i hoff
        split at hf
        · rename_i m hm
          split at hf
          · rename_i rs hrs
            cases hf
            obtain ⟨p1, p2⟩ := plainKey_append _ _ hp
            obtain ⟨i, hi, hsz⟩ := flatF_size hm
            obtain ⟨d', hu⟩ := flatF_und hm
            simp only [List.length_append] at hl
            have e1 := run_partOf hi hu w l fl.offset (by rw [hsz, hoff]; omega) (fun ha => by rw [hsz]; exact flatF_one hm ha)
            have e2 := ih _ _ hm p1 e w ((l.drop fl.offset).take i.size) (by rw [List.length_take, List.length_drop, hsz, hoff]; omega)
            simp only [List.forIn_cons, hname, ne_eq, not_false_eq_true, if_true, Sem.run_bind, e1, e2, Result.andThen_ok, Sem.run_pure]
            exact chk_fields ih fs (o + m.length) rs hrs p2 e w l (by omega)
          · cases hf
        · cases hf
      · cases hf

theorem chk_elems {d : Nat} {el : TypeId} {m : List CD} {i : TypeInfo} {d' : TypeDesc} (ih : ChkOk P d el m) (hi : P.info? el = some i) (hsz : i.size = m.length) (hu : P.underlying el = some d') (h1 : aggB P el = false → m.length = 1) :
    ∀ (n s : Nat) (e : Bool) (w : World) (l : List Value), (s + n) * m.length ≤ l.length →
      (forIn (List.range' s n) PUnit.unit fun k _ => do
          let sz ← sizeOf el
          let v ← part el ⟨l⟩ (k * sz)
          Instr.checkKey e d el v
          pure (ForInStep.yield PUnit.unit) : Sem PUnit).run P w = .ok PUnit.unit w
  | 0, s, e, w, l, hl => by simp
  | n + 1, s, e, w, l, hl => by
    have hb : s * m.length + m.length ≤ l.length := by
      have : (s + 1) * m.length ≤ (s + (n + 1)) * m.length := Nat.mul_le_mul_right _ (by omega)
      rw [Nat.succ_mul] at this
      omega
    have hs : (sizeOf el).run P w = .ok m.length w := by simp [sizeOf, typeInfo, hi, hsz]
    have e1 := run_partOf hi hu w l (s * m.length) (by rw [hsz]; omega) (fun ha => by rw [hsz]; exact h1 ha)
    have e2 := ih e w ((l.drop (s * m.length)).take i.size) (by rw [List.length_take, List.length_drop, hsz]; omega)
    simp only [List.range'_succ, List.forIn_cons, Sem.run_bind, hs, e1, e2, Result.andThen_ok, Sem.run_pure]
    exact chk_elems ih hi hsz hu h1 n (s + 1) e w l (by rw [show s + 1 + n = s + (n + 1) by omega]; exact hl)

theorem chkOk_flat : ∀ (f : Nat) (t : TypeId) (ds : List CD), flatF P f t = some ds → plainKey ds = true → ∀ d, ChkOk P (d + f) t ds
  | 0, t, ds, hf, _, d => by simp [flatF] at hf
  | f + 1, t, ds, hf, hp, d => by
    intro e w l hl
    have ih : ∀ t ds, flatF P f t = some ds → plainKey ds = true → ChkOk P (d + f) t ds := fun t ds hf hp => chkOk_flat f t ds hf hp d
    show (Instr.checkKey e (d + f + 1) t _).run P w = .ok () w
    simp only [flatF] at hf
    split at hf
    · rename_i hu _; cases hf; simp [aggB, hu, vOf, Instr.checkKey, run_underlying hu]
    · rename_i hu _; cases hf; simp [aggB, hu, vOf, Instr.checkKey, run_underlying hu]
    · rename_i hu _; cases hf; simp [aggB, hu, vOf, Instr.checkKey, run_underlying hu]
    · split at hf
      · cases hf; simp [plainKey] at hp
      · cases hf
    · cases hf; simp [plainKey] at hp
    · cases hf; simp [plainKey] at hp
    · cases hf; simp [plainKey] at hp
    · rename_i n el sz hu hm
      split at hf
      · rename_i m hm'
        split at hf
        · cases hf
          obtain ⟨i, hi, hsz⟩ := flatF_size hm'
          obtain ⟨d', hue⟩ := flatF_und hm'
          rw [repL_length] at hl
          cases n with
          | zero => simp [aggB, hu, vOf, Instr.checkKey, run_underlying hu]
          | succ n =>
            have hpe : plainKey m = true := (plainKey_append m _ hp).1
            have := chk_elems (ih el m hm' hpe) hi hsz hue (flatF_one hm') (n + 1) 0 e w l (by rw [Nat.zero_add]; omega)
            simp only [aggB, hu, vOf, Instr.checkKey, Sem.run_bind, run_underlying hu, Result.andThen_ok]
            simp only [Std.Legacy.Range.forIn_eq_forIn_range', Std.Legacy.Range.size, Nat.sub_zero, Nat.add_one_sub_one, Nat.div_one]
            rw [this]; rfl
        · cases hf
      · cases hf
    · rename_i fs sz hu hm
      split at hf
      · cases hf
      · split at hf
        · rename_i m hm'
          split at hf
          · cases hf
            have := chk_fields ih fs.toList 0 _ hm' hp e w l (by omega)
            simp only [aggB, hu, vOf, Instr.checkKey, Sem.run_bind, run_underlying hu, Result.andThen_ok]
            rw [← Array.forIn_toList]
            rw [this]; rfl
          · cases hf
        · cases hf
    · cases hf

/-! ### Looking for a key -/
noncomputable def mpos (h : H) (m : ME) (k : Value) : List (Value × Value) → Option (Option Nat)
  | [] => some none
  | (k', _) :: r => match cmpV h m.agg m.ds k k' with
    | some true => some (some 0)
    | some false => match mpos h m k r with
      | some (some i) => some (some (i + 1))
      | some none => some none
      | none => none
    | none => none

theorem mfind_pos (m : ME) (k : Value) : ∀ (es : List (Value × Value)) (o : Option Value), mfind h m k es = some o → ∃ p, mpos h m k es = some p ∧ (match p with | none => o = none | some i => ∃ e, es[i]? = some e ∧ o = some e.2)
  | [], o, hf => by simp [mfind] at hf; subst hf; exact ⟨none, rfl, rfl⟩
  | (k', v) :: r, o, hf => by
    simp only [mfind] at hf
    split at hf
    · rename_i hc; cases hf; exact ⟨some 0, by simp [mpos, hc], (k', v), rfl, rfl⟩
    · rename_i hc
      obtain ⟨p, hp, hq⟩ := mfind_pos m k r o hf
      cases p with
      | none => exact ⟨none, by simp [mpos, hc, hp], hq⟩
      | some i => obtain ⟨e, he, ho⟩ := hq; exact ⟨some (i + 1), by simp [mpos, hc, hp], e, by simpa using he, ho⟩
    · cases hf
theorem mput_pos (m : ME) (k v : Value) : ∀ (es es' : List (Value × Value)), mput h m k v es = some es' → ∃ p, mpos h m k es = some p ∧ (match p with | none => es' = es ++ [(k, v)] | some i => i < es.length ∧ es' = es.set i (k, v))
  | [], es', hf => by simp [mput] at hf; subst hf; exact ⟨none, rfl, rfl⟩
  | (k', v') :: r, es', hf => by
    simp only [mput] at hf
    split at hf
    · rename_i hc; cases hf; exact ⟨some 0, by simp [mpos, hc], by simp, rfl⟩
    · rename_i hc
      split at hf
      · rename_i r' hr
        cases hf
        obtain ⟨p, hp, hq⟩ := mput_pos m k v r r' hr
        cases p with
        | none => exact ⟨none, by simp [mpos, hc, hp], by simp only at hq; simp [hq]⟩
        | some i => obtain ⟨hi, he⟩ := hq; exact ⟨some (i + 1), by simp [mpos, hc, hp], by simp; omega, by simp [he]⟩
      · cases hf
    · cases hf
theorem mdel_pos (m : ME) (k : Value) : ∀ (es es' : List (Value × Value)), mdel h m k es = some es' → ∃ p, mpos h m k es = some p ∧ (match p with | none => es' = es | some i => i < es.length ∧ es' = es.eraseIdx i)
  | [], es', hf => by simp [mdel] at hf; subst hf; exact ⟨none, rfl, rfl⟩
  | (k', v') :: r, es', hf => by
    simp only [mdel] at hf
    split at hf
    · rename_i hc; cases hf; exact ⟨some 0, by simp [mpos, hc], by simp, rfl⟩
    · rename_i hc
      split at hf
      · rename_i r' hr
        cases hf
        obtain ⟨p, hp, hq⟩ := mdel_pos m k r r' hr
        cases p with
        | none => exact ⟨none, by simp [mpos, hc, hp], by simp only at hq; simp [hq]⟩
        | some i => obtain ⟨hi, he⟩ := hq; exact ⟨some (i + 1), by simp [mpos, hc, hp], by simp; omega, by simp [he]⟩
      · cases hf
    · cases hf

/-- A type whose values are told by their cells. -/
structure KeyT (P : Program) (t : TypeId) (m : ME) : Prop where
  flat : ∃ f, f ≤ 100 ∧ flatF P f t = some m.ds
  agg : aggB P t = m.agg
  plain : plainKey m.ds = true

theorem cmpV_cells {agg : Bool} {ds : List CD} {x y : Value} {r : Bool} (hc : cmpV h agg ds x y = some r) :
    ∃ lx ly, cmpL h ds lx ly = some r ∧ x = vOf agg lx ∧ y = vOf agg ly ∧ (∀ {x' : Value}, VR J x x' → ∃ lx', LV J lx lx' ∧ x' = vOf agg lx') ∧ (∀ {y' : Value}, VR J y y' → ∃ ly', LV J ly ly' ∧ y' = vOf agg ly') := by
  unfold cmpV at hc
  cases agg with
  | true =>
    simp only at hc
    split at hc
    · rename_i a b
      refine ⟨a.toList, b.toList, hc, rfl, rfl, fun hx => ?_, fun hy => ?_⟩
      · obtain ⟨a⟩ := a; cases hx with | agg h1 h2 => exact ⟨_, ⟨h1, h2⟩, rfl⟩
      · obtain ⟨b⟩ := b; cases hy with | agg h1 h2 => exact ⟨_, ⟨h1, h2⟩, rfl⟩
    · cases hc
  | false =>
    simp only at hc
    split at hc
    · refine ⟨[x], [y], by simp [cmpL, hc], rfl, rfl, fun {x'} hx => ⟨[x'], .cons hx .nil, rfl⟩, fun {y'} hy => ⟨[y'], .cons hy .nil, rfl⟩⟩
    · cases hc

theorem cmpV_run {t : TypeId} {f : Nat} {ds : List CD} (hf : flatF P f t = some ds) (hle : f ≤ 9999) (hI : Inv B0 w0 J h w) {x y x' y' : Value} {r : Bool} (hx : VR J x x') (hy : VR J y y') (hc : cmpV h (aggB P t) ds x y = some r) :
    (Op.equal t x' y').run P w = .ok r w := by
  obtain ⟨lx, ly, hcl, rfl, rfl, gx, gy⟩ := cmpV_cells (J := J) hc
  obtain ⟨lx', rx, rfl⟩ := gx hx
  obtain ⟨ly', ry, rfl⟩ := gy hy
  have := eqOk_flat (B0 := B0) (w0 := w0) f t ds hf (10000 - f) J h w lx ly lx' ly' r hI rx ry hcl
  rw [show 10000 - f + f = 10000 by omega] at this
  exact this

theorem und_bool {f : Nat} {t : TypeId} (hf : flatF P (f + 1) t = some [CD.bool]) (ha : aggB P t = false) : P.underlying t = some .bool := by
  simp only [flatF] at hf
  split at hf
  · rename_i hu _; exact hu
  · cases hf
  · cases hf
  · split at hf <;> cases hf
  · cases hf
  · cases hf
  · cases hf
  · rename_i hu _; simp [aggB, hu] at ha
  · rename_i hu _; simp [aggB, hu] at ha
  · cases hf
theorem und_int {f : Nat} {t : TypeId} (hf : flatF P (f + 1) t = some [CD.int]) (ha : aggB P t = false) : ∃ k, P.underlying t = some (.int k) := by
  simp only [flatF] at hf
  split at hf
  · cases hf
  · rename_i hu _; exact ⟨_, hu⟩
  · cases hf
  · split at hf <;> cases hf
  · cases hf
  · cases hf
  · cases hf
  · rename_i hu _; simp [aggB, hu] at ha
  · rename_i hu _; simp [aggB, hu] at ha
  · cases hf
theorem und_string {f : Nat} {t : TypeId} (hf : flatF P (f + 1) t = some [CD.string]) (ha : aggB P t = false) : P.underlying t = some .string := by
  simp only [flatF] at hf
  split at hf
  · cases hf
  · cases hf
  · rename_i hu _; exact hu
  · split at hf <;> cases hf
  · cases hf
  · cases hf
  · cases hf
  · rename_i hu _; simp [aggB, hu] at ha
  · rename_i hu _; simp [aggB, hu] at ha
  · cases hf

theorem sameNow_of {t : TypeId} {f : Nat} {ds : List CD} {d : TypeDesc} (hf : flatF P f t = some ds) (hp : plainKey ds = true) (ha : aggB P t = false) (hu : P.underlying t = some d) {x y x' y' : Value} {r : Bool} (hx : VR J x x') (hy : VR J y y') (hc : cmpV h false ds x y = some r) :
    Instr.sameNow d x' y' = some r := by
  have hds : ∃ c, ds = [c] := by
    have := flatF_one hf ha
    match ds, this with
    | [c], _ => exact ⟨c, rfl⟩
  obtain ⟨c, rfl⟩ := hds
  simp only [cmpV] at hc
  cases f with
  | zero => simp [flatF] at hf
  | succ f =>
    cases c with
    | bool =>
      rw [und_bool hf ha] at hu; cases hu
      cases hx with
      | bool a =>
        cases hy with
        | bool b => simp only [cmp1, Option.some.injEq] at hc; subst hc; rfl
        | _ => simp [cmp1] at hc
      | _ => simp [cmp1] at hc
    | int =>
      obtain ⟨k, hk⟩ := und_int hf ha
      rw [hk] at hu; cases hu
      cases hx with
      | int k a =>
        cases hy with
        | int k' b =>
          simp only [cmp1] at hc
          split at hc
          · rename_i e; subst e; cases hc; simp [Instr.sameNow]
          · cases hc
        | _ => simp [cmp1] at hc
      | _ => simp [cmp1] at hc
    | string =>
      rw [und_string hf ha] at hu; cases hu
      cases hx with
      | string a =>
        cases hy with
        | string b => simp only [cmp1, Option.some.injEq] at hc; subst hc; rfl
        | _ => simp [cmp1] at hc
      | _ => simp [cmp1] at hc
    | _ => simp [plainKey] at hp

/-- Entries, one by one. -/
def LE (J : Inj) (es : List (Value × Value)) (ents : List MapEntry) : Prop := es.length = ents.length ∧ ∀ (k : Nat) e e', es[k]? = some e → ents[k]? = some e' → VR J e.1 e'.key ∧ VR J e.2 e'.val
theorem LE.tail {e : Value × Value} {e' : MapEntry} {es : List (Value × Value)} {ents : List MapEntry} (hl : LE J (e :: es) (e' :: ents)) : LE J es ents :=
  ⟨by simpa using hl.1, fun k a b x y => hl.2 (k + 1) a b (by simpa using x) (by simpa using y)⟩
theorem LE.head {e : Value × Value} {e' : MapEntry} {es : List (Value × Value)} {ents : List MapEntry} (hl : LE J (e :: es) (e' :: ents)) : VR J e.1 e'.key ∧ VR J e.2 e'.val := hl.2 0 _ _ rfl rfl

theorem findAsking_run {t : TypeId} {m : ME} (hk : KeyT P t m) (hI : Inv B0 w0 J h w) {k k' : Value} (hr : VR J k k') : ∀ (es : List (Value × Value)) (ents : List MapEntry) (i : Nat) (p : Option Nat), LE J es ents → mpos h m k es = some p →
    (Instr.findAsking t k' ents i).run P w = .ok (p.bind fun j => (ents[j]?).map fun e => (i + j, e.val)) w
  | [], ents, i, p, hl, hp => by
    have : ents = [] := List.length_eq_zero_iff.1 hl.1.symm
    subst this
    simp [mpos] at hp
    subst hp
    simp [Instr.findAsking]
  | (k1, v1) :: es, [], i, p, hl, hp => by simp [LE] at hl
  | (k1, v1) :: es, e' :: ents, i, p, hl, hp => by
    obtain ⟨f, hle, hf⟩ := hk.flat
    have hkey := hl.head.1
    simp only [mpos] at hp
    split at hp
    · rename_i hc
      cases hp
      rw [← hk.agg] at hc
      have := cmpV_run hf (by omega) hI hr hkey hc
      simp [Instr.findAsking, this]
    · rename_i hc
      rw [← hk.agg] at hc
      have := cmpV_run hf (by omega) hI hr hkey hc
      have ih := fun p hp => findAsking_run hk hI hr es ents (i + 1) p hl.tail hp
      simp only [Instr.findAsking, Sem.run_bind, this, Result.andThen_ok, Bool.false_eq_true, if_false]
      split at hp
      · rename_i j hj
        cases hp
        rw [ih _ hj]
        simp [Nat.add_assoc, Nat.add_comm 1 j]
      · rename_i hj
        cases hp
        rw [ih _ hj]
        simp
      · cases hp
    · cases hp

theorem findNow_run {t : TypeId} {m : ME} {d : TypeDesc} (hk : KeyT P t m) (ha : m.agg = false) (hu : P.underlying t = some d) {k k' : Value} (hr : VR J k k') : ∀ (es : List (Value × Value)) (ents : List MapEntry) (i : Nat) (p : Option Nat), LE J es ents → mpos h m k es = some p →
    Instr.findNow d k' ents i = some (p.bind fun j => (ents[j]?).map fun e => (i + j, e.val))
  | [], ents, i, p, hl, hp => by
    have : ents = [] := List.length_eq_zero_iff.1 hl.1.symm
    subst this
    simp [mpos] at hp
    subst hp
    simp [Instr.findNow]
  | (k1, v1) :: es, [], i, p, hl, hp => by simp [LE] at hl
  | (k1, v1) :: es, e' :: ents, i, p, hl, hp => by
    obtain ⟨f, hle, hf⟩ := hk.flat
    have hkey := hl.head.1
    simp only [mpos] at hp
    rw [ha] at hp
    split at hp
    · rename_i hc
      cases hp
      have := sameNow_of hf hk.plain (by rw [hk.agg, ha]) hu hr hkey hc
      simp [Instr.findNow, this]
    · rename_i hc
      have := sameNow_of hf hk.plain (by rw [hk.agg, ha]) hu hr hkey hc
      have ih := fun p hp => findNow_run hk ha hu hr es ents (i + 1) p hl.tail hp
      simp only [Instr.findNow, this]
      split at hp
      · rename_i j hj
        cases hp
        rw [ih _ hj]
        simp [Nat.add_assoc, Nat.add_comm 1 j]
      · rename_i hj
        cases hp
        rw [ih _ hj]
        simp
      · cases hp
    · cases hp

theorem findKey_run {t : TypeId} {m : ME} (hk : KeyT P t m) (hI : Inv B0 w0 J h w) {k k' : Value} (hr : VR J k k') {es : List (Value × Value)} {ents : List MapEntry} {p : Option Nat} (hl : LE J es ents) (hp : mpos h m k es = some p) :
    (Instr.findKey t k' ents).run P w = .ok (p.bind fun j => (ents[j]?).map fun e => (j, e.val)) w := by
  obtain ⟨f, hle, hf⟩ := hk.flat
  obtain ⟨d, hu⟩ := flatF_und hf
  cases ha : m.agg with
  | false =>
    have := findNow_run hk ha hu hr es ents 0 p hl hp
    simp only [Nat.zero_add] at this
    simp [Instr.findKey, run_underlying hu, this]
  | true =>
    cases ents with
    | nil =>
      have : es = [] := List.length_eq_zero_iff.1 hl.1
      subst this
      simp [mpos] at hp
      subst hp
      simp [Instr.findKey, run_underlying hu, Instr.findNow]
    | cons e' ents =>
      have hn : Instr.findNow d k' (e' :: ents) 0 = none := by
        have hagg := hk.agg
        rw [ha] at hagg
        simp only [aggB, hu] at hagg
        cases d <;> simp at hagg <;> simp [Instr.findNow, Instr.sameNow]
      have := findAsking_run hk hI hr es (e' :: ents) 0 p hl hp
      simp only [Nat.zero_add] at this
      simp only [Instr.findKey, Sem.run_bind, run_underlying hu, Result.andThen_ok, hn]
      exact this

theorem checkKey_run {t : TypeId} {m : ME} (hk : KeyT P t m) {k k' : Value} (hr : VR J k k') (hform : keyForm m.agg m.ds k = true) (e : Bool) : (Instr.checkKey e 10000 t k').run P w = .ok () w := by
  obtain ⟨f, hle, hf⟩ := hk.flat
  have hc := fun l hl => chkOk_flat f t m.ds hf hk.plain (10000 - f) e w l hl
  rw [show 10000 - f + f = 10000 by omega] at hc
  cases ha : m.agg with
  | true =>
    rw [ha] at hform
    cases hr with
    | agg h1 h2 =>
      simp only [keyForm] at hform
      have := hc _ (h1 ▸ Nat.eq_of_beq_eq_true hform)
      rw [hk.agg, ha] at this
      exact this
    | _ => simp [keyForm] at hform
  | false =>
    have h1 : m.ds.length = 1 := flatF_one hf (by rw [hk.agg, ha])
    have := hc [k'] (by simp [h1])
    rw [hk.agg, ha] at this
    exact this
end
end Go.EV
