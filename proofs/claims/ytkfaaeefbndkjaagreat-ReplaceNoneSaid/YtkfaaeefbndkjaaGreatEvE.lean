/-
  '==' and keys of maps: what the model makes of values that are compared cell by cell.
-/
import Derived.Test.YtkfaaeefbndkjaaGreatEvD
import Derived.ChangeKeysEq
import Derived.Laws.StructEq
namespace Go.EV
open Go.RowKit (Below)

def flatFs (g : TypeId → Option (List CD)) : List Field → Nat → Option (List CD)
  | [], _ => some []
  | x :: xs, o => if x.name = "_" then none else if x.offset = o then match g x.type with
    | some l => match flatFs g xs (o + l.length) with
      | some r => some (l ++ r)
      | none => none
    | none => none
    else none
def flatF (P : Program) : Nat → TypeId → Option (List CD)
  | 0, _ => none
  | f + 1, t => match P.underlying t, (P.info? t).map (·.size) with
    | some .bool, some 1 => some [.bool]
    | some (.int _), some 1 => some [.int]
    | some .string, some 1 => some [.string]
    | some (.pointer e), some 1 => match (P.info? e).map (·.size) with
      | some (_ + 1) => some [.ptr]
      | _ => none
    | some (.map _ _), some 1 => some [.map]
    | some (.slice _), some 1 => some [.slice]
    | some (.func _ _ _), some 1 => some [.func]
    | some (.array n e), some sz => match flatF P f e with
      | some l => if n * l.length = sz then some (repL n l) else none
      | none => none
    | some (.struct fs), some sz => if P.stoodInHeld t = true then none else match flatFs (flatF P f) fs.toList 0 with
      | some l => if l.length = sz then some l else none
      | none => none
    | _, _ => none

def aggB (P : Program) (t : TypeId) : Bool := match P.underlying t with
  | some (.struct _) => true
  | some (.array _ _) => true
  | _ => false

theorem repL_length {α : Type} (l : List α) : ∀ n, (repL n l).length = n * l.length
  | 0 => by simp [repL]
  | n + 1 => by simp [repL, repL_length l n, Nat.succ_mul, Nat.add_comm]

theorem flatF_size {P : Program} {f : Nat} {t : TypeId} {ds : List CD} (h : flatF P f t = some ds) : ∃ i, P.info? t = some i ∧ i.size = ds.length := by
  cases f with
  | zero => simp [flatF] at h
  | succ f =>
    cases hi : P.info? t with
    | none => simp [flatF, hi] at h
    | some i =>
      refine ⟨i, rfl, ?_⟩
      simp only [flatF, hi, Option.map_some] at h
      split at h
      all_goals try (rename_i heq; simp at heq; cases h; simpa using heq)
      · split at h
        · rename_i heq _ _ _; simp at heq; cases h; simpa using heq
        · cases h
      · split at h
        · split at h
          · rename_i heq _ _ _ hh; simp at heq; cases h; rw [repL_length]; omega
          · cases h
        · cases h
      · split at h
        · cases h
        · split at h
          · split at h
            · rename_i heq _ _ _ _ hh; simp at heq; cases h; omega
            · cases h
          · cases h
      · cases h

section
variable {B0 : Nat} {w0 : World} {J : Inj} {h : H} {w : World} {P : Program}

theorem cmpL_append : ∀ (d1 d2 : List CD) (x y : List Value) (r : Bool), cmpL h (d1 ++ d2) x y = some r →
    ∃ p q, cmpL h d1 (x.take d1.length) (y.take d1.length) = some p ∧ cmpL h d2 (x.drop d1.length) (y.drop d1.length) = some q ∧ r = (p && q)
  | [], d2, x, y, r, hc => ⟨true, r, by simp [cmpL], by simpa using hc, by simp⟩
  | d :: d1, d2, x, y, r, hc => by
    cases x with
    | nil => cases y <;> simp [cmpL] at hc
    | cons a x =>
      cases y with
      | nil => simp [cmpL] at hc
      | cons b y =>
        simp only [List.cons_append, cmpL] at hc
        split at hc
        · rename_i p q hp hq
          cases hc
          obtain ⟨p', q', h1, h2, h3⟩ := cmpL_append d1 d2 x y q hq
          refine ⟨p && p', q', ?_, by simpa using h2, by rw [h3, Bool.and_assoc]⟩
          simp [cmpL, hp, h1]
        · cases hc

theorem cmpL_length : ∀ (ds : List CD) (x y : List Value) (r : Bool), cmpL h ds x y = some r → x.length = ds.length ∧ y.length = ds.length
  | [], [], [], r, _ => ⟨rfl, rfl⟩
  | [], [], _ :: _, r, hc => by simp [cmpL] at hc
  | [], _ :: _, y, r, hc => by simp [cmpL] at hc
  | d :: ds, [], y, r, hc => by simp [cmpL] at hc
  | d :: ds, _ :: _, [], r, hc => by simp [cmpL] at hc
  | d :: ds, a :: x, b :: y, r, hc => by
    simp only [cmpL] at hc
    split at hc
    · rename_i p q _ hq
      obtain ⟨h1, h2⟩ := cmpL_length ds x y q hq
      simp [h1, h2]
    · cases hc

theorem LV.takeD {l l' : List Value} (hl : LV J l l') (n : Nat) : LV J (l.take n) (l'.take n) := by
  refine ⟨by simp [hl.1], fun i x x' a b => ?_⟩
  rw [List.getElem?_take] at a b
  split at a
  · rename_i hi; rw [if_pos hi] at b; exact hl.2 i _ _ a b
  · cases a
theorem LV.dropD {l l' : List Value} (hl : LV J l l') (n : Nat) : LV J (l.drop n) (l'.drop n) := by
  refine ⟨by simp [hl.1], fun i x x' a b => ?_⟩
  rw [List.getElem?_drop] at a b
  exact hl.2 _ _ _ a b

/-- A value, out of its cells. -/
def vOf (agg : Bool) (l : List Value) : Value := match agg with
  | true => .agg ⟨l⟩
  | false => l.getD 0 Go.undef

/-- What '==' must be told of the values: their cells, as the type has them. -/
def EqOk (B0 : Nat) (w0 : World) (P : Program) (d : Nat) (t : TypeId) (ds : List CD) : Prop :=
  ∀ (J : Inj) (h : H) (w : World) (x y x' y' : List Value) (r : Bool), Inv B0 w0 J h w → LV J x x' → LV J y y' → cmpL h ds x y = some r →
    (Op.equalIn d t (vOf (aggB P t) x') (vOf (aggB P t) y')).run P w = .ok r w

theorem run_partOf {e : TypeId} {i : TypeInfo} (hi : P.info? e = some i) {d : TypeDesc} (hu : P.underlying e = some d) (w : World) (xs : List Value) (off : Nat) (hl : off + i.size ≤ xs.length) (h1 : aggB P e = false → i.size = 1) :
    (part e ⟨xs⟩ off).run P w = .ok (vOf (aggB P e) ((xs.drop off).take i.size)) w := by
  have hsz : (sizeOf e).run P w = .ok i.size w := by simp [sizeOf, typeInfo, hi]
  have plain : aggB P e = false → xs[off]? = some (((xs.drop off).take i.size).getD 0 Go.undef) := fun ha => by
    have := h1 ha
    rw [this] at hl ⊢
    simp [List.getD, List.getElem?_drop, List.getElem?_eq_getElem (show off < xs.length by omega)]
  unfold part
  cases d with
  | struct fs => simp [isAgg, run_underlying hu, hsz, vOf, aggB, hu]
  | array n e' => simp [isAgg, run_underlying hu, hsz, vOf, aggB, hu]
  | _ => simp [isAgg, run_underlying hu, vOf, aggB, hu, plain (by simp [aggB, hu])]

theorem flatF_one {f : Nat} {t : TypeId} {ds : List CD} (hf : flatF P f t = some ds) : aggB P t = false → ds.length = 1 := by
  intro ha
  cases f with
  | zero => simp [flatF] at hf
  | succ f =>
    simp only [flatF] at hf
    split at hf
    all_goals try (cases hf; rfl)
    · split at hf
      · cases hf; rfl
      · cases hf
    · rename_i hu _; simp [aggB, hu] at ha
    · rename_i hu _; simp [aggB, hu] at ha
    · cases hf

theorem flatF_und {f : Nat} {t : TypeId} {ds : List CD} (hf : flatF P f t = some ds) : ∃ d, P.underlying t = some d := by
  cases f with
  | zero => simp [flatF] at hf
  | succ f =>
    cases hu : P.underlying t with
    | none => simp [flatF, hu] at hf
    | some d => exact ⟨d, rfl⟩

theorem run_eqFields {f d : Nat} (ih : ∀ t ds, flatF P f t = some ds → EqOk B0 w0 P d t ds) :
    ∀ (fs : List Field) (o : Nat) (ds : List CD), flatFs (flatF P f) fs o = some ds → ∀ (J : Inj) (h : H) (w : World) (x y x' y' : List Value) (r : Bool), Inv B0 w0 J h w → LV J x x' → LV J y y' →
      cmpL h ds (x.drop o) (y.drop o) = some r → o ≤ x.length → o ≤ y.length → (Op.eqFields d ⟨x'⟩ ⟨y'⟩ fs).run P w = .ok r w
  | [], o, ds, hf, J, h, w, x, y, x', y', r, hI, hx, hy, hc, _, _ => by
    simp [flatFs] at hf
    subst hf
    obtain ⟨h1, h2⟩ := cmpL_length _ _ _ _ hc
    have hx0 : x.drop o = [] := List.length_eq_zero_iff.1 h1
    have hy0 : y.drop o = [] := List.length_eq_zero_iff.1 h2
    rw [hx0, hy0] at hc
    simp [cmpL] at hc
    simp [Op.eqFields, hc]
  | fl :: fs, o, ds, hf, J, h, w, x, y, x', y', r, hI, hx, hy, hc, hox, hoy => by
    simp only [flatFs] at hf
    split at hf
    · cases hf
    · rename_i hname
      split at hf
      · rename_i hoff
        split at hf
        · rename_i l hl
          split at hf
          · rename_i rs hrs
            cases hf
            obtain ⟨p, q, h1, h2, rfl⟩ := cmpL_append l rs _ _ _ hc
            obtain ⟨i, hi, hsz⟩ := flatF_size hl
            obtain ⟨d', hu⟩ := flatF_und hl
            obtain ⟨len1, len2⟩ := cmpL_length _ _ _ _ hc
            simp only [List.length_append, List.length_drop] at len1 len2
            have e1 := run_partOf hi hu w x' fl.offset (by rw [hsz, hoff, ← hx.1]; omega) (fun ha => by rw [hsz]; exact flatF_one hl ha)
            have e2 := run_partOf hi hu w y' fl.offset (by rw [hsz, hoff, ← hy.1]; omega) (fun ha => by rw [hsz]; exact flatF_one hl ha)
            rw [hoff, hsz] at e1 e2
            have e3 := ih _ _ hl J h w _ _ _ _ p hI ((hx.dropD o).takeD l.length) ((hy.dropD o).takeD l.length) h1
            simp only [List.drop_drop] at h2
            simp only [Op.eqFields, hname, ne_eq, not_false_eq_true, if_true, Sem.run_bind, hoff, e1, e2, e3, Result.andThen_ok]
            cases p
            · simp
            · simpa using run_eqFields ih fs (o + l.length) rs hrs J h w x y x' y' q hI hx hy h2 (by omega) (by omega)
          · cases hf
        · cases hf
      · cases hf

theorem run_eqElems {d : Nat} {e : TypeId} {l : List CD} {i : TypeInfo} {d' : TypeDesc} (ih : EqOk B0 w0 P d e l) (hi : P.info? e = some i) (hsz : i.size = l.length) (hu : P.underlying e = some d') (h1 : aggB P e = false → l.length = 1) :
    ∀ (n s : Nat) (J : Inj) (h : H) (w : World) (x y x' y' : List Value) (r : Bool), Inv B0 w0 J h w → LV J x x' → LV J y y' →
      cmpL h (repL n l) (x.drop (s * l.length)) (y.drop (s * l.length)) = some r → s * l.length ≤ x.length → s * l.length ≤ y.length → (Op.eqItems d e (P.cellsOf e) ⟨x'⟩ ⟨y'⟩ (List.range' s n)).run P w = .ok r w
  | 0, s, J, h, w, x, y, x', y', r, hI, hx, hy, hc, _, _ => by
    obtain ⟨l1, l2⟩ := cmpL_length _ _ _ _ hc
    have hx0 : x.drop (s * l.length) = [] := List.length_eq_zero_iff.1 l1
    have hy0 : y.drop (s * l.length) = [] := List.length_eq_zero_iff.1 l2
    rw [hx0, hy0] at hc
    simp [cmpL, repL] at hc
    simp [Op.eqItems, hc]
  | n + 1, s, J, h, w, x, y, x', y', r, hI, hx, hy, hc, hox, hoy => by
    simp only [repL] at hc
    obtain ⟨p, q, h1', h2, rfl⟩ := cmpL_append l _ _ _ _ hc
    obtain ⟨len1, len2⟩ := cmpL_length _ _ _ _ hc
    simp only [List.length_append, List.length_drop] at len1 len2
    have hcell : P.cellsOf e = l.length := by simp [Program.cellsOf, hi, hsz]
    have e1 := run_partOf hi hu w x' (s * l.length) (by rw [hsz, ← hx.1]; omega) (fun ha => by rw [hsz]; exact h1 ha)
    have e2 := run_partOf hi hu w y' (s * l.length) (by rw [hsz, ← hy.1]; omega) (fun ha => by rw [hsz]; exact h1 ha)
    rw [hsz] at e1 e2
    have e3 := ih J h w _ _ _ _ p hI ((hx.dropD (s * l.length)).takeD l.length) ((hy.dropD (s * l.length)).takeD l.length) h1'
    simp only [List.drop_drop] at h2
    simp only [List.range'_succ, Op.eqItems, Sem.run_bind, hcell, e1, e2, e3, Result.andThen_ok]
    cases p
    · simp
    · rw [← hcell]
      simpa using run_eqElems ih hi hsz hu h1 n (s + 1) J h w x y x' y' q hI hx hy (by rw [Nat.succ_mul]; exact h2) (by rw [Nat.succ_mul]; omega) (by rw [Nat.succ_mul]; omega)

theorem shape_cells {b : Nat} {arr : Array Value} {e : TypeId} {fz : Nat × Nat} (hb : w.heap[b]? = some (.cells arr e fz)) : w.shape? b = some (e, arr.size) := by simp [World.shape?, hb]

/-- Addresses in two blocks that are no string's: not one. -/
theorem run_sameAddr_ne {a b : Addr} (hne : a.block ≠ b.block) {arr arr' : Array Value} {e e' : TypeId} (ha : w.heap[a.block]? = some (.cells arr e (0, 0))) (hb : w.heap[b.block]? = some (.cells arr' e' (0, 0))) :
    (sameAddr a b).run P w = .ok false w := by
  have fa : ∀ o, w.frozen? ⟨a.block, o, none⟩ = false := fun o => by simp [World.frozen?, ha]
  have fb : ∀ o, w.frozen? ⟨b.block, o, none⟩ = false := fun o => by simp [World.frozen?, hb]
  have fa' : w.frozen? a = false := by simp [World.frozen?, ha]
  have fb' : w.frozen? b = false := by simp [World.frozen?, hb]
  simp [sameAddr, hne, fa', fb', noView, viewAt, shape_cells ha, shape_cells hb, mayBeOne, stringish, fa, fb]

/-- One cell. -/
def Eq1 (P : Program) (B0 : Nat) (w0 : World) (d : Nat) (t : TypeId) (c : CD) : Prop :=
  ∀ (J : Inj) (h : H) (w : World) (u v u' v' : Value) (r : Bool), Inv B0 w0 J h w → VR J u u' → VR J v v' → cmp1 h c u v = some r → (Op.equalIn (d + 1) t u' v').run P w = .ok r w

theorem eq1_bool {d : Nat} {t : TypeId} (hu : P.underlying t = some .bool) : Eq1 P B0 w0 d t .bool := by
  intro J h w u v u' v' r hI hru hrv hcc
  cases hru <;> first
    | (cases hrv <;> first
        | (simp only [cmp1, Option.some.injEq] at hcc; subst hcc; simp [Op.equalIn, run_underlying hu]; done)
        | (simp [cmp1] at hcc; done))
    | (simp [cmp1] at hcc; done)
theorem eq1_int {d : Nat} {t : TypeId} {k : IntKind} (hu : P.underlying t = some (.int k)) : Eq1 P B0 w0 d t .int := by
  intro J h w u v u' v' r hI hru hrv hcc
  cases hru with
  | int k a =>
    cases hrv with
    | int k' b =>
      simp only [cmp1] at hcc
      split at hcc
      · rename_i e; subst e; cases hcc; simp [Op.equalIn, run_underlying hu]
      · cases hcc
    | _ => simp [cmp1] at hcc
  | _ => simp [cmp1] at hcc
theorem eq1_string {d : Nat} {t : TypeId} (hu : P.underlying t = some .string) : Eq1 P B0 w0 d t .string := by
  intro J h w u v u' v' r hI hru hrv hcc
  cases hru with
  | string a =>
    cases hrv with
    | string b => simp only [cmp1, Option.some.injEq] at hcc; subst hcc; simp [Op.equalIn, run_underlying hu]
    | _ => simp [cmp1] at hcc
  | _ => simp [cmp1] at hcc
theorem eq1_map {d : Nat} {t k e : TypeId} (hu : P.underlying t = some (.map k e)) : Eq1 P B0 w0 d t .map := by
  intro J h w u v u' v' r hI hru hrv hcc
  cases hru with
  | mapNil =>
    cases hrv with
    | mapNil => simp only [cmp1, Option.some.injEq] at hcc; subst hcc; simp [Op.equalIn, run_underlying hu]
    | map h => simp only [cmp1, Option.some.injEq] at hcc; subst hcc; simp [Op.equalIn, run_underlying hu]
    | _ => simp [cmp1] at hcc
  | map h =>
    cases hrv with
    | mapNil => simp only [cmp1, Option.some.injEq] at hcc; subst hcc; simp [Op.equalIn, run_underlying hu]
    | _ => simp [cmp1] at hcc
  | _ => simp [cmp1] at hcc
theorem eq1_slice {d : Nat} {t e : TypeId} (hu : P.underlying t = some (.slice e)) : Eq1 P B0 w0 d t .slice := by
  intro J h w u v u' v' r hI hru hrv hcc
  cases hru with
  | sliceNil _ =>
    cases hrv with
    | sliceNil _ => simp only [cmp1, Option.some.injEq] at hcc; subst hcc; simp [Op.equalIn, run_underlying hu]
    | slice _ _ _ => simp only [cmp1, Option.some.injEq] at hcc; subst hcc; simp [Op.equalIn, run_underlying hu]
    | loose _ _ _ => simp only [cmp1, Option.some.injEq] at hcc; subst hcc; simp [Op.equalIn, run_underlying hu]
    | _ => simp [cmp1] at hcc
  | slice _ _ _ =>
    cases hrv with
    | sliceNil _ => simp only [cmp1, Option.some.injEq] at hcc; subst hcc; simp [Op.equalIn, run_underlying hu]
    | _ => simp [cmp1] at hcc
  | loose _ _ _ =>
    cases hrv with
    | sliceNil _ => simp only [cmp1, Option.some.injEq] at hcc; subst hcc; simp [Op.equalIn, run_underlying hu]
    | _ => simp [cmp1] at hcc
  | _ => simp [cmp1] at hcc
theorem eq1_func {d : Nat} {t : TypeId} {a b : Array TypeId} {q : Bool} (hu : P.underlying t = some (.func a b q)) : Eq1 P B0 w0 d t .func := by
  intro J h w u v u' v' r hI hru hrv hcc
  cases hru with
  | nilFunc =>
    cases hrv with
    | nilFunc => simp only [cmp1, Option.some.injEq] at hcc; subst hcc; simp [Op.equalIn, run_underlying hu]
    | func _ _ _ _ => simp only [cmp1, Option.some.injEq] at hcc; subst hcc; simp [Op.equalIn, run_underlying hu]
    | yield _ => simp only [cmp1, Option.some.injEq] at hcc; subst hcc; simp [Op.equalIn, run_underlying hu]
    | _ => simp [cmp1] at hcc
  | func _ _ _ _ =>
    cases hrv with
    | nilFunc => simp only [cmp1, Option.some.injEq] at hcc; subst hcc; simp [Op.equalIn, run_underlying hu]
    | _ => simp [cmp1] at hcc
  | yield _ =>
    cases hrv with
    | nilFunc => simp only [cmp1, Option.some.injEq] at hcc; subst hcc; simp [Op.equalIn, run_underlying hu]
    | _ => simp [cmp1] at hcc
  | _ => simp [cmp1] at hcc
theorem eq1_ptr {d : Nat} {t e : TypeId} {m : Nat} (hu : P.underlying t = some (.pointer e)) (hm : (P.info? e).map (·.size) = some (m + 1)) : Eq1 P B0 w0 d t .ptr := by
  intro J h w u v u' v' r hI hru hrv hcc
  obtain ⟨i, hi, hsz⟩ := Option.map_eq_some_iff.1 hm
  have hsize : ∀ w, (sizeOf e).run P w = .ok (m + 1) w := fun w => by simp [sizeOf, typeInfo, hi, hsz]
  cases hru with
  | ptrNil =>
    cases hrv with
    | ptrNil => simp only [cmp1, Option.some.injEq] at hcc; subst hcc; simp [Op.equalIn, run_underlying hu]
    | ptr _ => simp only [cmp1, Option.some.injEq] at hcc; subst hcc; simp [Op.equalIn, run_underlying hu]
    | _ => simp [cmp1] at hcc
  | @ptr b o i1 hb1 =>
    cases hrv with
    | ptrNil => simp only [cmp1, Option.some.injEq] at hcc; subst hcc; simp [Op.equalIn, run_underlying hu]
    | @ptr b' o' i2 hb2 =>
      simp only [cmp1] at hcc
      by_cases hbb : b = b'
      · subst hbb
        rw [hb1] at hb2; cases hb2
        rw [Nat.beq_refl] at hcc
        cases hcc
        have : (sameAddr ⟨i1.blk, o + i1.shift, none⟩ ⟨i1.blk, o' + i1.shift, none⟩).run P w = .ok (Nat.beq o o') w := by
          by_cases ho : o = o'
          · subst ho; simp [sameAddr, Nat.beq_refl]
          · have hn : Nat.beq o o' = false := by rw [Bool.eq_false_iff]; intro e; exact ho (Nat.eq_of_beq_eq_true e)
            rw [hn]; simp [sameAddr, ho]
        simp [Op.equalIn, run_underlying hu, hsize, this]
      · have hnb : Nat.beq b b' = false := by
          rw [Bool.eq_false_iff]; intro e; exact hbb (Nat.eq_of_beq_eq_true e)
        rw [hnb] at hcc
        simp only at hcc
        split at hcc
        · rename_i c1 c2 g1 g2
          cases hcc
          obtain ⟨j1, q1, _, arr1, e1, lo1, hi1, k1, _, _, z1⟩ := hI.live b _ g1
          obtain ⟨j2, q2, _, arr2, e2, lo2, hi2, k2, _, _, z2⟩ := hI.live b' _ g2
          rw [hb1] at q1; cases q1
          rw [hb2] at q2; cases q2
          obtain ⟨rfl, rfl⟩ := z1
          obtain ⟨rfl, rfl⟩ := z2
          have hne : i1.blk ≠ i2.blk := fun e => hbb (hI.inj _ _ _ _ _ _ g1 g2 hb1 hb2 e)
          have := run_sameAddr_ne (P := P) (w := w) (a := ⟨i1.blk, o + i1.shift, none⟩) (b := ⟨i2.blk, o' + i2.shift, none⟩) hne k1 k2
          simp [Op.equalIn, run_underlying hu, hsize, this]
        · cases hcc
    | _ => simp [cmp1] at hcc
  | _ => simp [cmp1] at hcc

theorem Eq1.ok {d : Nat} {t : TypeId} {c : CD} (k : Eq1 P B0 w0 d t c) (ha : aggB P t = false) : EqOk B0 w0 P (d + 1) t [c] := by
  intro J h w x y x' y' r hI hx hy hc
  obtain ⟨l1, l2⟩ := cmpL_length _ _ _ _ hc
  match x, y, l1, l2 with
  | [u], [v], _, _ =>
    obtain ⟨u', rx, rfl, hu, hrx⟩ := hx.cons_left
    obtain ⟨v', ry, rfl, hv, hry⟩ := hy.cons_left
    simp only [cmpL] at hc
    split at hc
    · rename_i p q hp hq; cases hq; cases hc
      simp only [ha, vOf, List.getD_cons_zero, Bool.and_true]
      exact k J h w u v u' v' p hI hu hv hp
    · cases hc

theorem eqOk_flat : ∀ (f : Nat) (t : TypeId) (ds : List CD), flatF P f t = some ds → ∀ d, EqOk B0 w0 P (d + f) t ds
  | 0, t, ds, hf, d => by simp [flatF] at hf
  | f + 1, t, ds, hf, d => by
    intro J h w x y x' y' r hI hx hy hc
    have ih : ∀ t ds, flatF P f t = some ds → EqOk B0 w0 P (d + f) t ds := fun t ds hf => eqOk_flat f t ds hf d
    show (Op.equalIn (d + f + 1) t _ _).run P w = .ok r w
    have sub : ∀ {c : CD}, EqOk B0 w0 P (d + f + 1) t [c] → ds = [c] → (Op.equalIn (d + f + 1) t (vOf (aggB P t) x') (vOf (aggB P t) y')).run P w = .ok r w := fun hk e => by
      subst e; exact hk J h w x y x' y' r hI hx hy hc
    simp only [flatF] at hf
    split at hf
    · rename_i hu _; cases hf; exact sub ((eq1_bool hu).ok (by simp [aggB, hu])) rfl
    · rename_i hu _; cases hf; exact sub ((eq1_int hu).ok (by simp [aggB, hu])) rfl
    · rename_i hu _; cases hf; exact sub ((eq1_string hu).ok (by simp [aggB, hu])) rfl
    · rename_i e hu _
      split at hf
      · rename_i m hm; cases hf; exact sub ((eq1_ptr hu hm).ok (by simp [aggB, hu])) rfl
      · cases hf
    · rename_i hu _; cases hf; exact sub ((eq1_map hu).ok (by simp [aggB, hu])) rfl
    · rename_i hu _; cases hf; exact sub ((eq1_slice hu).ok (by simp [aggB, hu])) rfl
    · rename_i hu _; cases hf; exact sub ((eq1_func hu).ok (by simp [aggB, hu])) rfl
    · rename_i n e sz hu hm
      split at hf
      · rename_i l hl
        split at hf
        · cases hf
          obtain ⟨i, hi, hsz⟩ := flatF_size hl
          obtain ⟨d', hue⟩ := flatF_und hl
          have := run_eqElems (ih e l hl) hi hsz hue (flatF_one hl) n 0 J h w x y x' y' r hI hx hy (by simpa using hc) (by omega) (by omega)
          simp only [aggB, hu, vOf]
          rw [run_equalIn_array w _ _ _ hu hi, List.range_eq_range']
          exact this
        · cases hf
      · cases hf
    · rename_i fs sz hu hm
      split at hf
      · cases hf
      · rename_i hst
        split at hf
        · rename_i l hl
          split at hf
          · cases hf
            have hfo : P.fieldsOf t = fs := by simp [Program.fieldsOf, hu]
            have := run_eqFields ih fs.toList 0 _ hl J h w x y x' y' r hI hx hy (by simpa using hc) (by omega) (by omega)
            simp only [aggB, hu, vOf]
            rw [run_equalIn_struct w _ t _ _ (by rw [hfo]; exact hu) (by simpa using hst), hfo]
            exact this
          · cases hf
        · cases hf
    · cases hf
end
end Go.EV
