/-
  How the abstract heap stands to the model's: the relation, and what each kind of step does to it.
-/
import Derived.Test.YtkfaaeefbndkjaaGreatEvB
import Derived.RangeFuncLeaves
import Derived.OrdersIn
import Derived.Below
import Derived.LoopNIn
import Derived.Deep.AppendSrc
namespace Go.EV
open Go.RowKit (Below)

/-- Where a block of the abstract heap lies: in which block, how far behind its begin, and how many elements more there are behind it. -/
structure BI where
  blk : Nat
  shift : Nat
  spare : Nat
abbrev Inj := Nat → Option BI
def Inj.le (J J' : Inj) : Prop := ∀ b i, J b = some i → J' b = some i
theorem Inj.le_refl (J : Inj) : J.le J := fun _ _ h => h
theorem Inj.le_trans {A B C : Inj} (h : A.le B) (k : B.le C) : A.le C := fun b i x => k b i (h b i x)
def Inj.upd (J : Inj) (b : Nat) (i : BI) : Inj := fun x => if x = b then some i else J x

inductive VR (J : Inj) : Value → Value → Prop
  | bool (b : Bool) : VR J (.bool b) (.bool b)
  | int (k : IntKind) (n : Int) : VR J (.int k n) (.int k n)
  | string (s : ByteArray) : VR J (.string s) (.string s)
  | ptrNil : VR J (.pointer none) (.pointer none)
  | ptr {b o : Nat} {i : BI} (h : J b = some i) : VR J (.pointer (some ⟨b, o, none⟩)) (.pointer (some ⟨i.blk, o + i.shift, none⟩))
  | sliceNil {n c : Nat} (h : n ≤ c) : VR J (.slice none n c) (.slice none n c)
  | slice {b o n c o' : Nat} {i : BI} (h : J b = some i) (hn : n ≤ c) (ho : c ≠ 0 → o' = o + i.shift) : VR J (.slice (some ⟨b, o, none⟩) n c) (.slice (some ⟨i.blk, o', none⟩) n c)
  | loose {b o n c o' z : Nat} {i : BI} (h : J b = some i) (hn : n ≤ c) (ho : c + i.spare ≠ 0 → o' = o + i.shift) : VR J (.slice (some ⟨b, o, some z⟩) n c) (.slice (some ⟨i.blk, o', none⟩) n (c + i.spare))
  | mapNil : VR J (.map none) (.map none)
  | map {b : Nat} {i : BI} (h : J b = some i) : VR J (.map (some b)) (.map (some i.blk))
  | nilFunc : VR J .nilFunc .nilFunc
  | func {f : Nat} {a a' c c' : List Value} (h1 : a.length = a'.length) (h2 : ∀ (i : Nat) x x', a[i]? = some x → a'[i]? = some x' → VR J x x')
      (h3 : c.length = c'.length) (h4 : ∀ (i : Nat) x x', c[i]? = some x → c'[i]? = some x' → VR J x x') : VR J (.func (.func f) ⟨a⟩ ⟨c⟩) (.func (.func f) ⟨a'⟩ ⟨c'⟩)
  | yield {l : Nat} {i : BI} (h : J l = some i) : VR J (.func (.yield l) #[] #[]) (.func (.yield i.blk) #[] #[])
  | iface {t : Nat} {v v' : Value} (h : VR J v v') : VR J (.iface t v) (.iface t v')
  | nilIface : VR J .nilIface .nilIface
  | agg {a a' : List Value} (h1 : a.length = a'.length) (h2 : ∀ (i : Nat) x x', a[i]? = some x → a'[i]? = some x' → VR J x x') : VR J (.agg ⟨a⟩) (.agg ⟨a'⟩)
  | tuple {a a' : List Value} (h1 : a.length = a'.length) (h2 : ∀ (i : Nat) x x', a[i]? = some x → a'[i]? = some x' → VR J x x') : VR J (.tuple ⟨a⟩) (.tuple ⟨a'⟩)

theorem VR.mono {J J' : Inj} (hJ : J.le J') {v v' : Value} (h : VR J v v') : VR J' v v' := by
  induction h with
  | bool b => exact .bool b
  | int k n => exact .int k n
  | string s => exact .string s
  | ptrNil => exact .ptrNil
  | ptr h => exact .ptr (hJ _ _ h)
  | sliceNil h => exact .sliceNil h
  | slice h hn ho => exact .slice (hJ _ _ h) hn ho
  | loose h hn ho => exact .loose (hJ _ _ h) hn ho
  | mapNil => exact .mapNil
  | map h => exact .map (hJ _ _ h)
  | nilFunc => exact .nilFunc
  | func h1 _ h3 _ ih1 ih2 => exact .func h1 ih1 h3 ih2
  | yield h => exact .yield (hJ _ _ h)
  | iface _ ih => exact .iface ih
  | nilIface => exact .nilIface
  | agg h1 _ ih => exact .agg h1 ih
  | tuple h1 _ ih => exact .tuple h1 ih

/-- Lists, one by one. -/
def LV (J : Inj) (l l' : List Value) : Prop := l.length = l'.length ∧ ∀ (i : Nat) x x', l[i]? = some x → l'[i]? = some x' → VR J x x'

namespace LV
variable {J J' : Inj} {l l' m m' : List Value}
theorem mono (hJ : J.le J') (h : LV J l l') : LV J' l l' := ⟨h.1, fun i x x' a b => (h.2 i x x' a b).mono hJ⟩
theorem nil : LV J [] [] := ⟨rfl, fun i x x' h => by simp at h⟩
theorem cons {x x' : Value} (h : VR J x x') (k : LV J l l') : LV J (x :: l) (x' :: l') := by
  refine ⟨by simp [k.1], fun i y y' a b => ?_⟩
  cases i with
  | zero => simp at a b; subst a; subst b; exact h
  | succ i => simp at a b; exact k.2 i _ _ a b
theorem head {x x' : Value} (h : LV J (x :: l) (x' :: l')) : VR J x x' := h.2 0 _ _ rfl rfl
theorem tail {x x' : Value} (h : LV J (x :: l) (x' :: l')) : LV J l l' := ⟨by simpa using h.1, fun i y y' a b => h.2 (i + 1) y y' (by simpa using a) (by simpa using b)⟩
theorem nil_left (h : LV J [] l') : l' = [] := by cases l' with | nil => rfl | cons _ _ => simp [LV] at h
theorem cons_left {x : Value} (h : LV J (x :: l) l') : ∃ y r, l' = y :: r ∧ VR J x y ∧ LV J l r := by
  cases l' with
  | nil => simp [LV] at h
  | cons y r => exact ⟨y, r, rfl, h.head, h.tail⟩
theorem append (h : LV J l l') (k : LV J m m') : LV J (l ++ m) (l' ++ m') := by
  refine ⟨by simp [h.1, k.1], fun i x x' a b => ?_⟩
  by_cases hi : i < l.length
  · rw [List.getElem?_append_left hi] at a
    rw [List.getElem?_append_left (h.1 ▸ hi)] at b
    exact h.2 i _ _ a b
  · rw [List.getElem?_append_right (by omega)] at a
    rw [List.getElem?_append_right (by have := h.1; omega), ← h.1] at b
    exact k.2 _ _ _ a b
theorem get (h : LV J l l') {i : Nat} {x : Value} (hx : l[i]? = some x) : ∃ x', l'[i]? = some x' ∧ VR J x x' := by
  have hi : i < l'.length := by
    rw [← h.1]
    exact (List.getElem?_eq_some_iff.1 hx).1
  exact ⟨l'[i], List.getElem?_eq_getElem hi, h.2 i _ _ hx (List.getElem?_eq_getElem hi)⟩
end LV

theorem VR.agg_iff {J : Inj} {a a' : List Value} : VR J (.agg ⟨a⟩) (.agg ⟨a'⟩) ↔ LV J a a' := ⟨fun h => by cases h with | agg h1 h2 => exact ⟨h1, h2⟩, fun h => .agg h.1 h.2⟩
theorem VR.tuple_iff {J : Inj} {a a' : List Value} : VR J (.tuple ⟨a⟩) (.tuple ⟨a'⟩) ↔ LV J a a' := ⟨fun h => by cases h with | tuple h1 h2 => exact ⟨h1, h2⟩, fun h => .tuple h.1 h.2⟩
theorem VR.undef (J : Inj) : VR J (.tuple #[]) Go.undef := .tuple (a := []) (a' := []) rfl (fun i x x' h => by simp at h)

/-- The cells of related values. -/
theorem VR.cells {J : Inj} {v v' : Value} (h : VR J v v') : LV J (cellsOf v) v'.cells.toList := by
  cases h with
  | agg h1 h2 => exact ⟨h1, h2⟩
  | tuple h1 h2 => exact .cons (.tuple h1 h2) .nil
  | func h1 h2 h3 h4 => exact .cons (.func h1 h2 h3 h4) .nil
  | bool b => exact .cons (.bool b) .nil
  | int k n => exact .cons (.int k n) .nil
  | string s => exact .cons (.string s) .nil
  | ptrNil => exact .cons .ptrNil .nil
  | ptr h => exact .cons (.ptr h) .nil
  | sliceNil h => exact .cons (.sliceNil h) .nil
  | slice h hn ho => exact .cons (.slice h hn ho) .nil
  | loose h hn ho => exact .cons (.loose h hn ho) .nil
  | mapNil => exact .cons .mapNil .nil
  | map h => exact .cons (.map h) .nil
  | nilFunc => exact .cons .nilFunc .nil
  | yield h => exact .cons (.yield h) .nil
  | iface h => exact .cons (.iface h) .nil
  | nilIface => exact .cons .nilIface .nil

theorem VR.scalar {J : Inj} {v v' : Value} (h : VR J v v') (hs : scalar v = true) : v'.oneCell' = true := by
  cases h <;> first | rfl | exact absurd hs (by simp [EV.scalar])

/-- The temporaries. -/
def TR (J : Inj) (tm : Tm) (tmps : Array Value) : Prop := tm.nt = tmps.size ∧ ∀ t, VR J (tget tm t) (tmps.getD t Go.undef)
theorem TR.mono {J J' : Inj} (hJ : J.le J') {tm : Tm} {tmps : Array Value} (h : TR J tm tmps) : TR J' tm tmps := ⟨h.1, fun t => (h.2 t).mono hJ⟩

theorem tget_set (tm : Tm) (d : Nat) (v : Value) (t : Nat) : tget ⟨tm.t.set d (some v), tm.nt⟩ t = if t = d then v else tget tm t := by
  unfold tget
  by_cases h : t = d
  · subst h; simp [T.get_set_same]
  · simp [T.get_set_ne _ _ (Ne.symm h), h]

theorem TR.put {J : Inj} {tm tm' : Tm} {a : Act} {d : Option Tmp} {v v' : Value} (h : TR J tm a.tmps) (hv : VR J v v') (hp : tput d v tm = some tm') : TR J tm' (a.put d v').tmps := by
  cases d with
  | none => simp [tput] at hp; subst hp; exact h
  | some d =>
    simp only [tput] at hp
    split at hp
    · rename_i hd
      have hd : d < tm.nt := by simpa [Nat.blt_eq] using hd
      simp at hp; subst hp
      refine ⟨by simp [Act.put, h.1], fun t => ?_⟩
      rw [tget_set]
      by_cases e : t = d
      · subst e
        simp only [if_pos, Act.put]
        rw [Array.getD_eq_getD_getElem?, Array.getElem?_setIfInBounds_self_of_lt (by rw [← h.1]; exact hd)]
        exact hv
      · simp only [if_neg e, Act.put]
        rw [Array.getD_eq_getD_getElem?, Array.getElem?_setIfInBounds_ne (Ne.symm e), ← Array.getD_eq_getD_getElem?]
        exact h.2 t
    · cases hp

/-! ### What code may hold: constants without addresses -/
def pure0 : Value → Bool
  | .bool _ => true
  | .int _ _ => true
  | .string _ => true
  | .pointer none => true
  | .slice none n c => Nat.ble n c
  | .map none => true
  | .nilFunc => true
  | .nilIface => true
  | _ => false
def pureV : Value → Bool
  | .agg cs => allB pure0 cs.toList
  | v => pure0 v
theorem allB_mem {α : Type} {f : α → Bool} : ∀ {l : List α}, allB f l = true → ∀ x ∈ l, f x = true
  | [], _, x, hx => by cases hx
  | y :: r, h, x, hx => by
    simp only [allB] at h
    split at h
    · rename_i hy
      rcases List.mem_cons.1 hx with rfl | hx
      · exact hy
      · exact allB_mem h x hx
    · cases h
theorem VR.of_pure0 (J : Inj) {v : Value} (h : pure0 v = true) : VR J v v := by
  cases v with
  | bool b => exact .bool b
  | int k n => exact .int k n
  | string s => exact .string s
  | pointer a => cases a with | none => exact .ptrNil | some a => simp [pure0] at h
  | slice a n c => cases a with | none => exact .sliceNil (by simpa [pure0] using h) | some a => simp [pure0] at h
  | map a => cases a with | none => exact .mapNil | some a => simp [pure0] at h
  | nilFunc => exact .nilFunc
  | nilIface => exact .nilIface
  | _ => simp [pure0] at h
theorem VR.of_pure (J : Inj) {v : Value} (h : pureV v = true) : VR J v v := by
  cases v with
  | agg cs =>
    obtain ⟨l⟩ := cs
    refine .agg rfl fun i x x' a b => ?_
    rw [a] at b; cases b
    exact of_pure0 J (allB_mem h x (List.mem_of_getElem? a))
  | _ => exact of_pure0 J h

def okO : Operand → Bool
  | .tmp _ => true
  | .const v => pureV v
  | .global _ => false
  | .func _ => true
theorem opd_rel {J : Inj} {tm : Tm} {a : Act} (h : TR J tm a.tmps) {x : Operand} (hx : okO x = true) : VR J (opd tm x) (a.eval x) := by
  cases x with
  | tmp t => exact h.2 t
  | const v => exact VR.of_pure J hx
  | global g => simp [okO] at hx
  | func f => exact .func (a := []) (a' := []) (c := []) (c' := []) rfl (fun i x x' h => by simp at h) rfl (fun i x x' h => by simp at h)

def okOper (o : Oper) : Bool := allB okO (opsOf o.op)
def okC : Code → Bool
  | .region _ ops _ => allB okOper ops.toList
  | .seq a b => match okC a with
    | true => okC b
    | false => false
  | .cond x a b => match okO x, okC a with
    | true, true => okC b
    | _, _ => false
  | .block _ b => okC b
  | .loop b => okC b
  | .scope b => okC b
  | .rangeFunc g _ a b => match okO g, okC a with
    | true, true => okC b
    | _, _ => false
  | _ => true

end Go.EV
