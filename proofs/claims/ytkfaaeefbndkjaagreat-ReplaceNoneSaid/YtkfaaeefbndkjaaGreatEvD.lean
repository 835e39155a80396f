/-
  The heap's relation, and the steps that are made of it: a new object, a store, an object turned, an object gone.
-/
import Derived.Test.YtkfaaeefbndkjaaGreatEvC
namespace Go.EV
open Go.RowKit (Below)

/-- How a loop's record stands. -/
def lst : Bool → Option Code → LoopState
  | false, _ => .ready
  | true, none => .busy
  | true, some _ => .done

def ObR (J : Inj) (w : World) (i : BI) : Ob → Prop
  | .cells vec cs => ∃ arr e lo hi, w.heap[i.blk]? = some (.cells arr e (lo, hi)) ∧ (∀ (k : Nat) v, cs[k]? = some v → ∃ v', arr[k + i.shift]? = some v' ∧ VR J v v') ∧
      (∀ k, k < arr.size → ¬ (lo ≤ k ∧ k < hi)) ∧ (match vec with | none => lo = 0 ∧ hi = 0 | some sz => arr.size = i.shift + cs.length + i.spare * sz)
  | .map es => ∃ ents clock, w.heap[i.blk]? = some (.map ents clock) ∧ es.length = ents.toList.length ∧
      (∀ (k : Nat) e e', es[k]? = some e → ents.toList[k]? = some e' → VR J e.1 e'.key ∧ VR J e.2 e'.val) ∧ (∀ e ∈ ents.toList, e.born < clock) ∧ (ents.toList.map (·.born)).Nodup
  | .loop done pend tm ps assign body => ∃ r, w.heap[i.blk]? = some (.loop r) ∧ r.pending = pend ∧ TR J tm r.tmps ∧ r.params = ps ∧ r.assign = assign ∧ r.body = body ∧ okC assign = true ∧ okC body = true ∧
      r.state = lst done pend

theorem ObR.same {J : Inj} {w w' : World} {i : BI} {o : Ob} (h : ObR J w i o) (hw : w'.heap[i.blk]? = w.heap[i.blk]?) : ObR J w' i o := by
  cases o with
  | cells vec cs => obtain ⟨arr, e, lo, hi, h1, h2⟩ := h; exact ⟨arr, e, lo, hi, by rw [hw]; exact h1, h2⟩
  | map es => obtain ⟨ents, cl, h1, h2⟩ := h; exact ⟨ents, cl, by rw [hw]; exact h1, h2⟩
  | loop d p tm ps a b => obtain ⟨r, h1, h2⟩ := h; exact ⟨r, by rw [hw]; exact h1, h2⟩

theorem ObR.mono {J J' : Inj} (hJ : J.le J') {w : World} {i : BI} {o : Ob} (h : ObR J w i o) : ObR J' w i o := by
  cases o with
  | cells vec cs =>
    obtain ⟨arr, e, lo, hi, h1, h2, h3⟩ := h
    exact ⟨arr, e, lo, hi, h1, fun k v hv => let ⟨v', a, b⟩ := h2 k v hv; ⟨v', a, b.mono hJ⟩, h3⟩
  | map es =>
    obtain ⟨ents, cl, h1, h2, h3, h4⟩ := h
    exact ⟨ents, cl, h1, h2, fun k e e' a b => let ⟨x, y⟩ := h3 k e e' a b; ⟨x.mono hJ, y.mono hJ⟩, h4⟩
  | loop d p tm ps a b => obtain ⟨r, h1, h2, h3, h4⟩ := h; exact ⟨r, h1, h2, h3.mono hJ, h4⟩

/-- A block's object lies where it is told: it lies. -/
theorem ObR.lt {J : Inj} {w : World} {i : BI} {o : Ob} (h : ObR J w i o) : i.blk < w.heap.size := by
  have : ∃ x, w.heap[i.blk]? = some x := by
    cases o with
    | cells vec cs => obtain ⟨_, _, _, _, h1, _⟩ := h; exact ⟨_, h1⟩
    | map es => obtain ⟨_, _, h1, _⟩ := h; exact ⟨_, h1⟩
    | loop d p tm ps a b => obtain ⟨_, h1, _⟩ := h; exact ⟨_, h1⟩
  obtain ⟨x, hx⟩ := this
  exact (Array.getElem?_eq_some_iff.1 hx).1

structure Inv0 (B0 : Nat) (w0 : World) (J : Inj) (h : H) (w : World) : Prop where
  base : B0 ≤ w0.heap.size
  below : Below B0 w0 w
  live : ∀ b o, h.get b = some o → ∃ i, J b = some i ∧ B0 ≤ i.blk ∧ ObR J w i o
  inj : ∀ b b' o o' i i', h.get b = some o → h.get b' = some o' → J b = some i → J b' = some i' → i.blk = i'.blk → b = b'
/-- The next number stands for nothing. -/
structure Inv (B0 : Nat) (w0 : World) (J : Inj) (h : H) (w : World) : Prop extends Inv0 B0 w0 J h w where
  fresh : J h.next = none
/-- No number from the next on stands for anything. -/
structure InvA (B0 : Nat) (w0 : World) (J : Inj) (h : H) (w : World) : Prop extends Inv0 B0 w0 J h w where
  all : ∀ b, h.next ≤ b → J b = none
theorem InvA.one {B0 : Nat} {w0 : World} {J : Inj} {h : H} {w : World} (hI : InvA B0 w0 J h w) : Inv B0 w0 J h w := ⟨hI.toInv0, hI.all _ (Nat.le_refl _)⟩

/-- What a step keeps. -/
structure Fr (J : Inj) (h : H) (w w' : World) : Prop where
  size : w.heap.size ≤ w'.heap.size
  keep : ∀ (k : Nat), k < w.heap.size → (∀ b o i, h.get b = some o → J b = some i → i.blk ≠ k) → w'.heap[k]? = w.heap[k]?
  loops : ∀ (k : Nat) r, w.heap[k]? = some (Obj.loop r) → ∃ r', w'.heap[k]? = some (Obj.loop r') ∧ r'.defers = r.defers

structure Stp (B0 : Nat) (w0 : World) (J : Inj) (h : H) (w : World) (J' : Inj) (h' : H) (w' : World) : Prop where
  le : J.le J'
  inv : Inv0 B0 w0 J' h' w'
  next : h.next ≤ h'.next
  new : ∀ b i, J' b = some i → J b = some i ∨ (h.next ≤ b ∧ b < h'.next)
  fr : Fr J h w w'
  img : ∀ b o i, h'.get b = some o → J' b = some i → i.blk < w.heap.size → ∃ b1 o1 i1, h.get b1 = some o1 ∧ J b1 = some i1 ∧ i1.blk = i.blk

section
variable {B0 : Nat} {w0 : World} {J J1 J2 J' : Inj} {h h1 h2 h' : H} {w w1 w2 w' : World}

theorem Stp.all (hI : InvA B0 w0 J h w) (s : Stp B0 w0 J h w J' h' w') : InvA B0 w0 J' h' w' :=
  ⟨s.inv, fun b hb => by
    cases hj : J' b with
    | none => rfl
    | some i =>
      have := s.next
      rcases s.new b i hj with e | ⟨e1, e2⟩
      · rw [hI.all b (by omega)] at e; cases e
      · omega⟩
theorem Stp.refl (hI : Inv0 B0 w0 J h w) : Stp B0 w0 J h w J h w :=
  ⟨J.le_refl, hI, Nat.le_refl _, fun _ _ h => .inl h, ⟨Nat.le_refl _, fun _ _ _ => rfl, fun _ r hr => ⟨r, hr, rfl⟩⟩, fun b o i hb hi _ => ⟨b, o, i, hb, hi, rfl⟩⟩

theorem Stp.trans (a : Stp B0 w0 J h w J1 h1 w1) (b : Stp B0 w0 J1 h1 w1 J2 h2 w2) : Stp B0 w0 J h w J2 h2 w2 := by
  refine ⟨Inj.le_trans a.le b.le, b.inv, Nat.le_trans a.next b.next, fun x i hx => ?_, ⟨Nat.le_trans a.fr.size b.fr.size, fun k hk hn => ?_, fun k r hr => ?_⟩, fun x o i hx hi hl => ?_⟩
  · have h1 := a.next
    have h2 := b.next
    rcases b.new x i hx with e | ⟨e1, e2⟩
    · rcases a.new x i e with e | ⟨e1, e2⟩
      · exact .inl e
      · exact .inr ⟨e1, by omega⟩
    · exact .inr ⟨by omega, e2⟩
  · rw [b.fr.keep k (Nat.lt_of_lt_of_le hk a.fr.size) ?_, a.fr.keep k hk hn]
    intro x o i hx hi he
    obtain ⟨b1, o1, i1, p, q, r⟩ := a.img x o i hx hi (he ▸ hk)
    exact hn b1 o1 i1 p q (r.trans he)
  · obtain ⟨r1, p, q⟩ := a.fr.loops k r hr
    obtain ⟨r2, p2, q2⟩ := b.fr.loops k r1 p
    exact ⟨r2, p2, q2.trans q⟩
  · obtain ⟨b1, o1, i1, p, q, r⟩ := b.img x o i hx hi (Nat.lt_of_lt_of_le hl a.fr.size)
    obtain ⟨b2, o2, i2, p2, q2, r2⟩ := a.img b1 o1 i1 p q (r ▸ hl)
    exact ⟨b2, o2, i2, p2, q2, r2.trans r⟩

/-- A world that differs in its draws alone. -/
theorem Inv0.drawn (hI : Inv0 B0 w0 J h w) {w1 : World} (hh : w1.heap = w.heap) (h1 : w1.os = w.os) (h2 : w1.tape = w.tape) (h3 : w1.output = w.output) : Inv0 B0 w0 J h w1 :=
  ⟨hI.base, ⟨h1.trans hI.below.os, h2.trans hI.below.tape, h3.trans hI.below.output, by rw [hh]; exact hI.below.size, fun k hk => by rw [hh]; exact hI.below.block k hk⟩,
   fun b o hb => let ⟨i, q, r, s⟩ := hI.live b o hb; ⟨i, q, r, s.same (by rw [hh])⟩, hI.inj⟩
theorem Stp.drew (hI : Inv0 B0 w0 J h w) : Stp B0 w0 J h w J h w.drew :=
  ⟨J.le_refl, hI.drawn rfl rfl rfl rfl, Nat.le_refl _, fun _ _ h => .inl h, ⟨Nat.le_refl _, fun _ _ _ => rfl, fun _ r hr => ⟨r, hr, rfl⟩⟩, fun b o i hb hi _ => ⟨b, o, i, hb, hi, rfl⟩⟩

theorem H.get_new_same (h : H) (o : Ob) : (h.new o).get h.next = some o := T.get_set_same _ _ _
theorem H.get_new_ne (h : H) (o : Ob) {b : Nat} (hb : b ≠ h.next) : (h.new o).get b = h.get b := T.get_set_ne _ _ (Ne.symm hb)
theorem H.upd_some {b : Nat} {o : Option Ob} (hu : h.upd b o = some h') : h'.next = h.next ∧ h'.ro = h.ro ∧ h'.get b = o ∧ ∀ b', b' ≠ b → h'.get b' = h.get b' := by
  unfold H.upd at hu
  split at hu
  · cases hu
    exact ⟨rfl, rfl, T.get_set_same _ _ _, fun b' hb' => T.get_set_ne _ _ (Ne.symm hb')⟩
  · cases hu

theorem Inj.le_upd (hI : Inv B0 w0 J h w) (i : BI) : J.le (J.upd h.next i) := by
  intro b x hb
  unfold Inj.upd
  split
  · rename_i e; subst e; rw [hI.fresh] at hb; cases hb
  · exact hb
theorem Inj.upd_same (J : Inj) (b : Nat) (i : BI) : J.upd b i b = some i := by simp [Inj.upd]
theorem Inj.upd_ne (J : Inj) {b b' : Nat} (i : BI) (e : b' ≠ b) : J.upd b i b' = J b' := by simp [Inj.upd, e]

/-- A NEW OBJECT. -/
theorem Stp.alloc (hI : Inv B0 w0 J h w) {o : Ob} {x : Obj} {i : BI} (hi : i.blk = w.heap.size) (ho : ObR (J.upd h.next i) (w.alloc x) i o) :
    Stp B0 w0 J h w (J.upd h.next i) (h.new o) (w.alloc x) := by
  have hle := Inj.le_upd hI i
  have hsz : B0 ≤ w.heap.size := Nat.le_trans hI.base hI.below.size
  have hold : ∀ k, k < w.heap.size → (w.alloc x).heap[k]? = w.heap[k]? := fun k hk => Below.heap_alloc w x k hk
  refine ⟨hle, ⟨hI.base, hI.below.alloc hsz x, fun b o' hb => ?_, fun b b' o1 o2 i1 i2 hb hb' hj hj' he => ?_⟩, by simp [H.new], fun b i' hj => ?_, ⟨by simp, fun k hk _ => hold k hk, fun k r hr => ⟨r, ?_, rfl⟩⟩, fun b o' i' hb hj hl => ?_⟩
  · by_cases e : b = h.next
    · subst e
      rw [H.get_new_same] at hb; cases hb
      exact ⟨i, Inj.upd_same _ _ _, by omega, ho⟩
    · rw [H.get_new_ne _ _ e] at hb
      obtain ⟨i', q, r, s⟩ := hI.live b o' hb
      exact ⟨i', hle _ _ q, r, (s.same (hold _ s.lt)).mono hle⟩
  · by_cases e : b = h.next
    · by_cases e' : b' = h.next
      · rw [e, e']
      · subst e
        rw [Inj.upd_same] at hj; cases hj
        rw [H.get_new_ne _ _ e'] at hb'
        rw [Inj.upd_ne _ _ e'] at hj'
        obtain ⟨i', q, _, s⟩ := hI.live b' _ hb'
        rw [q] at hj'; cases hj'
        have := s.lt
        omega
    · rw [H.get_new_ne _ _ e] at hb
      rw [Inj.upd_ne _ _ e] at hj
      by_cases e' : b' = h.next
      · subst e'
        rw [Inj.upd_same] at hj'; cases hj'
        obtain ⟨i', q, _, s⟩ := hI.live b _ hb
        rw [q] at hj; cases hj
        have := s.lt
        omega
      · rw [H.get_new_ne _ _ e'] at hb'
        rw [Inj.upd_ne _ _ e'] at hj'
        exact hI.inj b b' _ _ _ _ hb hb' hj hj' he
  · by_cases e : b = h.next
    · subst e; exact .inr ⟨Nat.le_refl _, by simp [H.new]⟩
    · rw [Inj.upd_ne _ _ e] at hj
      exact .inl hj
  · rw [hold k (Array.getElem?_eq_some_iff.1 hr).1]; exact hr
  · by_cases e : b = h.next
    · subst e; rw [Inj.upd_same] at hj; cases hj; omega
    · rw [H.get_new_ne _ _ e] at hb
      rw [Inj.upd_ne _ _ e] at hj
      exact ⟨b, o', i', hb, hj, rfl⟩

/-- AN OBJECT IS TURNED: the block that it lies in becomes another object of its kind. -/
theorem Stp.turn (hI : Inv0 B0 w0 J h w) {b : Nat} {o o' : Ob} {i : BI} (hb : h.get b = some o) (hj : J b = some i) (hu : h.upd b (some o') = some h')
    (hsz : w'.heap.size = w.heap.size) (h1 : w'.os = w.os) (h2 : w'.tape = w.tape) (h3 : w'.output = w.output) (hk : ∀ k, k ≠ i.blk → w'.heap[k]? = w.heap[k]?)
    (hlp : ∀ r, w.heap[i.blk]? = some (Obj.loop r) → ∃ r', w'.heap[i.blk]? = some (Obj.loop r') ∧ r'.defers = r.defers) (ho : ObR J w' i o') : Stp B0 w0 J h w J h' w' := by
  obtain ⟨hn, -, hs, hne⟩ := H.upd_some hu
  obtain ⟨i', hj', hB, hO⟩ := hI.live b o hb
  rw [hj] at hj'; cases hj'
  refine ⟨J.le_refl, ⟨hI.base, ?_, fun x ox hx => ?_, fun x x' ox ox' ix ix' hx hx' hjx hjx' he => ?_⟩, by omega, fun _ _ h => .inl h, ⟨by omega, fun k _ hk' => hk k (fun e => hk' b o i hb hj e.symm), fun k r hr => ?_⟩, fun x ox ix hx hjx _ => ?_⟩
  · exact ⟨h1.trans hI.below.os, h2.trans hI.below.tape, h3.trans hI.below.output, by rw [hsz]; exact hI.below.size, fun k hkB => by rw [hk k (by omega)]; exact hI.below.block k hkB⟩
  · by_cases e : x = b
    · subst e; rw [hs] at hx; cases hx
      exact ⟨i, hj, hB, ho⟩
    · rw [hne x e] at hx
      obtain ⟨ix, q, r, s⟩ := hI.live x ox hx
      refine ⟨ix, q, r, s.same (hk _ fun e' => e ?_)⟩
      exact hI.inj x b _ _ _ _ hx hb q hj e'
  · have old : ∀ y oy, h'.get y = some oy → ∃ oy', h.get y = some oy' := fun y oy hy => by
      by_cases e : y = b
      · subst e; exact ⟨o, hb⟩
      · rw [hne y e] at hy; exact ⟨oy, hy⟩
    obtain ⟨_, p⟩ := old x ox hx
    obtain ⟨_, q⟩ := old x' ox' hx'
    exact hI.inj x x' _ _ _ _ p q hjx hjx' he
  · by_cases e : k = i.blk
    · subst e; exact hlp r hr
    · exact ⟨r, by rw [hk k e]; exact hr, rfl⟩
  · by_cases e : x = b
    · subst e; exact ⟨x, o, ix, hb, hjx, rfl⟩
    · rw [hne x e] at hx; exact ⟨x, ox, ix, hx, hjx, rfl⟩

/-- AN OBJECT IS SPOKEN OF NO MORE. -/
theorem Stp.kill (hI : Inv0 B0 w0 J h w) {b : Nat} (hu : h.upd b none = some h') : Stp B0 w0 J h w J h' w := by
  obtain ⟨hn, -, hs, hne⟩ := H.upd_some hu
  have old : ∀ y oy, h'.get y = some oy → h.get y = some oy := fun y oy hy => by
    by_cases e : y = b
    · subst e; rw [hs] at hy; cases hy
    · rw [hne y e] at hy; exact hy
  refine ⟨J.le_refl, ⟨hI.base, hI.below, fun x ox hx => ?_, fun x x' ox ox' ix ix' hx hx' => hI.inj x x' ox ox' ix ix' (old _ _ hx) (old _ _ hx')⟩, by omega, fun _ _ h => .inl h,
    ⟨Nat.le_refl _, fun _ _ _ => rfl, fun _ r hr => ⟨r, hr, rfl⟩⟩, fun x ox ix hx hjx _ => ⟨x, ox, ix, old _ _ hx, hjx, rfl⟩⟩
  exact hI.live x ox (old _ _ hx)

/-! ### Reading -/
theorem dropN_get : ∀ (o : Nat) (l r : List Value), dropN o l = some r → ∀ (k : Nat), r[k]? = l[o + k]?
  | 0, l, r, h, k => by simp [dropN] at h; subst h; simp
  | o + 1, [], r, h, k => by simp [dropN] at h
  | o + 1, x :: l, r, h, k => by
    simp only [dropN] at h
    rw [dropN_get o l r h k, show o + 1 + k = o + k + 1 by omega]
    simp
theorem takeN_get : ∀ (n : Nat) (l r : List Value), takeN n l = some r → r.length = n ∧ ∀ (k : Nat) v, r[k]? = some v → l[k]? = some v
  | 0, l, r, h => by simp [takeN] at h; subst h; simp
  | n + 1, [], r, h => by simp [takeN] at h
  | n + 1, x :: l, r, h => by
    simp only [takeN] at h
    split at h
    · rename_i r' hr
      cases h
      obtain ⟨h1, h2⟩ := takeN_get n l r' hr
      refine ⟨by simp [h1], fun k v hv => ?_⟩
      cases k with
      | zero => simpa using hv
      | succ k => simp at hv; simpa using h2 k v hv
    · cases h
theorem subN_get {o n : Nat} {l r : List Value} (h : subN o n l = some r) : r.length = n ∧ ∀ (k : Nat) v, r[k]? = some v → l[o + k]? = some v := by
  unfold subN at h
  split at h
  · rename_i m hm
    obtain ⟨h1, h2⟩ := takeN_get n m r h
    exact ⟨h1, fun k v hv => by rw [← dropN_get o l m hm]; exact h2 k v hv⟩
  · cases h

/-- What is read of the abstract heap lies, related, in the world. -/
theorem Inv0.read (hI : Inv0 B0 w0 J h w) {b o n : Nat} {i : BI} {vs : List Value} (hr : h.read b o n = some vs) (hj : J b = some i) :
    vs.length = n ∧ ∃ vs', LV J vs vs' ∧ ∀ (k : Nat) v', vs'[k]? = some v' → w.cell? ⟨i.blk, o + i.shift + k, none⟩ = some v' := by
  unfold H.read at hr
  split at hr
  · rename_i vec cs hg
    obtain ⟨hl, hv⟩ := subN_get hr
    obtain ⟨i', q, _, arr, e, lo, hi, h1, h2, _⟩ := hI.live b _ hg
    rw [hj] at q; cases q
    refine ⟨hl, ?_⟩
    have key : ∀ k (hk : k < vs.length), ∃ v', arr[k + o + i.shift]? = some v' ∧ VR J vs[k] v' := fun k hk => by
      obtain ⟨v', a, b⟩ := h2 (o + k) vs[k] (hv k _ (List.getElem?_eq_getElem hk))
      exact ⟨v', by rw [show k + o = o + k by omega]; exact a, b⟩
    refine ⟨(List.range vs.length).map fun k => (arr[k + o + i.shift]?).getD Go.undef, ⟨by simp, fun k x x' hx hx' => ?_⟩, fun k v' hv' => ?_⟩
    · have hk : k < vs.length := (List.getElem?_eq_some_iff.1 hx).1
      obtain ⟨v', a, b⟩ := key k hk
      rw [List.getElem?_eq_getElem hk] at hx; cases hx
      simp [hk, a] at hx'
      subst hx'
      exact b
    · have hk : k < vs.length := by simpa using (List.getElem?_eq_some_iff.1 hv').1
      obtain ⟨u, a, _⟩ := key k hk
      simp [hk, a] at hv'
      subst hv'
      simp [World.cell?, h1, show o + i.shift + k = k + o + i.shift by omega, a]
  · cases hr

/-! ### Writing -/
def setArr (arr : Array Value) : Nat → List Value → Array Value
  | _, [] => arr
  | o, v :: r => setArr (arr.setIfInBounds o v) (o + 1) r
theorem setArr_size : ∀ (vs : List Value) (arr : Array Value) (o : Nat), (setArr arr o vs).size = arr.size
  | [], _, _ => rfl
  | v :: r, arr, o => by simp [setArr, setArr_size r]
theorem setArr_get : ∀ (vs : List Value) (arr : Array Value) (o k : Nat), (setArr arr o vs)[k]? = if o ≤ k ∧ k < o + vs.length ∧ k < arr.size then vs[k - o]? else arr[k]?
  | [], arr, o, k => by simp [setArr]; omega
  | v :: r, arr, o, k => by
    simp only [setArr, setArr_get r, Array.size_setIfInBounds, List.length_cons]
    by_cases e : k = o
    · subst e
      by_cases hk : k < arr.size
      · rw [if_neg (by omega), if_pos (by omega)]
        simp [hk]
      · rw [if_neg (by omega), if_neg (by omega)]
        simp [hk]
    · rw [Array.getElem?_setIfInBounds_ne (Ne.symm e)]
      by_cases hk : o + 1 ≤ k ∧ k < o + 1 + r.length ∧ k < arr.size
      · rw [if_pos hk, if_pos (by omega), show k - o = k - (o + 1) + 1 by omega]; simp
      · rw [if_neg hk, if_neg (by omega)]

theorem heap_setCells : ∀ (vs : List Value) (w : World) (b o : Nat), (w.setCells b o vs).heap.size = w.heap.size ∧ (w.setCells b o vs).os = w.os ∧ (w.setCells b o vs).tape = w.tape ∧ (w.setCells b o vs).output = w.output ∧
    (∀ k, k ≠ b → (w.setCells b o vs).heap[k]? = w.heap[k]?) ∧ ∀ arr e fz, w.heap[b]? = some (.cells arr e fz) → (w.setCells b o vs).heap[b]? = some (.cells (setArr arr o vs) e fz)
  | [], w, b, o => ⟨rfl, rfl, rfl, rfl, fun _ _ => rfl, fun _ _ _ h => h⟩
  | v :: r, w, b, o => by
    obtain ⟨h1, h2, h3, h4, h5, h6⟩ := heap_setCells r (w.setCell ⟨b, o, none⟩ v) b (o + 1)
    refine ⟨h1.trans (by simp), h2, h3, h4, fun k hk => (h5 k hk).trans (Below.heap_setCell w ⟨b, o, none⟩ v k hk), fun arr e fz h => ?_⟩
    refine h6 _ e fz ?_
    simp only [World.setCell, Array.getElem?_modify, h]
    simp

theorem over_get : ∀ (vs l r : List Value), over l vs = some r → r.length = l.length ∧ vs.length ≤ l.length ∧ ∀ (k : Nat), r[k]? = if k < vs.length then vs[k]? else l[k]?
  | [], l, r, h => by cases l <;> (simp [over] at h; subst h; simp)
  | v :: vs, [], r, h => by simp [over] at h
  | v :: vs, x :: l, r, h => by
    simp only [over] at h
    split at h
    · rename_i r' hr
      cases h
      obtain ⟨h1, h2, h3⟩ := over_get vs l r' hr
      refine ⟨by simp [h1], by simp; omega, fun k => ?_⟩
      cases k with
      | zero => simp
      | succ k => simp [h3 k]
    · cases h
theorem splice_get : ∀ (o : Nat) (l vs r : List Value), splice o l vs = some r → r.length = l.length ∧ o + vs.length ≤ l.length ∧ ∀ (k : Nat), r[k]? = if o ≤ k ∧ k < o + vs.length then vs[k - o]? else l[k]?
  | 0, l, vs, r, h => by
    have h : over l vs = some r := by cases l <;> simpa [splice] using h
    obtain ⟨h1, h2, h3⟩ := over_get vs l r h
    exact ⟨h1, by omega, fun k => by rw [h3 k]; simp⟩
  | o + 1, [], vs, r, h => by simp [splice] at h
  | o + 1, x :: l, vs, r, h => by
    simp only [splice] at h
    split at h
    · rename_i r' hr
      cases h
      obtain ⟨h1, h2, h3⟩ := splice_get o l vs r' hr
      refine ⟨by simp [h1], by simp; omega, fun k => ?_⟩
      cases k with
      | zero => simp
      | succ k =>
        simp only [List.getElem?_cons_succ, h3 k]
        by_cases e : o ≤ k ∧ k < o + vs.length
        · rw [if_pos e, if_pos (by omega), show k + 1 - (o + 1) = k - o by omega]
        · rw [if_neg e, if_neg (by omega)]
    · cases h

theorem LV.scalars {l l' : List Value} (hl : LV J l l') (hs : allB scalar l = true) : ∀ v ∈ l', v.oneCell' = true := by
  intro v hv
  obtain ⟨k, hk⟩ := List.getElem?_of_mem hv
  have hlt : k < l.length := by rw [hl.1]; exact (List.getElem?_eq_some_iff.1 hk).1
  exact (hl.2 k _ _ (List.getElem?_eq_getElem hlt) hk).scalar (allB_mem hs _ (List.getElem_mem hlt))

/-- A STORE. -/
theorem Inv0.write (hI : Inv0 B0 w0 J h w) {b o : Nat} {i : BI} {vs vs' : List Value} (hw : h.write b o vs = some h') (hj : J b = some i) (hv : LV J vs vs') :
    (∀ j, j < vs'.length → (w.cell? ⟨i.blk, o + i.shift + j, none⟩).isSome = true) ∧ (∀ j, j < vs'.length → w.frozen? ⟨i.blk, o + i.shift + j, none⟩ = false) ∧ (∀ v ∈ vs', v.oneCell' = true) ∧
    Stp B0 w0 J h w J h' (w.setCells i.blk (o + i.shift) vs') := by
  unfold H.write at hw
  split at hw
  · rename_i vec cs hg
    split at hw
    · rename_i hsc
      split at hw
      · rename_i cs' hsp
        obtain ⟨s1, s2, s3⟩ := splice_get o cs vs cs' hsp
        obtain ⟨i', q, _, arr, e, lo, hi, h1, h2, h3, h4⟩ := hI.live b _ hg
        rw [hj] at q; cases q
        have hlen := hv.1
        have hcell : ∀ j, j < vs'.length → ∃ u, arr[o + i.shift + j]? = some u := fun j hj' => by
          obtain ⟨u, a, _⟩ := h2 (o + j) cs[o + j] (List.getElem?_eq_getElem (by omega))
          exact ⟨u, by rw [show o + i.shift + j = o + j + i.shift by omega]; exact a⟩
        obtain ⟨c1, c2, c3, c4, c5, c6⟩ := heap_setCells vs' w i.blk (o + i.shift)
        have c6 := c6 arr e (lo, hi) h1
        refine ⟨fun j hj' => ?_, fun j hj' => ?_, hv.scalars hsc, Stp.turn hI hg hj hw c1 c2 c3 c4 c5 (fun r hr => by rw [h1] at hr; cases hr) ⟨setArr arr (o + i.shift) vs', e, lo, hi, c6, fun k v hk => ?_, fun k hk => h3 k (by rwa [setArr_size] at hk), ?_⟩⟩
        · obtain ⟨u, a⟩ := hcell j hj'
          simp [World.cell?, h1, a]
        · obtain ⟨u, a⟩ := hcell j hj'
          have := h3 _ (Array.getElem?_eq_some_iff.1 a).1
          simp only [World.frozen?, h1, Bool.and_eq_false_iff, decide_eq_false_iff_not]
          omega
        · rw [s3 k] at hk
          rw [setArr_get]
          by_cases hin : o ≤ k ∧ k < o + vs.length
          · rw [if_pos hin] at hk
            obtain ⟨u, a⟩ := hcell (k - o) (by omega)
            have hlt := (Array.getElem?_eq_some_iff.1 a).1
            rw [if_pos ⟨by omega, by omega, by omega⟩]
            obtain ⟨x', hx, hr⟩ := hv.get hk
            exact ⟨x', by rw [show k + i.shift - (o + i.shift) = k - o by omega]; exact hx, hr⟩
          · rw [if_neg hin] at hk
            rw [if_neg (by omega)]
            exact h2 k v hk
        · cases vec with
          | none => exact h4
          | some sz => simp only [setArr_size, s1]; exact h4
      · cases hw
    · cases hw
  · cases hw
end
end Go.EV
