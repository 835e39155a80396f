/-
  The evaluator's word is the program's: regions whose order is drawn.
-/
import Derived.Test.YtkfaaeefbndkjaaGreatEvR
namespace Go.EV
open Go.RowKit (Below)

/-! ### Sets of numbers, as numbers -/
theorem sub_iff (a b : Nat) : sub a b = true ↔ ∀ i, a.testBit i = true → b.testBit i = true := by
  unfold sub
  constructor
  · intro h i hi
    have h := Nat.eq_of_beq_eq_true h
    have : (Nat.land a b).testBit i = a.testBit i := by rw [h]
    have h2 : (a &&& b).testBit i = a.testBit i := this
    rw [Nat.testBit_and, hi] at h2
    simpa using h2
  · intro h
    have : a &&& b = a := by
      apply Nat.eq_of_testBit_eq
      intro i
      rw [Nat.testBit_and]
      cases hi : a.testBit i with
      | false => simp
      | true => simp [h i hi]
    show Nat.beq (a &&& b) a = true
    rw [this]; simp
theorem bit_test (i j : Nat) : (bit i).testBit j = decide (i = j) := by unfold bit; exact Nat.testBit_two_pow
theorem sub_bit (i b : Nat) : sub (bit i) b = true ↔ b.testBit i = true := by
  rw [sub_iff]
  constructor
  · intro h; exact h i (by simp [bit_test])
  · intro h j hj
    rw [bit_test] at hj
    have : i = j := by simpa using hj
    rw [← this]; exact h
theorem lor_test (a b i : Nat) : (Nat.lor a b).testBit i = (a.testBit i || b.testBit i) := Nat.testBit_or a b i

theorem needs_test (o : Oper) (i : Nat) : (needs o).testBit i = true ↔ ∃ e ∈ o.after.toList, Region.binds .any e = true ∧ e.on = i := by
  unfold needs
  have key : ∀ (l : List _) (m : Nat), (l.foldl (fun m e => match Region.binds .any e with | true => Nat.lor m (bit e.on) | false => m) m).testBit i = true ↔ m.testBit i = true ∨ ∃ e ∈ l, Region.binds .any e = true ∧ e.on = i := by
    intro l
    induction l with
    | nil => intro m; simp
    | cons e l ih =>
      intro m
      rw [List.foldl_cons, ih]
      cases hb : Region.binds .any e with
      | true =>
        simp only [lor_test, bit_test, Bool.or_eq_true, decide_eq_true_eq, List.mem_cons, exists_eq_or_imp, hb, true_and]
        constructor
        · rintro ((h | h) | h)
          · exact .inl h
          · exact .inr (.inl h)
          · exact .inr (.inr h)
        · rintro (h | h | h)
          · exact .inl (.inl h)
          · exact .inl (.inr h)
          · exact .inr h
      | false => simp [hb]
  exact (key o.after.toList 0).trans (by simp)
theorem closure_test (ds : List Done) (need i : Nat) : (closure ds need).testBit i = true ↔ need.testBit i = true ∨ ∃ d ∈ ds, need.testBit d.i = true ∧ (d.i = i ∨ d.on.testBit i = true) := by
  unfold closure
  have key : ∀ (l : List Done) (m : Nat), (l.foldl (fun m d => match sub (bit d.i) need with | true => Nat.lor m (Nat.lor (bit d.i) d.on) | false => m) m).testBit i = true ↔ m.testBit i = true ∨ ∃ d ∈ l, need.testBit d.i = true ∧ (d.i = i ∨ d.on.testBit i = true) := by
    intro l
    induction l with
    | nil => intro m; simp
    | cons d l ih =>
      intro m
      rw [List.foldl_cons, ih]
      cases hb : sub (bit d.i) need with
      | true =>
        have hb := (sub_bit _ _).1 hb
        simp only [lor_test, bit_test, Bool.or_eq_true, decide_eq_true_eq, List.mem_cons, exists_eq_or_imp, hb, true_and]
        constructor
        · rintro ((h | h) | h)
          · exact .inl h
          · exact .inr (.inl h)
          · exact .inr (.inr h)
        · rintro (h | h | h)
          · exact .inl (.inl h)
          · exact .inl (.inr h)
          · exact .inr h
      | false =>
        have hb : ¬ (need.testBit d.i = true) := fun e => by rw [(sub_bit _ _).2 e] at hb; cases hb
        simp [hb]
  exact key ds need

/-! ### Heaps that are parts of others -/
section
variable {B0 : Nat} {w0 : World} {J J' Ji : Inj} {h h' hi hb hb' hs hs' : H} {w w' wi : World} {P : Program} {c : Ctx} {v : Value}

theorem Inv0.part (hI : Inv0 B0 w0 J hb w) (hsub : ∀ b o, hs.get b = some o → hb.get b = some o) : Inv0 B0 w0 J hs w :=
  ⟨hI.base, hI.below, fun b o h => hI.live b o (hsub b o h), fun b b' o o' i i' h h' => hI.inj b b' o o' i i' (hsub b o h) (hsub b' o' h')⟩

/-- A step of a part of the heap is a step of the whole. -/
theorem Stp.ext (s : Stp B0 w0 Ji hi wi J hb w) (t : Stp B0 w0 J hs w J' hs' w') (hsub : ∀ b o, hs.get b = some o → hb.get b = some o)
    (hout : ∀ b o, hb'.get b = some o → hs'.get b = some o ∨ (hb.get b = some o ∧ hs.get b = none)) (hnext : hi.next ≤ hb'.next) (hnew : ∀ b i, J' b = some i → J b = some i ∨ (hi.next ≤ b ∧ b < hb'.next)) (hmono : hb.next ≤ hb'.next) :
    Stp B0 w0 Ji hi wi J' hb' w' := by
  have hI := s.inv
  have old : ∀ b o i, hb.get b = some o → hs.get b = none → J b = some i → (∀ b2 o2 i2, hs.get b2 = some o2 → J b2 = some i2 → i2.blk ≠ i.blk) := by
    intro b o i h1 h2 h3 b2 o2 i2 g1 g2 he
    have := hI.inj b2 b o2 o i2 i (hsub _ _ g1) h1 g2 h3 he
    subst this
    rw [h2] at g1; cases g1
  refine ⟨Inj.le_trans s.le t.le, ⟨t.inv.base, t.inv.below, fun b o hg => ?_, fun b b' o o' i i' hg hg' hj hj' he => ?_⟩, hnext, fun b i hj => ?_, ⟨Nat.le_trans s.fr.size t.fr.size, fun k hk hn => ?_, fun k r hr => ?_⟩, fun b o i hg hj hl => ?_⟩
  · rcases hout b o hg with h1 | ⟨h1, h2⟩
    · exact t.inv.live b o h1
    · obtain ⟨i, q, r, ob⟩ := hI.live b o h1
      exact ⟨i, t.le _ _ q, r, (ob.same (t.fr.keep _ ob.lt (old b o i h1 h2 q))).mono t.le⟩
  · have lift : ∀ b o i, hb.get b = some o → J' b = some i → J b = some i ∧ i.blk < w.heap.size := by
      intro b o i h1 h2
      obtain ⟨i2, q, _, ob⟩ := hI.live b o h1
      have := t.le _ _ q
      rw [h2] at this; cases this
      exact ⟨q, ob.lt⟩
    rcases hout b o hg with h1 | ⟨h1, h2⟩
    · rcases hout b' o' hg' with h1' | ⟨h1', h2'⟩
      · exact t.inv.inj b b' o o' i i' h1 h1' hj hj' he
      · obtain ⟨q, lt⟩ := lift b' o' i' h1' hj'
        obtain ⟨b1, o1, i1, g1, g2, g3⟩ := t.img b o i h1 hj (he ▸ lt)
        exact absurd (g3.trans he) (old b' o' i' h1' h2' q b1 o1 i1 g1 g2)
    · obtain ⟨q, lt⟩ := lift b o i h1 hj
      rcases hout b' o' hg' with h1' | ⟨h1', h2'⟩
      · obtain ⟨b1, o1, i1, g1, g2, g3⟩ := t.img b' o' i' h1' hj' (he ▸ lt)
        exact absurd (g3.trans he.symm) (old b o i h1 h2 q b1 o1 i1 g1 g2)
      · obtain ⟨q', _⟩ := lift b' o' i' h1' hj'
        exact hI.inj b b' o o' i i' h1 h1' q q' he
  · rcases hnew b i hj with e | e
    · rcases s.new b i e with e | ⟨e1, e2⟩
      · exact .inl e
      · exact .inr ⟨e1, by omega⟩
    · exact .inr e
  · rw [t.fr.keep k (Nat.lt_of_lt_of_le hk s.fr.size) ?_, s.fr.keep k hk hn]
    intro b o i hg hj he
    obtain ⟨b1, o1, i1, g1, g2, g3⟩ := s.img b o i (hsub b o hg) hj (he ▸ hk)
    exact hn b1 o1 i1 g1 g2 (g3.trans he)
  · obtain ⟨r1, p, q⟩ := s.fr.loops k r hr
    obtain ⟨r2, p2, q2⟩ := t.fr.loops k r1 p
    exact ⟨r2, p2, q2.trans q⟩
  · rcases hout b o hg with h1 | ⟨h1, h2⟩
    · obtain ⟨b1, o1, i1, g1, g2, g3⟩ := t.img b o i h1 hj (Nat.lt_of_lt_of_le hl s.fr.size)
      obtain ⟨b2, o2, i2, k1, k2, k3⟩ := s.img b1 o1 i1 (hsub _ _ g1) g2 (g3 ▸ hl)
      exact ⟨b2, o2, i2, k1, k2, k3.trans g3⟩
    · obtain ⟨i2, q, _, ob⟩ := hI.live b o h1
      have := t.le _ _ q
      rw [hj] at this; cases this
      exact s.img b o i h1 q hl
theorem Stp.shrink (s : Stp B0 w0 Ji hi wi J hb w) (hsub : ∀ b o, hb'.get b = some o → hb.get b = some o) (hmono : hb.next ≤ hb'.next) : Stp B0 w0 Ji hi wi J hb' w :=
  Stp.ext (hs := hb) (hs' := hb) s (.refl s.inv) (fun _ _ h => h) (fun b o h => .inl (hsub b o h)) (Nat.le_trans s.next hmono) (fun _ _ h => .inl h) hmono
end

/-! ### What lags behind -/
/-- An operation without effect, carried out by the evaluator, not by the machine yet. -/
structure Lag where
  i : Nat
  o : Oper
  on : Nat
  tm : Tm
  v : Value
  sub : H
  sub' : H
  made : Option Nat

def madeL (U : List Lag) : List Nat := U.filterMap (·.made)

structure LagOk (P : Program) (ops : Array Oper) (y : Lag) : Prop where
  run : ∀ (B0 : Nat) (w0 : World) J a w, Inv B0 w0 J y.sub w → (∀ t ∈ readsOf ops.toList y.o, VR J (tget y.tm t) (a.tmps.getD t Go.undef)) →
    ∃ J' v' w', (∀ F n Q K, Wd F w → K (a.put y.o.dst v') w' → wpOpIn F n P ops Q y.i K a w) ∧ Stp B0 w0 J y.sub w J' y.sub' w' ∧ VR J' y.v v'
  made : (y.made = none ∧ y.sub' = y.sub) ∨ (y.made = some y.sub.next ∧ ∃ ob, y.sub' = y.sub.new ob)

theorem findR_some {e : Bool} {done : Nat} : ∀ {l : List Todo} {x : Todo} {r : List Todo}, findR e done l = some (x, r) → l.Perm (x :: r) ∧ sub x.need done = true ∧ eff x.o.op = e
  | [], x, r, h => by simp [findR] at h
  | t :: l, x, r, h => by
    simp only [findR] at h
    split at h
    · rename_i h1 h2
      cases h
      exact ⟨.refl _, h1, by simpa using h2⟩
    · split at h
      · rename_i x' r' hr
        cases h
        obtain ⟨h1, h2, h3⟩ := findR_some hr
        exact ⟨(h1.cons t).trans (.swap _ _ _), h2, h3⟩
      · cases h
theorem findR_none {e : Bool} {done : Nat} : ∀ {l : List Todo}, findR e done l = none → ∀ x ∈ l, sub x.need done = true → eff x.o.op ≠ e
  | [], h, x, hx => by simp at hx
  | t :: l, h, x, hx => by
    simp only [findR] at h
    split at h
    · cases h
    · rename_i hne
      split at h
      · cases h
      · rename_i hr
        intro hs he
        rcases List.mem_cons.1 hx with rfl | hx
        · exact hne hs (by simpa using he)
        · exact findR_none hr x hx hs he

/-- The order's part. -/
structure RelO (ops : Array Oper) (U : List Lag) (todo : List Todo) (done : Nat) (ds : List Done) (listed : Array Bool) : Prop where
  uds : ∀ y ∈ U, ∃ d ∈ ds, d.i = y.i ∧ d.on = y.on ∧ d.dst = y.o.dst ∧ d.rds = readsOf ops.toList y.o ∧ d.made = y.made ∧ ∀ b o, y.sub.get b = some o → b ∈ d.blocks
  uops : ∀ y ∈ U, ops[y.i]? = some y.o
  uon : ∀ y ∈ U, ∀ i, y.on.testBit i = true → (needs y.o).testBit i = true ∨ ∃ d ∈ ds, (needs y.o).testBit d.i = true ∧ (d.i = i ∨ d.on.testBit i = true)
  need : ∀ y ∈ U, ∀ i, (needs y.o).testBit i = true → y.on.testBit i = true
  order : U.Pairwise fun z y => y.on.testBit z.i = false ∧ z.i ≠ y.i
  self : ∀ y ∈ U, y.on.testBit y.i = false
  dsu : ∀ d ∈ ds, ∀ d' ∈ ds, d.i = d'.i → d = d'
  dn : ∀ i, done.testBit i = true ↔ ∃ d ∈ ds, d.i = i
  on : ∀ d ∈ ds, ∀ i, d.on.testBit i = true → done.testBit i = true
  sc : ∀ d ∈ ds, (∀ y ∈ U, y.i ≠ d.i) → ∀ y ∈ U, d.on.testBit y.i = false
  td : ∀ x ∈ todo, ops[x.i]? = some x.o ∧ x.need = needs x.o ∧ done.testBit x.i = false
  tnd : (todo.map (·.i)).Nodup
  cover : ∀ i, i < ops.size → done.testBit i = true ∨ ∃ x ∈ todo, x.i = i
  lt : ∀ i, done.testBit i = true → i < ops.size
  lsize : listed.size = ops.size
  li : ∀ i, i < ops.size → (listed.getD i true = true ↔ done.testBit i = true ∧ ∀ y ∈ U, y.i ≠ i)

section
variable {ops : Array Oper} {U : List Lag} {todo r : List Todo} {done : Nat} {ds : List Done} {listed : Array Bool}

theorem RelO.udone (R : RelO ops U todo done ds listed) {y : Lag} (hy : y ∈ U) : done.testBit y.i = true := by
  obtain ⟨d, hd, h1, _⟩ := R.uds y hy
  exact (R.dn _).2 ⟨d, hd, h1⟩
theorem RelO.uon_done (R : RelO ops U todo done ds listed) {y : Lag} (hy : y ∈ U) {i : Nat} (h : y.on.testBit i = true) : done.testBit i = true := by
  obtain ⟨d, hd, _, h2, _⟩ := R.uds y hy
  exact R.on d hd i (by rw [h2]; exact h)
theorem RelO.uniq (R : RelO ops U todo done ds listed) {y z : Lag} (hy : y ∈ U) (hz : z ∈ U) (h : y.i = z.i) : y = z := by
  have := R.order
  clear R
  induction U with
  | nil => cases hy
  | cons u U ih =>
    obtain ⟨h1, h2⟩ := List.pairwise_cons.1 this
    rcases List.mem_cons.1 hy with e1 | e1
    · rcases List.mem_cons.1 hz with e2 | e2
      · rw [e1, e2]
      · rw [e1] at h; exact absurd h (h1 z e2).2
    · rcases List.mem_cons.1 hz with e2 | e2
      · rw [e2] at h; exact absurd h.symm (h1 y e1).2
      · exact ih e1 e2 h2
/-- What an operation that may come next hangs on lags behind in nothing. -/
theorem RelO.miss (R : RelO ops U todo done ds listed) {need : Nat} (hn : ∀ j, need.testBit j = true → done.testBit j = true ∧ ∀ y ∈ U, y.i ≠ j) {y : Lag} (hy : y ∈ U) : (closure ds need).testBit y.i = false := by
  cases h : (closure ds need).testBit y.i with
  | false => rfl
  | true =>
    rcases (closure_test _ _ _).1 h with h | ⟨d, hd, h1, h2⟩
    · exact absurd rfl ((hn _ h).2 y hy)
    · rcases h2 with h2 | h2
      · exact absurd h2.symm ((hn _ h1).2 y hy)
      · rw [R.sc d hd (hn _ h1).2 y hy] at h2; cases h2
theorem RelO.miss' (R : RelO ops U todo done ds listed) {y : Lag} (hy : y ∈ U) (hn : ∀ j, (needs y.o).testBit j = true → done.testBit j = true ∧ ∀ z ∈ U, z.i ≠ j) {z : Lag} (hz : z ∈ U) : y.on.testBit z.i = false := by
  cases h : y.on.testBit z.i with
  | false => rfl
  | true =>
    rcases R.uon y hy _ h with h | ⟨d, hd, h1, h2⟩
    · exact absurd rfl ((hn _ h).2 z hz)
    · rcases h2 with h2 | h2
      · exact absurd h2.symm ((hn _ h1).2 z hz)
      · rw [R.sc d hd (hn _ h1).2 z hz] at h2; cases h2

/-- Which may come next. -/
theorem RelO.ready (R : RelO ops U todo done ds listed) {i : Nat} : i ∈ Region.ready .any ops listed ↔ ∃ o, ops[i]? = some o ∧ ¬ (done.testBit i = true ∧ ∀ y ∈ U, y.i ≠ i) ∧ ∀ j, (needs o).testBit j = true → done.testBit j = true ∧ ∀ y ∈ U, y.i ≠ j := by
  rw [mem_ready]
  have key : ∀ j, listed.getD j false = true ↔ done.testBit j = true ∧ ∀ y ∈ U, y.i ≠ j := by
    intro j
    by_cases hj : j < ops.size
    · rw [← R.li j hj]
      have : j < listed.size := by rw [R.lsize]; exact hj
      simp [Array.getD_eq_getD_getElem?, this]
    · have : ¬ j < listed.size := by rw [R.lsize]; exact hj
      constructor
      · intro h; simp [Array.getD_eq_getD_getElem?, this] at h
      · intro h; exact absurd (R.lt j h.1) hj
  constructor
  · rintro ⟨h1, o, ho, h2⟩
    have hlt := (Array.getElem?_eq_some_iff.1 ho).1
    refine ⟨o, ho, fun hh => ?_, fun j hj => ?_⟩
    · rw [(R.li i hlt).2 hh] at h1; cases h1
    · obtain ⟨e, he, hb, rfl⟩ := (needs_test o j).1 hj
      exact (key _).1 (h2 e (by simpa using he) hb)
  · rintro ⟨o, ho, h1, h2⟩
    have hlt := (Array.getElem?_eq_some_iff.1 ho).1
    refine ⟨?_, o, ho, fun e he hb => (key _).2 (h2 _ ((needs_test o _).2 ⟨e, by simpa using he, hb, rfl⟩))⟩
    cases hl : listed.getD i true with
    | false => rfl
    | true => exact absurd ((R.li i hlt).1 hl) h1

theorem RelO.push (R : RelO ops U todo done ds listed) {p : Todo} (hp : todo.Perm (p :: r)) (hs : sub p.need done = true) {y : Lag} {d : Done} (y1 : y.i = p.i) (y2 : y.o = p.o) (y3 : y.on = closure ds p.need) (d1 : d.i = p.i) (d2 : d.on = closure ds p.need)
    (d3 : d.dst = p.o.dst) (d4 : d.rds = readsOf ops.toList p.o) (d5 : d.made = y.made) (d6 : ∀ b o, y.sub.get b = some o → b ∈ d.blocks) : RelO ops (y :: U) r (Nat.lor done (bit p.i)) (d :: ds) listed := by
  obtain ⟨t1, t2, t3⟩ := R.td p (hp.mem_iff.2 (by simp))
  have hs := (sub_iff _ _).1 hs
  have hcl : ∀ i, (closure ds p.need).testBit i = true → done.testBit i = true := fun i hi => by
    rcases (closure_test _ _ _).1 hi with h | ⟨d, hd, h1, h2⟩
    · exact hs _ h
    · rcases h2 with h2 | h2
      · rw [← h2]; exact (R.dn _).2 ⟨d, hd, rfl⟩
      · exact R.on d hd _ h2
  have hdone : ∀ i, (Nat.lor done (bit p.i)).testBit i = true ↔ done.testBit i = true ∨ p.i = i := fun i => by rw [lor_test, bit_test]; simp
  have hpn : ∀ z ∈ U, p.i ≠ z.i := fun z hz e => by have := R.udone hz; rw [← e, t3] at this; cases this
  have hnd := (hp.map (·.i)).nodup_iff.1 R.tnd
  simp only [List.map_cons, List.nodup_cons] at hnd
  refine ⟨fun z hz => ?_, fun z hz => ?_, fun z hz i hi => ?_, fun z hz i hi => ?_, List.pairwise_cons.2 ⟨fun z hz => ⟨?_, by rw [y1]; exact hpn z hz⟩, R.order⟩, fun z hz => ?_, fun x hx x' hx' he => ?_, fun i => ?_, fun x hx i hi => ?_, fun x hx hn z hz => ?_, fun x hx => ?_, hnd.2, fun i hi => ?_, fun i hi => ?_, R.lsize, fun i hi => ?_⟩
  · rcases List.mem_cons.1 hz with rfl | hz
    · exact ⟨d, by simp, by rw [d1, y1], by rw [d2, y3], by rw [d3, y2], by rw [d4, y2], d5, d6⟩
    · obtain ⟨x, hx, h⟩ := R.uds z hz; exact ⟨x, by simp [hx], h⟩
  · rcases List.mem_cons.1 hz with rfl | hz
    · rw [y1, y2]; exact t1
    · exact R.uops z hz
  · rcases List.mem_cons.1 hz with rfl | hz
    · rw [y3, t2] at hi
      rw [y2]
      rcases (closure_test _ _ _).1 hi with h | ⟨x, hx, h⟩
      · exact .inl h
      · exact .inr ⟨x, by simp [hx], h⟩
    · rcases R.uon z hz i hi with h | ⟨x, hx, h⟩
      · exact .inl h
      · exact .inr ⟨x, by simp [hx], h⟩
  · rcases List.mem_cons.1 hz with rfl | hz
    · rw [y3, t2]; rw [y2] at hi; exact (closure_test _ _ _).2 (.inl hi)
    · exact R.need z hz i hi
  · cases h : z.on.testBit y.i with
    | false => rfl
    | true => have := R.uon_done hz h; rw [y1, t3] at this; cases this
  · rcases List.mem_cons.1 hz with rfl | hz
    · cases h : z.on.testBit z.i with
      | false => rfl
      | true => rw [y3] at h; have := hcl _ h; rw [y1, t3] at this; cases this
    · exact R.self z hz
  · have hno : ∀ q ∈ ds, q.i ≠ p.i := fun q hq e => by have := (R.dn p.i).2 ⟨q, hq, e⟩; rw [t3] at this; cases this
    rcases List.mem_cons.1 hx with e1 | e1
    · rcases List.mem_cons.1 hx' with e2 | e2
      · rw [e1, e2]
      · rw [e1] at he; exact absurd (he.symm.trans d1) (hno x' e2)
    · rcases List.mem_cons.1 hx' with e2 | e2
      · rw [e2] at he; exact absurd (he.trans d1) (hno x e1)
      · exact R.dsu x e1 x' e2 he
  · rw [hdone, R.dn]
    simp only [List.mem_cons, exists_eq_or_imp, d1]
    exact or_comm
  · rw [hdone]
    rcases List.mem_cons.1 hx with rfl | hx
    · rw [d2] at hi; exact .inl (hcl i hi)
    · exact .inl (R.on x hx i hi)
  · rcases List.mem_cons.1 hx with rfl | hx
    · exact absurd (y1.trans d1.symm) (hn y (by simp))
    · rcases List.mem_cons.1 hz with rfl | hz
      · cases h : x.on.testBit z.i with
        | false => rfl
        | true => have := R.on x hx _ h; rw [y1, t3] at this; cases this
      · exact R.sc x hx (fun q hq => hn q (by simp [hq])) z hz
  · obtain ⟨h1, h2, h3⟩ := R.td x (hp.mem_iff.2 (by simp [hx]))
    refine ⟨h1, h2, ?_⟩
    cases h : (Nat.lor done (bit p.i)).testBit x.i with
    | false => rfl
    | true =>
      rcases (hdone _).1 h with h | h
      · rw [h3] at h; cases h
      · exact absurd (h ▸ List.mem_map_of_mem hx) hnd.1
  · rcases R.cover i hi with h | ⟨x, hx, h⟩
    · exact .inl ((hdone _).2 (.inl h))
    · rcases List.mem_cons.1 (hp.mem_iff.1 hx) with rfl | hx
      · exact .inl ((hdone _).2 (.inr h))
      · exact .inr ⟨x, hx, h⟩
  · rcases (hdone _).1 hi with h | h
    · exact R.lt i h
    · rw [← h]; exact (Array.getElem?_eq_some_iff.1 t1).1
  · rw [R.li i hi, hdone]
    constructor
    · rintro ⟨h1, h2⟩
      refine ⟨.inl h1, fun z hz => ?_⟩
      rcases List.mem_cons.1 hz with rfl | hz
      · rw [y1]; intro e; rw [e, h1] at t3; cases t3
      · exact h2 z hz
    · rintro ⟨h1, h2⟩
      refine ⟨h1.resolve_right (fun e => h2 y (by simp) (y1.trans e)), fun z hz => h2 z (by simp [hz])⟩

def without (U : List Lag) (i : Nat) : List Lag := U.filter fun z => !(Nat.beq z.i i)
theorem mem_without {U : List Lag} {i : Nat} {z : Lag} : z ∈ without U i ↔ z ∈ U ∧ z.i ≠ i := by
  unfold without
  rw [List.mem_filter]
  refine and_congr_right fun _ => ⟨fun h e => by rw [e] at h; simp at h, fun h => ?_⟩
  cases hb : Nat.beq z.i i with
  | false => rfl
  | true => exact absurd (Nat.eq_of_beq_eq_true hb) h
theorem without_length {U : List Lag} {y : Lag} (hy : y ∈ U) : (without U y.i).length < U.length := by
  unfold without
  rw [List.length_filter_lt_length_iff_exists]
  exact ⟨y, hy, by simp⟩

theorem getD_set {listed : Array Bool} {i j : Nat} (hj : j < listed.size) : (listed.setIfInBounds i true).getD j true = if i = j then true else listed.getD j true := by
  rw [Array.getD_eq_getD_getElem?, Array.getD_eq_getD_getElem?, Array.getElem?_setIfInBounds]
  by_cases h : i = j
  · subst h; simp [hj]
  · simp [h]

theorem RelO.exec (R : RelO ops U todo done ds listed) {y : Lag} (hy : y ∈ U) (hn : ∀ j, (needs y.o).testBit j = true → done.testBit j = true ∧ ∀ z ∈ U, z.i ≠ j) : RelO ops (without U y.i) todo done ds (listed.setIfInBounds y.i true) := by
  have sub : ∀ z ∈ without U y.i, z ∈ U := fun z hz => (mem_without.1 hz).1
  refine ⟨fun z hz => R.uds z (sub z hz), fun z hz => R.uops z (sub z hz), fun z hz => R.uon z (sub z hz), fun z hz => R.need z (sub z hz), R.order.filter _, fun z hz => R.self z (sub z hz), R.dsu, R.dn, R.on, fun d hd hx z hz => ?_, R.td, R.tnd, R.cover, R.lt, by simp [R.lsize], fun i hi => ?_⟩
  · by_cases e : ∃ u ∈ U, u.i = d.i
    · obtain ⟨u, hu, he⟩ := e
      have huy : u.i = y.i := by
        by_cases e2 : u.i = y.i
        · exact e2
        · exact absurd he (hx u (mem_without.2 ⟨hu, e2⟩))
      have := R.uniq hu hy huy
      subst this
      obtain ⟨d', hd', h1, h2, _⟩ := R.uds u hu
      have := R.dsu d hd d' hd' (he.symm.trans h1.symm)
      subst this
      rw [h2]
      exact R.miss' hu hn (sub z hz)
    · exact R.sc d hd (fun u hu he => e ⟨u, hu, he⟩) z (sub z hz)
  · rw [getD_set (by rw [R.lsize]; exact hi)]
    by_cases e : y.i = i
    · rw [if_pos e]
      refine ⟨fun _ => ⟨e ▸ R.udone hy, fun z hz he => (mem_without.1 hz).2 (he.trans e.symm)⟩, fun _ => rfl⟩
    · rw [if_neg e, R.li i hi]
      refine and_congr_right fun _ => ⟨fun h z hz => h z (sub z hz), fun h z hz he => ?_⟩
      by_cases e2 : z.i = y.i
      · exact e (e2.symm.trans he)
      · exact h z (mem_without.2 ⟨hz, e2⟩) he

theorem RelO.eff (R : RelO ops U todo done ds listed) {p : Todo} (hp : todo.Perm (p :: r)) (hn : ∀ j, p.need.testBit j = true → done.testBit j = true ∧ ∀ z ∈ U, z.i ≠ j) {d : Done} (d1 : d.i = p.i) (d2 : d.on = closure ds p.need) :
    RelO ops U r (Nat.lor done (bit p.i)) (d :: ds) (listed.setIfInBounds p.i true) := by
  obtain ⟨t1, t2, t3⟩ := R.td p (hp.mem_iff.2 (by simp))
  have hcl : ∀ i, (closure ds p.need).testBit i = true → done.testBit i = true := fun i hi => by
    rcases (closure_test _ _ _).1 hi with h | ⟨d, hd, h1, h2⟩
    · exact (hn _ h).1
    · rcases h2 with h2 | h2
      · rw [← h2]; exact (R.dn _).2 ⟨d, hd, rfl⟩
      · exact R.on d hd _ h2
  have hdone : ∀ i, (Nat.lor done (bit p.i)).testBit i = true ↔ done.testBit i = true ∨ p.i = i := fun i => by rw [lor_test, bit_test]; simp
  have hpn : ∀ z ∈ U, p.i ≠ z.i := fun z hz e => by have := R.udone hz; rw [← e, t3] at this; cases this
  have hnd := (hp.map (·.i)).nodup_iff.1 R.tnd
  simp only [List.map_cons, List.nodup_cons] at hnd
  refine ⟨fun z hz => ?_, R.uops, fun z hz i hi => ?_, R.need, R.order, R.self, fun x hx x' hx' he => ?_, fun i => ?_, fun x hx i hi => ?_, fun x hx hn' z hz => ?_, fun x hx => ?_, hnd.2, fun i hi => ?_, fun i hi => ?_, by simp [R.lsize], fun i hi => ?_⟩
  · obtain ⟨x, hx, h⟩ := R.uds z hz; exact ⟨x, by simp [hx], h⟩
  · rcases R.uon z hz i hi with h | ⟨x, hx, h⟩
    · exact .inl h
    · exact .inr ⟨x, by simp [hx], h⟩
  · have hno : ∀ q ∈ ds, q.i ≠ p.i := fun q hq e => by have := (R.dn p.i).2 ⟨q, hq, e⟩; rw [t3] at this; cases this
    rcases List.mem_cons.1 hx with e1 | e1
    · rcases List.mem_cons.1 hx' with e2 | e2
      · rw [e1, e2]
      · rw [e1] at he; exact absurd (he.symm.trans d1) (hno x' e2)
    · rcases List.mem_cons.1 hx' with e2 | e2
      · rw [e2] at he; exact absurd (he.trans d1) (hno x e1)
      · exact R.dsu x e1 x' e2 he
  · rw [hdone, R.dn]
    simp only [List.mem_cons, exists_eq_or_imp, d1]
    exact or_comm
  · rw [hdone]
    rcases List.mem_cons.1 hx with rfl | hx
    · rw [d2] at hi; exact .inl (hcl i hi)
    · exact .inl (R.on x hx i hi)
  · rcases List.mem_cons.1 hx with rfl | hx
    · rw [d2]; exact R.miss hn hz
    · exact R.sc x hx hn' z hz
  · obtain ⟨h1, h2, h3⟩ := R.td x (hp.mem_iff.2 (by simp [hx]))
    refine ⟨h1, h2, ?_⟩
    cases h : (Nat.lor done (bit p.i)).testBit x.i with
    | false => rfl
    | true =>
      rcases (hdone _).1 h with h | h
      · rw [h3] at h; cases h
      · exact absurd (h ▸ List.mem_map_of_mem hx) hnd.1
  · rcases R.cover i hi with h | ⟨x, hx, h⟩
    · exact .inl ((hdone _).2 (.inl h))
    · rcases List.mem_cons.1 (hp.mem_iff.1 hx) with rfl | hx
      · exact .inl ((hdone _).2 (.inr h))
      · exact .inr ⟨x, hx, h⟩
  · rcases (hdone _).1 hi with h | h
    · exact R.lt i h
    · rw [← h]; exact (Array.getElem?_eq_some_iff.1 t1).1
  · rw [getD_set (by rw [R.lsize]; exact hi), hdone]
    by_cases e : p.i = i
    · rw [if_pos e]
      exact ⟨fun _ => ⟨.inr e, fun z hz he => hpn z hz (e.trans he.symm)⟩, fun _ => rfl⟩
    · rw [if_neg e, R.li i hi]
      exact and_congr_left fun _ => ⟨.inl, fun h => h.resolve_right e⟩

/-- Somebody may come next. -/
theorem RelO.some_ready (R : RelO ops U todo done ds listed) (hne : U ≠ [] ∨ ∃ x ∈ todo, sub x.need done = true) : ∃ i, i ∈ Region.ready .any ops listed := by
  by_cases hU : U = []
  · subst hU
    obtain ⟨x, hx, hs⟩ := hne.resolve_left (by simp)
    obtain ⟨t1, t2, t3⟩ := R.td x hx
    refine ⟨x.i, R.ready.2 ⟨x.o, t1, by simp [t3], fun j hj => ⟨(sub_iff _ _).1 hs j (by rw [t2]; exact hj), by simp⟩⟩⟩
  · obtain ⟨U1, y, rfl⟩ : ∃ U1 y, U = U1 ++ [y] := ⟨U.dropLast, U.getLast hU, (List.dropLast_concat_getLast hU).symm⟩
    have hy : y ∈ U1 ++ [y] := by simp
    have hord := (List.pairwise_append.1 R.order).2.2
    have hno : ∀ z ∈ U1 ++ [y], y.on.testBit z.i = false := fun z hz => by
      rcases List.mem_append.1 hz with hz | hz
      · exact (hord z hz y (by simp)).1
      · simp at hz; subst hz; exact R.self z hy
    refine ⟨y.i, R.ready.2 ⟨y.o, R.uops y hy, fun h => h.2 y hy rfl, fun j hj => ?_⟩⟩
    have := R.need y hy j hj
    refine ⟨R.uon_done hy this, fun z hz e => ?_⟩
    have h2 := hno z hz
    rw [e, this] at h2; cases h2

/-! ### The values' part -/
theorem memN_iff (n : Nat) : ∀ (l : List Nat), memN n l = true ↔ n ∈ l
  | [] => by simp [memN]
  | x :: r => by
    simp only [memN]
    split
    · rename_i h; have := Nat.eq_of_beq_eq_true h; simp [this]
    · rename_i h
      have : n ≠ x := fun e => by rw [e] at h; simp at h
      rw [memN_iff n r]; simp [this]
theorem clear_spec {ds : List Done} {on : Nat} {dst : Option Tmp} {rs : List Tmp} (h : clear ds on dst rs = true) : ∀ d ∈ ds, (∀ t, d.dst = some t → t ∈ rs → on.testBit d.i = true) ∧ (∀ t, dst = some t → t ∈ d.rds → on.testBit d.i = true) ∧ (∀ t, dst = some t → d.dst ≠ some t) := by
  intro d hd
  have h := allB_mem h d hd
  have key : ∀ t, d.dst = some t → t ∈ rs → isDst d.dst rs = true := fun t e hm => by rw [e]; exact (memN_iff t rs).2 hm
  have key2 : ∀ t, dst = some t → t ∈ d.rds → isDst dst d.rds = true := fun t e hm => by rw [e]; exact (memN_iff t d.rds).2 hm
  have ne : ∀ {t u : Tmp}, (!(Nat.beq t u)) = true → t ≠ u := fun h e => by rw [e] at h; simp at h
  cases hb : (isDst d.dst rs || isDst dst d.rds) with
  | true =>
    rw [hb] at h
    have hon : on.testBit d.i = true := by
      split at h
      · simp only [Bool.and_eq_true] at h; exact (sub_bit _ _).1 h.1
      · contradiction
      · exact (sub_bit _ _).1 h
      · contradiction
    refine ⟨fun _ _ _ => hon, fun _ _ _ => hon, fun t e1 e2 => ?_⟩
    rw [e1, e2] at h
    simp only [Bool.and_eq_true] at h
    exact ne h.2 rfl
  | false =>
    rw [hb] at h
    simp only [Bool.or_eq_false_iff] at hb
    refine ⟨fun t e hm => ?_, fun t e hm => ?_, fun t e1 e2 => ?_⟩
    · rw [key t e hm] at hb; cases hb.1
    · rw [key2 t e hm] at hb; cases hb.2
    · rw [e1, e2] at h
      exact ne h rfl

theorem tput_spec {d : Option Tmp} {v : Value} {tm tm1 : Tm} (h : tput d v tm = some tm1) : tm1.nt = tm.nt ∧ (∀ t, d = some t → t < tm.nt ∧ tget tm1 t = v) ∧ ∀ t, d ≠ some t → tget tm1 t = tget tm t := by
  cases d with
  | none => simp [tput] at h; subst h; simp
  | some d =>
    simp only [tput] at h
    split at h
    · rename_i hd
      have hd : d < tm.nt := by simpa [Nat.blt_eq] using hd
      cases h
      refine ⟨rfl, fun t e => ?_, fun t e => ?_⟩
      · cases e; exact ⟨hd, by rw [tget_set]; simp⟩
      · rw [tget_set, if_neg (fun e2 => e (by rw [e2]))]
    · cases h
theorem put_spec (a : Act) (d : Option Tmp) (v : Value) : (a.put d v).tmps.size = a.tmps.size ∧ (∀ t, d = some t → t < a.tmps.size → (a.put d v).tmps.getD t Go.undef = v) ∧ ∀ t, d ≠ some t → (a.put d v).tmps.getD t Go.undef = a.tmps.getD t Go.undef := by
  cases d with
  | none => exact ⟨rfl, fun t e _ => (by cases e), fun _ _ => rfl⟩
  | some d =>
    refine ⟨by simp [Act.put], fun t e ht => ?_, fun t e => ?_⟩
    · cases e
      simp only [Act.put]
      rw [Array.getD_eq_getD_getElem?, Array.getElem?_setIfInBounds_self_of_lt ht]; rfl
    · simp only [Act.put]
      rw [Array.getD_eq_getD_getElem?, Array.getElem?_setIfInBounds_ne (fun e2 => e (by rw [e2])), ← Array.getD_eq_getD_getElem?]

structure RelV (ops : Array Oper) (U : List Lag) (tm : Tm) (J : Inj) (a : Act) : Prop where
  size : tm.nt = a.tmps.size
  dstlt : ∀ y ∈ U, ∀ t, y.o.dst = some t → t < tm.nt
  val : ∀ t, (∀ y ∈ U, y.o.dst ≠ some t) → VR J (tget tm t) (a.tmps.getD t Go.undef)
  valU : ∀ y ∈ U, ∀ t, y.o.dst = some t → VR J (tget y.tm t) (a.tmps.getD t Go.undef)
  res : ∀ y ∈ U, ∀ t, y.o.dst = some t → tget tm t = y.v
  t1 : ∀ y ∈ U, ∀ t ∈ readsOf ops.toList y.o, (∀ z ∈ U, z.o.dst = some t → y.on.testBit z.i = true) → tget y.tm t = tget tm t
  t2 : ∀ y ∈ U, ∀ z ∈ U, ∀ t ∈ readsOf ops.toList y.o, z.o.dst = some t → y.on.testBit z.i = false → tget y.tm t = tget z.tm t
  rr : ∀ y ∈ U, ∀ z ∈ U, ∀ t ∈ readsOf ops.toList y.o, z.o.dst = some t → y.i = z.i ∨ y.on.testBit z.i = true ∨ z.on.testBit y.i = true
  dd : ∀ y ∈ U, ∀ z ∈ U, ∀ t, y.o.dst = some t → z.o.dst = some t → y.i = z.i

variable {tm tm1 : Tm} {J J' : Inj} {a : Act} {v v' : Value}

theorem RelV.reads (V : RelV ops U tm J a) {y : Lag} (hy : y ∈ U) (hm : ∀ z ∈ U, y.on.testBit z.i = false) : ∀ t ∈ readsOf ops.toList y.o, VR J (tget y.tm t) (a.tmps.getD t Go.undef) := by
  intro t ht
  by_cases h : ∃ z ∈ U, z.o.dst = some t
  · obtain ⟨z, hz, hd⟩ := h
    rw [V.t2 y hy z hz t ht hd (hm z hz)]
    exact V.valU z hz t hd
  · have hn : ∀ z ∈ U, z.o.dst ≠ some t := fun z hz e => h ⟨z, hz, e⟩
    rw [V.t1 y hy t ht (fun z hz e => absurd e (hn z hz))]
    exact V.val t hn

theorem RelV.push (R : RelO ops U todo done ds listed) (V : RelV ops U tm J a) {p : Todo} (hpd : done.testBit p.i = false) {y : Lag} (y1 : y.i = p.i) (y2 : y.o = p.o) (y3 : y.on = closure ds p.need) (y4 : y.tm = tm) (y5 : y.v = v) (hself : y.on.testBit y.i = false)
    (hc : clear ds (closure ds p.need) p.o.dst (readsOf ops.toList p.o) = true) (hp : tput p.o.dst v tm = some tm1) : RelV ops (y :: U) tm1 J a := by
  obtain ⟨p1, p2, p3⟩ := tput_spec hp
  have cl : ∀ z ∈ U, (∀ t, z.o.dst = some t → t ∈ readsOf ops.toList y.o → y.on.testBit z.i = true) ∧ (∀ t, y.o.dst = some t → t ∈ readsOf ops.toList z.o → y.on.testBit z.i = true) ∧ (∀ t, y.o.dst = some t → z.o.dst ≠ some t) := by
    intro z hz
    obtain ⟨d, hd, e1, e2, e3, e4, _⟩ := R.uds z hz
    obtain ⟨c1, c2, c3⟩ := clear_spec hc d hd
    rw [y2, y3, ← e1, ← e3, ← e4]
    exact ⟨c1, c2, c3⟩
  have hon : ∀ z ∈ U, z.on.testBit y.i = false := fun z hz => by
    cases h : z.on.testBit y.i with
    | false => rfl
    | true => have := R.uon_done hz h; rw [y1, hpd] at this; cases this
  have hne : ∀ z ∈ U, z.i ≠ y.i := fun z hz e => by have := R.udone hz; rw [e, y1, hpd] at this; cases this
  rw [← y2] at p2 p3
  refine ⟨p1.trans V.size, fun z hz t ht => ?_, fun t ht => ?_, fun z hz t ht => ?_, fun z hz t ht => ?_, fun z hz t ht hx => ?_, fun z hz u hu t ht hd hx => ?_, fun z hz u hu t ht hd => ?_, fun z hz u hu t hd hd' => ?_⟩
  · rcases List.mem_cons.1 hz with rfl | hz
    · rw [p1]; exact (p2 t ht).1
    · rw [p1]; exact V.dstlt z hz t ht
  · rw [p3 t (ht y (by simp))]
    exact V.val t fun z hz => ht z (by simp [hz])
  · rcases List.mem_cons.1 hz with rfl | hz
    · rw [y4]
      exact V.val t fun u hu e => (cl u hu).2.2 t ht e
    · exact V.valU z hz t ht
  · rcases List.mem_cons.1 hz with rfl | hz
    · rw [(p2 t ht).2, y5]
    · rw [p3 t (fun e => (cl z hz).2.2 t e ht)]
      exact V.res z hz t ht
  · rcases List.mem_cons.1 hz with rfl | hz
    · rw [y4]
      refine (p3 t fun e => ?_).symm
      have := hx z (by simp) e
      rw [hself] at this; cases this
    · have hnd : y.o.dst ≠ some t := fun e => by
        have := hx y (by simp) e
        rw [hon z hz] at this; cases this
      rw [p3 t hnd]
      exact V.t1 z hz t ht fun u hu e => hx u (by simp [hu]) e
  · rcases List.mem_cons.1 hz with e1 | hz1
    · rcases List.mem_cons.1 hu with e2 | hu1
      · rw [e1, e2]
      · subst e1
        have := (cl u hu1).1 t hd ht
        rw [hx] at this; cases this
    · rcases List.mem_cons.1 hu with e2 | hu1
      · subst e2
        rw [y4]
        exact V.t1 z hz1 t ht fun x hx e => absurd e ((cl x hx).2.2 t hd)
      · exact V.t2 z hz1 u hu1 t ht hd hx
  · rcases List.mem_cons.1 hz with e1 | hz1
    · rcases List.mem_cons.1 hu with e2 | hu1
      · exact .inl (by rw [e1, e2])
      · subst e1
        exact .inr (.inl ((cl u hu1).1 t hd ht))
    · rcases List.mem_cons.1 hu with e2 | hu1
      · subst e2
        exact .inr (.inr ((cl z hz1).2.1 t hd ht))
      · exact V.rr z hz1 u hu1 t ht hd
  · rcases List.mem_cons.1 hz with e1 | hz1
    · rcases List.mem_cons.1 hu with e2 | hu1
      · rw [e1, e2]
      · subst e1
        exact absurd hd' ((cl u hu1).2.2 t hd)
    · rcases List.mem_cons.1 hu with e2 | hu1
      · subst e2
        exact absurd hd ((cl z hz1).2.2 t hd')
      · exact V.dd z hz1 u hu1 t hd hd'

theorem RelV.exec (R : RelO ops U todo done ds listed) (V : RelV ops U tm J a) {y : Lag} (hy : y ∈ U) (hm : ∀ z ∈ U, y.on.testBit z.i = false) (hJ : J.le J') (hv : VR J' y.v v') : RelV ops (without U y.i) tm J' (a.put y.o.dst v') := by
  have sub : ∀ z ∈ without U y.i, z ∈ U ∧ z.i ≠ y.i := fun z hz => mem_without.1 hz
  obtain ⟨q1, q2, q3⟩ := put_spec a y.o.dst v'
  refine ⟨V.size.trans q1.symm, fun z hz => V.dstlt z (sub z hz).1, fun t ht => ?_, fun z hz t ht => ?_, fun z hz => V.res z (sub z hz).1, fun z hz t ht hx => ?_, fun z hz u hu => V.t2 z (sub z hz).1 u (sub u hu).1, fun z hz u hu => V.rr z (sub z hz).1 u (sub u hu).1, fun z hz u hu => V.dd z (sub z hz).1 u (sub u hu).1⟩
  · by_cases e : y.o.dst = some t
    · rw [q2 t e (by rw [← V.size]; exact V.dstlt y hy t e), V.res y hy t e]
      exact hv
    · rw [q3 t e]
      refine (V.val t fun z hz e2 => ?_).mono hJ
      by_cases e3 : z.i = y.i
      · have := R.uniq hz hy e3; subst this; exact e e2
      · exact ht z (mem_without.2 ⟨hz, e3⟩) e2
  · obtain ⟨hz1, hz2⟩ := sub z hz
    rw [q3 t (fun e => hz2 (V.dd z hz1 y hy t ht e))]
    exact (V.valU z hz1 t ht).mono hJ
  · obtain ⟨hz1, hz2⟩ := sub z hz
    refine V.t1 z hz1 t ht fun u hu e => ?_
    by_cases e3 : u.i = y.i
    · have := R.uniq hu hy e3
      subst this
      rcases V.rr z hz1 u hu t ht e with h | h | h
      · exact absurd h hz2
      · exact h
      · rw [hm z hz1] at h; cases h
    · exact hx u (mem_without.2 ⟨hu, e3⟩) e

theorem RelV.effReads (R : RelO ops U todo done ds listed) (V : RelV ops U tm J a) {p : Todo} (hm : ∀ z ∈ U, (closure ds p.need).testBit z.i = false) (hc : clear ds (closure ds p.need) p.o.dst (readsOf ops.toList p.o) = true) :
    ∀ t ∈ readsOf ops.toList p.o, VR J (tget tm t) (a.tmps.getD t Go.undef) := by
  intro t ht
  refine V.val t fun z hz e => ?_
  obtain ⟨d, hd, e1, e2, e3, e4, _⟩ := R.uds z hz
  have := (clear_spec hc d hd).1 t (e3.trans e) ht
  rw [e1, hm z hz] at this; cases this
theorem RelV.eff (R : RelO ops U todo done ds listed) (V : RelV ops U tm J a) {p : Todo} (hm : ∀ z ∈ U, (closure ds p.need).testBit z.i = false) (hc : clear ds (closure ds p.need) p.o.dst (readsOf ops.toList p.o) = true)
    (hp : tput p.o.dst v tm = some tm1) (hJ : J.le J') (hv : VR J' v v') : RelV ops U tm1 J' (a.put p.o.dst v') := by
  obtain ⟨p1, p2, p3⟩ := tput_spec hp
  obtain ⟨q1, q2, q3⟩ := put_spec a p.o.dst v'
  have cl : ∀ z ∈ U, (∀ t, p.o.dst = some t → t ∉ readsOf ops.toList z.o) ∧ (∀ t, p.o.dst = some t → z.o.dst ≠ some t) := by
    intro z hz
    obtain ⟨d, hd, e1, e2, e3, e4, _⟩ := R.uds z hz
    obtain ⟨c1, c2, c3⟩ := clear_spec hc d hd
    refine ⟨fun t e hr => ?_, fun t e => by rw [← e3]; exact c3 t e⟩
    have := c2 t e (by rw [e4]; exact hr)
    rw [e1, hm z hz] at this; cases this
  refine ⟨p1.trans (V.size.trans q1.symm), fun z hz t ht => by rw [p1]; exact V.dstlt z hz t ht, fun t ht => ?_, fun z hz t ht => ?_, fun z hz t ht => ?_, fun z hz t ht hx => ?_, V.t2, V.rr, V.dd⟩
  · by_cases e : p.o.dst = some t
    · rw [(p2 t e).2, q2 t e (by rw [← V.size]; exact (p2 t e).1)]
      exact hv
    · rw [p3 t e, q3 t e]
      exact (V.val t ht).mono hJ
  · rw [q3 t (fun e => (cl z hz).2 t e ht)]
    exact (V.valU z hz t ht).mono hJ
  · rw [p3 t (fun e => (cl z hz).2 t e ht)]
    exact V.res z hz t ht
  · rw [p3 t (fun e => (cl z hz).1 t e ht)]
    exact V.t1 z hz t ht hx
end
end Go.EV
