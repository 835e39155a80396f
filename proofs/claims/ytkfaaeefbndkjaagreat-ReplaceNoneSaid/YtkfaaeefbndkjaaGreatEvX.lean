/-
  The functions that the model itself answers: sums and differences with a carry.
-/
import Derived.Test.YtkfaaeefbndkjaaGreatEvW
import Derived.Laws.Externs
import Derived.Shelf.Spec.BitsCarry
namespace Go.EV
noncomputable section

def add64P : Prim := fun args h => match args with
  | [.int .u64 x, .int .u64 y, .int .u64 c] => match decide (0 ≤ x ∧ 0 ≤ y ∧ 0 ≤ c ∧ c ≤ 1) with
    | true => some (.tuple #[.int .u64 ((x + y + c) % 18446744073709551616), .int .u64 ((x + y + c) / 18446744073709551616)], h)
    | false => none
  | _ => none
def sub64P : Prim := fun args h => match args with
  | [.int .u64 x, .int .u64 y, .int .u64 c] => match decide (0 ≤ x ∧ 0 ≤ y ∧ 0 ≤ c ∧ c ≤ 1) with
    | true => some (.tuple #[.int .u64 (((x.toNat + 18446744073709551616 - y.toNat - c.toNat) % 18446744073709551616 : Nat) : Int), .int .u64 ((if x.toNat < y.toNat + c.toNat then 1 else 0 : Nat) : Int)], h)
    | false => none
  | _ => none

theorem add64_ok {P : Program} {k : Nat} {fn : Func} (hf : P.funcs[k]? = some fn) (hname : (fn.name == "runtime.NumGoroutine") = false) (hb : fn.body.isNone = true) (hn : Extern.findNext fn = none) (he : Extern.find fn = some add64Entry) :
    PrimOk1 P k add64P := by
  refine PrimOk1.value fun args h v h' hp => ?_
  unfold add64P at hp
  split at hp
  · rename_i x y c
    split at hp
    · rename_i hd
      have hd := of_decide_eq_true hd
      cases hp
      refine ⟨rfl, rfl, rfl, fun w => ?_⟩
      rw [run_callFunc_extern hf hname hb hn he, show ([Value.int .u64 x, .int .u64 y, .int .u64 c].toArray) = #[.int .u64 x, .int .u64 y, .int .u64 c] from rfl, run_add64 x y c hd.1 hd.2.1 hd.2.2.1 hd.2.2.2]
      rfl
    · cases hp
  · cases hp
theorem sub64_ok {P : Program} {k : Nat} {fn : Func} (hf : P.funcs[k]? = some fn) (hname : (fn.name == "runtime.NumGoroutine") = false) (hb : fn.body.isNone = true) (hn : Extern.findNext fn = none) (he : Extern.find fn = some Proofs.sub64Entry) :
    PrimOk1 P k sub64P := by
  refine PrimOk1.value fun args h v h' hp => ?_
  unfold sub64P at hp
  split at hp
  · rename_i x y c
    split at hp
    · rename_i hd
      have hd := of_decide_eq_true hd
      cases hp
      refine ⟨rfl, rfl, rfl, fun w => ?_⟩
      obtain ⟨X, rfl⟩ := Int.eq_ofNat_of_zero_le hd.1
      obtain ⟨Y, rfl⟩ := Int.eq_ofNat_of_zero_le hd.2.1
      obtain ⟨C, rfl⟩ := Int.eq_ofNat_of_zero_le hd.2.2.1
      rw [run_callFunc_extern hf hname hb hn he, show ([Value.int .u64 (X : Int), .int .u64 (Y : Int), .int .u64 (C : Int)].toArray) = #[.int .u64 (X : Int), .int .u64 (Y : Int), .int .u64 (C : Int)] from rfl, Proofs.run_sub64 X Y C (by omega)]
      rfl
    · cases hp
  · cases hp
theorem add64_good : PrimGood1 add64P := .same fun args h v h' hp => by
  unfold add64P at hp
  split at hp
  · split at hp <;> cases hp; rfl
  · cases hp
theorem sub64_good : PrimGood1 sub64P := .same fun args h v h' hp => by
  unfold sub64P at hp
  split at hp
  · split at hp <;> cases hp; rfl
  · cases hp

/-! ### Known answers -/
def eq0 : Value → Value → Bool
  | .bool a, .bool b => a == b
  | .int k a, .int k' b => match decide (k = k') with
    | true => decide (a = b)
    | false => false
  | .pointer none, .pointer none => true
  | .slice none n c, .slice none n' c' => Nat.beq n n' && Nat.beq c c'
  | _, _ => false
def eqL : List Value → List Value → Bool
  | [], [] => true
  | x :: xs, y :: ys => match eq0 x y with
    | true => eqL xs ys
    | false => false
  | _, _ => false
def eqV : Value → Value → Bool
  | .agg a, .agg b => eqL a.toList b.toList
  | x, y => eq0 x y
def eqVs : List Value → List Value → Bool
  | [], [] => true
  | x :: xs, y :: ys => match eqV x y with
    | true => eqVs xs ys
    | false => false
  | _, _ => false
theorem eq0_eq {x y : Value} (h : eq0 x y = true) : x = y := by
  unfold eq0 at h
  split at h
  · rw [eq_of_beq h]
  · split at h
    · rename_i hk
      rw [of_decide_eq_true hk, of_decide_eq_true h]
    · cases h
  · rfl
  · rw [Bool.and_eq_true] at h
    rw [Nat.eq_of_beq_eq_true h.1, Nat.eq_of_beq_eq_true h.2]
  · cases h
theorem eqL_eq : ∀ {l m : List Value}, eqL l m = true → l = m
  | [], [], _ => rfl
  | x :: xs, y :: ys, h => by
    simp only [eqL] at h
    split at h
    · rename_i hx; rw [eq0_eq hx, eqL_eq h]
    · cases h
  | [], y :: ys, h => by simp [eqL] at h
  | x :: xs, [], h => by simp [eqL] at h
theorem eqV_eq {x y : Value} (h : eqV x y = true) : x = y := by
  unfold eqV at h
  split at h
  · rename_i a b
    have := eqL_eq h
    rw [Array.toList_inj] at this
    rw [this]
  · exact eq0_eq h
theorem eqVs_eq : ∀ {l m : List Value}, eqVs l m = true → l = m
  | [], [], _ => rfl
  | x :: xs, y :: ys, h => by
    simp only [eqVs] at h
    split at h
    · rename_i hx; rw [eqV_eq hx, eqVs_eq h]
    · cases h
  | [], y :: ys, h => by simp [eqVs] at h
  | x :: xs, [], h => by simp [eqVs] at h

def memoP (xs : List Value) (v : Value) : Prim := fun args h => match eqVs args xs with
  | true => some (v, h)
  | false => none
theorem memoP_good (xs : List Value) (v : Value) : PrimGood1 (memoP xs v) := .same fun args h v h' hp => by
  unfold memoP at hp
  split at hp <;> cases hp; rfl
def okAs (r : R Value) (v : Value) : Prop := ∃ s', r = .ok v s' ∧ s'.ob = true
theorem memoP_ok {P : Program} {c : Ctx} {k : Nat} (hS : ∀ f, SCall P c f) (xs : List Value) (v : Value) (f : Nat) (hv : pureR v = true) (ha : allB pureV xs = true) (hr : okAs (evCall c f k xs ⟨H0, [], true⟩) v) : PrimOk1 P k (memoP xs v) := by
  refine PrimOk1.plain hS fun args h v' h' hp => ?_
  unfold memoP at hp
  split at hp
  · rename_i he
    cases hp
    have := eqVs_eq he
    subst this
    obtain ⟨s', h1, h2⟩ := hr
    exact ⟨rfl, hv, ha, f, s', h1, h2⟩
  · cases hp

def eqO : Option Nat → Option Nat → Bool
  | none, none => true
  | some a, some b => Nat.beq a b
  | _, _ => false
theorem eqO_eq {a b : Option Nat} (h : eqO a b = true) : a = b := by
  unfold eqO at h
  split at h
  · rfl
  · rw [Nat.eq_of_beq_eq_true h]
  · cases h
/-- A known answer at a slice over a whole block that append made. -/
def memoS (cs : List Value) (v : Value) : Prim := fun args h => match args with
  | [.slice (some a) n cap] => match Nat.beq a.off 0, eqO a.spot (some 0), Nat.beq n cs.length, Nat.beq cap cs.length, h.get a.block with
    | true, true, true, true, some (.cells vec cs') => match eqO vec (some 1), eqL cs' cs with
      | true, true => some (v, h)
      | _, _ => none
    | _, _, _, _, _ => none
  | _ => none
theorem memoS_good (cs : List Value) (v : Value) : PrimGood1 (memoS cs v) := .same fun args h v h' hp => by
  unfold memoS at hp
  repeat' split at hp
  all_goals first | (cases hp; rfl) | cases hp
def okAs1 (r : R Value) (v : Value) (o : Ob) : Prop := ∃ s', r = .ok v s' ∧ s'.ob = true ∧ s'.h.get 0 = some o
theorem memoS_ok {P : Program} {c : Ctx} {k : Nat} (hS : ∀ f, SCall P c f) (cs : List Value) (v : Value) (f : Nat) (hv : pureR v = true) (ha : allB pure0 cs = true)
    (hr : okAs1 (evCall c f k [.slice (some ⟨0, 0, some 0⟩) cs.length cs.length] ⟨H1 (.cells (some 1) cs), [], true⟩) v (.cells (some 1) cs)) : PrimOk1 P k (memoS cs v) := by
  refine PrimOk1.slice hS fun args h v' h' hp => ?_
  unfold memoS at hp
  split at hp
  · rename_i a n cap
    split at hp
    · rename_i vec cs' h1 h2 h3 h4 hg
      split at hp
      · rename_i h5 h6
        cases hp
        have e1 := Nat.eq_of_beq_eq_true h1
        have e2 := eqO_eq h2
        have e3 := Nat.eq_of_beq_eq_true h3
        have e4 := Nat.eq_of_beq_eq_true h4
        have e5 := eqO_eq h5
        have e6 := eqL_eq h6
        obtain ⟨b, off, spot⟩ := a
        simp only at e1 e2 hg
        subst e1; subst e2; subst e3; subst e4; subst e5; subst e6
        obtain ⟨s', r1, r2, r3⟩ := hr
        exact ⟨rfl, hv, b, 0, some 0, _, _, some 1, cs', rfl, hg, ha, f, s', r1, r2, r3⟩
      · cases hp
    · cases hp
  · cases hp
end
end Go.EV
namespace Go.EV
noncomputable section
def eqR : Value → Value → Bool
  | .tuple a, .tuple b => eqVs a.toList b.toList
  | x, y => eqV x y
theorem eqR_eq {x y : Value} (h : eqR x y = true) : x = y := by
  unfold eqR at h
  split at h
  · rename_i a b
    have := eqVs_eq h
    rw [Array.toList_inj] at this
    rw [this]
  · exact eqV_eq h
def chk (r : R Value) (v : Value) : Bool := match r with
  | .ok v' s => match eqR v' v with
    | true => s.ob
    | false => false
  | .err _ => false
theorem chk_ok {r : R Value} {v : Value} (h : chk r v = true) : okAs r v := by
  unfold chk at h
  split at h
  · rename_i v' s
    split at h
    · rename_i e
      exact ⟨s, by rw [eqR_eq e], h⟩
    · cases h
  · cases h
def chk1 (r : R Value) (v : Value) (cs : List Value) : Bool := match r with
  | .ok v' s => match eqR v' v, s.ob, s.h.get 0 with
    | true, true, some (.cells vec cs') => match eqO vec (some 1) with
      | true => eqL cs' cs
      | false => false
    | _, _, _ => false
  | .err _ => false
theorem chk1_ok {r : R Value} {v : Value} {cs : List Value} (h : chk1 r v cs = true) : okAs1 r v (.cells (some 1) cs) := by
  unfold chk1 at h
  split at h
  · rename_i v' s
    split at h
    · rename_i vec cs' e1 e2 e3
      split at h
      · rename_i e4
        exact ⟨s, by rw [eqR_eq e1], e2, by rw [e3, eqO_eq e4, eqL_eq h]⟩
      · cases h
    · cases h
  · cases h
end
end Go.EV
