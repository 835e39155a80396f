/-
  Tables by numbers, shown right entry by entry.
-/
import Derived.Test.YtkfaaeefbndkjaaGreatEvV
import Derived.KernelRfl
namespace Go.EV

/-- What holds of each entry of a table, the entry n of it standing for the number a * n + b. -/
def T.AllF {α : Type} (p : Nat → α → Prop) : T α → Nat → Nat → Prop
  | .leaf, _, _ => True
  | .node v l r, a, b => (match v with | none => True | some x => p b x) ∧ T.AllF p l (2 * a) (a + b) ∧ T.AllF p r (2 * a) (2 * a + b)
theorem T.AllF.get {α : Type} {p : Nat → α → Prop} : ∀ {t : T α} {a b n : Nat} {x : α}, t.AllF p a b → t.get n = some x → p (a * n + b) x
  | .leaf, a, b, n, x, _, h => by rw [T.get_leaf] at h; cases h
  | .node v l r, a, b, n, x, h, hx => by
    obtain ⟨h1, h2, h3⟩ := h
    rw [T.get_node] at hx
    split at hx
    · rename_i e; subst e; subst hx; simpa using h1
    · split at hx
      · rename_i e0 e
        have := T.AllF.get h2 hx
        rwa [show a * n + b = 2 * a * (n / 2) + (a + b) by
          have h4 : a * n = a * (2 * (n / 2) + 1) := by rw [show 2 * (n / 2) + 1 = n by omega]
          rw [h4, Nat.mul_add, ← Nat.mul_assoc, Nat.mul_comm a 2]; omega]
      · rename_i e0 e
        have := T.AllF.get h3 hx
        rwa [show a * n + b = 2 * a * (n / 2 - 1) + (2 * a + b) by
          have h4 : a * n = a * (2 * (n / 2 - 1) + 2) := by rw [show 2 * (n / 2 - 1) + 2 = n by omega]
          rw [h4, Nat.mul_add, ← Nat.mul_assoc, Nat.mul_comm a 2]; omega]

def okF (fn : Func) : Bool := match fn.body with
  | some b => okC b
  | none => true
theorem FnOk.of {P : Program} {k : Nat} {fn : Func} (h1 : P.funcs[k]? = some fn) (h2 : (fn.name == "runtime.NumGoroutine") = false) (h3 : okF fn = true) : FnOk P k fn :=
  ⟨h1, h2, fun b hb => by unfold okF at h3; rw [hb] at h3; exact h3⟩
def zc : Option Value → List Value
  | some z => cellsOf z
  | none => []
theorem TIok.of {P : Program} {t : TypeId} {ti : TI} {i : TypeInfo} (h : P.info? t = some i) (h1 : i.size = ti.size) (h2 : i.bytes = ti.bytes) (h3 : i.zero = mkv ti.agg ti.zero) (h4 : i.zero.isSome = true)
    (h5 : P.underlying t = some ti.und) (h6 : aggB P t = ti.agg) (h7 : allB pure0 ti.zero = true) (h8 : ti.zero.length = ti.size) : TIok P t ti :=
  ⟨⟨i, h, h1, h2, h3, h4⟩, h5, h6.symm, h7, h8⟩
theorem FLok.of {P : Program} {t : TypeId} {ds : List CD} (h : flatF P 100 t = some ds) (h2 : P.eqGuardType P.depth t = false) : FLok P t ds := ⟨⟨100, Nat.le_refl _, h⟩, h2⟩
end Go.EV
