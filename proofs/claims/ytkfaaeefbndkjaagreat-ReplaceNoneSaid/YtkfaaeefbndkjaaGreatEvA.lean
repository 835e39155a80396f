/-
  An evaluator of Go code, as the model has it, on an abstract heap: deterministic, made to be run by the kernel. This text: the definitions.
-/
import GoSem.Step
namespace Go.EV

/-! ### A table by numbers -/
inductive T (α : Type) where
  | leaf
  | node (v : Option α) (l r : T α)

noncomputable section
namespace T
variable {α : Type}
/-- The entry n: 0 here; an odd one to the left, an even one to the right. -/
def get (t : T α) : Nat → Option α :=
  T.rec (motive := fun _ => Nat → Option α) (fun _ => none)
    (fun v _ _ gl gr n => Bool.rec (motive := fun _ => Option α) (Bool.rec (motive := fun _ => Option α) (gr (Nat.pred (Nat.shiftRight n 1))) (gl (Nat.shiftRight n 1)) (Nat.beq (Nat.land n 1) 1)) v (Nat.beq n 0)) t
/-- A table of one entry. -/
def one : Nat → Nat → Option α → T α
  | 0, _, _ => leaf
  | f + 1, n, x => match Nat.beq n 0 with
    | true => node x leaf leaf
    | false => match Nat.beq (Nat.land n 1) 1 with
      | true => node none (one f (Nat.shiftRight n 1) x) leaf
      | false => node none leaf (one f (Nat.pred (Nat.shiftRight n 1)) x)
def set (t : T α) : Nat → Option α → T α :=
  T.rec (motive := fun _ => Nat → Option α → T α) (fun n x => one (n + 1) n x)
    (fun v l r sl sr n x => Bool.rec (motive := fun _ => T α) (Bool.rec (motive := fun _ => T α) (node v l (sr (Nat.pred (Nat.shiftRight n 1)) x)) (node v (sl (Nat.shiftRight n 1) x) r) (Nat.beq (Nat.land n 1) 1)) (node x l r) (Nat.beq n 0)) t

theorem beqF {a b : Nat} (h : ¬ a = b) : Nat.beq a b = false := by
  cases e : Nat.beq a b
  · rfl
  · exact absurd (Nat.eq_of_beq_eq_true e) h
theorem get_leaf (n : Nat) : (leaf : T α).get n = none := rfl
theorem get_node (v : Option α) (l r : T α) (n : Nat) : (node v l r).get n = if n = 0 then v else if n % 2 = 1 then l.get (n / 2) else r.get (n / 2 - 1) := by
  have h1 : (node v l r).get n = Bool.rec (motive := fun _ => Option α) (Bool.rec (motive := fun _ => Option α) (r.get (Nat.pred (Nat.shiftRight n 1))) (l.get (Nat.shiftRight n 1)) (Nat.beq (Nat.land n 1) 1)) v (Nat.beq n 0) := rfl
  rw [h1]
  have e1 : Nat.shiftRight n 1 = n / 2 := by rw [show Nat.shiftRight n 1 = n >>> 1 from rfl, Nat.shiftRight_eq_div_pow]
  have e2 : Nat.land n 1 = n % 2 := by rw [show Nat.land n 1 = n &&& 1 from rfl, Nat.and_one_is_mod]
  rw [e1, e2]
  by_cases h : n = 0
  · subst h; rfl
  · rw [if_neg h]
    have : Nat.beq n 0 = false := beqF h
    rw [this]
    by_cases h2 : n % 2 = 1
    · rw [if_pos h2, h2]; rfl
    · rw [if_neg h2]
      have : Nat.beq (n % 2) 1 = false := beqF h2
      rw [this]; rfl
theorem set_leaf (n : Nat) (x : Option α) : (leaf : T α).set n x = one (n + 1) n x := rfl
theorem set_node (v : Option α) (l r : T α) (n : Nat) (x : Option α) : (node v l r).set n x = if n = 0 then node x l r else if n % 2 = 1 then node v (l.set (n / 2) x) r else node v l (r.set (n / 2 - 1) x) := by
  have h1 : (node v l r).set n x = Bool.rec (motive := fun _ => T α) (Bool.rec (motive := fun _ => T α) (node v l (r.set (Nat.pred (Nat.shiftRight n 1)) x)) (node v (l.set (Nat.shiftRight n 1) x) r) (Nat.beq (Nat.land n 1) 1)) (node x l r) (Nat.beq n 0) := rfl
  rw [h1]
  have e1 : Nat.shiftRight n 1 = n / 2 := by rw [show Nat.shiftRight n 1 = n >>> 1 from rfl, Nat.shiftRight_eq_div_pow]
  have e2 : Nat.land n 1 = n % 2 := by rw [show Nat.land n 1 = n &&& 1 from rfl, Nat.and_one_is_mod]
  rw [e1, e2]
  by_cases h : n = 0
  · subst h; rfl
  · rw [if_neg h]
    have : Nat.beq n 0 = false := beqF h
    rw [this]
    by_cases h2 : n % 2 = 1
    · rw [if_pos h2, h2]; rfl
    · rw [if_neg h2]
      have : Nat.beq (n % 2) 1 = false := beqF h2
      rw [this]; rfl
theorem one_succ (f n : Nat) (x : Option α) : (one (f + 1) n x : T α) = if n = 0 then node x leaf leaf else if n % 2 = 1 then node none (one f (n / 2) x) leaf else node none leaf (one f (n / 2 - 1) x) := by
  have e1 : Nat.shiftRight n 1 = n / 2 := by rw [show Nat.shiftRight n 1 = n >>> 1 from rfl, Nat.shiftRight_eq_div_pow]
  have e2 : Nat.land n 1 = n % 2 := by rw [show Nat.land n 1 = n &&& 1 from rfl, Nat.and_one_is_mod]
  rw [one, e1, e2]
  by_cases h : n = 0
  · subst h; rfl
  · rw [if_neg h]
    have : Nat.beq n 0 = false := beqF h
    rw [this]
    by_cases h2 : n % 2 = 1
    · rw [if_pos h2, h2]
    · rw [if_neg h2]
      have : Nat.beq (n % 2) 1 = false := beqF h2
      rw [this]; rfl
theorem get_one_same : ∀ (f n : Nat) (x : Option α), n < f → (one f n x : T α).get n = x
  | 0, n, x, h => by omega
  | f + 1, n, x, h => by
    rw [one_succ]
    by_cases h0 : n = 0
    · rw [if_pos h0, get_node, if_pos h0]
    · rw [if_neg h0]
      by_cases h2 : n % 2 = 1
      · rw [if_pos h2, get_node, if_neg h0, if_pos h2]; exact get_one_same f _ x (by omega)
      · rw [if_neg h2, get_node, if_neg h0, if_neg h2]; exact get_one_same f _ x (by omega)
theorem get_one_ne : ∀ (f n m : Nat) (x : Option α), n ≠ m → (one f n x : T α).get m = none
  | 0, n, m, x, h => rfl
  | f + 1, n, m, x, h => by
    rw [one_succ]
    by_cases h0 : n = 0
    · have hm : ¬ m = 0 := by omega
      rw [if_pos h0, get_node, if_neg hm]
      split <;> rfl
    · rw [if_neg h0]
      by_cases h2 : n % 2 = 1
      · rw [if_pos h2, get_node]
        split
        · rfl
        · split
          · exact get_one_ne f _ _ x (by omega)
          · rfl
      · rw [if_neg h2, get_node]
        split
        · rfl
        · split
          · rfl
          · exact get_one_ne f _ _ x (by omega)
theorem get_set_same : ∀ (t : T α) (n : Nat) (x : Option α), (t.set n x).get n = x
  | leaf, n, x => by rw [set_leaf]; exact get_one_same _ _ _ (by omega)
  | node v l r, n, x => by
    rw [set_node]
    by_cases h0 : n = 0
    · rw [if_pos h0, get_node, if_pos h0]
    · rw [if_neg h0]
      by_cases h2 : n % 2 = 1
      · rw [if_pos h2, get_node, if_neg h0, if_pos h2]; exact get_set_same l _ x
      · rw [if_neg h2, get_node, if_neg h0, if_neg h2]; exact get_set_same r _ x
theorem get_set_ne : ∀ (t : T α) {n m : Nat} (x : Option α), n ≠ m → (t.set n x).get m = t.get m
  | leaf, n, m, x, h => by rw [set_leaf]; exact get_one_ne _ _ _ _ h
  | node v l r, n, m, x, h => by
    rw [set_node]
    by_cases h0 : n = 0
    · have hm : ¬ m = 0 := by omega
      rw [if_pos h0, get_node, get_node, if_neg hm, if_neg hm]
    · rw [if_neg h0]
      by_cases h2 : n % 2 = 1
      · rw [if_pos h2, get_node, get_node]
        by_cases hm : m = 0
        · rw [if_pos hm, if_pos hm]
        · rw [if_neg hm, if_neg hm]
          by_cases h3 : m % 2 = 1
          · rw [if_pos h3, if_pos h3]; exact get_set_ne l x (by omega)
          · rw [if_neg h3, if_neg h3]
      · rw [if_neg h2, get_node, get_node]
        by_cases hm : m = 0
        · rw [if_pos hm, if_pos hm]
        · rw [if_neg hm, if_neg hm]
          by_cases h3 : m % 2 = 1
          · rw [if_pos h3, if_pos h3]
          · rw [if_neg h3, if_neg h3]; exact get_set_ne r x (by omega)
end T

/-! ### Types, objects, states -/
/-- What is asked of a type: what it is beneath its name, how many cells, the zero value's cells, is it a struct or an array, how many bytes. -/
structure TI where
  und : TypeDesc
  size : Nat
  zero : List Value
  agg : Bool
  bytes : Nat

structure Tm where
  t : T Value
  nt : Nat

inductive Ob where
  /-- A row of variables; 'some sz': one that append made, of elements of sz cells, with more behind it than is told here. -/
  | cells (vec : Option Nat) (cs : List Value)
  | map (es : List (Value × Value))
  | loop (done : Bool) (pending : Option Code) (tm : Tm) (ps : Array Tmp) (assign body : Code)

/-- 'ro': blocks that are not to be written just now. -/
structure H where
  objs : T Ob
  next : Nat
  ro : List Nat

structure St where
  h : H
  orc : List Nat
  ob : Bool

/-- What a cell is, for '=='. -/
inductive CD where
  | bool | int | string | ptr | map | slice | func

structure Ctx where
  tt : Nat → Option TI
  fns : Nat → Option Func
  /-- The cells of a type whose values are compared, one by one. -/
  fl : Nat → Option (List CD)
  prim : Nat → Option (List Value → H → Option (Value × H))

def tget (tm : Tm) (t : Nat) : Value := match tm.t.get t with
  | some v => v
  | none => .tuple #[]
def tput (d : Option Tmp) (v : Value) (tm : Tm) : Option Tm := match d with
  | none => some tm
  | some d => match Nat.blt d tm.nt with
    | true => some ⟨tm.t.set d (some v), tm.nt⟩
    | false => none

def opd (tm : Tm) : Operand → Value
  | .tmp t => tget tm t
  | .const v => v
  | .global _ => .tuple #[]
  | .func f => .func (.func f) #[] #[]

namespace H
def get (h : H) (b : Nat) : Option Ob := h.objs.get b
def free (b : Nat) : List Nat → Bool
  | [] => true
  | x :: r => match Nat.beq x b with
    | true => false
    | false => free b r
def upd (h : H) (b : Nat) (o : Option Ob) : Option H := match free b h.ro with
  | true => some ⟨h.objs.set b o, h.next, h.ro⟩
  | false => none
def new (h : H) (o : Ob) : H := ⟨h.objs.set h.next (some o), h.next + 1, h.ro⟩
end H

def cellsOf : Value → List Value
  | .agg cs => cs.toList
  | v => [v]
def scalar : Value → Bool
  | .agg _ => false
  | .tuple _ => false
  | _ => true
def allB {α : Type} (f : α → Bool) : List α → Bool
  | [] => true
  | x :: r => match f x with
    | true => allB f r
    | false => false
def takeN : Nat → List Value → Option (List Value)
  | 0, _ => some []
  | _ + 1, [] => none
  | n + 1, x :: r => match takeN n r with
    | some l => some (x :: l)
    | none => none
def dropN : Nat → List Value → Option (List Value)
  | 0, l => some l
  | _ + 1, [] => none
  | n + 1, _ :: r => dropN n r
def subN (o n : Nat) (l : List Value) : Option (List Value) := match dropN o l with
  | some l => takeN n l
  | none => none
/-- vs over what stands at the head. -/
def over : List Value → List Value → Option (List Value)
  | l, [] => some l
  | [], _ :: _ => none
  | _ :: l, v :: vs => match over l vs with
    | some r => some (v :: r)
    | none => none
def splice : Nat → List Value → List Value → Option (List Value)
  | 0, l, vs => over l vs
  | _ + 1, [], _ => none
  | o + 1, x :: l, vs => match splice o l vs with
    | some r => some (x :: r)
    | none => none
def H.read (h : H) (b o n : Nat) : Option (List Value) := match h.get b with
  | some (.cells _ cs) => subN o n cs
  | _ => none
def H.write (h : H) (b o : Nat) (vs : List Value) : Option H := match h.get b with
  | some (.cells vec cs) => match allB scalar vs with
    | true => match splice o cs vs with
      | some cs' => h.upd b (some (.cells vec cs'))
      | none => none
    | false => none
  | _ => none
def mkv (agg : Bool) (cs : List Value) : Option Value := match agg with
  | true => some (.agg ⟨cs⟩)
  | false => match cs with
    | [v] => some v
    | _ => none

/-! ### Equality -/
def cmp1 (h : H) : CD → Value → Value → Option Bool
  | .bool, .bool a, .bool b => some (a == b)
  | .int, .int k a, .int k' b => if k = k' then some (a == b) else none
  | .string, .string a, .string b => some (a == b)
  | .ptr, .pointer none, .pointer none => some true
  | .ptr, .pointer none, .pointer (some _) => some false
  | .ptr, .pointer (some _), .pointer none => some false
  | .ptr, .pointer (some a), .pointer (some b) => match Nat.beq a.block b.block with
    | true => some (Nat.beq a.off b.off)
    | false => match h.get a.block, h.get b.block with
      | some (.cells none _), some (.cells none _) => some false
      | _, _ => none
  | .map, .map none, .map none => some true
  | .map, .map none, .map (some _) => some false
  | .map, .map (some _), .map none => some false
  | .slice, .slice none _ _, .slice none _ _ => some true
  | .slice, .slice none _ _, .slice (some _) _ _ => some false
  | .slice, .slice (some _) _ _, .slice none _ _ => some false
  | .func, .nilFunc, .nilFunc => some true
  | .func, .nilFunc, .func .. => some false
  | .func, .func .., .nilFunc => some false
  | _, _, _ => none
def cmpL (h : H) : List CD → List Value → List Value → Option Bool
  | [], [], [] => some true
  | d :: ds, x :: xs, y :: ys => match cmp1 h d x y, cmpL h ds xs ys with
    | some p, some q => some (p && q)
    | _, _ => none
  | _, _, _ => none

def repL {α : Type} : Nat → List α → List α
  | 0, _ => []
  | n + 1, l => l ++ repL n l


/-! ### The operations -/
def binI (op : BinOp) (k : IntKind) (a b : Int) : Option Value :=
  match op with
  | .add => some (.int k (k.wrap (a + b)))
  | .sub => some (.int k (k.wrap (a - b)))
  | .mul => some (.int k (k.wrap (a * b)))
  | .quo => match decide (b = 0) with
    | true => none
    | false => some (.int k (k.wrap (a.tdiv b)))
  | .rem => match decide (b = 0) with
    | true => none
    | false => some (.int k (a.tmod b))
  | .and => some (.int k (k.wrap (BitVec.ofInt k.bits a &&& BitVec.ofInt k.bits b).toNat))
  | .or => some (.int k (k.wrap (BitVec.ofInt k.bits a ||| BitVec.ofInt k.bits b).toNat))
  | .xor => some (.int k (k.wrap (BitVec.ofInt k.bits a ^^^ BitVec.ofInt k.bits b).toNat))
  | .andNot => some (.int k (k.wrap (BitVec.ofInt k.bits a &&& ~~~ BitVec.ofInt k.bits b).toNat))
  | .eql => some (.bool (a == b))
  | .neq => some (.bool (a != b))
  | .lss => some (.bool (a < b))
  | .leq => some (.bool (a ≤ b))
  | .gtr => some (.bool (a > b))
  | .geq => some (.bool (a ≥ b))
  | _ => none

def binShift (op : BinOp) (k : IntKind) (a b : Int) : Option Value :=
  match decide (b < 0), op with
  | false, .shl => some (.int k (k.wrap (a * 2 ^ (min b.toNat k.bits))))
  | false, .shr => some (.int k (a.fdiv (2 ^ (min b.toNat k.bits))))
  | _, _ => none

def cmpV (h : H) (agg : Bool) (ds : List CD) (x y : Value) : Option Bool := match agg with
  | true => match x, y with
    | .agg a, .agg b => cmpL h ds a.toList b.toList
    | _, _ => none
  | false => match ds with
    | [d] => cmp1 h d x y
    | _ => none
def eqT (c : Ctx) (h : H) (t : Nat) (x y : Value) : Option Bool := match c.fl t, c.tt t with
  | some ds, some ti => cmpV h ti.agg ds x y
  | _, _ => none

def binS (op : BinOp) (a b : ByteArray) : Option Value :=
  match op with
  | .add => match decide (((a.size + b.size : Nat) : Int) > IntKind.i64.max) with
    | true => none
    | false => some (.string (a ++ b))
  | .eql => some (.bool (a.toList == b.toList))
  | .neq => some (.bool (!(a.toList == b.toList)))
  | _ => none

def isShift : BinOp → Bool
  | .shl => true
  | .shr => true
  | _ => false

def binop (c : Ctx) (h : H) (op : BinOp) (t : Nat) (x y : Value) : Option Value :=
  match isShift op, x, y with
  | true, .int k a, .int _ b => binShift op k a b
  | false, .int k a, .int k' b => match decide (k = k') with
    | true => binI op k a b
    | false => none
  | false, .string a, .string b => binS op a b
  | false, x, y => match op, eqT c h t x y with
    | .eql, some r => some (.bool r)
    | .neq, some r => some (.bool (!r))
    | _, _ => none
  | _, _, _ => none

def sliceE (c : Ctx) (t : Nat) : Option TI := match c.tt t with
  | some ti => match ti.und with
    | .slice e => c.tt e
    | _ => none
  | none => none
def arrE (c : Ctx) (t : Nat) : Option (Nat × TI) := match c.tt t with
  | some ti => match ti.und with
    | .array n e => match c.tt e with
      | some ei => some (n, ei)
      | none => none
    | _ => none
  | none => none
def structF (c : Ctx) (t : Nat) (i : Nat) : Option (Nat × TI) := match c.tt t with
  | some ti => match ti.und with
    | .struct fs => match fs[i]? with
      | some f => match c.tt f.type with
        | some fi => some (f.offset, fi)
        | none => none
      | none => none
    | _ => none
  | none => none
/-- Of a map's type: is the key a struct or an array, its cells, the element's type. -/
structure ME where
  agg : Bool
  ds : List CD
  ei : TI
def mapE (c : Ctx) (t : Nat) : Option ME := match c.tt t with
  | some ti => match ti.und with
    | .map k e => match c.fl k, c.tt k, c.tt e with
      | some ds, some ki, some ei => some ⟨ki.agg, ds, ei⟩
      | _, _, _ => none
    | _ => none
  | none => none

def place (o size : Nat) (cs : List Value) (v : Value) : Option (List Value) :=
  let l := cellsOf v
  match Nat.beq l.length size with
  | true => splice o cs l
  | false => none
def fill (pl : Nat → Option (Nat × Nat)) : List (Nat × Value) → List Value → Option (List Value)
  | [], cs => some cs
  | (i, v) :: r, cs => match pl i with
    | some (o, s) => match place o s cs v with
      | some cs' => fill pl r cs'
      | none => none
    | none => none

/-- A bound of a slice expression. -/
def bound (x : Option Value) (d lim : Nat) : Option Nat := match x with
  | none => some d
  | some (.int _ i) => match decide (0 ≤ i ∧ i ≤ lim) with
    | true => some i.toNat
    | false => none
  | _ => none

def bytesV (s : ByteArray) : List Value := s.data.toList.map fun b => .int .u8 b.toNat
/-- What is appended, or copied: how many, and at most so many of their cells. -/
def srcLen : Value → Option Nat
  | .slice _ n _ => some n
  | .string s => some s.size
  | _ => none
def srcCells (h : H) (size n : Nat) : Value → Option (List Value)
  | .slice none _ _ => some []
  | .slice (some a) _ _ => h.read a.block a.off (n * size)
  | .string s => match Nat.beq size 1 with
    | true => some ((bytesV s).take n)
    | false => none
  | _ => none

inductive PR where
  | val (v : Value) (h : H)
  | call (f : Nat) (args : List Value) (h : H)
  | round (l : Nat) (args : List Value) (h : H)
  | bad

def PR.of : Option (Value × H) → PR
  | some (v, h) => .val v h
  | none => .bad
def PR.pure (h : H) : Option Value → PR
  | some v => .val v h
  | none => .bad
def PR.unit : Option H → PR
  | some h => .val (.tuple #[]) h
  | none => .bad

def appendMax : Nat := 1099511627776
def grow (h : H) (size bytes : Nat) (old src : List Value) (need : Nat) : Option (Value × H) :=
  match Nat.ble (need * bytes) appendMax, Nat.ble 1 bytes, Nat.blt 0 size with
  | true, true, true => some (.slice (some ⟨h.next, 0, some 0⟩) need need, h.new (.cells (some size) (old ++ src)))
  | _, _, _ => none
/-- 'append(s, src...)', m elements. Behind a slice with unknown room its row is dead when it grows: what is told of it is the new one's. -/
def append (h : H) (ei : TI) (s : Value) (m : Nat) (src : List Value) : Option (Value × H) := match allB scalar src && Nat.beq src.length (m * ei.size), s with
  | true, .slice base n cap => match Nat.ble (n + m) cap with
    | true => match base with
      | some a => match src with
        | [] => some (.slice base (n + m) cap, h)
        | _ => match h.write a.block (a.off + n * ei.size) src with
          | some h' => some (.slice base (n + m) cap, h')
          | none => none
      | none => match src with
        | [] => some (.slice none (n + m) cap, h)
        | _ => none
    | false => match base with
      | none => match n with
        | 0 => grow h ei.size ei.bytes [] src m
        | _ => none
      | some a => match h.get a.block with
        | some (.cells vec cs) => match subN a.off (n * ei.size) cs with
          | none => none
          | some old => match a.spot with
            | none => grow h ei.size ei.bytes old src (n + m)
            | some _ => match vec, Nat.beq (a.off + cap * ei.size) cs.length, Nat.beq n cap with
              | some sz, true, true => match Nat.beq sz ei.size with
                | true => match h.upd a.block none with
                  | some h' => grow h' ei.size ei.bytes old src (n + m)
                  | none => none
                | false => none
              | _, _, _ => none
        | _ => none
  | _, _ => none

def copyB (h : H) (ei : TI) (d x : Value) : Option (Value × H) := match d, srcLen x with
  | .slice base n _, some m => match srcCells h ei.size (Nat.min m n) x with
    | some src => match base, src with
      | _, [] => some (.int .i64 (Nat.min m n : Nat), h)
      | some a, _ => match h.write a.block a.off src with
        | some h' => some (.int .i64 (Nat.min m n : Nat), h')
        | none => none
      | none, _ => none
    | none => none
  | _, _ => none

def mfind (h : H) (m : ME) (k : Value) : List (Value × Value) → Option (Option Value)
  | [] => some none
  | (k', v) :: r => match cmpV h m.agg m.ds k k' with
    | some true => some (some v)
    | some false => mfind h m k r
    | none => none
def mput (h : H) (m : ME) (k v : Value) : List (Value × Value) → Option (List (Value × Value))
  | [] => some [(k, v)]
  | (k', v') :: r => match cmpV h m.agg m.ds k k' with
    | some true => some ((k, v) :: r)
    | some false => match mput h m k v r with
      | some r' => some ((k', v') :: r')
      | none => none
    | none => none
def mdel (h : H) (m : ME) (k : Value) : List (Value × Value) → Option (List (Value × Value))
  | [] => some []
  | (k', v') :: r => match cmpV h m.agg m.ds k k' with
    | some true => some r
    | some false => match mdel h m k r with
      | some r' => some ((k', v') :: r')
      | none => none
    | none => none

/-- A key of a map: plain data. -/
def plainKey : List CD → Bool
  | [] => true
  | .int :: r => plainKey r
  | .bool :: r => plainKey r
  | .string :: r => plainKey r
  | _ => false
/-- Has a value the form of a key of a type? -/
def keyForm (agg : Bool) (ds : List CD) (v : Value) : Bool := match agg, v with
  | true, .agg a => Nat.beq a.toList.length ds.length
  | false, .int _ _ => true
  | false, .string _ => true
  | false, .bool _ => true
  | _, _ => false

def lenB (c : Ctx) (h : H) (t : Nat) (x : Value) : Option Value := match c.tt t with
  | none => none
  | some ti => match ti.und, x with
    | .string, .string s => some (.int .i64 s.size)
    | .array n _, _ => some (.int .i64 n)
    | .pointer a, _ => match arrE c a with
      | some (n, _) => some (.int .i64 n)
      | none => none
    | .slice _, .slice _ n _ => some (.int .i64 n)
    | .map _ _, .map none => some (.int .i64 0)
    | .map _ _, .map (some m) => match h.get m with
      | some (.map es) => some (.int .i64 es.length)
      | _ => none
    | _, _ => none

def minL : Value → List Value → Option Value
  | x, [] => some x
  | .int k x, .int _ y :: r => minL (.int k (if y < x then y else x)) r
  | _, _ => none
def maxL : Value → List Value → Option Value
  | x, [] => some x
  | .int k x, .int _ y :: r => maxL (.int k (if y > x then y else x)) r
  | _, _ => none

def builtin (c : Ctx) (b : Builtin) (ts : Array Nat) (args : List Value) (h : H) : PR :=
  match b, args with
  | .len, [x] => match ts[0]? with
    | some t => .pure h (lenB c h t x)
    | none => .bad
  | .cap, [.slice s _ k] => match ts[0]? with
    | some t => match sliceE c t, s with
      | some _, none => .val (.int .i64 k) h
      | some _, some a => match a.spot with
        | none => .val (.int .i64 k) h
        | some _ => .bad
      | _, _ => .bad
    | none => .bad
  | .min, x :: r => .pure h (minL x r)
  | .max, x :: r => .pure h (maxL x r)
  | .append, [s, x] => match ts[0]?, ts[1]? with
    | some t, some u => match sliceE c t, c.tt u with
      | some ei, some ui => match ui.und with
        | .int _ => match x with
          | .int _ n => match decide (0 ≤ n ∧ n ≤ 2 ^ 40 ∧ n * ei.bytes ≤ 2 ^ 40) with
            | true => .of (append h ei s n.toNat (repL n.toNat ei.zero))
            | false => .bad
          | _ => .bad
        | _ => match srcLen x with
          | some m => match srcCells h ei.size m x with
            | some src => .of (append h ei s m src)
            | none => .bad
          | none => .bad
      | _, _ => .bad
    | _, _ => .bad
  | .copy, [s, x] => match ts[0]? with
    | some t => match sliceE c t with
      | some ei => .of (copyB h ei s x)
      | none => .bad
    | none => .bad
  | .delete, [m, k] => match ts[0]? with
    | some t => match mapE c t, m with
      | some me, .map (some m) => match plainKey me.ds && keyForm me.agg me.ds k, h.get m with
        | true, some (.map es) => match mdel h me k es with
          | some es' => .unit (h.upd m (some (.map es')))
          | none => .bad
        | _, _ => .bad
      | _, _ => .bad
    | none => .bad
  | _, _ => .bad

def asU8 : Value → Option UInt8
  | .int .u8 n => some (UInt8.ofNat n.toNat)
  | _ => none
def u8s : List Value → Option (List UInt8)
  | [] => some []
  | v :: r => match asU8 v, u8s r with
    | some b, some l => some (b :: l)
    | _, _ => none

def convert (c : Ctx) (h : H) (s t : Nat) (x : Value) : PR := match c.tt s, c.tt t with
  | some si, some ti => match si.und, ti.und, x with
    | _, .int k, .int _ n => .val (.int k (k.wrap n)) h
    | _, .string, .string b => .val (.string b) h
    | .slice e, .string, .slice none _ _ => match c.tt e with
      | some ei => match ei.und with
        | .int .u8 => .val (.string .empty) h
        | _ => .bad
      | none => .bad
    | .slice e, .string, .slice (some a) n _ => match c.tt e with
      | some ei => match ei.und with
        | .int .u8 => match h.read a.block a.off n with
          | some cs => match u8s cs with
            | some l => .val (.string ⟨⟨l⟩⟩) h
            | none => .bad
          | none => .bad
        | _ => .bad
      | none => .bad
    | .string, .slice e, .string b => match c.tt e with
      | some ei => match ei.und with
        | .int .u8 => .val (.slice (some ⟨h.next, 0, some 0⟩) b.size b.size) (h.new (.cells (some 1) (bytesV b)))
        | _ => .bad
      | none => .bad
    | _, _, _ => .bad
  | _, _ => .bad

def makeSlice (c : Ctx) (h : H) (t : Nat) (l k : Value) : PR := match sliceE c t, l, k with
  | some ei, .int _ l, .int _ k => match decide (0 ≤ l ∧ l ≤ k ∧ ei.bytes * k ≤ 2 ^ 40 ∧ k ≤ 2 ^ 40) with
    | true => .val (.slice (some ⟨h.next, 0, none⟩) l.toNat k.toNat) (h.new (.cells none (repL k.toNat ei.zero)))
    | false => .bad
  | _, _, _ => .bad

def sliceX (c : Ctx) (h : H) (t : Nat) (x : Value) (lo hi mx : Option Value) : PR := match c.tt t with
  | none => .bad
  | some ti => match ti.und, x with
    | .array n e, .pointer (some a) => match c.tt e, mx with
      | some ei, none => match bound hi n n with
        | some b => match bound lo 0 b with
          | some l => .val (.slice (some ⟨a.block, a.off + l * ei.size, none⟩) (b - l) (n - l)) h
          | none => .bad
        | none => .bad
      | _, _ => .bad
    | .slice e, .slice s len cap => match c.tt e with
      | none => .bad
      | some ei => match mx.isSome && hi.isNone, bound mx cap cap with
        | true, _ => .bad
        | _, none => .bad
        | false, some m => match bound hi len m with
          | none => .bad
          | some b => match bound lo 0 b with
            | none => .bad
            | some l => match s with
              | none => .val (.slice none (b - l) (m - l)) h
              | some a => .val (.slice (some ⟨a.block, a.off + l * ei.size, match mx with | none => a.spot | some _ => none⟩) (b - l) (m - l)) h
    | .string, .string s => match mx with
      | some _ => .bad
      | none => match bound hi s.size s.size with
        | some b => match bound lo 0 b with
          | some l => .val (.string (s.extract l b)) h
          | none => .bad
        | none => .bad
    | _, _ => .bad

def indexP (c : Ctx) (h : H) (t : Nat) (x i : Value) : PR := match i with
  | .int _ i => match x with
    | .pointer (some a) => match arrE c t with
      | some (n, ei) => match decide (0 ≤ i ∧ i < n) with
        | true => .val (.pointer (some ⟨a.block, a.off + i.toNat * ei.size, none⟩)) h
        | false => .bad
      | none => .bad
    | .slice (some a) n _ => match sliceE c t with
      | some ei => match decide (0 ≤ i ∧ i < n) with
        | true => .val (.pointer (some ⟨a.block, a.off + i.toNat * ei.size, none⟩)) h
        | false => .bad
      | none => .bad
    | _ => .bad
  | _ => .bad

def indexV (c : Ctx) (h : H) (t : Nat) (x i : Value) : PR := match i, x with
  | .int _ i, .agg cs => match arrE c t with
    | some (n, ei) => match decide (0 ≤ i ∧ i < n) with
      | true => match subN (i.toNat * ei.size) ei.size cs.toList with
        | some l => .pure h (mkv ei.agg l)
        | none => .bad
      | false => .bad
    | none => .bad
  | .int _ i, .string s => match c.tt t with
    | some ti => match ti.und with
      | .string => match decide (0 ≤ i) with
        | true => match s[i.toNat]? with
          | some b => .val (.int .u8 b.toNat) h
          | none => .bad
        | false => .bad
      | _ => .bad
    | none => .bad
  | _, _ => .bad

def invoke (fn : Value) (args : List Value) (h : H) : PR := match fn with
  | .func (.func f) first cap => .call f (first.toList ++ args ++ cap.toList) h
  | .func (.yield l) _ _ => .round l args h
  | _ => .bad

def evOp (c : Ctx) (ρ : Operand → Value) (op : Op) (h : H) : PR :=
  match op with
  | .move x => .val (ρ x) h
  | .assign x => .val (ρ x) h
  | .alloc e => match c.tt e with
    | some ti => .val (.pointer (some ⟨h.next, 0, none⟩)) (h.new (.cells none ti.zero))
    | none => .bad
  | .box _ x => .val (.pointer (some ⟨h.next, 0, none⟩)) (h.new (.cells none (cellsOf (ρ x))))
  | .build t ps => match c.tt t with
    | none => .bad
    | some ti => match ti.und with
      | .struct fs => match fill (fun i => match structF c t i with | some (o, fi) => some (o, fi.size) | none => none) (ps.toList.map fun p => (p.1, ρ p.2)) ti.zero with
        | some cs => match allB (fun f => (c.tt f.type).isSome) fs.toList with
          | true => .val (.agg ⟨cs⟩) h
          | false => .bad
        | none => .bad
      | .array _ e => match c.tt e with
        | some ei => match fill (fun i => some (i * ei.size, ei.size)) (ps.toList.map fun p => (p.1, ρ p.2)) ti.zero with
          | some cs => .val (.agg ⟨cs⟩) h
          | none => .bad
        | none => .bad
      | _ => .bad
  | .buildSlice t n ps => match sliceE c t with
    | none => .bad
    | some ei => match fill (fun i => some (i * ei.size, ei.size)) (ps.toList.map fun p => (p.1, ρ p.2)) (repL n ei.zero), Nat.ble (n * ei.size) 16777216 with
      | some cs, true => .val (.slice (some ⟨h.next, 0, none⟩) n n) (h.new (.cells none cs))
      | _, _ => .bad
  | .load t a => match ρ a, c.tt t with
    | .pointer (some a), some ti => match h.read a.block a.off ti.size with
      | some cs => .pure h (mkv ti.agg cs)
      | none => .bad
    | _, _ => .bad
  | .store t a x => match ρ a, c.tt t with
    | .pointer (some a), some ti => match Nat.beq (cellsOf (ρ x)).length ti.size with
      | true => match cellsOf (ρ x) with
        | [] => .bad
        | l => .unit (h.write a.block a.off l)
      | false => .bad
    | _, _ => .bad
  | .nilCheck x => match ρ x with
    | .pointer (some a) => .val (.pointer (some a)) h
    | .func (.func f) a b => .val (.func (.func f) a b) h
    | .func (.yield f) a b => .val (.func (.yield f) a b) h
    | _ => .bad
  | .binOp op t x y _ => .pure h (binop c h op t (ρ x) (ρ y))
  | .unOp .not _ x => match ρ x with
    | .bool b => .val (.bool !b) h
    | _ => .bad
  | .unOp .xor _ x => match ρ x with
    | .int k n => .pure h (binI .xor k (if k.signed then -1 else k.max) n)
    | _ => .bad
  | .unOp .neg _ x => match ρ x with
    | .int k n => .val (.int k (k.wrap (0 - n))) h
    | _ => .bad
  | .convert s t x => convert c h s t (ρ x)
  | .sliceToArrayPointer t x => match arrE c t, ρ x with
    | some (n, _), .slice (some a) l k => match Nat.ble n l, Nat.ble 1 k with
      | true, true => .val (.pointer (some ⟨a.block, a.off, none⟩)) h
      | _, _ => .bad
    | _, _ => .bad
  | .makeFunc (.func f) first cs => .val (.func (.func f) ⟨first.toList.map ρ⟩ ⟨cs.toList.map ρ⟩) h
  | .makeInterface t x => match ρ x, c.tt t with
    | .map m, some ti => match ti.und with
      | .map _ _ => .val (.iface t (.map m)) h
      | _ => .bad
    | _, _ => .bad
  | .typeAssert x _ u false => match ρ x with
    | .iface t (.map m) => match Nat.beq t u, c.tt u with
      | true, some ui => match ui.und with
        | .map _ _ => .val (.map m) h
        | _ => .bad
      | _, _ => .bad
    | _ => .bad
  | .makeMap _ none => .val (.map (some h.next)) (h.new (.map []))
  | .makeSlice t l k => makeSlice c h t (ρ l) (ρ k)
  | .slice t x lo hi mx => sliceX c h t (ρ x) (lo.map ρ) (hi.map ρ) (mx.map ρ)
  | .fieldAddr t x f => match ρ x, structF c t f with
    | .pointer (some a), some (o, fi) => match Nat.beq fi.size 0 with
      | true => .bad
      | false => .val (.pointer (some ⟨a.block, a.off + o, none⟩)) h
    | _, _ => .bad
  | .field t x f => match ρ x, structF c t f with
    | .agg cs, some (o, fi) => match subN o fi.size cs.toList with
      | some l => .pure h (mkv fi.agg l)
      | none => .bad
    | _, _ => .bad
  | .indexAddr t x i => indexP c h t (ρ x) (ρ i)
  | .index t x i => indexV c h t (ρ x) (ρ i)
  | .lookup t x i ok => match mapE c t, ρ x with
    | some me, .map m =>
      match plainKey me.ds && keyForm me.agg me.ds (ρ i), (match m with | none => some [] | some m => match h.get m with | some (.map es) => some es | _ => none) with
      | true, some es => match mfind h me (ρ i) es with
        | some (some v) => .val (match ok with | true => .tuple #[v, .bool true] | false => v) h
        | some none => match mkv me.ei.agg me.ei.zero with
          | some z => .val (match ok with | true => .tuple #[z, .bool false] | false => z) h
          | none => .bad
        | none => .bad
      | _, _ => .bad
    | _, _ => .bad
  | .mapUpdate t m k x => mapStore c ρ h t m k x
  | .insert t m k x => mapStore c ρ h t m k x
  | .extract t i => match ρ t with
    | .tuple vs => match vs.toList[i]? with
      | some v => .val v h
      | none => .bad
    | _ => .bad
  | .call cl => match cl.callee with
    | .builtin b => builtin c b cl.argTypes (cl.args.toList.map ρ) h
    | .value f => invoke (ρ f) (cl.args.toList.map ρ) h
    | .invoke _ _ => .bad
  | _ => .bad
where
  mapStore (c : Ctx) (ρ : Operand → Value) (h : H) (t : Nat) (m k x : Operand) : PR := match mapE c t, ρ m with
    | some me, .map (some m) => match plainKey me.ds && keyForm me.agg me.ds (ρ k), h.get m with
      | true, some (.map es) => match mput h me (ρ k) (ρ x) es with
        | some es' => .unit (h.upd m (some (.map es')))
        | none => .bad
      | _, _ => .bad
    | _, _ => .bad

end
end Go.EV
