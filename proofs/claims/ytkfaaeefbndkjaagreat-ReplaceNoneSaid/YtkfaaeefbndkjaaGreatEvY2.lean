/-
  The evaluator once more: each operation told apart at once, sums on plain numbers; and that it is the same.
-/
import Derived.Test.YtkfaaeefbndkjaaGreatEvZ2
namespace Go.EV
noncomputable section
namespace Fast

/-! ### Numbers -/
def kNum (k : IntKind) : Nat := IntKind.casesOn (motive := fun _ => Nat) k 0 1 2 3 4 5 6 7
def kUns (k : IntKind) : Bool := IntKind.casesOn (motive := fun _ => Bool) k false false false false true true true true
def kMod (k : IntKind) : Nat := IntKind.casesOn (motive := fun _ => Nat) k 256 65536 4294967296 18446744073709551616 256 65536 4294967296 18446744073709551616
def kBits (k : IntKind) : Nat := IntKind.casesOn (motive := fun _ => Nat) k 8 16 32 64 8 16 32 64
theorem keq_eq (k k' : IntKind) : Nat.beq (kNum k) (kNum k') = decide (k = k') := by cases k <;> cases k' <;> rfl
def dWrap (k : IntKind) (n : Int) : Int := Bool.casesOn (motive := fun _ => Int) (kUns k) (k.wrap n) (Int.casesOn (motive := fun _ => Int) n (fun m => .ofNat (Nat.mod m (kMod k))) (fun m => k.wrap (.negSucc m)))
theorem dWrap_eq (k : IntKind) (n : Int) : dWrap k n = k.wrap n := by
  unfold dWrap
  cases k <;> cases n <;> rfl
def qLt (a b : Int) : Bool := Int.casesOn (motive := fun _ => Bool) a (fun m => Int.casesOn (motive := fun _ => Bool) b (fun n => Nat.blt m n) (fun _ => false)) (fun m => Int.casesOn (motive := fun _ => Bool) b (fun _ => true) (fun n => Nat.blt n m))
def qEq (a b : Int) : Bool := Int.casesOn (motive := fun _ => Bool) a (fun m => Int.casesOn (motive := fun _ => Bool) b (fun n => Nat.beq m n) (fun _ => false)) (fun m => Int.casesOn (motive := fun _ => Bool) b (fun _ => false) (fun n => Nat.beq m n))
theorem blt_decide (m n : Nat) : Nat.blt m n = decide (m < n) := by
  cases e : Nat.blt m n
  · exact (decide_eq_false (fun h => by have := Nat.ble_eq_true_of_le h; rw [show Nat.blt m n = Nat.ble (m + 1) n from rfl] at e; rw [e] at this; cases this)).symm
  · exact (decide_eq_true (Nat.le_of_ble_eq_true e)).symm
theorem beq_decide (m n : Nat) : Nat.beq m n = decide (m = n) := by
  by_cases h : m = n
  · subst h; simp
  · rw [decide_eq_false h]; exact T.beqF h
theorem qLt_eq (a b : Int) : qLt a b = decide (a < b) := by
  cases a with
  | ofNat m =>
    cases b with
    | ofNat n => show Nat.blt m n = _; rw [blt_decide, decide_eq_decide]; exact Int.ofNat_lt.symm
    | negSucc n => exact (decide_eq_false (show ¬ ((m : Int) < Int.negSucc n) by omega)).symm
  | negSucc m =>
    cases b with
    | ofNat n => exact (decide_eq_true (show Int.negSucc m < (n : Int) by omega)).symm
    | negSucc n => show Nat.blt n m = _; rw [blt_decide, decide_eq_decide, Int.negSucc_eq, Int.negSucc_eq]; omega
theorem qEq_eq (a b : Int) : qEq a b = (a == b) := by
  rw [show (a == b) = decide (a = b) from rfl]
  cases a with
  | ofNat m =>
    cases b with
    | ofNat n => show Nat.beq m n = _; rw [beq_decide, decide_eq_decide]; exact ⟨fun h => by rw [h], fun h => by cases h; rfl⟩
    | negSucc n => exact (decide_eq_false (show ¬ ((m : Int) = Int.negSucc n) by omega)).symm
  | negSucc m =>
    cases b with
    | ofNat n => exact (decide_eq_false (show ¬ (Int.negSucc m = (n : Int)) by omega)).symm
    | negSucc n => show Nat.beq m n = _; rw [beq_decide, decide_eq_decide]; exact ⟨fun h => by rw [h], fun h => by cases h; rfl⟩
def qShl (k : IntKind) (a : Int) (n : Nat) : Int := Int.casesOn (motive := fun _ => Int) a (fun m => dWrap k (.ofNat (Nat.shiftLeft m (Nat.min n (kBits k))))) (fun m => k.wrap (.negSucc m * 2 ^ (min n k.bits)))
def qShr (k : IntKind) (a : Int) (n : Nat) : Int := Int.casesOn (motive := fun _ => Int) a (fun m => .ofNat (Nat.shiftRight m (Nat.min n (kBits k)))) (fun m => (Int.negSucc m).fdiv (2 ^ (min n k.bits)))
theorem kBits_eq (k : IntKind) : kBits k = k.bits := by cases k <;> rfl
theorem qShl_eq (k : IntKind) (a : Int) (n : Nat) : qShl k a n = k.wrap (a * 2 ^ (min n k.bits)) := by
  cases a with
  | negSucc m => rfl
  | ofNat m =>
    show dWrap k _ = _
    rw [dWrap_eq, kBits_eq, show Nat.shiftLeft m (Nat.min n k.bits) = m <<< (min n k.bits) from rfl, Nat.shiftLeft_eq]
    congr 1
theorem qShr_eq (k : IntKind) (a : Int) (n : Nat) : qShr k a n = a.fdiv (2 ^ (min n k.bits)) := by
  cases a with
  | negSucc m => rfl
  | ofNat m =>
    show Int.ofNat (Nat.shiftRight m (Nat.min n (kBits k))) = _
    rw [kBits_eq, show Nat.shiftRight m (Nat.min n k.bits) = m >>> (min n k.bits) from rfl, Nat.shiftRight_eq_div_pow, show ((2 : Int) ^ (min n k.bits)) = ((2 ^ (min n k.bits) : Nat) : Int) by rw [Int.natCast_pow]; rfl]
    rw [show Int.ofNat m = (m : Int) from rfl, Int.fdiv_eq_ediv_of_nonneg _ (by exact Int.natCast_nonneg _)]
    rfl
/-- Bits of two numbers that are not below 0, of a kind without a sign. -/
def qBit (g : Nat → Nat → Nat) (old : Int → Int → Int) (k : IntKind) (a b : Int) : Int := Bool.casesOn (motive := fun _ => Int) (kUns k) (old a b)
  (Int.casesOn (motive := fun _ => Int) a (fun m => Int.casesOn (motive := fun _ => Int) b (fun n => .ofNat (g (Nat.mod m (kMod k)) (Nat.mod n (kMod k)))) (fun n => old (.ofNat m) (.negSucc n))) (fun m => old (.negSucc m) b))
def oAnd (k : IntKind) (a b : Int) : Int := k.wrap (BitVec.ofInt k.bits a &&& BitVec.ofInt k.bits b).toNat
def oOr (k : IntKind) (a b : Int) : Int := k.wrap (BitVec.ofInt k.bits a ||| BitVec.ofInt k.bits b).toNat
def oXor (k : IntKind) (a b : Int) : Int := k.wrap (BitVec.ofInt k.bits a ^^^ BitVec.ofInt k.bits b).toNat
theorem kMod_pow (k : IntKind) : kMod k = 2 ^ k.bits := by cases k <;> rfl
theorem wrap_nat {k : IntKind} (hk : kUns k = true) {m : Nat} (hm : m < 2 ^ k.bits) : k.wrap (m : Int) = m := by
  cases k <;> first | (cases hk; done) | (have hm' : m < _ := hm; show (m : Int) % _ = m; rw [Int.emod_eq_of_lt (by omega)]; exact Int.ofNat_lt.2 hm')
theorem qBit_eq {g : Nat → Nat → Nat} {old : Int → Int → Int} {k : IntKind} (hg : ∀ m n : Nat, m < 2 ^ k.bits → n < 2 ^ k.bits → g m n < 2 ^ k.bits)
    (ho : ∀ m n : Nat, old (m : Int) (n : Int) = k.wrap ((g (m % 2 ^ k.bits) (n % 2 ^ k.bits) : Nat) : Int)) (a b : Int) : qBit g old k a b = old a b := by
  unfold qBit
  cases hk : kUns k with
  | false => rfl
  | true =>
    cases a with
    | negSucc m => rfl
    | ofNat m =>
      cases b with
      | negSucc n => rfl
      | ofNat n =>
        show Int.ofNat (g (Nat.mod m (kMod k)) (Nat.mod n (kMod k))) = old (m : Int) (n : Int)
        rw [ho, kMod_pow]
        have hp : 0 < 2 ^ k.bits := Nat.pos_of_ne_zero (by cases k <;> simp [IntKind.bits])
        rw [wrap_nat hk (hg _ _ (Nat.mod_lt _ hp) (Nat.mod_lt _ hp))]
        rfl
theorem qAnd_eq (k : IntKind) (a b : Int) : qBit Nat.land (oAnd k) k a b = oAnd k a b := qBit_eq (fun m n h1 h2 => Nat.and_lt_two_pow _ h2) (fun m n => by
  unfold oAnd; rw [BitVec.toNat_and, BitVec.ofInt_natCast, BitVec.ofInt_natCast, BitVec.toNat_ofNat, BitVec.toNat_ofNat]) a b
theorem qOr_eq (k : IntKind) (a b : Int) : qBit Nat.lor (oOr k) k a b = oOr k a b := qBit_eq (fun m n h1 h2 => Nat.or_lt_two_pow h1 h2) (fun m n => by
  unfold oOr; rw [BitVec.toNat_or, BitVec.ofInt_natCast, BitVec.ofInt_natCast, BitVec.toNat_ofNat, BitVec.toNat_ofNat]) a b
theorem qXor_eq (k : IntKind) (a b : Int) : qBit Nat.xor (oXor k) k a b = oXor k a b := qBit_eq (fun m n h1 h2 => Nat.xor_lt_two_pow h1 h2) (fun m n => by
  unfold oXor; rw [BitVec.toNat_xor, BitVec.ofInt_natCast, BitVec.ofInt_natCast, BitVec.toNat_ofNat, BitVec.toNat_ofNat]) a b

/-- Two numbers of one kind. -/
def dKind (k k' : IntKind) (v : Value) : Option Value := Bool.casesOn (motive := fun _ => Option Value) (Nat.beq (kNum k) (kNum k')) none (some v)
def dKindO (k k' : IntKind) (v : Option Value) : Option Value := Bool.casesOn (motive := fun _ => Option Value) (Nat.beq (kNum k) (kNum k')) none v
def dCnt (b : Int) (g : Nat → Value) : Option Value := Int.casesOn (motive := fun _ => Option Value) b (fun n => some (g n)) (fun _ => none)
def dInt (op : BinOp) : IntKind → Int → IntKind → Int → Option Value := BinOp.casesOn (motive := fun _ => IntKind → Int → IntKind → Int → Option Value) op
  (fun k a k' b => dKind k k' (.int k (dWrap k (a + b))))
  (fun k a k' b => dKind k k' (.int k (dWrap k (a - b))))
  (fun k a k' b => dKind k k' (.int k (dWrap k (a * b))))
  (fun k a k' b => dKindO k k' (binI .quo k a b))
  (fun k a k' b => dKindO k k' (binI .rem k a b))
  (fun k a k' b => dKind k k' (.int k (qBit Nat.land (oAnd k) k a b)))
  (fun k a k' b => dKind k k' (.int k (qBit Nat.lor (oOr k) k a b)))
  (fun k a k' b => dKind k k' (.int k (qBit Nat.xor (oXor k) k a b)))
  (fun k a _ b => dCnt b fun n => .int k (qShl k a n))
  (fun k a _ b => dCnt b fun n => .int k (qShr k a n))
  (fun k a k' b => dKindO k k' (binI .andNot k a b))
  (fun k a k' b => dKind k k' (.bool (qEq a b)))
  (fun k a k' b => dKind k k' (.bool (not (qEq a b))))
  (fun k a k' b => dKind k k' (.bool (qLt a b)))
  (fun k a k' b => dKind k k' (.bool (not (qLt b a))))
  (fun k a k' b => dKind k k' (.bool (qLt b a)))
  (fun k a k' b => dKind k k' (.bool (not (qLt a b))))
def vInt (v : Value) : Option (IntKind × Int) := Value.casesOn (motive_1 := fun _ => Option (IntKind × Int)) v (fun _ => none) (fun k n => some (k, n)) (fun _ _ => none) (fun _ _ _ => none) (fun _ => none) (fun _ => none) (fun _ _ _ => none) (fun _ => none) (fun _ => none) (fun _ _ _ => none) none (fun _ _ => none) none (fun _ => none) (fun _ => none)
theorem vInt_some {v : Value} {k : IntKind} {n : Int} (h : vInt v = some (k, n)) : v = .int k n := by
  cases v <;> first | (cases h; done) | (cases h; rfl)
def dBinV (op : BinOp) (c : Ctx) (h : H) (t : Nat) (x y : Value) : Option Value := Option.casesOn (motive := fun _ => Option Value) (vInt x) (binop c h op t x y) fun p => Option.casesOn (motive := fun _ => Option Value) (vInt y) (binop c h op t x y) fun q => dInt op p.1 p.2 q.1 q.2
theorem dKind_eq (k k' : IntKind) (v : Value) : dKind k k' v = match decide (k = k') with | true => some v | false => none := by
  unfold dKind; rw [keq_eq]; cases decide (k = k') <;> rfl
theorem dKindO_eq (k k' : IntKind) (v : Option Value) : dKindO k k' v = match decide (k = k') with | true => v | false => none := by
  unfold dKindO; rw [keq_eq]; cases decide (k = k') <;> rfl
theorem dCnt_eq (b : Int) (g : Nat → Value) (r : Option Value) (hr : ∀ n : Nat, b = n → r = some (g n)) (hn : decide (b < 0) = true → r = none) : dCnt b g = r := by
  cases b with
  | ofNat n => exact (hr n rfl).symm
  | negSucc n => exact (hn (decide_eq_true (Int.negSucc_lt_zero n))).symm
theorem dInt_eq (op : BinOp) (c : Ctx) (h : H) (t : Nat) (k k' : IntKind) (a b : Int) : dInt op k a k' b = binop c h op t (.int k a) (.int k' b) := by
  cases op with
  | shl =>
    refine dCnt_eq b _ _ (fun n hn => ?_) (fun hn => ?_)
    · subst hn
      show binShift .shl k a n = _
      unfold binShift
      rw [decide_eq_false (by omega)]
      show some (Value.int k (k.wrap (a * 2 ^ (min (n : Int).toNat k.bits)))) = _
      rw [qShl_eq]; rfl
    · show binShift .shl k a b = _
      unfold binShift
      rw [hn]
  | shr =>
    refine dCnt_eq b _ _ (fun n hn => ?_) (fun hn => ?_)
    · subst hn
      show binShift .shr k a n = _
      unfold binShift
      rw [decide_eq_false (by omega)]
      show some (Value.int k (a.fdiv (2 ^ (min (n : Int).toNat k.bits)))) = _
      rw [qShr_eq]; rfl
    · show binShift .shr k a b = _
      unfold binShift
      rw [hn]
  | add => show dKind k k' _ = _; rw [dKind_eq, dWrap_eq]; rfl
  | sub => show dKind k k' _ = _; rw [dKind_eq, dWrap_eq]; rfl
  | mul => show dKind k k' _ = _; rw [dKind_eq, dWrap_eq]; rfl
  | quo => show dKindO k k' _ = _; rw [dKindO_eq]; rfl
  | rem => show dKindO k k' _ = _; rw [dKindO_eq]; rfl
  | and => show dKind k k' _ = _; rw [dKind_eq, qAnd_eq]; rfl
  | or => show dKind k k' _ = _; rw [dKind_eq, qOr_eq]; rfl
  | xor => show dKind k k' _ = _; rw [dKind_eq, qXor_eq]; rfl
  | andNot => show dKindO k k' _ = _; rw [dKindO_eq]; rfl
  | eql => show dKind k k' _ = _; rw [dKind_eq, qEq_eq]; rfl
  | neq => show dKind k k' _ = _; rw [dKind_eq, qEq_eq]; rfl
  | lss => show dKind k k' _ = _; rw [dKind_eq, qLt_eq]; rfl
  | gtr => show dKind k k' _ = _; rw [dKind_eq, qLt_eq]; rfl
  | leq =>
    show dKind k k' _ = _
    rw [dKind_eq, qLt_eq]
    have : (!decide (b < a)) = decide (a ≤ b) := by
      by_cases h : b < a
      · rw [decide_eq_true h, decide_eq_false (by omega)]; rfl
      · rw [decide_eq_false h, decide_eq_true (by omega)]; rfl
    rw [this]; rfl
  | geq =>
    show dKind k k' _ = _
    rw [dKind_eq, qLt_eq]
    have : (!decide (a < b)) = decide (b ≤ a) := by
      by_cases h : a < b
      · rw [decide_eq_true h, decide_eq_false (by omega)]; rfl
      · rw [decide_eq_false h, decide_eq_true (by omega)]; rfl
    rw [this]; rfl
theorem dBinV_eq (op : BinOp) (c : Ctx) (h : H) (t : Nat) (x y : Value) : dBinV op c h t x y = binop c h op t x y := by
  unfold dBinV
  cases hx : vInt x with
  | none => rfl
  | some p =>
    cases hy : vInt y with
    | none => rfl
    | some q =>
      obtain ⟨k, a⟩ := p
      obtain ⟨k', b⟩ := q
      rw [vInt_some hx, vInt_some hy]
      exact dInt_eq op c h t k k' a b
def qRes (ty : Nat) (s : St) (o : Option Value) : R Value := Option.casesOn (motive := fun _ => R Value) o (.err (100 + ty)) fun v => .ok v s
def dBin (op : BinOp) (c : Ctx) (s : St) (t ty : Nat) (x y : Value) : R Value := qRes ty s (dBinV op c s.h t x y)
def dBinP (fb : Option (Value × Option Ob × St)) (op : BinOp) (s : St) (x y : Value) : Option (Value × Option Ob × St) := Option.casesOn (motive := fun _ => Option (Value × Option Ob × St)) (vInt x) fb fun p => Option.casesOn (motive := fun _ => Option (Value × Option Ob × St)) (vInt y) fb fun q => Option.casesOn (motive := fun _ => Option (Value × Option Ob × St)) (dInt op p.1 p.2 q.1 q.2) none fun v => some (v, none, bump s)
def vBool (v : Value) : Option Bool := Value.casesOn (motive_1 := fun _ => Option Bool) v (fun b => some b) (fun _ _ => none) (fun _ _ => none) (fun _ _ _ => none) (fun _ => none) (fun _ => none) (fun _ _ _ => none) (fun _ => none) (fun _ => none) (fun _ _ _ => none) none (fun _ _ => none) none (fun _ => none) (fun _ => none)

/-! ### Operands, operations -/
def dOpd (tm : Tm) (x : Operand) : Value := Operand.casesOn (motive := fun _ => Tm → Value) x (fun t tm => Option.casesOn (motive := fun _ => Value) (T.get tm.t t) (.tuple #[]) fun v => v) (fun v _ => v) (fun _ _ => .tuple #[]) (fun f _ => .func (.func f) #[] #[]) tm
theorem dOpd_eq (tm : Tm) (x : Operand) : dOpd tm x = opd tm x := by
  cases x with
  | tmp t => show Option.casesOn (motive := fun _ => Value) (T.get tm.t t) (.tuple #[]) (fun v => v) = tget tm t; unfold tget; cases T.get tm.t t <;> rfl
  | _ => rfl
def oLoad (c : Ctx) (h : H) (t : Nat) (v : Value) : PR := match v, c.tt t with
  | .pointer (some a), some ti => match h.read a.block a.off ti.size with
    | some cs => .pure h (mkv ti.agg cs)
    | none => .bad
  | _, _ => .bad
def oStore (c : Ctx) (h : H) (t : Nat) (p x : Value) : PR := match p, c.tt t with
  | .pointer (some a), some ti => match Nat.beq (cellsOf x).length ti.size with
    | true => match cellsOf x with
      | [] => .bad
      | l => .unit (h.write a.block a.off l)
    | false => .bad
  | _, _ => .bad
def oNil (h : H) (v : Value) : PR := match v with
  | .pointer (some a) => .val (.pointer (some a)) h
  | .func (.func f) a b => .val (.func (.func f) a b) h
  | .func (.yield f) a b => .val (.func (.yield f) a b) h
  | _ => .bad
def oFieldA (c : Ctx) (h : H) (t f : Nat) (v : Value) : PR := match v, structF c t f with
  | .pointer (some a), some (o, fi) => match Nat.beq fi.size 0 with
    | true => .bad
    | false => .val (.pointer (some ⟨a.block, a.off + o, none⟩)) h
  | _, _ => .bad
def oExtract (h : H) (i : Nat) (v : Value) : PR := match v with
  | .tuple vs => match vs.toList[i]? with
    | some v => .val v h
    | none => .bad
  | _ => .bad
def oCall (c : Ctx) (h : H) (tm : Tm) (cl : Call) : PR := match cl.callee with
  | .builtin b => builtin c b cl.argTypes (cl.args.toList.map (opd tm)) h
  | .value f => invoke (opd tm f) (cl.args.toList.map (opd tm)) h
  | .invoke _ _ => .bad
def oAlloc (c : Ctx) (h : H) (e : Nat) : PR := match c.tt e with
  | some ti => .val (.pointer (some ⟨h.next, 0, none⟩)) (h.new (.cells none ti.zero))
  | none => .bad

def dStep (op : Op) : Ctx → Fns → Nat → Tm → St → R Value :=
  Op.casesOn (motive := fun _ => Ctx → Fns → Nat → Tm → St → R Value) op
    (fun x => fun _ _ _ tm s => .ok (dOpd tm x) s) -- move
    (fun x => fun _ _ _ tm s => .ok (dOpd tm x) s) -- assign
    (fun x a b => fun _ _ _ tm s => kPickV tm a b s (dOpd tm x)) -- pick
    (fun e => fun c F ty _ s => kStep F ty s (oAlloc c s.h e)) -- alloc
    (fun u0 u1 => fun c F ty tm s => kStep F ty s (evOp c (opd tm) (.box u0 u1) s.h)) -- box
    (fun u0 u1 => fun c F ty tm s => kStep F ty s (evOp c (opd tm) (.build u0 u1) s.h)) -- build
    (fun u0 u1 u2 => fun c F ty tm s => kStep F ty s (evOp c (opd tm) (.buildSlice u0 u1 u2) s.h)) -- buildSlice
    (fun u0 u1 u2 u3 => fun c F ty tm s => kStep F ty s (evOp c (opd tm) (.insert u0 u1 u2 u3) s.h)) -- insert
    (fun t a => fun c F ty tm s => kStep F ty s (oLoad c s.h t (dOpd tm a))) -- load
    (fun t a x => fun c F ty tm s => kStep F ty s (oStore c s.h t (dOpd tm a) (dOpd tm x))) -- store
    (fun u0 => fun c F ty tm s => kStep F ty s (evOp c (opd tm) (.ready u0) s.h)) -- ready
    (fun u0 => fun c F ty tm s => kStep F ty s (evOp c (opd tm) (.waits u0) s.h)) -- waits
    (fun x => fun _ F ty tm s => kStep F ty s (oNil s.h (dOpd tm x))) -- nilCheck
    (fun op t x y _ => fun c _ ty tm s => dBin op c s t ty (dOpd tm x) (dOpd tm y)) -- binOp
    (fun u0 u1 u2 => fun c F ty tm s => kStep F ty s (evOp c (opd tm) (.unOp u0 u1 u2) s.h)) -- unOp
    (fun a b x => fun c F ty tm s => kStep F ty s (convert c s.h a b (dOpd tm x))) -- convert
    (fun u0 u1 => fun c F ty tm s => kStep F ty s (evOp c (opd tm) (.sliceToArrayPointer u0 u1) s.h)) -- sliceToArrayPointer
    (fun u0 u1 => fun c F ty tm s => kStep F ty s (evOp c (opd tm) (.makeInterface u0 u1) s.h)) -- makeInterface
    (fun u0 u1 u2 => fun c F ty tm s => kStep F ty s (evOp c (opd tm) (.makeFunc u0 u1 u2) s.h)) -- makeFunc
    (fun u0 u1 => fun c F ty tm s => kStep F ty s (evOp c (opd tm) (.makeMap u0 u1) s.h)) -- makeMap
    (fun u0 u1 => fun c F ty tm s => kStep F ty s (evOp c (opd tm) (.makeChan u0 u1) s.h)) -- makeChan
    (fun u0 u1 u2 => fun c F ty tm s => kStep F ty s (evOp c (opd tm) (.makeSlice u0 u1 u2) s.h)) -- makeSlice
    (fun t x lo hi mx => fun c F ty tm s => kStep F ty s (sliceX c s.h t (dOpd tm x) (lo.map (opd tm)) (hi.map (opd tm)) (mx.map (opd tm)))) -- slice
    (fun t x f => fun c F ty tm s => kStep F ty s (oFieldA c s.h t f (dOpd tm x))) -- fieldAddr
    (fun u0 u1 u2 => fun c F ty tm s => kStep F ty s (evOp c (opd tm) (.field u0 u1 u2) s.h)) -- field
    (fun t x i => fun c F ty tm s => kStep F ty s (indexP c s.h t (dOpd tm x) (dOpd tm i))) -- indexAddr
    (fun t x i => fun c F ty tm s => kStep F ty s (indexV c s.h t (dOpd tm x) (dOpd tm i))) -- index
    (fun u0 u1 u2 u3 => fun c F ty tm s => kStep F ty s (evOp c (opd tm) (.lookup u0 u1 u2 u3) s.h)) -- lookup
    (fun u0 u1 u2 u3 => fun c F ty tm s => kStep F ty s (evOp c (opd tm) (.mapUpdate u0 u1 u2 u3) s.h)) -- mapUpdate
    (fun u0 u1 u2 => fun c F ty tm s => kStep F ty s (evOp c (opd tm) (.mapEntry u0 u1 u2) s.h)) -- mapEntry
    (fun u0 u1 u2 u3 => fun c F ty tm s => kStep F ty s (evOp c (opd tm) (.entryStore u0 u1 u2 u3) s.h)) -- entryStore
    (fun u0 u1 => fun c F ty tm s => kStep F ty s (evOp c (opd tm) (.range u0 u1) s.h)) -- range
    (fun u0 u1 => fun c F ty tm s => kStep F ty s (evOp c (opd tm) (.next u0 u1) s.h)) -- next
    (fun u0 => fun c F ty tm s => kStep F ty s (evOp c (opd tm) (.entry u0) s.h)) -- entry
    (fun u0 u1 u2 u3 => fun c F ty tm s => kStep F ty s (evOp c (opd tm) (.typeAssert u0 u1 u2 u3) s.h)) -- typeAssert
    (fun t i => fun _ F ty tm s => kStep F ty s (oExtract s.h i (dOpd tm t))) -- extract
    (fun cl => fun c F ty tm s => kStep F ty s (oCall c s.h tm cl)) -- call
    (fun u0 => fun c F ty tm s => kStep F ty s (evOp c (opd tm) (.go u0) s.h)) -- go
    (fun u0 => fun c F ty tm s => kStep F ty s (evOp c (opd tm) (.defer u0) s.h)) -- defer
    (fun u0 => fun c F ty tm s => kStep F ty s (evOp c (opd tm) (.panic u0) s.h)) -- panic
    (fun u0 u1 => fun c F ty tm s => kStep F ty s (evOp c (opd tm) (.send u0 u1) s.h)) -- send
    (fun u0 u1 u2 => fun c F ty tm s => kStep F ty s (evOp c (opd tm) (.recv u0 u1 u2) s.h)) -- recv
    (fun u0 u1 => fun c F ty tm s => kStep F ty s (evOp c (opd tm) (.select u0 u1) s.h)) -- select
def dPure (op : Op) : Ctx → Tm → Oper → St → Option (Value × Option Ob × St) :=
  Op.casesOn (motive := fun _ => Ctx → Tm → Oper → St → Option (Value × Option Ob × St)) op
    (fun x => fun _ tm _ s => some (dOpd tm x, none, bump s)) -- move
    (fun x => fun _ tm _ s => some (dOpd tm x, none, bump s)) -- assign
    (fun _ _ _ => fun c tm o s => evPure c tm o s) -- pick
    (fun _ => fun c tm o s => evPure c tm o s) -- alloc
    (fun _ _ => fun c tm o s => evPure c tm o s) -- box
    (fun _ _ => fun c tm o s => evPure c tm o s) -- build
    (fun _ _ _ => fun c tm o s => evPure c tm o s) -- buildSlice
    (fun _ _ _ _ => fun c tm o s => evPure c tm o s) -- insert
    (fun _ _ => fun c tm o s => evPure c tm o s) -- load
    (fun _ _ _ => fun c tm o s => evPure c tm o s) -- store
    (fun _ => fun c tm o s => evPure c tm o s) -- ready
    (fun _ => fun c tm o s => evPure c tm o s) -- waits
    (fun _ => fun c tm o s => evPure c tm o s) -- nilCheck
    (fun op _ x y _ => fun c tm o s => dBinP (evPure c tm o s) op s (dOpd tm x) (dOpd tm y)) -- binOp
    (fun _ _ _ => fun c tm o s => evPure c tm o s) -- unOp
    (fun _ _ _ => fun c tm o s => evPure c tm o s) -- convert
    (fun _ _ => fun c tm o s => evPure c tm o s) -- sliceToArrayPointer
    (fun _ _ => fun c tm o s => evPure c tm o s) -- makeInterface
    (fun _ _ _ => fun c tm o s => evPure c tm o s) -- makeFunc
    (fun _ _ => fun c tm o s => evPure c tm o s) -- makeMap
    (fun _ _ => fun c tm o s => evPure c tm o s) -- makeChan
    (fun _ _ _ => fun c tm o s => evPure c tm o s) -- makeSlice
    (fun _ _ _ _ _ => fun c tm o s => evPure c tm o s) -- slice
    (fun _ _ _ => fun c tm o s => evPure c tm o s) -- fieldAddr
    (fun _ _ _ => fun c tm o s => evPure c tm o s) -- field
    (fun _ _ _ => fun c tm o s => evPure c tm o s) -- indexAddr
    (fun _ _ _ => fun c tm o s => evPure c tm o s) -- index
    (fun _ _ _ _ => fun c tm o s => evPure c tm o s) -- lookup
    (fun _ _ _ _ => fun c tm o s => evPure c tm o s) -- mapUpdate
    (fun _ _ _ => fun c tm o s => evPure c tm o s) -- mapEntry
    (fun _ _ _ _ => fun c tm o s => evPure c tm o s) -- entryStore
    (fun _ _ => fun c tm o s => evPure c tm o s) -- range
    (fun _ _ => fun c tm o s => evPure c tm o s) -- next
    (fun _ => fun c tm o s => evPure c tm o s) -- entry
    (fun _ _ _ _ => fun c tm o s => evPure c tm o s) -- typeAssert
    (fun _ _ => fun c tm o s => evPure c tm o s) -- extract
    (fun _ => fun c tm o s => evPure c tm o s) -- call
    (fun _ => fun c tm o s => evPure c tm o s) -- go
    (fun _ => fun c tm o s => evPure c tm o s) -- defer
    (fun _ => fun c tm o s => evPure c tm o s) -- panic
    (fun _ _ => fun c tm o s => evPure c tm o s) -- send
    (fun _ _ _ => fun c tm o s => evPure c tm o s) -- recv
    (fun _ _ => fun c tm o s => evPure c tm o s) -- select
def dEff (op : Op) : Bool :=
  Op.casesOn (motive := fun _ => Bool) op
    (fun _ => false) -- move
    (fun _ => false) -- assign
    (fun _ _ _ => false) -- pick
    (fun _ => false) -- alloc
    (fun _ _ => false) -- box
    (fun _ _ => false) -- build
    (fun _ _ _ => false) -- buildSlice
    (fun _ _ _ _ => true) -- insert
    (fun _ _ => false) -- load
    (fun _ _ _ => true) -- store
    (fun _ => true) -- ready
    (fun _ => true) -- waits
    (fun _ => false) -- nilCheck
    (fun _ _ _ _ _ => false) -- binOp
    (fun _ _ _ => false) -- unOp
    (fun _ _ _ => false) -- convert
    (fun _ _ => false) -- sliceToArrayPointer
    (fun _ _ => false) -- makeInterface
    (fun _ _ _ => false) -- makeFunc
    (fun _ _ => false) -- makeMap
    (fun _ _ => true) -- makeChan
    (fun _ _ _ => false) -- makeSlice
    (fun _ _ _ _ _ => false) -- slice
    (fun _ _ _ => false) -- fieldAddr
    (fun _ _ _ => false) -- field
    (fun _ _ _ => false) -- indexAddr
    (fun _ _ _ => false) -- index
    (fun _ _ _ _ => false) -- lookup
    (fun _ _ _ _ => true) -- mapUpdate
    (fun _ _ _ => true) -- mapEntry
    (fun _ _ _ _ => true) -- entryStore
    (fun _ _ => true) -- range
    (fun _ _ => true) -- next
    (fun _ => true) -- entry
    (fun _ _ _ _ => true) -- typeAssert
    (fun _ _ => false) -- extract
    (fun u0 => eff (.call u0)) -- call
    (fun _ => true) -- go
    (fun _ => true) -- defer
    (fun _ => true) -- panic
    (fun _ _ => true) -- send
    (fun _ _ _ => true) -- recv
    (fun _ _ => true) -- select
theorem dStep_eq (c : Ctx) (F : Fns) (o : Oper) (tm : Tm) (s : St) : dStep o.op c F o.type tm s = stepF c F o tm s := by
  obtain ⟨dst, op, ty, pos, after, guard⟩ := o
  cases op
  case binOp op t x y yt =>
    show qRes ty s (dBinV op c s.h t (dOpd tm x) (dOpd tm y)) = kStep F ty s (.pure s.h (binop c s.h op t (opd tm x) (opd tm y)))
    rw [dBinV_eq, dOpd_eq, dOpd_eq]
    cases binop c s.h op t (opd tm x) (opd tm y) <;> rfl
  all_goals simp only [dStep, dOpd_eq, stepF]
  all_goals rfl
theorem only_next (h : H) (l : List Nat) : (only h l).next = h.next := rfl
theorem dPure_eq (c : Ctx) (tm : Tm) (o : Oper) (s : St) : dPure o.op c tm o s = evPure c tm o s := by
  obtain ⟨dst, op, ty, pos, after, guard⟩ := o
  cases op
  case move x =>
    show some (dOpd tm x, none, bump s) = evPure c tm ⟨dst, .move x, ty, pos, after, guard⟩ s
    rw [dOpd_eq]
    simp only [evPure, evOp, only_next, Nat.beq_refl]
  case assign x =>
    show some (dOpd tm x, none, bump s) = evPure c tm ⟨dst, .assign x, ty, pos, after, guard⟩ s
    rw [dOpd_eq]
    simp only [evPure, evOp, only_next, Nat.beq_refl]
  case binOp op t x y yt =>
    show dBinP _ op s (dOpd tm x) (dOpd tm y) = _
    rw [dOpd_eq, dOpd_eq]
    unfold dBinP
    cases hx : vInt (opd tm x) with
    | none => rfl
    | some p =>
      cases hy : vInt (opd tm y) with
      | none => rfl
      | some q =>
        obtain ⟨k, a⟩ := p
        obtain ⟨k', b⟩ := q
        show Option.casesOn (motive := fun _ => Option (Value × Option Ob × St)) (dInt op k a k' b) none (fun v => some (v, none, bump s)) = _
        rw [dInt_eq op c (only s.h (foot (opd tm) (.binOp op t x y yt))) t]
        simp only [evPure, evOp, vInt_some hx, vInt_some hy]
        cases binop c (only s.h (foot (opd tm) (.binOp op t x y yt))) op t (.int k a) (.int k' b) with
        | none => rfl
        | some v => simp only [PR.pure, only_next, Nat.beq_refl]
  all_goals rfl
theorem dEff_eq (op : Op) : dEff op = eff op := by cases op <;> rfl
def dFind (e : Bool) (done : Nat) : List Todo → Option (Todo × List Todo)
  | [] => none
  | t :: r => match sub t.need done && (dEff t.o.op == e) with
    | true => some (t, r)
    | false => match dFind e done r with
      | some (x, r') => some (x, t :: r')
      | none => none
theorem dFind_eq (e : Bool) (done : Nat) : ∀ l, dFind e done l = findR e done l
  | [] => rfl
  | t :: r => by
    simp only [dFind, findR, dFind_eq e done r, dEff_eq]
    cases sub t.need done <;> cases (eff t.o.op == e) <;> rfl

def dCondB (F : Fns) (a b : Code) (tm : Tm) (s : St) (o : Option Bool) : R (X × Tm) := Option.casesOn (motive := fun _ => R (X × Tm)) o (.err 2) fun v => kCond F a b tm (dec v s)
def dCode (code : Code) : Ctx → Fns → Tm → St → R (X × Tm) := Code.casesOn (motive := fun _ => Ctx → Fns → Tm → St → R (X × Tm)) code
  (fun _ _ tm s => .ok (.normal, tm) s)
  (fun _ ops draw => fun _ F tm s => Bool.casesOn (motive := fun _ => R (X × Tm)) draw (F.ops ops.toList ops.toList tm s) (F.draw ops.toList (prep 0 ops.toList) 0 [] tm s))
  (fun a b => fun _ F tm s => kSeq F b (F.code a tm s))
  (fun x a b => fun _ F tm s => dCondB F a b tm s (vBool (dOpd tm x)))
  (fun id b => fun _ F tm s => kBlock id (F.code b tm s))
  (fun b => fun _ F tm s => kSeq F (.loop b) (F.code b tm s))
  (fun g ps assign body => fun c F tm s => kRange c F tm s (invoke (opd tm g) [.func (.yield s.h.next) #[] #[]] (s.h.new (.loop false none tm ps assign body))))
  (fun id => fun _ _ tm s => .ok (.exit id, tm) s)
  (fun b => fun _ F tm s => kScope (F.code b tm s))
  (fun _ => fun _ _ tm s => .ok (.normal, tm) s)
  (fun _ => fun _ _ _ _ => .err 6)
  (fun _ _ tm s => .ok (.ret, tm) s)
  (fun _ => fun _ _ _ _ => .err 6)
theorem dCondB_eq (F : Fns) (a b : Code) (tm : Tm) (s : St) (v : Value) : dCondB F a b tm s (vBool v) = kCondV F a b tm s v := by cases v <;> rfl
theorem dCode_eq (c : Ctx) (F : Fns) (code : Code) (tm : Tm) (s : St) : dCode code c F tm s = codeF c F code tm s := by
  cases code
  case cond x a b =>
    show dCondB F a b tm s (vBool (dOpd tm x)) = kCondV F a b tm s (opd tm x)
    rw [dCondB_eq, dOpd_eq]
  case region i ops d => cases d <;> rfl
  all_goals rfl
def dOps (F : Fns) (ops r : List Oper) (o : Oper) (tm : Tm) (s : St) : R (X × Tm) := Option.casesOn (motive := fun _ => R (X × Tm)) o.guard (kOps2 F ops r o.dst tm (F.step o tm s)) fun _ => kOps F ops r o tm (wants ops o tm s)
def opsD (F : Fns) (ops : List Oper) (l : List Oper) (tm : Tm) (s : St) : R (X × Tm) := List.casesOn (motive := fun _ => R (X × Tm)) l (.ok (.normal, tm) s) fun o r => dOps F ops r o tm s
theorem opsD_eq (F : Fns) (ops l : List Oper) (tm : Tm) (s : St) : opsD F ops l tm s = opsF F ops l tm s := by
  cases l with
  | nil => rfl
  | cons o r =>
    show Option.casesOn (motive := fun _ => R (X × Tm)) o.guard (kOps2 F ops r o.dst tm (F.step o tm s)) (fun _ => kOps F ops r o tm (wants ops o tm s)) = kOps F ops r o tm (wants ops o tm s)
    cases hg : o.guard with
    | none => unfold wants; rw [hg]; rfl
    | some g => rfl
def dDrawA (c : Ctx) (F : Fns) (ops : List Oper) (r : List Todo) (done : Nat) (x : Todo) (ds : List Done) (tm : Tm) (s' : St) : Bool → R (X × Tm)
  | false => .err 16
  | true => kDrawP F ops r done x ds tm s' (dPure x.o.op c tm x.o s')
def dDrawW (c : Ctx) (F : Fns) (ops : List Oper) (r : List Todo) (done : Nat) (x : Todo) (ds : List Done) (tm : Tm) : Option (Bool × St) → R (X × Tm)
  | none => .err 15
  | some (false, s') => kDrawN F ops r done ⟨x.i, closure ds x.need, x.o.dst, readsOf ops x.o, [], none⟩ ds (bump s') (tput x.o.dst (.tuple #[]) tm)
  | some (true, s') => dDrawA c F ops r done x ds tm s' (apart (foot (opd tm) x.o.op) (looseMade ds (closure ds x.need)))
def dDrawC (c : Ctx) (F : Fns) (ops : List Oper) (r : List Todo) (done : Nat) (x : Todo) (ds : List Done) (tm : Tm) (s : St) : Bool → R (X × Tm)
  | false => .err 24
  | true => dDrawW c F ops r done x ds tm (wants ops x.o tm s)
def dDrawE (F : Fns) (ops : List Oper) (done : Nat) (ds : List Done) (tm : Tm) (s : St) : Option (Todo × List Todo) → R (X × Tm)
  | none => .err 17
  | some (x, r) => kDrawE0 F ops r done x ds tm s (dFind true done r) (clear ds (closure ds x.need) x.o.dst (readsOf ops x.o))
def dDraw (c : Ctx) (F : Fns) (ops : List Oper) (l : List Todo) (done : Nat) (ds : List Done) (tm : Tm) (s : St) : Option (Todo × List Todo) → R (X × Tm)
  | some (x, r) => dDrawC c F ops r done x ds tm s (clear ds (closure ds x.need) x.o.dst (readsOf ops x.o))
  | none => dDrawE F ops done ds tm s (dFind true done l)
def drawD (c : Ctx) (F : Fns) (ops : List Oper) (l : List Todo) (done : Nat) (ds : List Done) (tm : Tm) (s : St) : R (X × Tm) := match l with
  | [] => .ok (.normal, tm) s
  | t :: ts => dDraw c F ops (t :: ts) done ds tm s (dFind false done (t :: ts))
theorem drawD_eq (c : Ctx) (F : Fns) (ops : List Oper) (l : List Todo) (done : Nat) (ds : List Done) (tm : Tm) (s : St) : drawD c F ops l done ds tm s = drawF c F ops l done ds tm s := by
  cases l with
  | nil => rfl
  | cons t ts =>
    show dDraw c F ops (t :: ts) done ds tm s (dFind false done (t :: ts)) = kDraw c F ops (t :: ts) done ds tm s (findR false done (t :: ts))
    rw [dFind_eq]
    cases findR false done (t :: ts) with
    | none =>
      show dDrawE F ops done ds tm s (dFind true done (t :: ts)) = kDrawE F ops done ds tm s (findR true done (t :: ts))
      rw [dFind_eq]
      cases findR true done (t :: ts) with
      | none => rfl
      | some p =>
        obtain ⟨x, r⟩ := p
        show kDrawE0 F ops r done x ds tm s (dFind true done r) _ = kDrawE0 F ops r done x ds tm s (findR true done r) _
        rw [dFind_eq]
    | some p =>
      obtain ⟨x, r⟩ := p
      show dDrawC c F ops r done x ds tm s _ = kDrawC c F ops r done x ds tm s _
      cases clear ds (closure ds x.need) x.o.dst (readsOf ops x.o) with
      | false => rfl
      | true =>
        show dDrawW c F ops r done x ds tm _ = kDrawW c F ops r done x ds tm _
        cases wants ops x.o tm s with
        | none => rfl
        | some q =>
          obtain ⟨b, s'⟩ := q
          cases b with
          | false => rfl
          | true =>
            show dDrawA c F ops r done x ds tm s' _ = kDrawA c F ops r done x ds tm s' _
            cases apart (foot (opd tm) x.o.op) (looseMade ds (closure ds x.need)) with
            | false => rfl
            | true => show kDrawP F ops r done x ds tm s' _ = kDrawP F ops r done x ds tm s' _; rw [dPure_eq]
def stepAllD (c : Ctx) (F : Fns) : Fns := ⟨fun code tm s => dCode code c F tm s, opsD F, fun o tm s => dStep o.op c F o.type tm s, drawD c F, callF c F⟩
theorem stepAllD_eq (c : Ctx) (F : Fns) : stepAllD c F = stepAll c F := by
  have h1 : (fun code tm s => dCode code c F tm s) = codeF c F := by funext code tm s; exact dCode_eq c F code tm s
  have h2 : opsD F = opsF F := by funext ops l tm s; exact opsD_eq F ops l tm s
  have h3 : (fun (o : Oper) tm s => dStep o.op c F o.type tm s) = stepF c F := by funext o tm s; exact dStep_eq c F o tm s
  have h4 : drawD c F = drawF c F := by funext ops l done ds tm s; exact drawD_eq c F ops l done ds tm s
  unfold stepAllD stepAll
  rw [h1, h2, h3, h4]
def evD (c : Ctx) : Nat → Fns
  | 0 => ev0
  | n + 1 => stepAllD c (evD c n)
theorem evD_eq (c : Ctx) : ∀ n, evD c n = ev c n
  | 0 => rfl
  | n + 1 => by
    show stepAllD c (evD c n) = stepAll c (ev c n)
    rw [stepAllD_eq, evD_eq c n]
end Fast
theorem evCall_quick (c : Ctx) (f : Nat) (k : Nat) (args : List Value) (s : St) : evCall c f k args s = (Fast.evD c f).call k args s := by
  rw [Fast.evD_eq]; exact evCall_fast c f k args s
end
end Go.EV
