/-
  The evaluator: code, regions whose order is drawn, calls, ranges over functions.
-/
import Derived.Test.YtkfaaeefbndkjaaGreatEvA
namespace Go.EV
noncomputable section

inductive X where
  | normal
  | exit (id : Nat)
  | goto (l : Nat)
  | ret

inductive R (α : Type) where
  | ok (a : α) (s : St)
  | err (n : Nat)

/-- A decision: by the value itself; or, told by an oracle, with the duty to show it. -/
def dec (b : Bool) (s : St) : Bool × St := match s.orc with
  | [] => (b, s)
  | 0 :: r => (b, ⟨s.h, r, s.ob⟩)
  | 1 :: r => (true, ⟨s.h, r, s.ob && b⟩)
  | _ :: r => (false, ⟨s.h, r, s.ob && !b⟩)

def dstAt (ops : List Oper) (j : Nat) : Option Tmp := match ops[j]? with
  | some o => o.dst
  | none => none
def gval (ops : List Oper) (tm : Tm) (j : Nat) : Option Bool := match dstAt ops j with
  | some d => match tget tm d with
    | .bool b => some b
    | _ => none
  | none => none
/-- Is an operation carried out? -/
def wants (ops : List Oper) (o : Oper) (tm : Tm) (s : St) : Option (Bool × St) := match o.guard with
  | none => some (true, s)
  | some (j, w) => match gval ops tm j with
    | some b => match dec b s with
      | (b', s') => some (b' == w, s')
    | none => none

def eff : Op → Bool
  | .move _ => false
  | .assign _ => false
  | .pick _ _ _ => false
  | .alloc _ => false
  | .box _ _ => false
  | .build _ _ => false
  | .buildSlice _ _ _ => false
  | .load _ _ => false
  | .nilCheck _ => false
  | .binOp _ _ _ _ _ => false
  | .unOp _ _ _ => false
  | .convert _ _ _ => false
  | .sliceToArrayPointer _ _ => false
  | .makeFunc _ _ _ => false
  | .makeInterface _ _ => false
  | .makeMap _ _ => false
  | .makeSlice _ _ _ => false
  | .slice _ _ _ _ _ => false
  | .fieldAddr _ _ _ => false
  | .field _ _ _ => false
  | .indexAddr _ _ _ => false
  | .index _ _ _ => false
  | .lookup _ _ _ _ => false
  | .extract _ _ => false
  | .call cl => match cl.callee with
    | .builtin .len => false
    | .builtin .min => false
    | .builtin .max => false
    | _ => true
  | _ => true

/-- The operands of an operation. -/
def opsOf : Op → List Operand
  | .move x => [x]
  | .assign x => [x]
  | .pick x a b => [x, a, b]
  | .box _ x => [x]
  | .build _ ps => ps.toList.map (·.2)
  | .buildSlice _ _ ps => ps.toList.map (·.2)
  | .load _ a => [a]
  | .store _ a x => [a, x]
  | .nilCheck x => [x]
  | .binOp _ _ x y _ => [x, y]
  | .unOp _ _ x => [x]
  | .convert _ _ x => [x]
  | .sliceToArrayPointer _ x => [x]
  | .makeInterface _ x => [x]
  | .makeFunc _ f c => f.toList ++ c.toList
  | .makeSlice _ l k => [l, k]
  | .slice _ x lo hi mx => x :: (lo.toList ++ hi.toList ++ mx.toList)
  | .fieldAddr _ x _ => [x]
  | .field _ x _ => [x]
  | .indexAddr _ x i => [x, i]
  | .index _ x i => [x, i]
  | .lookup _ x i _ => [x, i]
  | .mapUpdate _ m k x => [m, k, x]
  | .insert _ m k x => [m, k, x]
  | .typeAssert x _ _ _ => [x]
  | .extract t _ => [t]
  | .call cl => (match cl.callee with | .value f => [f] | _ => []) ++ cl.args.toList
  | _ => []

def tmpsOf : List Operand → List Tmp
  | [] => []
  | .tmp t :: r => t :: tmpsOf r
  | _ :: r => tmpsOf r
/-- The temporaries that an operation looks at. -/
def readsOf (ops : List Oper) (o : Oper) : List Tmp := match o.guard with
  | none => tmpsOf (opsOf o.op)
  | some (j, _) => match dstAt ops j with
    | some d => d :: tmpsOf (opsOf o.op)
    | none => tmpsOf (opsOf o.op)
def memN (n : Nat) : List Nat → Bool
  | [] => false
  | x :: r => match Nat.beq x n with
    | true => true
    | false => memN n r
def isDst (d : Option Tmp) (l : List Tmp) : Bool := match d with
  | none => false
  | some t => memN t l

/-- The blocks that an operation without effect looks at. -/
def foot (ρ : Operand → Value) (op : Op) : List Nat := match op with
  | .load _ a => match ρ a with
    | .pointer (some a) => [a.block]
    | _ => []
  | .lookup _ m _ _ => match ρ m with
    | .map (some b) => [b]
    | _ => []
  | .binOp _ _ x y _ => match ρ x, ρ y with
    | .pointer (some a), .pointer (some b) => [a.block, b.block]
    | _, _ => []
  | .convert _ _ x => match ρ x with
    | .slice (some a) _ _ => [a.block]
    | _ => []
  | .call cl => match cl.args.toList.map ρ with
    | [.map (some b)] => [b]
    | _ => []
  | _ => []

def only (h : H) (bs : List Nat) : H := ⟨bs.foldl (fun t b => t.set b (h.get b)) .leaf, h.next, []⟩
/-- Without the blocks ms; the blocks rs aren't to be written. -/
def hide (h : H) (ms rs : List Nat) : H := ⟨ms.foldl (fun t b => t.set b none) h.objs, h.next, rs ++ h.ro⟩
def restore (h old : H) (ms : List Nat) : H := ⟨ms.foldl (fun t b => t.set b (old.get b)) h.objs, h.next, old.ro⟩

def sub (a b : Nat) : Bool := Nat.beq (Nat.land a b) a
def bit (i : Nat) : Nat := 2 ^ i
def needs (o : Oper) : Nat := o.after.toList.foldl (fun m e => match Region.binds .any e with
  | true => Nat.lor m (bit e.on)
  | false => m) 0

structure Todo where
  i : Nat
  need : Nat
  o : Oper

def prep : Nat → List Oper → List Todo
  | _, [] => []
  | i, o :: r => ⟨i, needs o, o⟩ :: prep (i + 1) r

def findR (e : Bool) (done : Nat) : List Todo → Option (Todo × List Todo)
  | [] => none
  | t :: r => match sub t.need done, eff t.o.op == e with
    | true, true => some (t, r)
    | _, _ => match findR e done r with
      | some (x, r') => some (x, t :: r')
      | none => none

/-- What an operation that was carried out hangs on, all in all; which blocks it looked at, or made. -/
structure Done where
  i : Nat
  on : Nat
  dst : Option Tmp
  rds : List Tmp
  blocks : List Nat
  made : Option Nat

def closure (ds : List Done) (need : Nat) : Nat := ds.foldl (fun m d => match sub (bit d.i) need with
  | true => Nat.lor m (Nat.lor (bit d.i) d.on)
  | false => m) need

/-- The blocks of those that may not have been carried out yet. -/
def looseRead (ds : List Done) (on : Nat) : List Nat := ds.flatMap fun d => match sub (bit d.i) on with
  | false => d.blocks
  | true => []
def looseMade (ds : List Done) (on : Nat) : List Nat := ds.flatMap fun d => match sub (bit d.i) on, d.made with
  | false, some b => [b]
  | _, _ => []
/-- Whoever writes what x looks at, or looks at what x writes, comes before x by the region's own order; nobody writes what x writes. -/
def clear (ds : List Done) (on : Nat) (dst : Option Tmp) (rs : List Tmp) : Bool := allB (fun d => match isDst d.dst rs || isDst dst d.rds, dst, d.dst with
  | true, some t, some u => sub (bit d.i) on && !(Nat.beq t u)
  | false, some t, some u => !(Nat.beq t u)
  | true, _, _ => sub (bit d.i) on
  | false, _, _ => true) ds
def apart (l m : List Nat) : Bool := allB (fun x => allB (fun y => !(Nat.beq x y)) m) l

def iniT : Nat → List Value → T Value → T Value
  | _, [], t => t
  | n, v :: r, t => iniT (n + 1) r (t.set n (some v))
def zipT : List Tmp → List Value → Tm → Option Tm
  | [], [], tm => some tm
  | p :: ps, v :: vs, tm => match tput (some p) v tm with
    | some tm' => zipT ps vs tm'
    | none => none
  | _, _, _ => none

def resultV (c : Ctx) (h : H) (tm : Tm) : ResultVar → Option Value
  | .tmp t => some (tget tm t)
  | .cell t ty => match tget tm t, c.tt ty with
    | .pointer (some a), some ti => match h.read a.block a.off ti.size with
      | some cs => mkv ti.agg cs
      | none => none
    | _, _ => none
def resultL (c : Ctx) (h : H) (tm : Tm) : List ResultVar → Option (List Value)
  | [] => some []
  | r :: rs => match resultV c h tm r, resultL c h tm rs with
    | some v, some vs => some (v :: vs)
    | _, _ => none
def oneOf : List Value → Value
  | [v] => v
  | vs => .tuple ⟨vs⟩

/-- A number is passed over. -/
def bump (s : St) : St := ⟨⟨s.h.objs, s.h.next + 1, s.h.ro⟩, s.orc, s.ob⟩
/-- An operation without effect, carried out on what it looks at alone: the value, and what was made. -/
def evPure (c : Ctx) (tm : Tm) (o : Oper) (s : St) : Option (Value × Option Ob × St) := match o.op with
  | .pick x a b => match opd tm x with
    | .bool v => match dec v s with
      | (true, s') => some (opd tm a, none, bump s')
      | (false, s') => some (opd tm b, none, bump s')
    | _ => none
  | op => match evOp c (opd tm) op (only s.h (foot (opd tm) op)) with
    | .val v h => match Nat.beq h.next s.h.next with
      | true => some (v, none, bump s)
      | false => match Nat.beq h.next (s.h.next + 1), h.get s.h.next with
        | true, some ob => some (v, some ob, ⟨s.h.new ob, s.orc, s.ob⟩)
        | _, _ => none
    | _ => none

mutual
def evCode (c : Ctx) : Nat → Code → Tm → St → R (X × Tm)
  | 0, _, _, _ => .err 1
  | f + 1, code, tm, s => match code with
    | .skip => .ok (.normal, tm) s
    | .label _ => .ok (.normal, tm) s
    | .region _ ops false => evOps c f ops.toList ops.toList tm s
    | .region _ ops true => evDraw c f ops.toList (prep 0 ops.toList) 0 [] tm s
    | .seq a b => match evCode c f a tm s with
      | .ok (.normal, tm') s' => evCode c f b tm' s'
      | r => r
    | .cond x a b => match opd tm x with
      | .bool v => match dec v s with
        | (true, s') => evCode c f a tm s'
        | (false, s') => evCode c f b tm s'
      | _ => .err 2
    | .block id b => match evCode c f b tm s with
      | .ok (.exit i, tm') s' => match Nat.beq i id with
        | true => .ok (.normal, tm') s'
        | false => .ok (.exit i, tm') s'
      | r => r
    | .loop b => match evCode c f b tm s with
      | .ok (.normal, tm') s' => evCode c f (.loop b) tm' s'
      | r => r
    | .scope b => match evCode c f b tm s with
      | .ok (.goto _, _) _ => .err 22
      | r => r
    | .exit id => .ok (.exit id, tm) s
    | .ret => .ok (.ret, tm) s
    | .rangeFunc g ps assign body => match invoke (opd tm g) [.func (.yield s.h.next) #[] #[]] (s.h.new (.loop false none tm ps assign body)) with
      | .call k args h => match c.prim k with
        | some _ => .err 3
        | none => match evCall c f k args ⟨h, s.orc, s.ob⟩ with
          | .ok _ s' => match s'.h.get s.h.next with
            | some (.loop false none _ _ _ _) => match s'.h.upd s.h.next none with
              | some h' => .ok (.normal, tm) ⟨h', s'.orc, s'.ob⟩
              | none => .err 21
            | some (.loop true (some .ret) _ _ _ _) => match s'.h.upd s.h.next none with
              | some h' => .ok (.ret, tm) ⟨h', s'.orc, s'.ob⟩
              | none => .err 21
            | some (.loop true (some (.exit i)) _ _ _ _) => match s'.h.upd s.h.next none with
              | some h' => .ok (.exit i, tm) ⟨h', s'.orc, s'.ob⟩
              | none => .err 21
            | _ => .err 4
          | .err n => .err n
      | _ => .err 5
    | _ => .err 6
def evOps (c : Ctx) : Nat → List Oper → List Oper → Tm → St → R (X × Tm)
  | 0, _, _, _, _ => .err 1
  | _ + 1, _, [], tm, s => .ok (.normal, tm) s
  | f + 1, ops, o :: r, tm, s => match wants ops o tm s with
    | none => .err 7
    | some (false, s') => match tput o.dst (.tuple #[]) tm with
      | some tm' => evOps c f ops r tm' s'
      | none => .err 8
    | some (true, s') => match evStep c f o tm s' with
      | .ok v s'' => match tput o.dst v tm with
        | some tm' => evOps c f ops r tm' s''
        | none => .err 8
      | .err n => .err n
def evStep (c : Ctx) : Nat → Oper → Tm → St → R Value
  | 0, _, _, _ => .err 1
  | f + 1, o, tm, s => match o.op with
    | .pick x a b => match opd tm x with
      | .bool v => match dec v s with
        | (true, s') => .ok (opd tm a) s'
        | (false, s') => .ok (opd tm b) s'
      | _ => .err 9
    | op => match evOp c (opd tm) op s.h with
      | .val v h => .ok v ⟨h, s.orc, s.ob⟩
      | .call k args h => evCall c f k args ⟨h, s.orc, s.ob⟩
      | .round l args h => match h.get l with
        | some (.loop false none tl ps assign body) => match zipT ps.toList args tl with
          | none => .err 10
          | some tl1 => match evCode c f assign tl1 ⟨h, s.orc, s.ob⟩ with
            | .ok (.normal, tl2) s1 => match s1.h.get l with
              | some (.loop false none ta pa aa ba) => match s1.h.upd l (some (.loop true none ta pa aa ba)) with
               | none => .err 21
               | some h1 => match evCode c f body tl2 ⟨h1, s1.orc, s1.ob⟩ with
                | .ok (x, _) s2 => match s2.h.get l with
                 | some (.loop true none tb pb ab bb) => match x with
                  | .normal => match s2.h.upd l (some (.loop false none tb pb ab bb)) with
                    | some h3 => .ok (.bool true) ⟨h3, s2.orc, s2.ob⟩
                    | none => .err 21
                  | .ret => match s2.h.upd l (some (.loop true (some .ret) tb pb ab bb)) with
                    | some h3 => .ok (.bool false) ⟨h3, s2.orc, s2.ob⟩
                    | none => .err 21
                  | .exit i => match s2.h.upd l (some (.loop true (some (.exit i)) tb pb ab bb)) with
                    | some h3 => .ok (.bool false) ⟨h3, s2.orc, s2.ob⟩
                    | none => .err 21
                  | .goto _ => .err 11
                 | _ => .err 12
                | .err n => .err n
              | _ => .err 23
            | .ok _ _ => .err 13
            | .err n => .err n
        | _ => .err 14
      | .bad => .err (100 + o.type)
def evDraw (c : Ctx) : Nat → List Oper → List Todo → Nat → List Done → Tm → St → R (X × Tm)
  | 0, _, _, _, _, _, _ => .err 1
  | _ + 1, _, [], _, _, tm, s => .ok (.normal, tm) s
  | f + 1, ops, t :: ts, done, ds, tm, s => match findR false done (t :: ts) with
    | some (x, r) => match clear ds (closure ds x.need) x.o.dst (readsOf ops x.o) with
     | false => .err 24
     | true => match wants ops x.o tm s with
      | none => .err 15
      | some (false, s') => match tput x.o.dst (.tuple #[]) tm with
        | some tm' => evDraw c f ops r (Nat.lor done (bit x.i)) (⟨x.i, closure ds x.need, x.o.dst, readsOf ops x.o, [], none⟩ :: ds) tm' (bump s')
        | none => .err 8
      | some (true, s') => match apart (foot (opd tm) x.o.op) (looseMade ds (closure ds x.need)) with
        | false => .err 16
        | true => match evPure c tm x.o s' with
          | none => .err (10000 + x.o.type)
          | some (v, ob, s'') => match tput x.o.dst v tm with
            | some tm' => evDraw c f ops r (Nat.lor done (bit x.i)) (⟨x.i, closure ds x.need, x.o.dst, readsOf ops x.o, foot (opd tm) x.o.op, (match ob with | none => none | some _ => some s'.h.next)⟩ :: ds) tm' s''
            | none => .err 8
    | none => match findR true done (t :: ts) with
      | none => .err 17
      | some (x, r) => match findR true done r, clear ds (closure ds x.need) x.o.dst (readsOf ops x.o) with
        | none, true => match wants ops x.o tm s with
          | none => .err 15
          | some (false, s') => match tput x.o.dst (.tuple #[]) tm with
            | some tm' => evDraw c f ops r (Nat.lor done (bit x.i)) (⟨x.i, closure ds x.need, x.o.dst, readsOf ops x.o, [], none⟩ :: ds) tm' s'
            | none => .err 8
          | some (true, s') => match evStep c f x.o tm ⟨hide s'.h (looseMade ds (closure ds x.need)) (looseRead ds (closure ds x.need)), s'.orc, s'.ob⟩ with
            | .err n => .err n
            | .ok v s'' => match tput x.o.dst v tm with
              | some tm' => evDraw c f ops r (Nat.lor done (bit x.i)) (⟨x.i, closure ds x.need, x.o.dst, readsOf ops x.o, [], none⟩ :: ds) tm' ⟨restore s''.h s'.h (looseMade ds (closure ds x.need)), s''.orc, s''.ob⟩
              | none => .err 8
        | some _, _ => .err 18
        | none, false => .err 25
def evCall (c : Ctx) : Nat → Nat → List Value → St → R Value
  | 0, _, _, _ => .err 1
  | f + 1, k, args, s => match c.prim k with
    | some p => match p args s.h with
      | some (v, h) => .ok v ⟨h, s.orc, s.ob⟩
      | none => .err (20000 + k)
    | none => match c.fns k with
      | none => .err (30000 + k)
      | some fn => match fn.body, Nat.ble args.length fn.ntmps with
        | some b, true => match evCode c f b ⟨iniT 0 args .leaf, fn.ntmps⟩ s with
          | .ok (x, tm) s' => match x with
            | .normal => match resultL c s'.h tm fn.results.toList with
              | some vs => .ok (oneOf vs) s'
              | none => .err 19
            | .ret => match resultL c s'.h tm fn.results.toList with
              | some vs => .ok (oneOf vs) s'
              | none => .err 19
            | _ => .err 20
          | .err n => .err n
        | _, _ => .err (40000 + k)
end
end
end Go.EV
