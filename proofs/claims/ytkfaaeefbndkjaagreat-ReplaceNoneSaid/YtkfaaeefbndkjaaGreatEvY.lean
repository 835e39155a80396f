/-
  The evaluator once more, cut into small parts, so that the kernel runs it faster; and that it is the same.
-/
import Derived.Test.YtkfaaeefbndkjaaGreatEvX
namespace Go.EV
noncomputable section

structure Fns where
  code : Code → Tm → St → R (X × Tm)
  ops : List Oper → List Oper → Tm → St → R (X × Tm)
  step : Oper → Tm → St → R Value
  draw : List Oper → List Todo → Nat → List Done → Tm → St → R (X × Tm)
  call : Nat → List Value → St → R Value

namespace Fast
def kSeq (F : Fns) (b : Code) : R (X × Tm) → R (X × Tm)
  | .ok (.normal, tm') s' => F.code b tm' s'
  | r => r
def kCond (F : Fns) (a b : Code) (tm : Tm) : Bool × St → R (X × Tm)
  | (true, s') => F.code a tm s'
  | (false, s') => F.code b tm s'
def kCondV (F : Fns) (a b : Code) (tm : Tm) (s : St) : Value → R (X × Tm)
  | .bool v => kCond F a b tm (dec v s)
  | _ => .err 2
def kBlock (id : Nat) : R (X × Tm) → R (X × Tm)
  | .ok (.exit i, tm') s' => match Nat.beq i id with
    | true => .ok (.normal, tm') s'
    | false => .ok (.exit i, tm') s'
  | r => r
def kScope : R (X × Tm) → R (X × Tm)
  | .ok (.goto _, _) _ => .err 22
  | r => r
def kLeave (x : X) (tm : Tm) (s' : St) : Option H → R (X × Tm)
  | some h' => .ok (x, tm) ⟨h', s'.orc, s'.ob⟩
  | none => .err 21
def kRange3 (l : Nat) (tm : Tm) (s' : St) : Option Ob → R (X × Tm)
  | some (.loop false none _ _ _ _) => kLeave .normal tm s' (s'.h.upd l none)
  | some (.loop true (some .ret) _ _ _ _) => kLeave .ret tm s' (s'.h.upd l none)
  | some (.loop true (some (.exit i)) _ _ _ _) => kLeave (.exit i) tm s' (s'.h.upd l none)
  | _ => .err 4
def kRange2 (l : Nat) (tm : Tm) : R Value → R (X × Tm)
  | .ok _ s' => kRange3 l tm s' (s'.h.get l)
  | .err n => .err n
def kRange1 (F : Fns) (l : Nat) (tm : Tm) (k : Nat) (args : List Value) (s' : St) : Option (List Value → H → Option (Value × H)) → R (X × Tm)
  | some _ => .err 3
  | none => kRange2 l tm (F.call k args s')
def kRange (c : Ctx) (F : Fns) (tm : Tm) (s : St) : PR → R (X × Tm)
  | .call k args h => kRange1 F s.h.next tm k args ⟨h, s.orc, s.ob⟩ (c.prim k)
  | _ => .err 5
def codeF (c : Ctx) (F : Fns) (code : Code) (tm : Tm) (s : St) : R (X × Tm) := match code with
    | .skip => .ok (.normal, tm) s
    | .label _ => .ok (.normal, tm) s
    | .region _ ops false => F.ops ops.toList ops.toList tm s
    | .region _ ops true => F.draw ops.toList (prep 0 ops.toList) 0 [] tm s
    | .seq a b => kSeq F b (F.code a tm s)
    | .cond x a b => kCondV F a b tm s (opd tm x)
    | .block id b => kBlock id (F.code b tm s)
    | .loop b => kSeq F (.loop b) (F.code b tm s)
    | .scope b => kScope (F.code b tm s)
    | .exit id => .ok (.exit id, tm) s
    | .ret => .ok (.ret, tm) s
    | .rangeFunc g ps assign body => kRange c F tm s (invoke (opd tm g) [.func (.yield s.h.next) #[] #[]] (s.h.new (.loop false none tm ps assign body)))
    | _ => .err 6

def kOps1 (F : Fns) (ops r : List Oper) (s : St) : Option Tm → R (X × Tm)
  | some tm' => F.ops ops r tm' s
  | none => .err 8
def kOps2 (F : Fns) (ops r : List Oper) (dst : Option Tmp) (tm : Tm) : R Value → R (X × Tm)
  | .ok v s'' => kOps1 F ops r s'' (tput dst v tm)
  | .err n => .err n
def kOps (F : Fns) (ops r : List Oper) (o : Oper) (tm : Tm) : Option (Bool × St) → R (X × Tm)
  | none => .err 7
  | some (false, s') => kOps1 F ops r s' (tput o.dst (.tuple #[]) tm)
  | some (true, s') => kOps2 F ops r o.dst tm (F.step o tm s')
def opsF (F : Fns) (ops : List Oper) (l : List Oper) (tm : Tm) (s : St) : R (X × Tm) := match l with
  | [] => .ok (.normal, tm) s
  | o :: r => kOps F ops r o tm (wants ops o tm s)

def kPick (tm : Tm) (a b : Operand) : Bool × St → R Value
  | (true, s') => .ok (opd tm a) s'
  | (false, s') => .ok (opd tm b) s'
def kPickV (tm : Tm) (a b : Operand) (s : St) : Value → R Value
  | .bool v => kPick tm a b (dec v s)
  | _ => .err 9
def kEnd (b : Bool) (s : St) : Option H → R Value
  | some h3 => .ok (.bool b) ⟨h3, s.orc, s.ob⟩
  | none => .err 21
def kRound4 (l : Nat) (s2 : St) (tb : Tm) (pb : Array Tmp) (ab bb : Code) : X → R Value
  | .normal => kEnd true s2 (s2.h.upd l (some (.loop false none tb pb ab bb)))
  | .ret => kEnd false s2 (s2.h.upd l (some (.loop true (some .ret) tb pb ab bb)))
  | .exit i => kEnd false s2 (s2.h.upd l (some (.loop true (some (.exit i)) tb pb ab bb)))
  | .goto _ => .err 11
def kRound3 (l : Nat) (x : X) (s2 : St) : Option Ob → R Value
  | some (.loop true none tb pb ab bb) => kRound4 l s2 tb pb ab bb x
  | _ => .err 12
def kRound2 (l : Nat) : R (X × Tm) → R Value
  | .ok (x, _) s2 => kRound3 l x s2 (s2.h.get l)
  | .err n => .err n
def kRound1b (F : Fns) (l : Nat) (body : Code) (tl2 : Tm) (s1 : St) : Option H → R Value
  | none => .err 21
  | some h1 => kRound2 l (F.code body tl2 ⟨h1, s1.orc, s1.ob⟩)
def kRound1a (F : Fns) (l : Nat) (body : Code) (tl2 : Tm) (s1 : St) : Option Ob → R Value
  | some (.loop false none ta pa aa ba) => kRound1b F l body tl2 s1 (s1.h.upd l (some (.loop true none ta pa aa ba)))
  | _ => .err 23
def kRound1 (F : Fns) (l : Nat) (body : Code) : R (X × Tm) → R Value
  | .ok (.normal, tl2) s1 => kRound1a F l body tl2 s1 (s1.h.get l)
  | .ok _ _ => .err 13
  | .err n => .err n
def kRound0 (F : Fns) (l : Nat) (assign body : Code) (s : St) : Option Tm → R Value
  | none => .err 10
  | some tl1 => kRound1 F l body (F.code assign tl1 s)
def kRound (F : Fns) (l : Nat) (args : List Value) (s : St) : Option Ob → R Value
  | some (.loop false none tl ps assign body) => kRound0 F l assign body s (zipT ps.toList args tl)
  | _ => .err 14
def kStep (F : Fns) (ty : Nat) (s : St) : PR → R Value
  | .val v h => .ok v ⟨h, s.orc, s.ob⟩
  | .call k args h => F.call k args ⟨h, s.orc, s.ob⟩
  | .round l args h => kRound F l args ⟨h, s.orc, s.ob⟩ (h.get l)
  | .bad => .err (100 + ty)
def stepF (c : Ctx) (F : Fns) (o : Oper) (tm : Tm) (s : St) : R Value := match o.op with
    | .pick x a b => kPickV tm a b s (opd tm x)
    | op => kStep F o.type s (evOp c (opd tm) op s.h)

def kDrawN (F : Fns) (ops : List Oper) (r : List Todo) (done : Nat) (d : Done) (ds : List Done) (s : St) : Option Tm → R (X × Tm)
  | some tm' => F.draw ops r (Nat.lor done (bit d.i)) (d :: ds) tm' s
  | none => .err 8
def kMade (n : Nat) : Option Ob → Option Nat
  | none => none
  | some _ => some n
def kDrawP (F : Fns) (ops : List Oper) (r : List Todo) (done : Nat) (x : Todo) (ds : List Done) (tm : Tm) (s' : St) : Option (Value × Option Ob × St) → R (X × Tm)
  | none => .err (10000 + x.o.type)
  | some (v, ob, s'') => kDrawN F ops r done ⟨x.i, closure ds x.need, x.o.dst, readsOf ops x.o, foot (opd tm) x.o.op, kMade s'.h.next ob⟩ ds s'' (tput x.o.dst v tm)
def kDrawA (c : Ctx) (F : Fns) (ops : List Oper) (r : List Todo) (done : Nat) (x : Todo) (ds : List Done) (tm : Tm) (s' : St) : Bool → R (X × Tm)
  | false => .err 16
  | true => kDrawP F ops r done x ds tm s' (evPure c tm x.o s')
def kDrawW (c : Ctx) (F : Fns) (ops : List Oper) (r : List Todo) (done : Nat) (x : Todo) (ds : List Done) (tm : Tm) : Option (Bool × St) → R (X × Tm)
  | none => .err 15
  | some (false, s') => kDrawN F ops r done ⟨x.i, closure ds x.need, x.o.dst, readsOf ops x.o, [], none⟩ ds (bump s') (tput x.o.dst (.tuple #[]) tm)
  | some (true, s') => kDrawA c F ops r done x ds tm s' (apart (foot (opd tm) x.o.op) (looseMade ds (closure ds x.need)))
def kDrawC (c : Ctx) (F : Fns) (ops : List Oper) (r : List Todo) (done : Nat) (x : Todo) (ds : List Done) (tm : Tm) (s : St) : Bool → R (X × Tm)
  | false => .err 24
  | true => kDrawW c F ops r done x ds tm (wants ops x.o tm s)
def kDrawE2 (F : Fns) (ops : List Oper) (r : List Todo) (done : Nat) (x : Todo) (ds : List Done) (tm : Tm) (s' : St) : R Value → R (X × Tm)
  | .err n => .err n
  | .ok v s'' => kDrawN F ops r done ⟨x.i, closure ds x.need, x.o.dst, readsOf ops x.o, [], none⟩ ds ⟨restore s''.h s'.h (looseMade ds (closure ds x.need)), s''.orc, s''.ob⟩ (tput x.o.dst v tm)
def kDrawE1 (F : Fns) (ops : List Oper) (r : List Todo) (done : Nat) (x : Todo) (ds : List Done) (tm : Tm) : Option (Bool × St) → R (X × Tm)
  | none => .err 15
  | some (false, s') => kDrawN F ops r done ⟨x.i, closure ds x.need, x.o.dst, readsOf ops x.o, [], none⟩ ds s' (tput x.o.dst (.tuple #[]) tm)
  | some (true, s') => kDrawE2 F ops r done x ds tm s' (F.step x.o tm ⟨hide s'.h (looseMade ds (closure ds x.need)) (looseRead ds (closure ds x.need)), s'.orc, s'.ob⟩)
def kDrawE0 (F : Fns) (ops : List Oper) (r : List Todo) (done : Nat) (x : Todo) (ds : List Done) (tm : Tm) (s : St) : Option (Todo × List Todo) → Bool → R (X × Tm)
  | none, true => kDrawE1 F ops r done x ds tm (wants ops x.o tm s)
  | some _, _ => .err 18
  | none, false => .err 25
def kDrawE (F : Fns) (ops : List Oper) (done : Nat) (ds : List Done) (tm : Tm) (s : St) : Option (Todo × List Todo) → R (X × Tm)
  | none => .err 17
  | some (x, r) => kDrawE0 F ops r done x ds tm s (findR true done r) (clear ds (closure ds x.need) x.o.dst (readsOf ops x.o))
def kDraw (c : Ctx) (F : Fns) (ops : List Oper) (l : List Todo) (done : Nat) (ds : List Done) (tm : Tm) (s : St) : Option (Todo × List Todo) → R (X × Tm)
  | some (x, r) => kDrawC c F ops r done x ds tm s (clear ds (closure ds x.need) x.o.dst (readsOf ops x.o))
  | none => kDrawE F ops done ds tm s (findR true done l)
def drawF (c : Ctx) (F : Fns) (ops : List Oper) (l : List Todo) (done : Nat) (ds : List Done) (tm : Tm) (s : St) : R (X × Tm) := match l with
  | [] => .ok (.normal, tm) s
  | t :: ts => kDraw c F ops (t :: ts) done ds tm s (findR false done (t :: ts))

def kCallP (k : Nat) (s : St) : Option (Value × H) → R Value
  | some (v, h) => .ok v ⟨h, s.orc, s.ob⟩
  | none => .err (20000 + k)
def kCallR (s' : St) : Option (List Value) → R Value
  | some vs => .ok (oneOf vs) s'
  | none => .err 19
def kCallX (c : Ctx) (rs : List ResultVar) (tm : Tm) (s' : St) : X → R Value
  | .normal => kCallR s' (resultL c s'.h tm rs)
  | .ret => kCallR s' (resultL c s'.h tm rs)
  | _ => .err 20
def kCallE (c : Ctx) (rs : List ResultVar) : R (X × Tm) → R Value
  | .ok (x, tm) s' => kCallX c rs tm s' x
  | .err n => .err n
def kCallB (c : Ctx) (F : Fns) (k : Nat) (fn : Func) (args : List Value) (s : St) : Option Code → Bool → R Value
  | some b, true => kCallE c fn.results.toList (F.code b ⟨iniT 0 args .leaf, fn.ntmps⟩ s)
  | _, _ => .err (40000 + k)
def kCallF (c : Ctx) (F : Fns) (k : Nat) (args : List Value) (s : St) : Option Func → R Value
  | none => .err (30000 + k)
  | some fn => kCallB c F k fn args s fn.body (Nat.ble args.length fn.ntmps)
def callF (c : Ctx) (F : Fns) (k : Nat) (args : List Value) (s : St) : R Value := match c.prim k with
  | some p => kCallP k s (p args s.h)
  | none => kCallF c F k args s (c.fns k)

def stepAll (c : Ctx) (F : Fns) : Fns := ⟨codeF c F, opsF F, stepF c F, drawF c F, callF c F⟩
def ev0 : Fns := ⟨fun _ _ _ => .err 1, fun _ _ _ _ => .err 1, fun _ _ _ => .err 1, fun _ _ _ _ _ _ => .err 1, fun _ _ _ => .err 1⟩
def ev (c : Ctx) : Nat → Fns
  | 0 => ev0
  | n + 1 => stepAll c (ev c n)
end Fast

def oldF (c : Ctx) (f : Nat) : Fns := ⟨evCode c f, evOps c f, evStep c f, evDraw c f, evCall c f⟩
open Fast in
theorem code_eq (c : Ctx) (f : Nat) (code : Code) (tm : Tm) (s : St) : evCode c (f + 1) code tm s = codeF c (oldF c f) code tm s := by
  cases code
  case region i ops d => cases d <;> (simp only [evCode]; rfl)
  all_goals (simp only [evCode]; try rfl)
open Fast in
theorem ops_eq (c : Ctx) (f : Nat) (ops l : List Oper) (tm : Tm) (s : St) : evOps c (f + 1) ops l tm s = opsF (oldF c f) ops l tm s := by
  cases l with
  | nil => simp only [evOps]; rfl
  | cons o r => simp only [evOps]; rfl
open Fast in
theorem step_eq (c : Ctx) (f : Nat) (o : Oper) (tm : Tm) (s : St) : evStep c (f + 1) o tm s = stepF c (oldF c f) o tm s := by
  obtain ⟨dst, op, ty, pos, after, guard⟩ := o
  cases op <;> (simp only [evStep]; rfl)
open Fast in
theorem draw_eq (c : Ctx) (f : Nat) (ops : List Oper) (l : List Todo) (done : Nat) (ds : List Done) (tm : Tm) (s : St) : evDraw c (f + 1) ops l done ds tm s = drawF c (oldF c f) ops l done ds tm s := by
  cases l with
  | nil => simp only [evDraw]; rfl
  | cons t ts => simp only [evDraw]; rfl
open Fast in
theorem call_eq (c : Ctx) (f : Nat) (k : Nat) (args : List Value) (s : St) : evCall c (f + 1) k args s = callF c (oldF c f) k args s := by
  simp only [evCall]; rfl
theorem old_eq (c : Ctx) : ∀ f, oldF c f = Fast.ev c f
  | 0 => by
    unfold oldF Fast.ev Fast.ev0
    congr 1 <;> funext <;> simp [evCode, evOps, evStep, evDraw, evCall]
  | f + 1 => by
    show _ = Fast.stepAll c (Fast.ev c f)
    rw [← old_eq c f]
    have h1 : evCode c (f + 1) = Fast.codeF c (oldF c f) := by funext code tm s; exact code_eq c f code tm s
    have h2 : evOps c (f + 1) = Fast.opsF (oldF c f) := by funext ops l tm s; exact ops_eq c f ops l tm s
    have h3 : evStep c (f + 1) = Fast.stepF c (oldF c f) := by funext o tm s; exact step_eq c f o tm s
    have h4 : evDraw c (f + 1) = Fast.drawF c (oldF c f) := by funext ops l done ds tm s; exact draw_eq c f ops l done ds tm s
    have h5 : evCall c (f + 1) = Fast.callF c (oldF c f) := by funext k args s; exact call_eq c f k args s
    show Fns.mk _ _ _ _ _ = Fns.mk _ _ _ _ _
    rw [h1, h2, h3, h4, h5]
theorem evCall_fast (c : Ctx) (f : Nat) (k : Nat) (args : List Value) (s : St) : evCall c f k args s = (Fast.ev c f).call k args s := by
  rw [← old_eq]; rfl
end
end Go.EV
