/-
  The evaluator once more: the order of a region's operations is reckoned once; and that it is the same.
-/
import Derived.Test.YtkfaaeefbndkjaaGreatEvY2
namespace Go.EV
noncomputable section
namespace Fast

structure SS where
  o : Oper
  eff : Bool
  on : Nat
  i : Nat
def strip (d : Done) : Done := ⟨d.i, d.on, d.dst, d.rds, [], none⟩
def sched : Nat → List Oper → List Todo → Nat → List Done → Option (List SS)
  | 0, _, _, _, _ => none
  | _ + 1, _, [], _, _ => some []
  | f + 1, ops, t :: ts, done, ds => match dFind false done (t :: ts) with
    | some (x, r) => match clear ds (closure ds x.need) x.o.dst (readsOf ops x.o) with
      | false => none
      | true => match sched f ops r (Nat.lor done (bit x.i)) (⟨x.i, closure ds x.need, x.o.dst, readsOf ops x.o, [], none⟩ :: ds) with
        | some l => some (⟨x.o, false, closure ds x.need, x.i⟩ :: l)
        | none => none
    | none => match dFind true done (t :: ts) with
      | none => none
      | some (x, r) => match dFind true done r, clear ds (closure ds x.need) x.o.dst (readsOf ops x.o) with
        | none, true => match sched f ops r (Nat.lor done (bit x.i)) (⟨x.i, closure ds x.need, x.o.dst, readsOf ops x.o, [], none⟩ :: ds) with
          | some l => some (⟨x.o, true, closure ds x.need, x.i⟩ :: l)
          | none => none
        | _, _ => none

def rsOf : List Done → List (Nat × List Nat)
  | [] => []
  | d :: r => match d.blocks with
    | [] => rsOf r
    | b :: l => (d.i, b :: l) :: rsOf r
def msOf : List Done → List (Nat × Nat)
  | [] => []
  | d :: r => match d.made with
    | none => msOf r
    | some b => (d.i, b) :: msOf r
def lookR (on : Nat) : List (Nat × List Nat) → List Nat
  | [] => []
  | x :: r => match sub (bit x.1) on with
    | false => x.2 ++ lookR on r
    | true => lookR on r
def lookM (on : Nat) : List (Nat × Nat) → List Nat
  | [] => []
  | x :: r => match sub (bit x.1) on with
    | false => x.2 :: lookM on r
    | true => lookM on r
theorem lookR_eq (on : Nat) : ∀ ds, lookR on (rsOf ds) = looseRead ds on
  | [] => rfl
  | d :: r => by
    have ih := lookR_eq on r
    unfold looseRead at ih ⊢
    rw [List.flatMap_cons, ← ih]
    cases hb : d.blocks with
    | nil =>
      have : rsOf (d :: r) = rsOf r := by simp only [rsOf, hb]
      rw [this]
      cases sub (bit d.i) on <;> rfl
    | cons b l =>
      have : rsOf (d :: r) = (d.i, b :: l) :: rsOf r := by simp only [rsOf, hb]
      rw [this]
      simp only [lookR]
      cases sub (bit d.i) on <;> rfl
theorem lookM_eq (on : Nat) : ∀ ds, lookM on (msOf ds) = looseMade ds on
  | [] => rfl
  | d :: r => by
    have ih := lookM_eq on r
    unfold looseMade at ih ⊢
    rw [List.flatMap_cons, ← ih]
    cases hb : d.made with
    | none =>
      have : msOf (d :: r) = msOf r := by simp only [msOf, hb]
      rw [this]
      cases sub (bit d.i) on <;> rfl
    | some b =>
      have : msOf (d :: r) = (d.i, b) :: msOf r := by simp only [msOf, hb]
      rw [this]
      simp only [lookM]
      cases sub (bit d.i) on <;> rfl
theorem closure_strip (ds : List Done) (need : Nat) : closure (ds.map strip) need = closure ds need := by
  unfold closure
  rw [List.foldl_map]
  rfl
theorem allB_map {α β : Type} (f : β → Bool) (g : α → β) : ∀ l : List α, allB f (l.map g) = allB (fun x => f (g x)) l
  | [] => rfl
  | x :: r => by simp only [List.map_cons, allB, allB_map f g r]
theorem clear_strip (ds : List Done) (on : Nat) (dst : Option Tmp) (rs : List Tmp) : clear (ds.map strip) on dst rs = clear ds on dst rs := by
  unfold clear
  rw [allB_map]
  rfl

structure Fns3 extends Fns where
  drawS : List Oper → List SS → List (Nat × Nat) → List (Nat × List Nat) → Tm → St → R (X × Tm)

def sGo (F : Fns3) (ops : List Oper) (r : List SS) (ms : List (Nat × Nat)) (rs : List (Nat × List Nat)) (s : St) (o : Option Tm) : R (X × Tm) := Option.casesOn (motive := fun _ => R (X × Tm)) o (.err 8) fun tm => F.drawS ops r ms rs tm s
def addM (i n : Nat) (ms : List (Nat × Nat)) (ob : Option Ob) : List (Nat × Nat) := Option.casesOn (motive := fun _ => List (Nat × Nat)) ob ms fun _ => (i, n) :: ms
def addR (i : Nat) (rs : List (Nat × List Nat)) (l : List Nat) : List (Nat × List Nat) := List.casesOn (motive := fun _ => List (Nat × List Nat)) l rs fun b l => (i, b :: l) :: rs
def sPure (F : Fns3) (ops : List Oper) (x : SS) (r : List SS) (ms : List (Nat × Nat)) (rs : List (Nat × List Nat)) (tm : Tm) (s' : St) : Option (Value × Option Ob × St) → R (X × Tm)
  | none => .err (10000 + x.o.type)
  | some (v, ob, s'') => sGo F ops r (addM x.i s'.h.next ms ob) (addR x.i rs (foot (opd tm) x.o.op)) s'' (tput x.o.dst v tm)
def sEff (F : Fns3) (ops : List Oper) (x : SS) (r : List SS) (ms : List (Nat × Nat)) (rs : List (Nat × List Nat)) (tm : Tm) (s' : St) : R Value → R (X × Tm)
  | .err n => .err n
  | .ok v s'' => sGo F ops r ms rs ⟨restore s''.h s'.h (lookM x.on ms), s''.orc, s''.ob⟩ (tput x.o.dst v tm)
def sRun (c : Ctx) (F : Fns3) (ops : List Oper) (x : SS) (r : List SS) (ms : List (Nat × Nat)) (rs : List (Nat × List Nat)) (tm : Tm) (s' : St) : R (X × Tm) := Bool.casesOn (motive := fun _ => R (X × Tm)) x.eff
  (Bool.casesOn (motive := fun _ => R (X × Tm)) (apart (foot (opd tm) x.o.op) (lookM x.on ms)) (.err 16) (sPure F ops x r ms rs tm s' (dPure x.o.op c tm x.o s')))
  (sEff F ops x r ms rs tm s' (F.step x.o tm ⟨hide s'.h (lookM x.on ms) (lookR x.on rs), s'.orc, s'.ob⟩))
def sSkip (F : Fns3) (ops : List Oper) (x : SS) (r : List SS) (ms : List (Nat × Nat)) (rs : List (Nat × List Nat)) (tm : Tm) (s' : St) : R (X × Tm) := Bool.casesOn (motive := fun _ => R (X × Tm)) x.eff
  (sGo F ops r ms rs (bump s') (tput x.o.dst (.tuple #[]) tm)) (sGo F ops r ms rs s' (tput x.o.dst (.tuple #[]) tm))
def sWant (c : Ctx) (F : Fns3) (ops : List Oper) (x : SS) (r : List SS) (ms : List (Nat × Nat)) (rs : List (Nat × List Nat)) (tm : Tm) : Option (Bool × St) → R (X × Tm)
  | none => .err 15
  | some (false, s') => sSkip F ops x r ms rs tm s'
  | some (true, s') => sRun c F ops x r ms rs tm s'
def sStep (c : Ctx) (F : Fns3) (ops : List Oper) (x : SS) (r : List SS) (ms : List (Nat × Nat)) (rs : List (Nat × List Nat)) (tm : Tm) (s : St) : R (X × Tm) := Option.casesOn (motive := fun _ => R (X × Tm)) x.o.guard
  (sRun c F ops x r ms rs tm s) (fun _ => sWant c F ops x r ms rs tm (wants ops x.o tm s))
def drawSF (c : Ctx) (F : Fns3) (ops : List Oper) (l : List SS) (ms : List (Nat × Nat)) (rs : List (Nat × List Nat)) (tm : Tm) (s : St) : R (X × Tm) := List.casesOn (motive := fun _ => R (X × Tm)) l (.ok (.normal, tm) s) fun x r => sStep c F ops x r ms rs tm s
def sReg (F : Fns3) (ops : List Oper) (tm : Tm) (s : St) (o : Option (List SS)) : R (X × Tm) := Option.casesOn (motive := fun _ => R (X × Tm)) o (F.draw ops (prep 0 ops) 0 [] tm s) fun l => F.drawS ops l [] [] tm s
def schedAll (ops : List Oper) : Option (List SS) := sched (ops.length + 1) ops (prep 0 ops) 0 []
def dCodeS (code : Code) : Ctx → Fns3 → Tm → St → R (X × Tm) := Code.casesOn (motive := fun _ => Ctx → Fns3 → Tm → St → R (X × Tm)) code
  (fun _ _ tm s => .ok (.normal, tm) s)
  (fun _ ops draw => fun _ F tm s => Bool.casesOn (motive := fun _ => R (X × Tm)) draw (F.ops ops.toList ops.toList tm s) (sReg F ops.toList tm s (schedAll ops.toList)))
  (fun a b => fun _ F tm s => kSeq F.toFns b (F.code a tm s))
  (fun x a b => fun _ F tm s => dCondB F.toFns a b tm s (vBool (dOpd tm x)))
  (fun id b => fun _ F tm s => kBlock id (F.code b tm s))
  (fun b => fun _ F tm s => kSeq F.toFns (.loop b) (F.code b tm s))
  (fun g ps assign body => fun c F tm s => kRange c F.toFns tm s (invoke (opd tm g) [.func (.yield s.h.next) #[] #[]] (s.h.new (.loop false none tm ps assign body))))
  (fun id => fun _ _ tm s => .ok (.exit id, tm) s)
  (fun b => fun _ F tm s => kScope (F.code b tm s))
  (fun _ => fun _ _ tm s => .ok (.normal, tm) s)
  (fun _ => fun _ _ _ _ => .err 6)
  (fun _ _ tm s => .ok (.ret, tm) s)
  (fun _ => fun _ _ _ _ => .err 6)
def stepAllS (c : Ctx) (F : Fns3) : Fns3 := ⟨⟨fun code tm s => dCodeS code c F tm s, opsD F.toFns, fun o tm s => dStep o.op c F.toFns o.type tm s, drawD c F.toFns, callF c F.toFns⟩, drawSF c F⟩
def evS (c : Ctx) : Nat → Fns3
  | 0 => ⟨ev0, fun _ _ _ _ _ _ => .err 1⟩
  | n + 1 => stepAllS c (evS c n)

/-- What binds the two. -/
def SameDraw (F : Fns3) : Prop := ∀ f ops l done ds steps tm s, sched f ops l done (ds.map strip) = some steps → F.drawS ops steps (msOf ds) (rsOf ds) tm s = F.draw ops l done ds tm s

theorem sGo_eq {F : Fns3} (hF : SameDraw F) {f : Nat} {ops : List Oper} {r : List Todo} {done : Nat} {d : Done} {ds : List Done} {steps : List SS} (hs : sched f ops r (Nat.lor done (bit d.i)) (strip d :: ds.map strip) = some steps) (s : St) (o : Option Tm) :
    sGo F ops steps (msOf (d :: ds)) (rsOf (d :: ds)) s o = kDrawN F.toFns ops r done d ds s o := by
  cases o with
  | none => rfl
  | some tm => exact hF f ops r _ (d :: ds) steps tm s hs

theorem drawSF_same {c : Ctx} {F : Fns3} (hF : SameDraw F) : ∀ f ops l done ds steps tm s, sched f ops l done (ds.map strip) = some steps → drawSF c F ops steps (msOf ds) (rsOf ds) tm s = drawD c F.toFns ops l done ds tm s := by
  intro f ops l done ds steps tm s hs
  cases f with
  | zero => simp [sched] at hs
  | succ f =>
    cases l with
    | nil => simp only [sched] at hs; cases hs; rfl
    | cons t ts =>
      simp only [sched] at hs
      show _ = dDraw c F.toFns ops (t :: ts) done ds tm s (dFind false done (t :: ts))
      split at hs
      · rename_i x r hf
        rw [hf]
        rw [clear_strip, closure_strip] at hs
        split at hs
        · cases hs
        · rename_i hcl
          split at hs
          · rename_i l' hl
            cases hs
            show sStep c F ops ⟨x.o, false, closure ds x.need, x.i⟩ l' (msOf ds) (rsOf ds) tm s = dDrawC c F.toFns ops r done x ds tm s (clear ds (closure ds x.need) x.o.dst (readsOf ops x.o))
            rw [hcl]
            have go : ∀ (bl : List Nat) (md : Option Nat) (s : St) (o : Option Tm), sGo F ops l' (msOf (⟨x.i, closure ds x.need, x.o.dst, readsOf ops x.o, bl, md⟩ :: ds)) (rsOf (⟨x.i, closure ds x.need, x.o.dst, readsOf ops x.o, bl, md⟩ :: ds)) s o = kDrawN F.toFns ops r done ⟨x.i, closure ds x.need, x.o.dst, readsOf ops x.o, bl, md⟩ ds s o := fun bl md s o => sGo_eq hF hl s o
            have run : ∀ s', sRun c F ops ⟨x.o, false, closure ds x.need, x.i⟩ l' (msOf ds) (rsOf ds) tm s' = dDrawA c F.toFns ops r done x ds tm s' (apart (foot (opd tm) x.o.op) (looseMade ds (closure ds x.need))) := by
              intro s'
              show Bool.casesOn (motive := fun _ => R (X × Tm)) (apart (foot (opd tm) x.o.op) (lookM (closure ds x.need) (msOf ds))) _ _ = _
              rw [lookM_eq]
              cases apart (foot (opd tm) x.o.op) (looseMade ds (closure ds x.need)) with
              | false => rfl
              | true =>
                show sPure F ops _ l' (msOf ds) (rsOf ds) tm s' (dPure x.o.op c tm x.o s') = kDrawP F.toFns ops r done x ds tm s' (dPure x.o.op c tm x.o s')
                cases dPure x.o.op c tm x.o s' with
                | none => rfl
                | some p =>
                  obtain ⟨v, ob, s''⟩ := p
                  show sGo F ops l' (addM x.i s'.h.next (msOf ds) ob) (addR x.i (rsOf ds) (foot (opd tm) x.o.op)) s'' (tput x.o.dst v tm) = kDrawN F.toFns ops r done ⟨x.i, closure ds x.need, x.o.dst, readsOf ops x.o, foot (opd tm) x.o.op, kMade s'.h.next ob⟩ ds s'' (tput x.o.dst v tm)
                  rw [← go]
                  cases ob <;> cases foot (opd tm) x.o.op <;> rfl
            show Option.casesOn (motive := fun _ => R (X × Tm)) x.o.guard _ _ = dDrawW c F.toFns ops r done x ds tm (wants ops x.o tm s)
            cases hg : x.o.guard with
            | none =>
              have : wants ops x.o tm s = some (true, s) := by unfold wants; rw [hg]
              rw [this]
              exact run s
            | some g =>
              show sWant c F ops _ l' (msOf ds) (rsOf ds) tm (wants ops x.o tm s) = _
              cases wants ops x.o tm s with
              | none => rfl
              | some q =>
                obtain ⟨b, s'⟩ := q
                cases b with
                | false => exact go [] none (bump s') (tput x.o.dst (.tuple #[]) tm)
                | true => exact run s'
          · cases hs
      · rename_i hf
        rw [hf]
        show _ = dDrawE F.toFns ops done ds tm s (dFind true done (t :: ts))
        split at hs
        · cases hs
        · rename_i x r hf2
          rw [hf2]
          rw [clear_strip, closure_strip] at hs
          split at hs
          · rename_i hf3 hcl
            split at hs
            · rename_i l' hl
              cases hs
              show sStep c F ops ⟨x.o, true, closure ds x.need, x.i⟩ l' (msOf ds) (rsOf ds) tm s = kDrawE0 F.toFns ops r done x ds tm s (dFind true done r) (clear ds (closure ds x.need) x.o.dst (readsOf ops x.o))
              rw [hf3, hcl]
              have go : ∀ (s : St) (o : Option Tm), sGo F ops l' (msOf ds) (rsOf ds) s o = kDrawN F.toFns ops r done ⟨x.i, closure ds x.need, x.o.dst, readsOf ops x.o, [], none⟩ ds s o := fun s o => sGo_eq (d := ⟨x.i, closure ds x.need, x.o.dst, readsOf ops x.o, [], none⟩) hF hl s o
              have run : ∀ s', sRun c F ops ⟨x.o, true, closure ds x.need, x.i⟩ l' (msOf ds) (rsOf ds) tm s' = kDrawE2 F.toFns ops r done x ds tm s' (F.step x.o tm ⟨hide s'.h (looseMade ds (closure ds x.need)) (looseRead ds (closure ds x.need)), s'.orc, s'.ob⟩) := by
                intro s'
                show sEff F ops _ l' (msOf ds) (rsOf ds) tm s' (F.step x.o tm ⟨hide s'.h (lookM (closure ds x.need) (msOf ds)) (lookR (closure ds x.need) (rsOf ds)), s'.orc, s'.ob⟩) = _
                rw [lookM_eq, lookR_eq]
                cases F.step x.o tm ⟨hide s'.h (looseMade ds (closure ds x.need)) (looseRead ds (closure ds x.need)), s'.orc, s'.ob⟩ with
                | err n => rfl
                | ok v s'' =>
                  show sGo F ops l' (msOf ds) (rsOf ds) ⟨restore s''.h s'.h (lookM (closure ds x.need) (msOf ds)), s''.orc, s''.ob⟩ (tput x.o.dst v tm) = _
                  rw [lookM_eq]
                  exact go _ _
              show Option.casesOn (motive := fun _ => R (X × Tm)) x.o.guard _ _ = kDrawE1 F.toFns ops r done x ds tm (wants ops x.o tm s)
              cases hg : x.o.guard with
              | none =>
                have : wants ops x.o tm s = some (true, s) := by unfold wants; rw [hg]
                rw [this]
                exact run s
              | some g =>
                show sWant c F ops _ l' (msOf ds) (rsOf ds) tm (wants ops x.o tm s) = _
                cases wants ops x.o tm s with
                | none => rfl
                | some q =>
                  obtain ⟨b, s'⟩ := q
                  cases b with
                  | false => exact go s' (tput x.o.dst (.tuple #[]) tm)
                  | true => exact run s'
            · cases hs
          · cases hs

theorem dCodeS_eq {c : Ctx} {F : Fns3} (hF : SameDraw F) (code : Code) (tm : Tm) (s : St) : dCodeS code c F tm s = dCode code c F.toFns tm s := by
  cases code
  case region i ops d =>
    cases d with
    | false => rfl
    | true =>
      show sReg F ops.toList tm s (schedAll ops.toList) = F.draw ops.toList (prep 0 ops.toList) 0 [] tm s
      cases hs : schedAll ops.toList with
      | none => rfl
      | some l => exact hF _ ops.toList _ 0 [] l tm s hs
  all_goals rfl
theorem evS_ok (c : Ctx) : ∀ n, (evS c n).toFns = evD c n ∧ SameDraw (evS c n)
  | 0 => ⟨rfl, fun f ops l done ds steps tm s _ => rfl⟩
  | n + 1 => by
    obtain ⟨h1, h2⟩ := evS_ok c n
    have e : (fun code tm s => dCodeS code c (evS c n) tm s) = fun code tm s => dCode code c (evS c n).toFns tm s := by funext code tm s; exact dCodeS_eq h2 code tm s
    refine ⟨?_, fun f ops l done ds steps tm s hs => drawSF_same h2 f ops l done ds steps tm s hs⟩
    show Fns.mk _ _ _ _ _ = stepAllD c (evD c n)
    rw [e, h1]
    rfl
end Fast
theorem evCall_run (c : Ctx) (f : Nat) (k : Nat) (args : List Value) (s : St) : evCall c f k args s = (Fast.evS c f).call k args s := by
  rw [evCall_quick, ← (Fast.evS_ok c f).1]
end
end Go.EV
