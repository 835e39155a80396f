/-
  All operations.
-/
import Derived.Test.YtkfaaeefbndkjaaGreatEvL
namespace Go.EV
open Go.RowKit (Below)

section
variable {B0 : Nat} {w0 : World} {J : Inj} {h h' : H} {w : World} {P : Program} {c : Ctx} {v : Value}

theorem PR.of_val {x : Option (Value × H)} (he : PR.of x = .val v h') : x = some (v, h') := by
  unfold PR.of at he
  split at he
  · cases he; rfl
  · cases he
theorem PR.unit_val {x : Option H} (he : PR.unit x = .val v h') : x = some h' ∧ v = .tuple #[] := by
  unfold PR.unit at he
  split at he
  · cases he; exact ⟨rfl, rfl⟩
  · cases he

theorem arr1 {x : Value} {l' : List Value} (hl : LV J [x] l') : ∃ x', l' = [x'] ∧ VR J x x' := by
  obtain ⟨y, r, rfl, hy, hr⟩ := hl.cons_left
  rw [hr.nil_left]
  exact ⟨y, rfl, hy⟩
theorem arr2 {x y : Value} {l' : List Value} (hl : LV J [x, y] l') : ∃ x' y', l' = [x', y'] ∧ VR J x x' ∧ VR J y y' := by
  obtain ⟨x', r, rfl, hx, hr⟩ := hl.cons_left
  obtain ⟨y', rfl, hy⟩ := arr1 hr
  exact ⟨x', y', rfl, hx, hy⟩

theorem builtin_sound (hT : Tbl P c) (hI : Inv B0 w0 J h w) {b : Builtin} {ts : Array Nat} {ty : TypeId} {cs : Array Bool} {args args' : List Value} (ha : LV J args args') (he : builtin c b ts args h = .val v h') :
    OpOk B0 w0 ((Go.builtin b ts ty cs args'.toArray).run P w) J h w v h' := by
  unfold builtin at he
  split at he
  · -- len
    rename_i x
    split at he
    · rename_i t ht
      obtain ⟨rfl, hb⟩ := PR.pure_val he
      obtain ⟨x', rfl, hx⟩ := arr1 ha
      obtain ⟨v', h1, h2⟩ := bu_len (ty := ty) hT hI ht hx hb
      exact OpOk.stay hI (v' := v') (by simp [Go.builtin, h1]) h2
    · cases he
  · -- cap
    rename_i s n k
    split at he
    · rename_i t ht
      obtain ⟨x', rfl, hx⟩ := arr1 ha
      split at he
      · rename_i ei hs
        cases he
        exact OpOk.stay hI (v' := .int .i64 k) (by simp [Go.builtin, bu_cap (P := P) (w := w) (ty := ty) hT ht hx hs (fun a e => by cases e)]) (.int _ _)
      · rename_i ei a hs
        split at he
        · rename_i hsp
          cases he
          exact OpOk.stay hI (v' := .int .i64 k) (by simp [Go.builtin, bu_cap (P := P) (w := w) (ty := ty) hT ht hx hs (fun a e => by cases e; exact hsp)]) (.int _ _)
        · cases he
      · cases he
    · cases he
  · -- min
    rename_i x r
    obtain ⟨rfl, hb⟩ := PR.pure_val he
    obtain ⟨x', r', rfl, hx, hr⟩ := ha.cons_left
    obtain ⟨v', h1, h2⟩ := bu_min (P := P) (w := w) r r' x x' hx hr hb
    exact OpOk.stay hI (v' := v') (by simp [Go.builtin, Builtin.min_, h1]) h2
  · -- max
    rename_i x r
    obtain ⟨rfl, hb⟩ := PR.pure_val he
    obtain ⟨x', r', rfl, hx, hr⟩ := ha.cons_left
    obtain ⟨v', h1, h2⟩ := bu_max (P := P) (w := w) r r' x x' hx hr hb
    exact OpOk.stay hI (v' := v') (by simp [Go.builtin, Builtin.max_, h1]) h2
  · -- append
    rename_i s x
    obtain ⟨s', x', rfl, hs, hx⟩ := arr2 ha
    split at he
    · rename_i t u ht hu
      split at he
      · rename_i ei ui hei hui
        obtain ⟨e, hut, hE⟩ := sliceE_ok hT hei
        have hU := hT.tt _ _ hui
        obtain ⟨z, hz, hzv, hzc⟩ := hE.zero
        have hzl : z.cells.size = ei.size := by rw [← Array.length_toList, hzc, hE.zlen]
        have fin : ∀ {m : Nat} {src src' : List Value}, AppB P ts ty e ei z x' m src' w → LV J src src' → append h ei s m src = some (v, h') → OpOk B0 w0 ((Go.builtin .append ts ty cs [s', x'].toArray).run P w) J h w v h' := by
          intro m src src' hA hsrc hap
          obtain ⟨J', v', w', h1, h2, h3⟩ := bu_append hI hs hE hzc hA hsrc hap
          exact ⟨J', v', w', .inl (by simp [Go.builtin, h1]), h2, h3⟩
        split at he
        · rename_i k hk
          split at he
          · rename_i k' n
            split at he
            · rename_i hd
              have hd : 0 ≤ n ∧ n ≤ 2 ^ 40 ∧ n * ei.bytes ≤ 2 ^ 40 := by simpa using hd
              obtain ⟨d1, d2, d3⟩ := hd
              obtain ⟨m, rfl⟩ := Int.eq_ofNat_of_zero_le d1
              have := hx.int_inv
              subst this
              refine fin (appB_zeros ht hu hut hE hU hk hz hzl (by omega) (by exact_mod_cast d3)) (src := repL m ei.zero) ?_ (by simpa using PR.of_val he)
              rw [hzc]; exact repL_rel (hE.zeroRel J) m
            · cases he
          · cases he
        · rename_i hk
          split at he
          · rename_i m hm
            split at he
            · rename_i src hsrc
              obtain ⟨hl, src', hlv, hcell⟩ := src_ok (P := P) hI hx hm hsrc (Nat.le_refl _)
              exact fin (appB_src ht hu hut hE hU hk hz hl hcell) hlv (PR.of_val he)
            · cases he
          · cases he
      · cases he
    · cases he
  · -- copy
    rename_i s x
    obtain ⟨s', x', rfl, hs, hx⟩ := arr2 ha
    split at he
    · rename_i t ht
      split at he
      · rename_i ei hei
        obtain ⟨w', h1, h2, h3⟩ := bu_copy (ty := ty) hT hI ht hs hx hei (PR.of_val he)
        exact ⟨J, v, w', .inl (by simp [Go.builtin, h1]), h3, h2⟩
      · cases he
    · cases he
  · -- delete
    rename_i m k
    obtain ⟨m', k', rfl, hm, hk⟩ := arr2 ha
    split at he
    · rename_i t ht
      split at he
      · rename_i me mb hme
        split at he
        · rename_i es hpk hg
          have hpk : plainKey me.ds = true ∧ keyForm me.agg me.ds k = true := by simpa using hpk
          split at he
          · rename_i es' hdel
            obtain ⟨hup, rfl⟩ := PR.unit_val he
            obtain ⟨w', h1, h2⟩ := bu_delete (ty := ty) hT hI ht hm hk hme hpk hg hdel hup
            exact ⟨J, Go.undef, w', .inl (by simp [Go.builtin, h1]), h2, VR.undef J⟩
          · cases he
        · cases he
      · cases he
    · cases he
  · cases he

theorem args_rel {ρ ρ' : Operand → Value} : ∀ (l : List Operand), (∀ x ∈ l, VR J (ρ x) (ρ' x)) → LV J (l.map ρ) (l.map ρ')
  | [], _ => .nil
  | x :: r, h => .cons (h x (by simp)) (args_rel r fun y hy => h y (by simp [hy]))

theorem invoke_not_val {fn : Value} {args : List Value} : invoke fn args h ≠ .val v h' := by
  unfold invoke; split <;> simp

theorem run_v (s : Sem Value) : ((do pure (.value (← s)) : Sem Next)).run P w = ((fun v => Next.value v) <$> s).run P w := by
  simp [Sem.run_map]

theorem makeFunc_rel {f : Nat} {a b a' b' : List Value} (h1 : LV J a a') (h2 : LV J b b') : VR J (.func (.func f) ⟨a⟩ ⟨b⟩) (.func (.func f) ⟨a'⟩ ⟨b'⟩) := .func h1.1 h1.2 h2.1 h2.2

/-- EACH OPERATION THAT YIELDS A VALUE. -/
theorem op_val (hT : Tbl P c) (hI : Inv B0 w0 J h w) {ρ ρ' : Operand → Value} {o : Oper} (hρ : ∀ x ∈ opsOf o.op, VR J (ρ x) (ρ' x)) (he : evOp c ρ o.op h = .val v h') :
    OpOk B0 w0 ((execOp ρ' o).run P w) J h w v h' := by
  cases ho : o.op <;> rw [ho] at hρ he <;> simp only [opsOf] at hρ <;> simp only [execOp, ho]
  case move x =>
    simp only [evOp] at he; cases he
    exact OpOk.stay hI (v' := ρ' x) (by simp) (hρ x (by simp))
  case assign x =>
    simp only [evOp] at he; cases he
    exact OpOk.stay hI (v' := ρ' x) (by simp) (hρ x (by simp))
  case alloc e =>
    simp only [evOp] at he
    split at he
    · rename_i ti ht
      cases he
      rw [run_v]; exact op_alloc hT hI ht
    · cases he
  case box e x =>
    simp only [evOp] at he; cases he
    rw [run_v]; exact op_box hI (hρ x (by simp))
  case build t ps => rw [run_v]; exact op_build hT hI (fun p hp => hρ p.2 (List.mem_map_of_mem hp)) he
  case buildSlice t n ps => rw [run_v]; exact op_buildSlice hT hI (fun p hp => hρ p.2 (List.mem_map_of_mem hp)) he
  case load t a => rw [run_v]; exact op_load hT hI (hρ a (by simp)) he
  case store t a x => exact op_store hT hI (hρ a (by simp)) (hρ x (by simp)) he
  case nilCheck x =>
    have := op_nilCheck (P := P) hI ho (hρ x (by simp)) he
    simpa only [execOp, ho] using this
  case binOp op t x y u =>
    have := op_binOp (P := P) hT hI ho (hρ x (by simp)) (hρ y (by simp)) he
    simpa only [execOp, ho] using this
  case unOp op t x =>
    rw [run_v]
    cases op with
    | not => exact op_not hI (hρ x (by simp)) he
    | neg => exact op_neg hI (hρ x (by simp)) he
    | xor => exact op_xor hI (hρ x (by simp)) he
    | plus => simp [evOp] at he
  case convert s t x => rw [run_v]; exact op_convert hT hI (hρ x (by simp)) he
  case sliceToArrayPointer t x => rw [run_v]; exact op_arrayAt hT hI (hρ x (by simp)) he
  case makeInterface t x => rw [run_v]; exact op_makeInterface hT hI (hρ x (by simp)) he
  case makeFunc fn first cs =>
    cases fn with
    | func f =>
      simp only [evOp] at he
      cases he
      have h1 := args_rel first.toList (fun x hx => hρ x (by simp at hx; simp [hx]))
      have h2 := args_rel cs.toList (fun x hx => hρ x (by simp at hx; simp [hx]))
      refine OpOk.stay hI (v' := .func (.func f) (first.map ρ') (cs.map ρ')) (by simp [Instr.makeFunc]) ?_
      have := makeFunc_rel (f := f) h1 h2
      have e1 : (⟨first.toList.map ρ'⟩ : Array Value) = first.map ρ' := by apply Array.ext'; simp
      have e2 : (⟨cs.toList.map ρ'⟩ : Array Value) = cs.map ρ' := by apply Array.ext'; simp
      rw [e1, e2] at this
      exact this
    | _ => simp [evOp] at he
  case makeMap t r => rw [run_v]; exact op_makeMap hI he
  case makeSlice t l k => rw [run_v]; exact op_makeSlice hT hI (hρ l (by simp)) (hρ k (by simp)) he
  case slice t x lo hi mx =>
    rw [run_v]
    exact op_slice hT hI (hρ x (by simp)) (fun y hy => hρ y (by simp [hy])) (fun y hy => hρ y (by simp [hy])) (fun y hy => hρ y (by simp [hy])) he
  case fieldAddr t x f => rw [run_v]; exact op_fieldAddr hT hI (hρ x (by simp)) he
  case field t x f => rw [run_v]; exact op_field hT hI (hρ x (by simp)) he
  case indexAddr t x i => rw [run_v]; exact op_indexAddr hT hI (hρ x (by simp)) (hρ i (by simp)) he
  case index t x i => rw [run_v]; exact op_index hT hI (hρ x (by simp)) (hρ i (by simp)) he
  case lookup t x i ok => rw [run_v]; exact op_lookup hT hI (hρ x (by simp)) (hρ i (by simp)) he
  case mapUpdate t m k x => exact op_mapStore hT hI (hρ m (by simp)) (hρ k (by simp)) (hρ x (by simp)) he
  case insert t m k x => exact op_mapStore hT hI (hρ m (by simp)) (hρ k (by simp)) (hρ x (by simp)) he
  case typeAssert x s u ok => rw [run_v]; exact op_typeAssert hT hI (hρ x (by simp)) he
  case extract t i => rw [run_v]; exact op_extract hI (hρ t (by simp)) he
  case call cl =>
    simp only [evOp] at he
    cases hc : cl.callee with
    | builtin b =>
      rw [hc] at he hρ
      simp only [resolve, hc, Sem.run_bind, Sem.run_pure, Result.andThen_ok, Go.invoke]
      have h1 := args_rel cl.args.toList (fun x hx => hρ x (by simpa using hx))
      have e1 : (cl.args.toList.map ρ').toArray = cl.args.map ρ' := by apply Array.ext'; simp
      have := builtin_sound (P := P) (ty := o.type) (cs := cl.args.map fun | .const _ => true | _ => false) hT hI h1 he
      rw [e1] at this
      exact this
    | value f =>
      rw [hc] at he
      exact absurd he invoke_not_val
    | invoke _ _ => rw [hc] at he; cases he
  all_goals (simp [evOp] at he)

theorem builtin_val {b : Builtin} {ts : Array Nat} {args : List Value} : (∃ v h', builtin c b ts args h = .val v h') ∨ builtin c b ts args h = .bad := by
  have e1 : ∀ x, (∃ v h', PR.pure h x = .val v h') ∨ PR.pure h x = .bad := fun x => by cases x <;> simp [PR.pure]
  have e2 : ∀ x, (∃ v h', PR.of x = .val v h') ∨ PR.of x = .bad := fun x => by cases x <;> simp [PR.of]
  have e3 : ∀ x, (∃ v h', PR.unit x = .val v h') ∨ PR.unit x = .bad := fun x => by cases x <;> simp [PR.unit]
  unfold builtin
  split
  · split
    · exact e1 _
    · exact .inr rfl
  · split
    · split
      · exact .inl ⟨_, _, rfl⟩
      · split
        · exact .inl ⟨_, _, rfl⟩
        · exact .inr rfl
      · exact .inr rfl
    · exact .inr rfl
  · exact e1 _
  · exact e1 _
  · split
    · split
      · split
        · split
          · split
            · exact e2 _
            · exact .inr rfl
          · exact .inr rfl
        · split
          · split
            · exact e2 _
            · exact .inr rfl
          · exact .inr rfl
      · exact .inr rfl
    · exact .inr rfl
  · split
    · split
      · exact e2 _
      · exact .inr rfl
    · exact .inr rfl
  · split
    · split
      · split
        · split
          · exact e3 _
          · exact .inr rfl
        · exact .inr rfl
      · exact .inr rfl
    · exact .inr rfl
  · exact .inr rfl

theorem PR.pure_nc {x : Option Value} {k : Nat} {a : List Value} {h1 : H} : PR.pure h x ≠ .call k a h1 ∧ PR.pure h x ≠ .round k a h1 := by cases x <;> simp [PR.pure]
theorem PR.unit_nc {x : Option H} {k : Nat} {a : List Value} {h1 : H} : PR.unit x ≠ .call k a h1 ∧ PR.unit x ≠ .round k a h1 := by cases x <;> simp [PR.unit]

/-- Only a call of a function's value goes into another function. -/
theorem evOp_nc {ρ : Operand → Value} {op : Op} {k : Nat} {a : List Value} {h1 : H} (he : evOp c ρ op h = .call k a h1 ∨ evOp c ρ op h = .round k a h1) : ∃ cl f, op = .call cl ∧ cl.callee = .value f ∧ evOp c ρ op h = invoke (ρ f) (cl.args.toList.map ρ) h := by
  have e1 : ∀ x, PR.pure h x ≠ .call k a h1 ∧ PR.pure h x ≠ .round k a h1 := fun x => PR.pure_nc
  have e3 : ∀ x, PR.unit x ≠ .call k a h1 ∧ PR.unit x ≠ .round k a h1 := fun x => PR.unit_nc
  have fin : ∀ {q : PR}, q ≠ .call k a h1 ∧ q ≠ .round k a h1 → q = .call k a h1 ∨ q = .round k a h1 → False := fun p q => q.elim p.1 p.2
  cases op
  case call cl =>
    cases hc : cl.callee with
    | builtin b =>
      simp only [evOp, hc] at he
      rcases builtin_val (c := c) (h := h) (b := b) (ts := cl.argTypes) (args := cl.args.toList.map ρ) with ⟨_, _, e⟩ | e <;> rw [e] at he <;> simp at he
    | value f => exact ⟨cl, f, rfl, hc, by simp only [evOp, hc]⟩
    | invoke _ _ => simp only [evOp, hc] at he; simp at he
  case mapUpdate t m k' x =>
    simp only [evOp, evOp.mapStore] at he
    repeat' split at he
    all_goals first | exact (fin (e1 _) he).elim | exact (fin (e3 _) he).elim | simp at he
  case insert t m k' x =>
    simp only [evOp, evOp.mapStore] at he
    repeat' split at he
    all_goals first | exact (fin (e1 _) he).elim | exact (fin (e3 _) he).elim | simp at he
  case convert s t x =>
    simp only [evOp, convert] at he
    repeat' split at he
    all_goals first | exact (fin (e1 _) he).elim | exact (fin (e3 _) he).elim | simp at he
  case slice t x lo hi mx =>
    simp only [evOp, sliceX] at he
    repeat' split at he
    all_goals first | exact (fin (e1 _) he).elim | exact (fin (e3 _) he).elim | simp at he
  case makeSlice t l k' =>
    simp only [evOp, makeSlice] at he
    repeat' split at he
    all_goals first | exact (fin (e1 _) he).elim | exact (fin (e3 _) he).elim | simp at he
  case indexAddr t l k' =>
    simp only [evOp, indexP] at he
    repeat' split at he
    all_goals first | exact (fin (e1 _) he).elim | exact (fin (e3 _) he).elim | simp at he
  case index t l k' =>
    simp only [evOp, indexV] at he
    repeat' split at he
    all_goals first | exact (fin (e1 _) he).elim | exact (fin (e3 _) he).elim | simp at he
  case unOp op t x =>
    cases op <;> simp only [evOp] at he
    all_goals (repeat' split at he)
    all_goals first | exact (fin (e1 _) he).elim | exact (fin (e3 _) he).elim | simp at he
  case makeFunc fn a b =>
    cases fn <;> simp [evOp] at he
  case makeMap t r =>
    cases r <;> simp [evOp] at he
  case typeAssert x s t ok =>
    cases ok
    · simp only [evOp] at he
      repeat' split at he
      all_goals first | exact (fin (e1 _) he).elim | exact (fin (e3 _) he).elim | simp at he
    · simp [evOp] at he
  case binOp => simp only [evOp] at he; exact (fin (e1 _) he).elim
  all_goals simp only [evOp] at he
  all_goals (repeat' split at he)
  all_goals first | exact (fin (e1 _) he).elim | exact (fin (e3 _) he).elim | simp at he
end
end Go.EV
