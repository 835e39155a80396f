/-
  The evaluator's word is the program's: operations, rounds, code, calls: each by what is told of one step less.
-/
import Derived.Test.YtkfaaeefbndkjaaGreatEvO
namespace Go.EV
open Go.RowKit (Below)

section
variable {B0 : Nat} {w0 : World} {J : Inj} {h h' : H} {w w' : World} {P : Program} {c : Ctx} {v : Value} {F : Fence} {n : Nat} {a : Act}

theorem put_defers (a : Act) (d : Option Tmp) (v : Value) : (a.put d v).defers = a.defers := by cases d <;> rfl

theorem sops_succ {f : Nat} (hg : GoodF c f) (hs : SStep P c f) (ho : SOps P c f) : SOps P c (f + 1) := by
  intro ops rest tm s x tm' s' he hob hok B0 w0 J w a F n Q i hi hI hT hw k
  cases rest with
  | nil =>
    simp only [evOps] at he
    cases he
    simp only [List.length_nil, List.range'_zero, wpOpsIn]
    exact k J a w (.refl hI.toInv0) hT (fun _ _ h => h)
  | cons o r =>
    have hoi := hi 0 o (by simp)
    simp only [allB] at hok
    split at hok
    · rename_i hoko
      simp only [evOps] at he
      rw [List.length_cons, List.range'_succ, wpOpsIn_cons]
      simp only [Nat.add_zero] at hoi
      simp only [wpOpIn, hoi]
      have hi' : ∀ j o', r[j]? = some o' → ops[i + 1 + j]? = some o' := fun j o' hj => by rw [show i + 1 + j = i + (j + 1) by omega]; exact hi (j + 1) o' (by simpa using hj)
      have hv : ∀ t ∈ readsOf ops.toList o, VR J (tget tm t) (a.tmps.getD t Go.undef) := fun t _ => hT.2 t
      split at he
      · cases he
      · rename_i s1 hwt
        split at he
        · rename_i tm1 hp
          have hob1 := (hg.ops _ _ _ _ _ _ he).ob hob
          obtain ⟨h1, h2, h3⟩ := wants_run (J := J) (a := a) hwt hob1 hv
          rw [if_neg (by simp [h1])]
          refine ⟨fun _ _ => hw.fn _, ho ops r tm1 s1 x tm' s' he hob hok B0 w0 J w (a.put o.dst Go.undef) F n Q (i + 1) hi' (by rw [h3]; exact hI) (hT.put (VR.undef J) hp) hw fun J' a' w' hst ht hm => k J' a' w' (by rw [h3] at hst; exact hst) ht fun S hS h0 => hm S hS (by rw [put_defers]; exact h0)⟩
        · cases he
      · rename_i s1 hwt
        split at he
        · rename_i u s2 hst0
          split at he
          · rename_i tm1 hp
            have hob2 := (hg.ops _ _ _ _ _ _ he).ob hob
            have hob1 := (hg.step _ _ _ _ _ hst0).ob hob2
            obtain ⟨h1, h2, h3⟩ := wants_run (J := J) (a := a) hwt hob1 hv
            rw [if_pos h1]
            refine hs o tm s1 u s2 hst0 hob2 B0 w0 J w a F n _ Q (by rw [h3]; exact hI) (reads_opd hoko hv) hw fun J1 v1 w1 st1 hr1 => ?_
            rw [h3] at st1
            refine ho ops r tm1 s2 x tm' s' he hob hok B0 w0 J1 w1 (a.put o.dst v1) F n Q (i + 1) hi' (st1.all hI) ((hT.mono st1.le).put hr1 hp) (hw.stp st1) fun J' a' w' st2 ht hm => ?_
            refine k J' a' w' (st1.trans st2) ht ?_
            exact (Mks.stp hI.toInv0 st1 (put_defers _ _ _)).trans st1.fr.size hm
          · cases he
        · cases he
    · cases hok

/-! ### One operation -/
theorem wpIn_of_run {o : Oper} {next : Act → World → Prop} {Q : Exit → Act → World → Prop} (hw : Wd F w) (hd : ∀ x, o.op ≠ .defer x) (h : o.uponIn F n P a next Q ((execOp a.eval o).run P w)) : o.wpIn F n P a w next Q :=
  ⟨fun _ _ => hw.fn _, by rw [Oper.semAt_eq _ _ _ hd]; exact h⟩
theorem wpIn_of_CF {o : Oper} {next : Act → World → Prop} {Q : Exit → Act → World → Prop} {k : Nat} {args : Array Value} {R : Value → World → Prop} (hw : Wd F w) (hd : ∀ x, o.op ≠ .defer x)
    (hr : (execOp a.eval o).run P w = (callFunc k args).run P w) (hc : CF P k args w R) (hk : ∀ v' w', R v' w' → next (a.put o.dst v') w') : o.wpIn F n P a w next Q := by
  refine wpIn_of_run hw hd ?_
  rw [hr]
  rcases hc with ⟨v', w', h1, h2⟩ | ⟨h1, h2⟩
  · rw [h1]; exact hk _ _ h2
  · rw [h1]
    rw [Oper.uponIn_enter]
    refine ⟨hw.depth, (hw.calls h2).mono ?_⟩
    rintro e w'' ⟨v', rfl, h3⟩
    exact hk _ _ h3

theorem zipT_rel : ∀ (ps : List Tmp) (args args' : List Value) (tm tm1 : Tm) (tmps : Array Value), zipT ps args tm = some tm1 → LV J args args' → TR J tm tmps →
    args'.length = ps.length ∧ TR J tm1 ((ps.zip args').foldl (fun tmps p => tmps.setIfInBounds p.1 p.2) tmps)
  | [], args, args', tm, tm1, tmps, hz, ha, hT => by
    cases args with
    | nil =>
      simp [zipT] at hz; subst hz
      rw [ha.nil_left]; exact ⟨rfl, hT⟩
    | cons _ _ => simp [zipT] at hz
  | p :: ps, args, args', tm, tm1, tmps, hz, ha, hT => by
    cases args with
    | nil => simp [zipT] at hz
    | cons v vs =>
      simp only [zipT] at hz
      split at hz
      · rename_i tm2 hp
        obtain ⟨v', vs', rfl, hv, hvs⟩ := ha.cons_left
        have h1 := TR.put (a := { tmps := tmps, defers := [] }) hT hv hp
        obtain ⟨h2, h3⟩ := zipT_rel ps vs vs' tm2 tm1 _ hz hvs h1
        exact ⟨by simp [h2], h3⟩
      · cases hz

/-- A loop's record is turned. -/
theorem Stp.loopTurn (hI : Inv0 B0 w0 J h w) {l : Nat} {d0 d : Bool} {p0 p : Option Code} {tm : Tm} {ps : Array Tmp} {as bo : Code} {i : BI} (hg : h.get l = some (.loop d0 p0 tm ps as bo)) (hj : J l = some i) (hu : h.upd l (some (.loop d p tm ps as bo)) = some h')
    {r : Loop} {st : LoopState} (hr : w.heap[i.blk]? = some (.loop r)) (hst : st = lst d p) :
    Stp B0 w0 J h w J h' (w.putObj i.blk (.loop { r with state := st, pending := p })) := by
  have hlt := (Array.getElem?_eq_some_iff.1 hr).1
  have hat := World.putObj_heap_same (w := w) (o := .loop { r with state := st, pending := p }) hlt
  obtain ⟨i', hj', _, r', hr', q1, q2, q3, q4, q5, q6, q7, _⟩ := hI.live l _ hg
  rw [hj] at hj'; cases hj'
  rw [hr] at hr'; cases hr'
  exact Stp.turn hI hg hj hu (by simp) rfl rfl rfl (fun k hk => World.putObj_heap_other hk) (fun r2 h2 => by rw [hr] at h2; cases h2; exact ⟨_, hat, rfl⟩) ⟨_, hat, rfl, q2, q3, q4, q5, q6, q7, hst⟩

theorem Inv0.loop (hI : Inv0 B0 w0 J h w) {l : Nat} {d : Bool} {p : Option Code} {tm : Tm} {ps : Array Tmp} {as bo : Code} (hg : h.get l = some (.loop d p tm ps as bo)) : ∃ i r, J l = some i ∧ w.heap[i.blk]? = some (.loop r) ∧ r.pending = p ∧ TR J tm r.tmps ∧ r.params = ps ∧ r.assign = as ∧ r.body = bo ∧ okC as = true ∧ okC bo = true ∧
    r.state = lst d p := by
  obtain ⟨i, hj, _, r, hr⟩ := hI.live l _ hg
  exact ⟨i, r, hj, hr⟩

/-- A loop's record, at its end. -/
theorem Stp.loopEnd (hI : Inv0 B0 w0 J h w) {l : Nat} {d0 : Bool} {p0 : Option Code} {tm : Tm} {ps : Array Tmp} {as bo : Code} {i : BI} (hg : h.get l = some (.loop d0 p0 tm ps as bo)) (hj : J l = some i) (hu : h.upd l none = some h')
    {r : Loop} (r' : Loop) (hr : w.heap[i.blk]? = some (.loop r)) (hd : r'.defers = r.defers) : Stp B0 w0 J h w J h' (w.putObj i.blk (.loop r')) := by
  obtain ⟨hn, -, hs, hne⟩ := H.upd_some hu
  have hlt := (Array.getElem?_eq_some_iff.1 hr).1
  have hat := World.putObj_heap_same (w := w) (o := .loop r') hlt
  obtain ⟨i', hj', hB, _⟩ := hI.live l _ hg
  rw [hj] at hj'; cases hj'
  have old : ∀ y oy, h'.get y = some oy → h.get y = some oy ∧ y ≠ l := fun y oy hy => by
    by_cases e : y = l
    · subst e; rw [hs] at hy; cases hy
    · rw [hne y e] at hy; exact ⟨hy, e⟩
  refine ⟨J.le_refl, ⟨hI.base, ?_, fun x ox hx => ?_, fun x x' ox ox' ix ix' hx hx' => hI.inj x x' ox ox' ix ix' (old _ _ hx).1 (old _ _ hx').1⟩, by omega, fun _ _ h => .inl h,
    ⟨by simp, fun k _ hk => World.putObj_heap_other (fun e => hk l _ i hg hj e.symm), fun k r2 hr2 => ?_⟩, fun x ox ix hx hjx _ => ⟨x, ox, ix, (old _ _ hx).1, hjx, rfl⟩⟩
  · have hb := hI.below
    exact ⟨hb.os, hb.tape, hb.output, by simpa using hb.size, fun k hk => by rw [World.putObj_heap_other (by omega)]; exact hb.block k hk⟩
  · obtain ⟨h1, h2⟩ := old _ _ hx
    obtain ⟨ix, q, r1, s⟩ := hI.live x ox h1
    exact ⟨ix, q, r1, s.same (World.putObj_heap_other (fun e => h2 (hI.inj x l _ _ _ _ h1 hg q hj e)))⟩
  · by_cases e : k = i.blk
    · subst e; rw [hr] at hr2; cases hr2; exact ⟨r', hat, hd⟩
    · exact ⟨r2, by rw [World.putObj_heap_other e]; exact hr2, rfl⟩

theorem sstep_succ {f : Nat} (hT : Tbl P c) (hg : GoodF c f) (hcode : SCode P c f) (hcall : SCall P c f) : SStep P c (f + 1) := by
  intro o tm s v s' he hob B0 w0 J w a F n next Q hI hρ hw k
  simp only [evStep] at he
  split at he
  · rename_i x y z hop
    rw [hop] at hρ
    simp only [opsOf] at hρ
    have hx := hρ x (by simp)
    split at he
    · rename_i b hb
      rw [hb] at hx
      have hx := hx.bool_inv
      refine wpIn_of_run hw (by simp [hop]) ?_
      split at he
      · rename_i s1 hd
        cases he
        obtain ⟨e1, e2, e3⟩ := dec_true hd hob
        subst e1
        have : (execOp a.eval o).run P w = .ok (.value (a.eval y)) w := by simp [execOp, hop, hx, asBool]
        rw [this]
        exact k J _ w (by rw [e3]; exact .refl hI.toInv0) (hρ y (by simp))
      · rename_i s1 hd
        cases he
        obtain ⟨e1, e2, e3⟩ := dec_true hd hob
        subst e1
        have : (execOp a.eval o).run P w = .ok (.value (a.eval z)) w := by simp [execOp, hop, hx, asBool]
        rw [this]
        exact k J _ w (by rw [e3]; exact .refl hI.toInv0) (hρ z (by simp))
    · cases he
  · split at he
    · rename_i v1 h1 hop
      cases he
      obtain ⟨J', v', w', hr, hst, hv⟩ := op_val (P := P) hT hI.one hρ hop
      refine wpIn_of_run hw (val_not_defer hop) ?_
      rcases hr with hr | ⟨hr, rfl⟩
      · rw [hr]; exact k J' v' w' hst hv
      · rw [hr]; exact k J' _ w' hst hv
    · rename_i k' args h1 hop
      obtain ⟨rfl, hd, as', hl, hr⟩ := op_call (P := P) hρ hop
      exact wpIn_of_CF hw hd (hr w) (hcall k' args _ v s' he hob B0 w0 J w as' hI hl).1 fun v' w' ⟨J', h1, h2⟩ => k J' v' w' h1 h2
    · rename_i l args h1 hop
      obtain ⟨rfl, hd, i, as', hj, hl, hr⟩ := op_round (P := P) hρ hop
      split at he
      · rename_i tl ps assign body hget
        obtain ⟨i0, r, hj0, hheap, hpend, htr, rfl, rfl, rfl, hoka, hokb, hstate⟩ := hI.toInv0.loop hget
        rw [hj] at hj0; cases hj0
        split at he
        · cases he
        · rename_i tl1 hz
          obtain ⟨z1, z2⟩ := zipT_rel _ _ _ _ _ _ hz hl htr
          have hyield := run_yield (P := P) (args := as'.toArray) hheap (by simp [z1])
          refine wpIn_of_run hw hd ?_
          rw [hr w, hyield, Oper.uponIn_round]
          refine ⟨hw.depth, roundIn_of_wpIn (hw.fn _) ?_⟩
          have hw1 : Wd (F.inRound i.blk) w := by
            rcases hw with rfl | ⟨_, _, rfl, _⟩
            · exact .inr ⟨_, r, rfl, hheap⟩
            · exact .inr ⟨_, r, rfl, hheap⟩
          have htm : TR J tl1 ((r.params.zip as'.toArray).foldl (fun tmps (x : Tmp × Value) => tmps.setIfInBounds x.1 x.2) r.tmps) := by
            rw [← Array.foldl_toList]
            simpa using z2
          split at he
          · rename_i tl2 s1 hca
            split at he
            · rename_i ta pa aa ba hg1
              split at he
              · cases he
              · rename_i h1 hu1
                split at he
                · rename_i x tl3 s2 hcb
                  split at he
                  · rename_i tb pb ab bb hg2
                    -- the duties
                    have key : s2.ob = true := by
                      split at he <;> first | (split at he <;> first | (cases he; exact hob) | cases he) | cases he
                    have g2 := hg.code _ _ _ _ _ hcb
                    have key1 : s1.ob = true := g2.ob key
                    refine hcode _ _ _ _ _ _ hca key1 hoka B0 w0 J w _ _ _ _ hI htm hw1 fun J1 a1 w1 st1 tr1 _ => ?_
                    have hI1 := st1.all hI
                    obtain ⟨i1, r1, hj1, hheap1, hpend1, htr1, rfl, rfl, rfl, hoka1, hokb1, hstate1⟩ := hI1.toInv0.loop hg1
                    have := st1.le _ _ hj
                    rw [this] at hj1; cases hj1
                    have stb := Stp.loopTurn hI1.toInv0 hg1 this hu1 hheap1 (st := .busy) rfl
                    have hput : (r1 : Loop).pending = none := hpend1
                    refine ⟨_, run_beginRound hheap1 hstate1, ?_⟩
                    have hrec : ({ r1 with state := .busy } : Loop) = { r1 with state := .busy, pending := none } := by rw [← hput]
                    rw [hrec]
                    have hI2 := stb.all hI1
                    refine hcode _ _ _ _ _ _ hcb key hokb B0 w0 J1 _ _ _ _ _ hI2 tr1 ((hw1.stp st1).stp stb) fun J2 a2 w2 st2 tr2 _ => ?_
                    have hI3 := st2.all hI2
                    obtain ⟨i2, r2, hj2, hheap2, hpend2, htr2, rfl, rfl, rfl, hoka2, hokb2, hstate2⟩ := hI3.toInv0.loop hg2
                    have := st2.le _ _ this
                    rw [this] at hj2; cases hj2
                    have stall := (st1.trans stb).trans st2
                    cases x with
                    | normal =>
                      simp only at he
                      split at he
                      · rename_i h3 hu3
                        cases he
                        exact ⟨_, _, run_endRound none hheap2, k J2 _ _ (stall.trans (Stp.loopTurn hI3.toInv0 hg2 this hu3 hheap2 rfl)) (.bool _)⟩
                      · cases he
                    | ret =>
                      simp only at he
                      split at he
                      · rename_i h3 hu3
                        cases he
                        exact ⟨_, _, run_endRound (some .ret) hheap2, k J2 _ _ (stall.trans (Stp.loopTurn hI3.toInv0 hg2 this hu3 hheap2 rfl)) (.bool _)⟩
                      · cases he
                    | exit id =>
                      simp only at he
                      split at he
                      · rename_i h3 hu3
                        cases he
                        exact ⟨_, _, run_endRound (some (.exit id)) hheap2, k J2 _ _ (stall.trans (Stp.loopTurn hI3.toInv0 hg2 this hu3 hheap2 rfl)) (.bool _)⟩
                      · cases he
                    | goto _ => cases he
                  · cases he
                · cases he
            · cases he
          · cases he
          · cases he
      · cases he
    · cases he
end
end Go.EV
