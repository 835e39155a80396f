/-
  Each operation, on: the builtin functions.
-/
import Derived.Test.YtkfaaeefbndkjaaGreatEvK
namespace Go.EV
open Go.RowKit (Below)
section
variable {B0 : Nat} {w0 : World} {J : Inj} {h h' : H} {w : World} {P : Program} {c : Ctx} {v : Value}

theorem bu_len (hT : Tbl P c) (hI : Inv B0 w0 J h w) {t : Nat} {ts : Array Nat} {ty : TypeId} {x x' : Value} (ht : ts[0]? = some t) (hx : VR J x x') (he : lenB c h t x = some v) :
    ∃ v', (Builtin.len_ ts ty #[x']).run P w = .ok v' w ∧ VR J v v' := by
  unfold lenB at he
  split at he
  · cases he
  · rename_i ti hti
    have hu := (hT.tt _ _ hti).und
    split at he
    · rename_i s hk
      cases he
      rw [hx.string_inv]
      exact ⟨_, by simp [Builtin.len_, ht, run_underlying hu, hk, goInt], .int _ _⟩
    · rename_i n e _ hk
      cases he
      exact ⟨_, by simp [Builtin.len_, ht, run_underlying hu, hk, goInt], .int _ _⟩
    · rename_i a _ hk
      split at he
      · rename_i n ei hae
        cases he
        obtain ⟨e, hua, _⟩ := arrE_ok hT hae
        exact ⟨_, by simp [Builtin.len_, ht, run_underlying hu, hk, run_underlying hua, goInt], .int _ _⟩
      · cases he
    · rename_i e a n k hk
      cases he
      refine ⟨.int .i64 n, ?_, .int _ _⟩
      cases hx <;> simp [Builtin.len_, ht, run_underlying hu, hk, goInt]
    · rename_i k e hk
      cases he
      cases hx
      exact ⟨_, by simp [Builtin.len_, ht, run_underlying hu, hk, goInt], .int _ _⟩
    · rename_i k e m hk
      split at he
      · rename_i es hg
        cases he
        cases hx with
        | map hj =>
          obtain ⟨ents, cl, h1, h2, _⟩ := hI.map hg hj
          have hl := h2.1
          exact ⟨.int .i64 es.length, by simp [Builtin.len_, ht, run_underlying hu, hk, run_getMap h1, goInt, hl], .int _ _⟩
      · cases he
    · cases he

theorem bu_cap (hT : Tbl P c) {t : Nat} {ts : Array Nat} {ty : TypeId} {s : Option Addr} {n k : Nat} {x' : Value} {ei : TI} (ht : ts[0]? = some t) (hx : VR J (.slice s n k) x') (he : sliceE c t = some ei) (hs : ∀ a, s = some a → a.spot = none) :
    (Builtin.cap_ ts ty #[x']).run P w = .ok (.int .i64 k) w := by
  obtain ⟨e, hu, _⟩ := sliceE_ok hT he
  cases hx with
  | sliceNil _ => simp [Builtin.cap_, ht, run_underlying hu, goInt]
  | slice _ _ _ => simp [Builtin.cap_, ht, run_underlying hu, goInt]
  | loose _ _ _ => have := hs _ rfl; simp at this

theorem bu_min : ∀ (l l' : List Value) (x x' : Value), VR J x x' → LV J l l' → minL x l = some v → ∃ v', (l'.foldlM Builtin.min2 x').run P w = .ok v' w ∧ VR J v v'
  | [], l', x, x', hx, hl, he => by
    rw [hl.nil_left]
    simp [minL] at he; subst he
    exact ⟨x', by simp, hx⟩
  | y :: l, l', x, x', hx, hl, he => by
    obtain ⟨y', r, rfl, hy, hr⟩ := hl.cons_left
    cases x <;> cases y <;> simp only [minL, reduceCtorEq] at he
    rw [hx.int_inv, hy.int_inv]
    obtain ⟨v', a, b⟩ := bu_min l r _ _ (VR.int _ _) hr he
    exact ⟨v', by simp [Builtin.min2, a], b⟩
theorem bu_max : ∀ (l l' : List Value) (x x' : Value), VR J x x' → LV J l l' → maxL x l = some v → ∃ v', (l'.foldlM Builtin.max2 x').run P w = .ok v' w ∧ VR J v v'
  | [], l', x, x', hx, hl, he => by
    rw [hl.nil_left]
    simp [maxL] at he; subst he
    exact ⟨x', by simp, hx⟩
  | y :: l, l', x, x', hx, hl, he => by
    obtain ⟨y', r, rfl, hy, hr⟩ := hl.cons_left
    cases x <;> cases y <;> simp only [maxL, reduceCtorEq] at he
    rw [hx.int_inv, hy.int_inv]
    obtain ⟨v', a, b⟩ := bu_max l r _ _ (VR.int _ _) hr he
    exact ⟨v', by simp [Builtin.max2, a], b⟩

theorem bu_delete (hT : Tbl P c) (hI : Inv B0 w0 J h w) {t mb : Nat} {ts : Array Nat} {ty : TypeId} {k m' k' : Value} {me : ME} {es es' : List (Value × Value)} (ht : ts[0]? = some t) (hm : VR J (.map (some mb)) m') (hk : VR J k k')
    (hme : mapE c t = some me) (hpk : plainKey me.ds = true ∧ keyForm me.agg me.ds k = true) (hg : h.get mb = some (.map es)) (hput : mdel h me k es = some es') (hup : h.upd mb (some (.map es')) = some h') :
    ∃ w', (Builtin.delete_ ts ty #[m', k']).run P w = .ok Go.undef w' ∧ Stp B0 w0 J h w J h' w' := by
  obtain ⟨kt, e, hu, hK, hE⟩ := mapE_ok hT hme hpk.1
  cases hm with
  | map hj =>
    rename_i i
    obtain ⟨ents, cl, hb, hle, hborn, hnd⟩ := hI.map hg hj
    obtain ⟨p, hp, hq⟩ := mdel_pos me _ _ _ hput
    have hck := checkKey_run (P := P) (w := w) hK hk hpk.2
    have hfk := findKey_run hK hI hk hle hp
    cases p with
    | none =>
      simp only at hq
      subst hq
      simp only [Option.bind_none] at hfk
      refine ⟨_, ?_, Stp.mapTurn (ents' := ents) (cl' := cl) hI.toInv0 hg hj hup hb hle hborn hnd⟩
      simp [Builtin.delete_, ht, run_underlying hu, run_getMap hb, hck, hfk, setObj_map hb, Go.undef]
    | some j =>
      obtain ⟨hjl, rfl⟩ := hq
      have hjl' : j < ents.toList.length := by rw [← hle.1]; exact hjl
      simp only [Option.bind_some, List.getElem?_eq_getElem hjl', Option.map_some] at hfk
      have her : (ents.eraseIdxIfInBounds j).toList = ents.toList.eraseIdx j := by simp
      refine ⟨_, ?_, Stp.mapTurn (ents' := ents.eraseIdxIfInBounds j) (cl' := cl) hI.toInv0 hg hj hup hb ?_ ?_ ?_⟩
      · simp [Builtin.delete_, ht, run_underlying hu, run_getMap hb, hck, hfk, setObj_map hb, Go.undef]
      · rw [her]
        refine ⟨by rw [List.length_eraseIdx, List.length_eraseIdx, hle.1], fun q a b ha hb' => ?_⟩
        rw [List.getElem?_eraseIdx] at ha hb'
        split at ha
        · rename_i hlt; rw [if_pos hlt] at hb'; exact hle.2 q a b ha hb'
        · rename_i hlt; rw [if_neg hlt] at hb'; exact hle.2 _ a b ha hb'
      · intro e he
        rw [her] at he
        exact hborn e (List.mem_of_mem_eraseIdx he)
      · rw [her]
        exact List.Nodup.sublist (List.Sublist.map _ (List.eraseIdx_sublist _ _)) hnd

/-! ### copy, append -/
theorem nextslicecap_le {need old : Nat} (h : old < need) : Builtin.nextslicecap need old ≤ 2 * need + 192 := by
  have step : ∀ (r c : Nat), c ≤ 2 * need + 192 → Builtin.growBy need r c ≤ 2 * need + 192 := by
    intro r
    induction r with
    | zero => intro c hc; exact hc
    | succ r ih =>
      intro c hc
      simp only [Builtin.growBy]
      split
      · exact hc
      · exact ih _ (by omega)
  unfold Builtin.nextslicecap
  split
  · omega
  · split
    · omega
    · exact step 4 old (by omega)

/-- What is appended, or copied: related, and what the model makes of it. -/
theorem src_ok (hI : Inv B0 w0 J h w) {x x' : Value} {size n m : Nat} {src : List Value} (hx : VR J x x') (hn : srcLen x = some n) (hc : srcCells h size m x = some src) (hm : m ≤ n) :
    (∀ w, (Builtin.lenOf x').run P w = .ok n w) ∧ ∃ src', LV J src src' ∧ ∀ w1 : World, w1.heap = w.heap → (Builtin.firstCells size m x').run P w1 = .ok src'.toArray w1 := by
  cases x with
  | slice s k cap =>
    simp [srcLen] at hn
    subst hn
    cases s with
    | none =>
      simp [srcCells] at hc; subst hc
      cases hx
      exact ⟨fun w => by simp [Builtin.lenOf], [], .nil, fun w1 _ => run_firstCells_none w1 _ _ _ _⟩
    | some a =>
      simp only [srcCells] at hc
      obtain ⟨i, o', c', hj, rfl, hn, hcc, ho, _⟩ := hx.slice_inv
      refine ⟨fun w => by simp [Builtin.lenOf], ?_⟩
      obtain ⟨hlen, vs', hlv, hv⟩ := hI.read hc hj
      refine ⟨vs', hlv, fun w1 hw1 => run_firstCells_some w1 _ _ _ _ _ _ (by rw [← hlv.1, hlen]) fun j u hu => ?_⟩
      have hne : c' ≠ 0 := by
        intro e0
        have : vs'.length = 0 := by rw [← hlv.1, hlen, show m = 0 by omega]; simp
        have := (List.getElem?_eq_some_iff.1 hu).1
        omega
      have := hv j u hu
      rw [Addr.add_lit, ho hne]
      simpa [World.cell?, hw1] using this
  | string s =>
    simp [srcLen] at hn
    subst hn
    simp only [srcCells] at hc
    split at hc
    · rename_i hs
      cases hc
      rw [hx.string_inv]
      refine ⟨fun w => by simp [Builtin.lenOf], _, ⟨rfl, fun i x x' a b => ?_⟩, fun w1 _ => ?_⟩
      · rw [a] at b; cases b
        have := bytesV_rel (J := J) s
        exact this.2 i x x (by rw [List.getElem?_take] at a; split at a; exact a; cases a) (by rw [List.getElem?_take] at a; split at a; exact a; cases a)
      · simp only [Builtin.firstCells, Sem.run_pure]
        congr 1
        apply Array.ext'
        simp [bytesV, ByteArray.extract, ByteArray.copySlice]
    · cases hc
  | _ => simp [srcLen] at hn

theorem src_nil {x : Value} {size : Nat} {src : List Value} (hc : srcCells h size 0 x = some src) : src = [] := by
  unfold srcCells at hc
  split at hc
  · cases hc; rfl
  · rename_i a _ _
    unfold H.read at hc
    split at hc
    · obtain ⟨hl, _⟩ := subN_get hc
      exact List.length_eq_zero_iff.1 (by simpa using hl)
    · cases hc
  · split at hc
    · cases hc; simp
    · cases hc
  · cases hc

theorem bu_copy (hT : Tbl P c) (hI : Inv B0 w0 J h w) {t : Nat} {ts : Array Nat} {ty : TypeId} {d x d' x' : Value} {ei : TI} (ht : ts[0]? = some t) (hd : VR J d d') (hx : VR J x x') (hs : sliceE c t = some ei) (he : copyB h ei d x = some (v, h')) :
    ∃ w', (Builtin.copy_ ts ty #[d', x']).run P w = .ok v w' ∧ VR J v v ∧ Stp B0 w0 J h w J h' w' := by
  obtain ⟨e, hu, hE⟩ := sliceE_ok hT hs
  unfold copyB at he
  split at he
  · rename_i base n cap m hm
    split at he
    · rename_i src hsrc
      obtain ⟨hl, src', hlv, hcell⟩ := src_ok (P := P) hI hx hm hsrc (Nat.min_le_left _ _)
      have hcell := hcell w rfl
      split at he
      · cases he
        rename_i hsrc0 _
        have := hlv.nil_left
        subst this
        cases hd with
        | sliceNil _ => exact ⟨w, by simp [Builtin.copy_, ht, run_underlying hu, hl, hE.size, hcell, goInt], .int _ _, .refl hI.toInv0⟩
        | slice _ _ _ => exact ⟨w, by simp [Builtin.copy_, ht, run_underlying hu, hl, hE.size, hcell, goInt, storeCells], .int _ _, .refl hI.toInv0⟩
        | loose _ _ _ => exact ⟨w, by simp [Builtin.copy_, ht, run_underlying hu, hl, hE.size, hcell, goInt, storeCells], .int _ _, .refl hI.toInv0⟩
      · rename_i a hne
        split at he
        · rename_i h1 hw
          cases he
          obtain ⟨i, o', c', hj, rfl, hn, hcc, ho, _⟩ := hd.slice_inv
          obtain ⟨c1, c2, c3, c4⟩ := hI.write hw hj hlv
          have hsrcne : c' ≠ 0 := by
            intro e0
            have hn0 : n = 0 := by omega
            rw [hn0, show m.min 0 = 0 from Nat.min_zero m] at hsrc
            exact hne (src_nil hsrc)
          refine ⟨_, ?_, .int _ _, c4⟩
          have hst := run_storeCells_cells (P := P) i.blk (a.off + i.shift) src' 0 w (by simpa using c1) (by simpa using c2) c3
          simp only [Nat.add_zero] at hst
          simp [Builtin.copy_, ht, run_underlying hu, hl, hE.size, hcell, goInt, ho hsrcne, hst]
        · cases he
      · cases he
    · cases he
  · cases he

/-- What 'append' makes of its second argument: m elements, the cells news. -/
structure AppB (P : Program) (ts : Array Nat) (ty e : TypeId) (ei : TI) (z x' : Value) (m : Nat) (news : List Value) (w : World) : Prop where
  room : ∀ (b off n cap : Nat), n + m ≤ cap → (∀ j, j < news.length → (w.cell? ⟨b, off + n * ei.size + j, none⟩).isSome = true) → (∀ j, j < news.length → w.frozen? ⟨b, off + n * ei.size + j, none⟩ = false) → (∀ u ∈ news, u.oneCell' = true) →
    (Builtin.append_ ts ty #[.slice (some ⟨b, off, none⟩) n cap, x']).run P w = .ok (.slice (some ⟨b, off, none⟩) (n + m) cap) (w.setCells b (off + n * ei.size) news)
  nil : ∀ (n cap : Nat), n + m ≤ cap → (Builtin.append_ ts ty #[.slice none n cap, x']).run P w = .ok (.slice none (n + m) cap) w
  grow : ∀ (base : Option Addr) (n cap : Nat) (olds : List Value), (∀ c, (Builtin.firstCells ei.size n (.slice base n c)).run P w.drew = .ok olds.toArray w.drew) → cap < n + m → (n + m) * ei.bytes ≤ appendMax → 1 ≤ ei.bytes →
    (Builtin.append_ ts ty #[.slice base n cap, x']).run P w = .ok (.slice (some ⟨w.heap.size, 0, none⟩) (n + m) (grownCap w (n + m) cap e))
      (w.drew.alloc (.cells ((olds ++ news).toArray ++ Builtin.zeroCells z.cells (grownCap w (n + m) cap e - (n + m))) e))

theorem cap_facts {need cap bytes : Nat} (hg : cap < need) (h40 : need * bytes ≤ appendMax) (hb : 1 ≤ bytes) : need ≤ appendMax ∧ Builtin.nextslicecap need cap * bytes ≤ 281474976710656 := by
  have h1 : need ≤ need * bytes := Nat.le_mul_of_pos_right _ hb
  have h2 : bytes ≤ need * bytes := Nat.le_mul_of_pos_left _ (by omega)
  have h3 : Builtin.nextslicecap need cap * bytes ≤ (2 * need + 192) * bytes := Nat.mul_le_mul_right _ (nextslicecap_le hg)
  rw [Nat.add_mul, Nat.mul_assoc] at h3
  unfold appendMax at h40 ⊢
  omega

theorem appB_src {ts : Array Nat} {t u : Nat} {ty e : TypeId} {ei ui : TI} {z x' : Value} {m : Nat} {news : List Value} (ht : ts[0]? = some t) (hu : ts[1]? = some u) (hut : P.underlying t = some (.slice e)) (hE : TIok P e ei) (hU : TIok P u ui) (hni : ∀ k, ui.und ≠ .int k)
    (hz : ∀ w, (zeroValue e).run P w = .ok z w) (hl : ∀ w, (Builtin.lenOf x').run P w = .ok m w) (hc : ∀ w1 : World, w1.heap = w.heap → (Builtin.firstCells ei.size m x').run P w1 = .ok news.toArray w1) :
    AppB P ts ty e ei z x' m news w := by
  obtain ⟨i, hi, hsz, hby, _⟩ := hE.info
  have hty : ∀ w, (typeInfo e).run P w = .ok i w := fun w => by simp [typeInfo, hi]
  have hund := hU.und
  refine ⟨fun b off n cap hroom h1 h2 h3 => ?_, fun n cap hroom => ?_, fun base n cap olds hold hg h40 hb => ?_⟩
  · have hst := run_storeCells_cells (P := P) b (off + n * ei.size) news 0 w (by simpa using h1) (by simpa using h2) h3
    simp only [Nat.add_zero] at hst
    simp only [Builtin.append_]
    simp only [ht, hu]
    simp [run_underlying hund, run_underlying hut, hE.size, hl, hroom, hc w rfl, Addr.add_lit, hst]
  · simp only [Builtin.append_]
    simp only [ht, hu]
    simp [run_underlying hund, run_underlying hut, hE.size, hl, hroom, hc w rfl]
  · obtain ⟨f1, f2⟩ := cap_facts hg h40 hb
    unfold appendMax at f1
    have hn : ¬ (n + m ≤ cap) := by omega
    have h63' : ¬ (9223372036854775807 < ((n : Int) + (m : Int))) := by omega
    have h48' : ¬ (281474976710656 < Builtin.nextslicecap (n + m) cap * i.bytes) := by rw [hby]; omega
    simp only [Builtin.append_]
    simp only [ht, hu]
    simp [run_underlying hund, run_underlying hut, hE.size, hl, hn, hty, h63', h48', Question.forced, hold, hc w.drew rfl, hz, newRow, grownCap]
    congr 2
    apply Array.ext'
    simp [List.append_assoc]

theorem appB_zeros {ts : Array Nat} {t u : Nat} {ty e : TypeId} {ei ui : TI} {z : Value} {m : Nat} {k k' : IntKind} (ht : ts[0]? = some t) (hu : ts[1]? = some u) (hut : P.underlying t = some (.slice e)) (hE : TIok P e ei) (hU : TIok P u ui) (hni : ui.und = .int k)
    (hz : ∀ w, (zeroValue e).run P w = .ok z w) (hzl : z.cells.size = ei.size) (hm : m ≤ 2 ^ 40) (hmb : m * ei.bytes ≤ 2 ^ 40) :
    AppB P ts ty e ei z (.int k' m) m (repL m z.cells.toList) w := by
  obtain ⟨i, hi, hsz, hby, _⟩ := hE.info
  have hty : ∀ w, (typeInfo e).run P w = .ok i w := fun w => by simp [typeInfo, hi]
  have hund := hU.und
  rw [hni] at hund
  have hw1 : IntKind.i64.wrap (m : Int) = m := by simp [IntKind.wrap, IntKind.bits, IntKind.signed]; omega
  have hneg : ¬ ((m : Int) < 0) := by omega
  have hb0 : (m : Int) * (ei.bytes : Int) ≤ 2 ^ 40 := by exact_mod_cast hmb
  have hb : ¬ (281474976710656 < (m : Int) * (i.bytes : Int)) := by rw [hby]; omega
  have hap : ∀ w : World, (if m * ei.size = 0 then pure #[] else do pure (Builtin.zeroCells (← zeroValue e).cells m) : Sem (Array Value)).run P w = .ok (repL m z.cells.toList).toArray w := by
    intro w
    have hzz := zeros_eq z.cells m
    by_cases h0 : m * ei.size = 0
    · have : repL m z.cells.toList = [] := List.length_eq_zero_iff.1 (by rw [repL_length]; simpa [hzl] using h0)
      rw [if_pos h0, this]; rfl
    · rw [if_neg h0]
      simp only [Sem.run_bind, hz, Result.andThen_ok, Sem.run_pure]
      congr 1
      apply Array.ext'
      simpa [Builtin.zeroCells] using hzz
  refine ⟨fun b off n cap hroom h1 h2 h3 => ?_, fun n cap hroom => ?_, fun base n cap olds hold hg h40 hb1 => ?_⟩
  · have hst := run_storeCells_cells (P := P) b (off + n * ei.size) (repL m z.cells.toList) 0 w (by simpa using h1) (by simpa using h2) h3
    simp only [Nat.add_zero] at hst
    simp only [Builtin.append_]
    simp only [ht, hu]
    have hap := hap w
    by_cases h0 : m * ei.size = 0
    · rw [if_pos h0] at hap
      have e0 : repL m z.cells.toList = [] := by
        have : (#[] : Array Value) = (repL m z.cells.toList).toArray := by simpa using hap
        simpa using this.symm
      rw [e0] at hst ⊢
      simp [run_underlying hut, run_underlying hund, asInt, asIntOf, hw1, hneg, hty, hb, hE.size, hroom, h0, Addr.add_lit, hst]
    · rw [if_neg h0] at hap
      simp only [Sem.run_bind, hz, Result.andThen_ok, Sem.run_pure, Result.ok.injEq, and_true] at hap
      simp [run_underlying hut, run_underlying hund, asInt, asIntOf, hw1, hneg, hty, hb, hE.size, hroom, h0, hz, hap, Addr.add_lit, hst]
  · simp only [Builtin.append_]
    simp only [ht, hu]
    by_cases h0 : m * ei.size = 0
    · simp [run_underlying hut, run_underlying hund, asInt, asIntOf, hw1, hneg, hty, hb, hE.size, hroom, h0]
    · simp [run_underlying hut, run_underlying hund, asInt, asIntOf, hw1, hneg, hty, hb, hE.size, hroom, hz]
  · obtain ⟨f1, f2⟩ := cap_facts hg h40 hb1
    unfold appendMax at f1
    have hn : ¬ (n + m ≤ cap) := by omega
    have h63' : ¬ (9223372036854775807 < ((n : Int) + (m : Int))) := by omega
    have h48' : ¬ (281474976710656 < Builtin.nextslicecap (n + m) cap * i.bytes) := by rw [hby]; omega
    simp only [Builtin.append_]
    simp only [ht, hu]
    have hap := hap w.drew
    by_cases h0 : m * ei.size = 0
    · rw [if_pos h0] at hap
      have e0 : repL m z.cells.toList = [] := by
        have : (#[] : Array Value) = (repL m z.cells.toList).toArray := by simpa using hap
        simpa using this.symm
      rw [e0]
      simp [run_underlying hut, run_underlying hund, asInt, asIntOf, hw1, hneg, hty, hb, hE.size, hn, h63', h48', Question.forced, h0, hold, hz, newRow, grownCap]
    · rw [if_neg h0] at hap
      simp only [Sem.run_bind, hz, Result.andThen_ok, Sem.run_pure, Result.ok.injEq, and_true] at hap
      simp [run_underlying hut, run_underlying hund, asInt, asIntOf, hw1, hneg, hty, hb, hE.size, hn, h63', h48', Question.forced, h0, hold, hz, hap, newRow, grownCap]
      congr 2
      apply Array.ext'
      simp [List.append_assoc]

/-- A block's room is another's. -/
theorem Stp.adopt (hI : Inv B0 w0 J h w) {b : Nat} {cs : List Value} {vec : Option Nat} {o' : Ob} {i bi : BI} {h1 : H} (hb : h.get b = some (.cells vec cs)) (hj : J b = some i) (hu : h.upd b none = some h1)
    (hbi : bi.blk = i.blk) {w' : World} (hsz : w'.heap.size = w.heap.size) (e1 : w'.os = w.os) (e2 : w'.tape = w.tape) (e3 : w'.output = w.output) (hk : ∀ k, k ≠ i.blk → w'.heap[k]? = w.heap[k]?) (ho : ObR (J.upd h.next bi) w' bi o') :
    Stp B0 w0 J h w (J.upd h.next bi) (h1.new o') w' := by
  obtain ⟨hn, -, hs, hne⟩ := H.upd_some hu
  obtain ⟨i', hj', hB, arr, e, lo, hi, hO, _⟩ := hI.live b _ hb
  rw [hj] at hj'; cases hj'
  have hle := Inj.le_upd hI bi
  have g1 : ∀ x, x ≠ h.next → x ≠ b → (h1.new o').get x = h.get x := fun x e e' => by rw [H.get_new_ne _ _ (by rw [hn]; exact e), hne x e']
  have g2 : (h1.new o').get h.next = some o' := by rw [← hn]; exact H.get_new_same _ _
  have hbn0 : b ≠ h.next := fun e => by rw [e, hI.fresh] at hj; cases hj
  have g3 : (h1.new o').get b = none := by rw [H.get_new_ne _ _ (by rw [hn]; exact hbn0), hs]
  have hother : ∀ x ox ix, h.get x = some ox → x ≠ b → J x = some ix → ix.blk ≠ i.blk := fun x ox ix hx hxb hjx he => hxb (hI.inj x b _ _ _ _ hx hb hjx hj he)
  have hnx : (h1.new o').next = h.next + 1 := by simp [H.new, hn]
  refine ⟨hle, ⟨hI.base, ?_, fun x ox hx => ?_, fun x x' ox ox' ix ix' hx hx' hjx hjx' he => ?_⟩, by omega, fun x ix hjx => ?_, ⟨by omega, fun k _ hk' => hk k (fun e => hk' b _ i hb hj e.symm), fun k r hr => ⟨r, ?_, rfl⟩⟩, fun x ox ix hx hjx hl => ?_⟩
  · exact ⟨e1.trans hI.below.os, e2.trans hI.below.tape, e3.trans hI.below.output, by rw [hsz]; exact hI.below.size, fun k hkB => by rw [hk k (by omega)]; exact hI.below.block k hkB⟩
  · by_cases e : x = h.next
    · subst e
      rw [g2] at hx; cases hx
      exact ⟨bi, Inj.upd_same _ _ _, by omega, ho⟩
    · by_cases e' : x = b
      · subst e'; rw [g3] at hx; cases hx
      · rw [g1 x e e'] at hx
        obtain ⟨ix, q, r, s⟩ := hI.live x ox hx
        exact ⟨ix, hle _ _ q, r, (s.same (hk _ (hother x ox ix hx e' q))).mono hle⟩
  · have key : ∀ y oy iy, (h1.new o').get y = some oy → (J.upd h.next bi) y = some iy → y ≠ h.next → h.get y = some oy ∧ y ≠ b ∧ J y = some iy := fun y oy iy hy hjy e => by
      by_cases e' : y = b
      · subst e'; rw [g3] at hy; cases hy
      · rw [g1 y e e'] at hy; rw [Inj.upd_ne _ _ e] at hjy; exact ⟨hy, e', hjy⟩
    by_cases e : x = h.next
    · by_cases e' : x' = h.next
      · rw [e, e']
      · obtain ⟨p, q, r⟩ := key x' ox' ix' hx' hjx' e'
        rw [e, Inj.upd_same] at hjx; cases hjx
        exact absurd (he.symm.trans hbi) (hother x' ox' ix' p q r)
    · obtain ⟨p, q, r⟩ := key x ox ix hx hjx e
      by_cases e' : x' = h.next
      · rw [e', Inj.upd_same] at hjx'; cases hjx'
        exact absurd (he.trans hbi) (hother x ox ix p q r)
      · obtain ⟨p', q', r'⟩ := key x' ox' ix' hx' hjx' e'
        exact hI.inj x x' _ _ _ _ p p' r r' he
  · by_cases e : x = h.next
    · subst e; exact .inr ⟨Nat.le_refl _, by omega⟩
    · rw [Inj.upd_ne _ _ e] at hjx
      exact .inl hjx
  · rw [hk k ?_]; exact hr
    intro e; subst e; rw [hO] at hr; cases hr
  · by_cases e : x = h.next
    · subst e; rw [Inj.upd_same] at hjx; cases hjx
      exact ⟨b, _, i, hb, hj, hbi.symm⟩
    · by_cases e' : x = b
      · subst e'; rw [g3] at hx; cases hx
      · rw [g1 x e e'] at hx; rw [Inj.upd_ne _ _ e] at hjx
        exact ⟨x, ox, ix, hx, hjx, rfl⟩

/-- A row that grows. -/
theorem bu_grow {ts : Array Nat} {ty e : TypeId} {ei : TI} {z x' : Value} {m n cap need : Nat} {base : Option Addr} {old olds src src' : List Value} (hE : TIok P e ei) (hzc : z.cells.toList = ei.zero) (hA : AppB P ts ty e ei z x' m src' w) (hsrc : LV J src src') (hlen : src.length = m * ei.size)
    (hold : LV J old olds) (holen : old.length = n * ei.size) (hrun : ∀ c, (Builtin.firstCells ei.size n (.slice base n c)).run P w.drew = .ok olds.toArray w.drew) (hg : cap < n + m) (hneed : need = n + m) {h1 : H} (hS : Stp B0 w0 J h w J h1 w) (hnx : J h1.next = none)
    (he : grow h1 ei.size ei.bytes old src need = some (v, h')) :
    ∃ J' v' w', (Builtin.append_ ts ty #[.slice base n cap, x']).run P w = .ok v' w' ∧ Stp B0 w0 J h w J' h' w' ∧ VR J' v v' := by
  subst hneed
  unfold grow at he
  split at he
  · rename_i b1 b2 b3
    cases he
    have b1 := Nat.le_of_ble_eq_true b1
    have b2 := Nat.le_of_ble_eq_true b2
    have hI1 : Inv B0 w0 J h1 w := ⟨hS.inv, hnx⟩
    have hcap := grownCap_ge w (n + m) cap e
    refine ⟨_, _, _, hA.grow base n cap olds hrun hg b1 b2, hS.trans (Stp.vec (cs := old ++ src) (sz := ei.size) (extra := grownCap w (n + m) cap e - (n + m)) (lo := 0) (hi := 0) hI1 w.drew rfl rfl rfl rfl ?_ (fun k u hu => ?_) (fun k _ => by omega)), ?_⟩
    · have hzl : z.cells.size = ei.size := by rw [← Array.length_toList, hzc, hE.zlen]
      have h1 := hold.1
      have h2 := hsrc.1
      simp [Builtin.zeroCells, hzl]; omega
    · have hap := hold.append hsrc
      obtain ⟨u', hu', hr⟩ := hap.get hu
      refine ⟨u', ?_, hr⟩
      rw [Array.getElem?_append_left (by
        have := (List.getElem?_eq_some_iff.1 hu').1
        simpa using this)]
      simpa using hu'
    · have := VR.loose (J := J.upd h1.next ⟨w.heap.size, 0, grownCap w (n + m) cap e - (n + m)⟩) (b := h1.next) (o := 0) (n := n + m) (c := n + m) (o' := 0) (z := 0) (Inj.upd_same _ _ _) (Nat.le_refl _) (fun _ => rfl)
      simp only [show n + m + (grownCap w (n + m) cap e - (n + m)) = grownCap w (n + m) cap e by omega] at this
      exact this
  · cases he

theorem bu_append (hI : Inv B0 w0 J h w) {ts : Array Nat} {ty e : TypeId} {ei : TI} {z x' s s' : Value} {m : Nat} {src src' : List Value} (hs : VR J s s') (hE : TIok P e ei) (hzc : z.cells.toList = ei.zero) (hA : AppB P ts ty e ei z x' m src' w) (hsrc : LV J src src')
    (he : append h ei s m src = some (v, h')) :
    ∃ J' v' w', (Builtin.append_ ts ty #[s', x']).run P w = .ok v' w' ∧ Stp B0 w0 J h w J' h' w' ∧ VR J' v v' := by
  unfold append at he
  split at he
  · rename_i base n cap hq
    have hq : allB scalar src = true ∧ src.length = m * ei.size := by simpa using hq
    obtain ⟨hsc, hlen⟩ := hq
    split at he
    · rename_i hroom
      have hroom := Nat.le_of_ble_eq_true hroom
      split at he
      · rename_i a
        obtain ⟨i, o', c', hj, rfl, hn, hcc, ho, hsp⟩ := hs.slice_inv
        split at he
        · cases he
          have := hsrc.nil_left
          subst this
          refine ⟨J, _, _, hA.room i.blk o' n c' (by omega) (fun j hj => by simp at hj) (fun j hj => by simp at hj) (fun u hu => by simp at hu), .refl hI.toInv0, VR.slice_mk hj hroom ho hsp⟩
        · rename_i hne
          split at he
          · rename_i h1 hw
            cases he
            obtain ⟨c1, c2, c3, c4⟩ := hI.write hw hj hsrc
            have hc0 : c' ≠ 0 := by
              intro e0
              have : m = 0 := by omega
              subst this
              exact hne (List.length_eq_zero_iff.1 (by simpa using hlen))
            have ho := ho hc0
            have hoo : a.off + n * ei.size + i.shift = o' + n * ei.size := by omega
            rw [hoo] at c1 c2 c4
            exact ⟨J, _, _, hA.room i.blk o' n c' (by omega) c1 c2 c3, c4, VR.slice_mk hj hroom (fun _ => ho) hsp⟩
          · cases he
      · split at he
        · cases he
          have := hsrc.nil_left
          subst this
          cases hs
          exact ⟨J, _, _, hA.nil n cap hroom, .refl hI.toInv0, .sliceNil hroom⟩
        · cases he
    · rename_i hroom
      have hroom : cap < n + m := by
        rcases Nat.lt_or_ge cap (n + m) with hh | hh
        · exact hh
        · rw [Nat.ble_eq_true_of_le hh] at hroom; cases hroom
      split at he
      · split at he
        · cases hs
          exact bu_grow (old := []) (olds := []) hE hzc hA hsrc hlen .nil (by simp) (fun c => run_firstCells_none _ _ _ _ _) hroom (by omega) (.refl hI.toInv0) hI.fresh he
        · cases he
      · rename_i a
        obtain ⟨i, o', c', hj, rfl, hn, hcc, ho, hsp⟩ := hs.slice_inv
        split at he
        · rename_i vec cs hg
          split at he
          · cases he
          · rename_i old hold
            have hr : h.read a.block a.off (n * ei.size) = some old := by simp [H.read, hg, hold]
            obtain ⟨holen, olds, hlv, hv⟩ := hI.read hr hj
            have hrun : ∀ c, (Builtin.firstCells ei.size n (.slice (some ⟨i.blk, o', none⟩) n c)).run P w.drew = .ok olds.toArray w.drew := fun c => by
              refine run_firstCells_some w.drew _ _ _ _ _ _ (by rw [← hlv.1, holen]) fun j u hu => ?_
              have hne : c' ≠ 0 := by
                intro e0
                have : olds.length = 0 := by rw [← hlv.1, holen, show n = 0 by omega]; simp
                have := (List.getElem?_eq_some_iff.1 hu).1
                omega
              have := hv j u hu
              rw [Addr.add_lit, ho hne]
              exact this
            split at he
            · rename_i hspn
              rcases hsp with ⟨_, rfl⟩ | ⟨z', hz', _⟩
              · exact bu_grow hE hzc hA hsrc hlen hlv holen hrun hroom rfl (.refl hI.toInv0) hI.fresh he
              · rw [hz'] at hspn; cases hspn
            · rename_i z' hspn
              split at he
              · rename_i sz q1 q2
                have q1 := Nat.eq_of_beq_eq_true q1
                have q2 := Nat.eq_of_beq_eq_true q2
                subst q2
                split at he
                · rename_i q3
                  have q3 := Nat.eq_of_beq_eq_true q3
                  subst q3
                  split at he
                  · rename_i h1 hu
                    rcases hsp with ⟨hz', _⟩ | ⟨z'', _, rfl⟩
                    · rw [hspn] at hz'; cases hz'
                    · by_cases hrm : n + m ≤ n + i.spare
                      · -- room, after all
                        have ho := ho (by omega)
                        obtain ⟨i', hj', hB, arr, el, lo, hi, hO, hcs, hfz, hsz⟩ := hI.live a.block _ hg
                        rw [hj] at hj'; cases hj'
                        simp only at hsz
                        have hsl := hsrc.1
                        have hmul : n * ei.size + m * ei.size ≤ n * ei.size + i.spare * ei.size := by
                          rw [← Nat.add_mul, ← Nat.add_mul]; exact Nat.mul_le_mul_right _ hrm
                        have hcell : ∀ j, j < src'.length → ∃ u, arr[o' + n * ei.size + j]? = some u := fun j hjl => ⟨_, Array.getElem?_eq_getElem (by omega)⟩
                        obtain ⟨c1, c2, c3, c4, c5, c6⟩ := heap_setCells src' w i.blk (o' + n * ei.size)
                        have c6 := c6 arr el (lo, hi) hO
                        unfold grow at he
                        split at he
                        · cases he
                          refine ⟨J.upd h.next ⟨i.blk, o', i.spare - m⟩, _, _, hA.room i.blk o' n _ hrm (fun j hjl => ?_) (fun j hjl => ?_) (hsrc.scalars hsc),
                            Stp.adopt (bi := ⟨i.blk, o', i.spare - m⟩) hI hg hj hu rfl c1 c2 c3 c4 c5 ⟨setArr arr (o' + n * ei.size) src', el, lo, hi, c6, fun k u hk => ?_, fun k hk => hfz k (by rwa [setArr_size] at hk), ?_⟩, ?_⟩
                          · obtain ⟨u, hu⟩ := hcell j hjl
                            simp [World.cell?, hO, hu]
                          · obtain ⟨u, hu⟩ := hcell j hjl
                            have := hfz _ (Array.getElem?_eq_some_iff.1 hu).1
                            simp only [World.frozen?, hO, Bool.and_eq_false_iff, decide_eq_false_iff_not]
                            omega
                          · rw [setArr_get]
                            have hle := Inj.le_upd hI ⟨i.blk, o', i.spare - m⟩
                            by_cases hk1 : k < old.length
                            · rw [List.getElem?_append_left hk1] at hk
                              obtain ⟨_, hsub⟩ := subN_get hold
                              obtain ⟨u', hu', hr'⟩ := hcs _ _ (hsub k u hk)
                              refine ⟨u', ?_, hr'.mono hle⟩
                              simp only
                              rw [if_neg (by omega), show k + o' = a.off + k + i.shift by omega]
                              exact hu'
                            · rw [List.getElem?_append_right (by omega)] at hk
                              obtain ⟨u', hu', hr'⟩ := hsrc.get hk
                              have hkl := (List.getElem?_eq_some_iff.1 hk).1
                              refine ⟨u', ?_, hr'.mono hle⟩
                              simp only
                              rw [if_pos ⟨by omega, by omega, by omega⟩, show k + o' - (o' + n * ei.size) = k - old.length by omega]
                              exact hu'
                          · simp only [setArr_size, List.length_append]
                            rw [Nat.sub_mul]
                            omega
                          · obtain ⟨hn1, _, _, _⟩ := H.upd_some hu
                            have := VR.loose (J := J.upd h.next ⟨i.blk, o', i.spare - m⟩) (b := h.next) (o := 0) (n := n + m) (c := n + m) (o' := o') (z := 0) (Inj.upd_same _ _ _) (Nat.le_refl _) (fun _ => by simp)
                            simp only [show n + m + (i.spare - m) = n + i.spare by omega] at this
                            rw [hn1]
                            exact this
                        · cases he
                      · exact bu_grow hE hzc hA hsrc hlen hlv holen hrun (by omega) rfl (Stp.kill hI.toInv0 hu) (by rw [(H.upd_some hu).1]; exact hI.fresh) he
                  · cases he
                · cases he
              · cases he
        · cases he
  · cases he
end
end Go.EV
