/-
  Each operation, on: maps, the builtin functions.
-/
import Derived.Test.YtkfaaeefbndkjaaGreatEvJ
namespace Go.EV
open Go.RowKit (Below)
section
variable {B0 : Nat} {w0 : World} {J : Inj} {h h' : H} {w : World} {P : Program} {c : Ctx} {v : Value}

theorem mapE_ok (hT : Tbl P c) {t : TypeId} {me : ME} (h : mapE c t = some me) (hp : plainKey me.ds = true) : ∃ k e, P.underlying t = some (.map k e) ∧ KeyT P k me ∧ TIok P e me.ei := by
  unfold mapE at h
  split at h
  · rename_i ti hti
    split at h
    · rename_i k e hu
      split at h
      · rename_i ds ki ei hds hki hei
        cases h
        obtain ⟨hf, _⟩ := hT.fl _ _ hds
        exact ⟨k, e, by rw [(hT.tt _ _ hti).und, hu], ⟨hf, (hT.tt _ _ hki).agg.symm, hp⟩, hT.tt _ _ hei⟩
      · cases h
    · cases h
  · cases h

theorem Inv0.map (hI : Inv0 B0 w0 J h w) {m : Nat} {es : List (Value × Value)} {i : BI} (hg : h.get m = some (.map es)) (hj : J m = some i) :
    ∃ ents clock, w.heap[i.blk]? = some (.map ents clock) ∧ LE J es ents.toList ∧ (∀ e ∈ ents.toList, e.born < clock) ∧ (ents.toList.map (·.born)).Nodup := by
  obtain ⟨i', q, _, ents, cl, h1, h2, h3, h4, h5⟩ := hI.live m _ hg
  rw [hj] at q; cases q
  exact ⟨ents, cl, h1, ⟨h2, h3⟩, h4, h5⟩

theorem run_getMap {b : Nat} {ents : Array MapEntry} {cl : Nat} (hb : w.heap[b]? = some (.map ents cl)) : (getObj b).run P w = .ok (.map ents cl) w := by
  simp [getObj, Sem.run, hb]

theorem op_lookup (hT : Tbl P c) (hI : Inv B0 w0 J h w) {ρ ρ' : Operand → Value} {t : Nat} {x i : Operand} {ok : Bool} (hx : VR J (ρ x) (ρ' x)) (hi : VR J (ρ i) (ρ' i)) (he : evOp c ρ (.lookup t x i ok) h = .val v h') :
    OpOk B0 w0 (((fun v => Next.value v) <$> Instr.lookup t (ρ' x) (ρ' i) ok).run P w) J h w v h' := by
  simp only [evOp] at he
  split at he
  · rename_i me m hme hρ
    rw [hρ] at hx
    split at he
    · rename_i es hpk hes
      have hpk : plainKey me.ds = true ∧ keyForm me.agg me.ds (ρ i) = true := by simpa using hpk
      obtain ⟨k, e, hu, hK, hE⟩ := mapE_ok hT hme hpk.1
      obtain ⟨z, hz, hzv, hzc⟩ := hE.zero
      -- the entries, in the world
      have hents : ∃ ents : List MapEntry, LE J es ents ∧ ((ρ' x = .map none ∧ ents = []) ∨ ∃ r a cl, ρ' x = .map (some r) ∧ (getObj r).run P w = .ok (.map a cl) w ∧ a.toList = ents) := by
        cases m with
        | none =>
          simp at hes
          subst hes
          cases hv : ρ' x <;> rw [hv] at hx <;> cases hx
          exact ⟨[], ⟨rfl, fun k a b hk => by simp at hk⟩, .inl ⟨rfl, rfl⟩⟩
        | some m =>
          simp only at hes
          split at hes
          · rename_i es' hg
            cases hes
            cases hv : ρ' x <;> rw [hv] at hx <;> cases hx
            rename_i i' hj
            obtain ⟨ents, cl, h1, h2, _⟩ := hI.map hg hj
            exact ⟨ents.toList, h2, .inr ⟨_, ents, cl, rfl, run_getMap h1, rfl⟩⟩
          · cases hes
      obtain ⟨ents, hle, hrun⟩ := hents
      have hck := checkKey_run (P := P) (w := w) hK hi hpk.2
      split at he
      · rename_i u hf
        cases he
        obtain ⟨p, hp, hq⟩ := mfind_pos me _ _ _ hf
        cases p with
        | none => simp at hq
        | some j =>
          obtain ⟨en, hen, hov⟩ := hq
          cases hov
          have hfk := findKey_run hK hI hi hle hp
          have hj : j < ents.length := by rw [← hle.1]; exact (List.getElem?_eq_some_iff.1 hen).1
          have hrel := (hle.2 j en ents[j] hen (List.getElem?_eq_getElem hj)).2
          simp only [Option.bind_some, List.getElem?_eq_getElem hj, Option.map_some] at hfk
          refine OpOk.stay hI (v' := if ok then .tuple #[ents[j].val, .bool true] else ents[j].val) ?_ ?_
          · rcases hrun with ⟨g1, rfl⟩ | ⟨r, a, cl, g1, g2, rfl⟩
            · simp at hj
            · have hck : (Instr.checkKey a.isEmpty 10000 k (ρ' i)).run P w = .ok () w := hck _
              simp [Instr.lookup, run_underlying hu, g1, g2, hck, hfk]
          · cases ok with
            | false => simpa using hrel
            | true => exact .tuple (a := [_, _]) (a' := [_, _]) rfl (LV.cons hrel (.cons (.bool true) .nil)).2
      · rename_i hf
        split at he
        · rename_i zz hzz
          cases he
          rw [hzv] at hzz; cases hzz
          obtain ⟨p, hp, hq⟩ := mfind_pos me _ _ _ hf
          cases p with
          | some j => obtain ⟨en, _, hov⟩ := hq; cases hov
          | none =>
            have hfk := findKey_run hK hI hi hle hp
            simp only [Option.bind_none] at hfk
            have hzr : VR J z z := by
              have := mkv_rel hzv (hE.zeroRel J)
              cases ha : me.ei.agg with
              | true => rw [ha] at this hzv; simp [mkv] at hzv; rw [← hzv] at this ⊢; exact this
              | false =>
                rw [ha] at this hzv
                simp only [mkv] at hzv
                split at hzv
                · rename_i y hy; cases hzv; rw [hy] at this; exact this
                · cases hzv
            refine OpOk.stay hI (v' := if ok then .tuple #[z, .bool false] else z) ?_ ?_
            · rcases hrun with ⟨g1, rfl⟩ | ⟨r, a, cl, g1, g2, rfl⟩
              · simp [Instr.lookup, run_underlying hu, g1, hck, hfk, hz]
              · simp [Instr.lookup, run_underlying hu, g1, g2, hck, hfk, hz]
            · cases ok with
              | false => simpa using hzr
              | true => exact .tuple (a := [_, _]) (a' := [_, _]) rfl (LV.cons hzr (.cons (.bool false) .nil)).2
        · cases he
      · cases he
    · cases he
  · cases he

/-- Two keys of which '==' says yes are one and the same, to the bit. -/
theorem sameBits_flat {x y x' y' : Value} {agg : Bool} {ds : List CD} (hp : plainKey ds = true) (hx : VR J x x') (hy : VR J y y') (hc : cmpV h agg ds x y = some true) (n : Nat) : Instr.sameBits (n + 2) y' x' = true := by
  have one : ∀ {c : CD} {u v u' v' : Value} (n : Nat), plainKey [c] = true → VR J u u' → VR J v v' → cmp1 h c u v = some true → Instr.sameBits n v' u' = true := by
    intro c u v u' v' n hpl hu hv hcc
    cases c <;> simp [plainKey] at hpl
    · cases hu with
      | bool a => cases hv with
        | bool b => simp [cmp1] at hcc; subst hcc; cases n <;> simp [Instr.sameBits]
        | _ => simp [cmp1] at hcc
      | _ => simp [cmp1] at hcc
    · cases hu with
      | int k a => cases hv with
        | int k' b => simp [cmp1] at hcc; obtain ⟨rfl, rfl⟩ := hcc; cases n <;> simp [Instr.sameBits]
        | _ => simp [cmp1] at hcc
      | _ => simp [cmp1] at hcc
    · cases hu with
      | string a => cases hv with
        | string b =>
          have hcc : (a == b) = true := by simpa [cmp1] using hcc
          have h1 : (a.data == b.data) = true := hcc
          have h2 : a.data = b.data := by simpa using h1
          have h3 : (b == a) = true := by
            show (b.data == a.data) = true
            simp [h2]
          cases n <;> simp [Instr.sameBits, h3]
        | _ => simp [cmp1] at hcc
      | _ => simp [cmp1] at hcc
  have many : ∀ (ds : List CD) (l m l' m' : List Value) (n : Nat), plainKey ds = true → LV J l l' → LV J m m' → cmpL h ds l m = some true → ((m'.zip l').all fun (x, y) => Instr.sameBits n x y) = true ∧ m'.length = l'.length := by
    intro ds
    induction ds with
    | nil =>
      intro l m l' m' n _ hl hm hc
      obtain ⟨e1, e2⟩ := cmpL_length _ _ _ _ hc
      have e1 := List.length_eq_zero_iff.1 e1; have e2 := List.length_eq_zero_iff.1 e2
      subst e1; subst e2
      rw [hl.nil_left, hm.nil_left]; simp
    | cons d ds ih =>
      intro l m l' m' n hpl hl hm hc
      cases l with
      | nil => simp [cmpL] at hc
      | cons a l =>
        cases m with
        | nil => simp [cmpL] at hc
        | cons b m =>
          obtain ⟨a', l1, rfl, ha, hl1⟩ := hl.cons_left
          obtain ⟨b', m1, rfl, hb, hm1⟩ := hm.cons_left
          simp only [cmpL] at hc
          split at hc
          · rename_i p q hpp hq
            have hpq : p = true ∧ q = true := by simpa using hc
            obtain ⟨rfl, rfl⟩ := hpq
            obtain ⟨pl1, pl2⟩ := plainKey_append [d] ds hpl
            obtain ⟨r1, r2⟩ := ih l m l1 m1 n pl2 hl1 hm1 hq
            exact ⟨by simp [one n pl1 ha hb hpp]; simpa using r1, by simp [r2]⟩
          · cases hc
  unfold cmpV at hc
  cases agg with
  | true =>
    simp only at hc
    split at hc
    · rename_i a b
      obtain ⟨a⟩ := a; obtain ⟨b⟩ := b
      cases hx with
      | agg h1 h2 =>
        cases hy with
        | agg k1 k2 =>
          obtain ⟨r1, r2⟩ := many ds a b _ _ (n + 1) hp ⟨h1, h2⟩ ⟨k1, k2⟩ hc
          simp only [Instr.sameBits, Bool.and_eq_true, beq_iff_eq]
          exact ⟨by simpa using r2, r1⟩
    · cases hc
  | false =>
    simp only at hc
    split at hc
    · rename_i d; exact one _ hp hx hy hc
    · cases hc

theorem mpos_hit {m : ME} {k : Value} : ∀ {es : List (Value × Value)} {i : Nat}, mpos h m k es = some (some i) → ∃ e, es[i]? = some e ∧ cmpV h m.agg m.ds k e.1 = some true
  | [], i, hp => by simp [mpos] at hp
  | (k', v) :: r, i, hp => by
    simp only [mpos] at hp
    split at hp
    · rename_i hc; cases hp; exact ⟨_, rfl, hc⟩
    · split at hp
      · rename_i j hj; cases hp; obtain ⟨e, h1, h2⟩ := mpos_hit hj; exact ⟨e, by simpa using h1, h2⟩
      · cases hp
      · cases hp
    · cases hp

theorem setObj_map {b : Nat} {ents : Array MapEntry} {cl : Nat} (hb : w.heap[b]? = some (.map ents cl)) (o : Obj) : (setObj b o).run P w = .ok () { w with heap := w.heap.setIfInBounds b o } := by
  simp [setObj, Sem.run, hb]

/-- A map is turned. -/
theorem Stp.mapTurn (hI : Inv0 B0 w0 J h w) {m : Nat} {es es' : List (Value × Value)} {i : BI} {ents ents' : Array MapEntry} {cl cl' : Nat} (hg : h.get m = some (.map es)) (hj : J m = some i) (hu : h.upd m (some (.map es')) = some h')
    (hb : w.heap[i.blk]? = some (.map ents cl)) (hle : LE J es' ents'.toList) (hborn : ∀ e ∈ ents'.toList, e.born < cl') (hnd : (ents'.toList.map (·.born)).Nodup) :
    Stp B0 w0 J h w J h' { w with heap := w.heap.setIfInBounds i.blk (.map ents' cl') } := by
  have hlt := (Array.getElem?_eq_some_iff.1 hb).1
  have hat : (w.heap.setIfInBounds i.blk (.map ents' cl'))[i.blk]? = some (.map ents' cl') := by simp [hlt]
  exact Stp.turn hI hg hj hu (by simp) rfl rfl rfl (fun k hk => by simp [Array.getElem?_setIfInBounds_ne (Ne.symm hk)]) (fun r hr => by rw [hb] at hr; cases hr) ⟨ents', cl', hat, hle.1, hle.2, hborn, hnd⟩

theorem born_modify (l : List MapEntry) (i : Nat) (f : MapEntry → MapEntry) (hf : ∀ e, (f e).born = e.born) : (l.modify i f).map (·.born) = l.map (·.born) := by
  apply List.ext_getElem?
  intro k
  simp only [List.getElem?_map, List.getElem?_modify]
  by_cases hk : i = k
  · subst hk; cases l[i]? <;> simp [hf]
  · simp [hk]

theorem op_mapStore (hT : Tbl P c) (hI : Inv B0 w0 J h w) {ρ ρ' : Operand → Value} {t : Nat} {m k x : Operand} (hm : VR J (ρ m) (ρ' m)) (hk : VR J (ρ k) (ρ' k)) (hx : VR J (ρ x) (ρ' x)) (he : evOp.mapStore c ρ h t m k x = .val v h') :
    OpOk B0 w0 ((do Instr.mapUpdate t (ρ' m) (ρ' k) (ρ' x); pure .skip : Sem Next).run P w) J h w v h' := by
  unfold evOp.mapStore at he
  split at he
  · rename_i me mb hme hρ
    rw [hρ] at hm
    split at he
    · rename_i es hpk hg
      have hpk : plainKey me.ds = true ∧ keyForm me.agg me.ds (ρ k) = true := by simpa using hpk
      obtain ⟨kt, e, hu, hK, hE⟩ := mapE_ok hT hme hpk.1
      split at he
      · rename_i es' hput
        cases hup : h.upd mb (some (.map es')) with
        | none => simp [hup, PR.unit] at he
        | some h1 =>
          simp only [hup, PR.unit] at he
          cases he
          cases hv : ρ' m <;> rw [hv] at hm <;> cases hm
          rename_i i hj
          obtain ⟨ents, cl, hb, hle, hborn, hnd⟩ := hI.map hg hj
          obtain ⟨p, hp, hq⟩ := mput_pos me _ _ _ _ hput
          have hck := checkKey_run (P := P) (w := w) hK hk hpk.2
          have hfk := findKey_run hK hI hk hle hp
          cases p with
          | none =>
            simp only at hq
            subst hq
            simp only [Option.bind_none] at hfk
            refine OpOk.unit ?_ (Stp.mapTurn (ents' := ents.push { key := ρ' k, val := ρ' x, born := cl }) (cl' := cl + 1) hI.toInv0 hg hj hup hb ⟨by simp [hle.1], fun q a b ha hb' => ?_⟩ ?_ ?_)
            · simp [Instr.mapUpdate, run_underlying hu, run_getMap hb, hck, hfk, setObj_map hb]
            · simp only [Array.toList_push] at hb'
              by_cases hlt : q < es.length
              · rw [List.getElem?_append_left hlt] at ha
                rw [List.getElem?_append_left (by rw [← hle.1]; exact hlt)] at hb'
                exact hle.2 q a b ha hb'
              · rw [List.getElem?_append_right (by omega)] at ha
                rw [List.getElem?_append_right (by have := hle.1; omega), ← hle.1] at hb'
                have h0 : q - es.length = 0 := by
                  have := (List.getElem?_eq_some_iff.1 ha).1
                  simpa using this
                rw [h0] at ha hb'
                simp at ha hb'
                subst ha; subst hb'
                exact ⟨hk, hx⟩
            · intro e he
              simp only [Array.toList_push, List.mem_append, List.mem_singleton] at he
              rcases he with he | rfl
              · have := hborn e he; omega
              · simp
            · simp only [Array.toList_push, List.map_append, List.map_cons, List.map_nil]
              rw [List.nodup_append]
              refine ⟨hnd, by simp, fun a ha b hb' => ?_⟩
              simp only [List.mem_singleton] at hb'
              subst hb'
              obtain ⟨e, he, rfl⟩ := List.mem_map.1 ha
              have := hborn e he; omega
          | some j =>
            obtain ⟨hjl, rfl⟩ := hq
            have hjl' : j < ents.toList.length := by rw [← hle.1]; exact hjl
            simp only [Option.bind_some, List.getElem?_eq_getElem hjl', Option.map_some] at hfk
            obtain ⟨en, hen, hcm⟩ := mpos_hit hp
            have hkk := (hle.2 j en ents.toList[j] hen (List.getElem?_eq_getElem hjl')).1
            have hsb := sameBits_flat (n := 9998) hpk.1 hk hkk hcm
            have hstay : (Instr.keyThatStays ((ents[j]?.map (·.key)).getD (ρ' k)) (ρ' k)).run P w = .ok (ρ' k) w := by
              have : ents[j]? = some ents.toList[j] := by rw [← Array.getElem?_toList]; exact List.getElem?_eq_getElem hjl'
              rw [this]
              simp only [Option.map_some, Option.getD_some, Instr.keyThatStays]
              rw [if_pos hsb]; rfl
            refine OpOk.unit ?_ (Stp.mapTurn (ents' := ents.modify j fun e => { e with key := ρ' k, val := ρ' x }) (cl' := cl) hI.toInv0 hg hj hup hb ⟨by simp [hle.1], fun q a b ha hb' => ?_⟩ ?_ ?_)
            · simp [Instr.mapUpdate, run_underlying hu, run_getMap hb, hck, hfk, hstay, setObj_map hb]
            · simp only [Array.toList_modify, List.getElem?_modify] at hb'
              by_cases hqj : j = q
              · subst hqj
                rw [List.getElem?_set_self hjl] at ha
                simp [List.getElem?_eq_getElem hjl'] at hb'
                cases ha; subst hb'
                exact ⟨hk, hx⟩
              · rw [List.getElem?_set_ne hqj] at ha
                simp [hqj] at hb'
                exact hle.2 q a b ha (by simpa using hb')
            · intro e he
              simp only [Array.toList_modify] at he
              have : e.born ∈ (ents.toList.modify j fun e => { e with key := ρ' k, val := ρ' x }).map (·.born) := List.mem_map_of_mem he
              have hbm := born_modify ents.toList j (fun e => { e with key := ρ' k, val := ρ' x }) (fun _ => rfl)
              have this : e.born ∈ ents.toList.map (·.born) := by rw [← hbm]; exact this
              obtain ⟨e2, h2, h3⟩ := List.mem_map.1 this
              have := hborn e2 h2; omega
            · simp only [Array.toList_modify]
              have hbm := born_modify ents.toList j (fun e => { e with key := ρ' k, val := ρ' x }) (fun _ => rfl)
              have : (ents.toList.modify j fun e => { e with key := ρ' k, val := ρ' x }).map (·.born) = ents.toList.map (·.born) := hbm
              rw [this]; exact hnd
      · cases he
    · cases he
  · cases he
end
end Go.EV
