/-
  Each operation, on: signs, conversions, slice expressions, fields, elements.
-/
import Derived.Test.YtkfaaeefbndkjaaGreatEvH
import Derived.Laws.IdiomStrings
import Derived.Laws.BytesString
namespace Go.EV
open Go.RowKit (Below)
section
variable {B0 : Nat} {w0 : World} {J : Inj} {h h' : H} {w : World} {P : Program} {c : Ctx} {v : Value}

theorem op_not (hI : Inv B0 w0 J h w) {ρ ρ' : Operand → Value} {t : TypeId} {x : Operand} (hx : VR J (ρ x) (ρ' x)) (he : evOp c ρ (.unOp .not t x) h = .val v h') :
    OpOk B0 w0 (((fun v => Next.value v) <$> Op.unary .not (ρ' x)).run P w) J h w v h' := by
  simp only [evOp] at he
  split at he
  · rename_i b hρ
    cases he
    rw [hρ] at hx
    exact OpOk.stay hI (v' := .bool !b) (by rw [hx.bool_inv]; simp [Op.unary]) (.bool _)
  · cases he
theorem op_neg (hI : Inv B0 w0 J h w) {ρ ρ' : Operand → Value} {t : TypeId} {x : Operand} (hx : VR J (ρ x) (ρ' x)) (he : evOp c ρ (.unOp .neg t x) h = .val v h') :
    OpOk B0 w0 (((fun v => Next.value v) <$> Op.unary .neg (ρ' x)).run P w) J h w v h' := by
  simp only [evOp] at he
  split at he
  · rename_i k n hρ
    cases he
    rw [hρ] at hx
    exact OpOk.stay hI (v' := .int k (k.wrap (0 - n))) (by rw [hx.int_inv]; simp [Op.unary, Op.intArith]) (.int _ _)
  · cases he
theorem op_xor (hI : Inv B0 w0 J h w) {ρ ρ' : Operand → Value} {t : TypeId} {x : Operand} (hx : VR J (ρ x) (ρ' x)) (he : evOp c ρ (.unOp .xor t x) h = .val v h') :
    OpOk B0 w0 (((fun v => Next.value v) <$> Op.unary .xor (ρ' x)).run P w) J h w v h' := by
  simp only [evOp] at he
  split at he
  · rename_i k n hρ
    obtain ⟨rfl, hb⟩ := PR.pure_val he
    rw [hρ] at hx
    simp only [binI, Option.some.injEq] at hb
    subst hb
    exact OpOk.stay hI (v' := _) (by rw [hx.int_inv]; simp [Op.unary, Op.intBits]) (.int _ _)
  · cases he

theorem u8s_ints : ∀ (cs : List Value) (l : List UInt8), u8s cs = some l → ∃ ns : List Int, cs = ns.map (Value.int .u8) ∧ l = ns.map fun n => UInt8.ofNat n.toNat
  | [], l, hl => by simp [u8s] at hl; subst hl; exact ⟨[], rfl, rfl⟩
  | v :: r, l, hl => by
    simp only [u8s] at hl
    split at hl
    · rename_i b l' hb hl'
      cases hl
      obtain ⟨ns, h1, h2⟩ := u8s_ints r l' hl'
      unfold asU8 at hb
      split at hb
      · rename_i n; cases hb; exact ⟨n :: ns, by simp [h1], by simp [h2]⟩
      · cases hb
    · cases hl
theorem LV.ints {ns : List Int} {k : IntKind} {l' : List Value} (hl : LV J (ns.map (Value.int k)) l') : l' = ns.map (Value.int k) := by
  induction ns generalizing l' with
  | nil => exact hl.nil_left
  | cons n ns ih =>
    obtain ⟨y, r, rfl, hy, hr⟩ := LV.cons_left (by simpa using hl)
    rw [hy.int_inv, ih hr]; rfl
theorem push_all : ∀ (ns : List Int) (r : ByteArray), ns.foldl (fun r n => r.push (UInt8.ofNat n.toNat)) r = ⟨⟨r.data.toList ++ ns.map fun n => UInt8.ofNat n.toNat⟩⟩
  | [], r => by simp
  | n :: ns, r => by
    simp only [List.foldl_cons, push_all ns]
    simp [ByteArray.push]
theorem bytesV_rel (s : ByteArray) : LV J (bytesV s) (bytesV s) := by
  refine ⟨rfl, fun i x x' a b => ?_⟩
  rw [a] at b; cases b
  unfold bytesV at a
  rw [List.getElem?_map, Option.map_eq_some_iff] at a
  obtain ⟨y, _, rfl⟩ := a
  exact .int _ _

/-- A new row with room behind it. -/
theorem Stp.vec (hI : Inv B0 w0 J h w) {cs : List Value} {sz extra : Nat} {arr : Array Value} {e : TypeId} {lo hi : Nat} (w1 : World) (hw1 : w1.heap = w.heap) (h1 : w1.os = w.os) (h2 : w1.tape = w.tape) (h3 : w1.output = w.output)
    (hsz : arr.size = cs.length + extra * sz) (hl : ∀ (k : Nat) v, cs[k]? = some v → ∃ v', arr[k]? = some v' ∧ VR J v v') (hfz : ∀ k, k < arr.size → ¬ (lo ≤ k ∧ k < hi)) :
    Stp B0 w0 J h w (J.upd h.next ⟨w.heap.size, 0, extra⟩) (h.new (.cells (some sz) cs)) (w1.alloc (.cells arr e (lo, hi))) := by
  have hI1 : Inv B0 w0 J h w1 := ⟨hI.toInv0.drawn hw1 h1 h2 h3, hI.fresh⟩
  have s1 : Stp B0 w0 J h w J h w1 := ⟨J.le_refl, hI1.toInv0, Nat.le_refl _, fun _ _ h => .inl h, ⟨by rw [hw1]; exact Nat.le_refl _, fun k _ _ => by rw [hw1], fun k r hr => ⟨r, by rw [hw1]; exact hr, rfl⟩⟩, fun b o i hb hi _ => ⟨b, o, i, hb, hi, rfl⟩⟩
  have hsize : w1.heap.size = w.heap.size := by rw [hw1]
  refine s1.trans (Stp.alloc hI1 (by simp [hsize]) ⟨arr, e, lo, hi, ?_, fun k v hk => ?_, hfz, by simpa using hsz⟩)
  · simp only; rw [← hsize]; exact heap_alloc_at w1 _
  · obtain ⟨v', a, b⟩ := hl k v hk
    exact ⟨v', by simpa using a, b.mono (Inj.le_upd hI _)⟩

/-- What a slice over an array is in the world. -/
theorem VR.slice_inv {J : Inj} {a : Addr} {n cap : Nat} {x' : Value} (hv : VR J (.slice (some a) n cap) x') : ∃ i o' c', J a.block = some i ∧ x' = .slice (some ⟨i.blk, o', none⟩) n c' ∧ n ≤ cap ∧ cap ≤ c' ∧ (c' ≠ 0 → o' = a.off + i.shift) ∧
    ((a.spot = none ∧ c' = cap) ∨ (∃ z, a.spot = some z ∧ c' = cap + i.spare)) := by
  cases hv with
  | slice hj hn ho => exact ⟨_, _, _, hj, rfl, hn, Nat.le_refl _, ho, .inl ⟨rfl, rfl⟩⟩
  | loose hj hn ho => exact ⟨_, _, _, hj, rfl, hn, by omega, ho, .inr ⟨_, rfl, rfl⟩⟩
/-- And back. -/
theorem VR.slice_mk {J : Inj} {a : Addr} {n cap o' c' : Nat} {i : BI} (hj : J a.block = some i) (hn : n ≤ cap) (ho : c' ≠ 0 → o' = a.off + i.shift) (hc : (a.spot = none ∧ c' = cap) ∨ (∃ z, a.spot = some z ∧ c' = cap + i.spare)) :
    VR J (.slice (some a) n cap) (.slice (some ⟨i.blk, o', none⟩) n c') := by
  obtain ⟨b, o, sp⟩ := a
  rcases hc with ⟨rfl, rfl⟩ | ⟨z, rfl, rfl⟩
  · exact .slice hj hn ho
  · exact .loose hj hn ho

theorem op_convert (hT : Tbl P c) (hI : Inv B0 w0 J h w) {ρ ρ' : Operand → Value} {s t : TypeId} {x : Operand} (hx : VR J (ρ x) (ρ' x)) (he : evOp c ρ (.convert s t x) h = .val v h') :
    OpOk B0 w0 (((fun v => Next.value v) <$> Go.convert s t (ρ' x)).run P w) J h w v h' := by
  simp only [evOp, convert] at he
  split at he
  · rename_i si ti hsi hti
    have hs := (hT.tt _ _ hsi).und
    have ht := (hT.tt _ _ hti).und
    split at he
    · rename_i _ k _ n hk hρ
      cases he
      rw [hρ] at hx; rw [hk] at ht
      refine OpOk.stay hI (v' := .int k (k.wrap n)) ?_ (.int _ _)
      rw [hx.int_inv]
      cases hu : si.und <;> rw [hu] at hs <;> simp [Go.convert, run_underlying hs, run_underlying ht, Conv.intToInt]
    · rename_i _ _ b hk hρ
      cases he
      rw [hρ] at hx; rw [hk] at ht
      refine OpOk.stay hI (v' := .string b) ?_ (.string _)
      rw [hx.string_inv]
      cases hu : si.und <;> rw [hu] at hs <;> simp [Go.convert, run_underlying hs, run_underlying ht]
    · rename_i e _ _ hu hk hρ
      split at he
      · rename_i ei hei
        split at he
        · rename_i hb
          cases he
          rw [hρ] at hx; rw [hk] at ht; rw [hu] at hs
          have hue := (hT.tt _ _ hei).und
          rw [hb] at hue
          refine OpOk.stay hI (v' := .string .empty) ?_ (.string _)
          cases hv : ρ' x <;> rw [hv] at hx <;> cases hx
          simp [Go.convert, run_underlying hs, run_underlying ht, run_underlying hue, Conv.bytesToString]
        · cases he
      · cases he
    · rename_i e a n _ hu hk hρ
      split at he
      · rename_i ei hei
        split at he
        · rename_i hb
          split at he
          · rename_i cs hcs
            split at he
            · rename_i l hl
              cases he
              rw [hρ] at hx; rw [hk] at ht; rw [hu] at hs
              have hue := (hT.tt _ _ hei).und
              rw [hb] at hue
              obtain ⟨ns, rfl, rfl⟩ := u8s_ints cs l hl
              have key : ∀ {i : BI} {o' : Nat}, J a.block = some i → (n ≠ 0 → o' = a.off + i.shift) → (loadCells ⟨i.blk, o', none⟩ n).run P w = .ok (ns.map (Value.int .u8)).toArray w := by
                intro i o' hj ho
                obtain ⟨hlen, vs', hlv, hv⟩ := hI.read hcs hj
                have := hlv.ints
                subst this
                refine cells_load hlen fun k u hu => ?_
                rw [Addr.add_lit]
                have hn : n ≠ 0 := by
                  intro e0
                  rw [e0] at hlen
                  have : (ns.map (Value.int .u8)) = [] := List.length_eq_zero_iff.1 hlen
                  rw [this] at hu; simp at hu
                rw [ho hn]; exact hv k u hu
              refine OpOk.stay hI (v' := .string ⟨⟨ns.map fun n => UInt8.ofNat n.toNat⟩⟩) ?_ (.string _)
              obtain ⟨i, o', c', hj, hx', hn, hcc, ho, _⟩ := hx.slice_inv
              rw [hx', Sem.run_map, run_convert_bytes_string w s t e _ _ _ hs hue ht, run_bytesToString w _ _ _ ns (key hj (fun h0 => ho (by omega))), push_all]
              simp
            · cases he
          · cases he
        · cases he
      · cases he
    · rename_i e b hn1 hk hρ
      split at he
      · rename_i ei hei
        split at he
        · rename_i hb
          cases he
          rw [hρ] at hx; rw [hk] at ht
          have hue := (hT.tt _ _ hei).und
          rw [hb] at hue
          have hcap := grownCap_ge w b.size 0 e
          rw [hx.string_inv]
          have hsv := Stp.vec (cs := bytesV b) (sz := 1) (extra := grownCap w b.size 0 e - b.size) (arr := bytesRow b (grownCap w b.size 0 e)) (e := e) (lo := (bytesRow b (grownCap w b.size 0 e)).size) (hi := (bytesRow b (grownCap w b.size 0 e)).size + 1) hI w.drew rfl rfl rfl rfl
            (by simp [bytesRow, bytesV]) (fun k u hu => ⟨u, ?_, (bytesV_rel b).2 k u u hu hu⟩) (fun k hk => by omega)
          · refine ⟨_, .slice (some ⟨w.heap.size, 0, none⟩) b.size (grownCap w b.size 0 e), _, .inl ?_, hsv, ?_⟩
            · rw [hn1] at hs; rw [Sem.run_map, run_bytes_of_string w s t e b hs ht hue]; rfl
            · have := VR.loose (J := J.upd h.next ⟨w.heap.size, 0, grownCap w b.size 0 e - b.size⟩) (b := h.next) (o := 0) (n := b.size) (c := b.size) (o' := 0) (z := 0) (Inj.upd_same _ _ _) (Nat.le_refl _) (fun _ => rfl)
              simp only [show b.size + (grownCap w b.size 0 e - b.size) = grownCap w b.size 0 e by omega] at this
              exact this
          · have hk : k < (bytesV b).length := (List.getElem?_eq_some_iff.1 hu).1
            unfold bytesRow
            rw [Array.getElem?_append_left (by simpa [bytesV] using hk)]
            rw [← Array.getElem?_toList, Array.toList_map]
            exact hu
        · cases he
      · cases he
    · cases he
  · cases he
end
end Go.EV
