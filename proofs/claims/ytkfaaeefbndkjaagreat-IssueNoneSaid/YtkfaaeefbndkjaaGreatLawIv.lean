/-
  A part of the proof: LawIv.
-/
import Derived.Test.YtkfaaeefbndkjaaGreatLawI
set_option maxRecDepth 100000
namespace Go.Proofs.YtkfaaeefbndkjaaGreat
open Go.EV
def sh8 (x : Int) : Int := x.fdiv (2 ^ min (Int.toNat 8) IntKind.u64.bits)
def by8 (x : Int) : UInt8 := UInt8.ofNat (IntKind.u8.wrap x).toNat
def q8 (x : Int) : Int := IntKind.u64.wrap (x.tdiv 256)
def tagA (id sign : Int) : ByteArray := ⟨⟨[by8 (IntKind.u64.wrap sign), by8 id, by8 (sh8 id), by8 (sh8 (sh8 id)), by8 (sh8 (sh8 (sh8 id))), by8 (sh8 (sh8 (sh8 (sh8 id)))), by8 (sh8 (sh8 (sh8 (sh8 (sh8 id))))),
  by8 (sh8 (sh8 (sh8 (sh8 (sh8 (sh8 id)))))), by8 (sh8 (sh8 (sh8 (sh8 (sh8 (sh8 (sh8 id)))))))]⟩⟩
def tagB (id sign : Int) : ByteArray := ⟨⟨[UInt8.ofNat sign.toNat]⟩⟩ ++ ⟨⟨[by8 (id.tmod 256), by8 ((q8 id).tmod 256), by8 ((q8 (q8 id)).tmod 256), by8 ((q8 (q8 (q8 id))).tmod 256), by8 ((q8 (q8 (q8 (q8 id)))).tmod 256), by8 ((q8 (q8 (q8 (q8 (q8 id))))).tmod 256),
  by8 ((q8 (q8 (q8 (q8 (q8 (q8 id)))))).tmod 256), by8 ((q8 (q8 (q8 (q8 (q8 (q8 (q8 id))))))).tmod 256)]⟩⟩
theorem rI_val (id sign : Int) : rVal (rI id sign) = .bool ((tagA id sign).toList == (tagB id sign).toList) := by kernel_rfl
theorem sh8_nat (n : Nat) : sh8 (n : Int) = ((n / 256 : Nat) : Int) := by
  unfold sh8
  rw [show ((2 : Int) ^ min (Int.toNat 8) IntKind.u64.bits) = ((256 : Nat) : Int) from rfl, Int.fdiv_eq_ediv_of_nonneg _ (by exact Int.natCast_nonneg _)]
  rfl
theorem q8_nat {n : Nat} (h : n < 18446744073709551616) : q8 (n : Int) = ((n / 256 : Nat) : Int) := by
  unfold q8
  rw [wrap_u64, Int.tdiv_eq_ediv_of_nonneg (by exact Int.natCast_nonneg _), show ((n : Int) / 256) = ((n / 256 : Nat) : Int) from rfl, Int.emod_eq_of_lt (by omega) (by omega)]
theorem by8_mod (n : Nat) : by8 ((n : Int).tmod 256) = by8 (n : Int) := by
  unfold by8
  congr 2
  show ((n : Int).tmod 256) % 256 = (n : Int) % 256
  rw [Int.tmod_eq_emod_of_nonneg (by exact Int.natCast_nonneg _), Int.emod_emod]
theorem tag_eq {id sign : Nat} (h : id < 18446744073709551616) (hs : sign < 256) : tagA (id : Int) (sign : Int) = tagB (id : Int) (sign : Int) := by
  unfold tagA tagB
  rw [q8_nat h, q8_nat (by omega), q8_nat (by omega), q8_nat (by omega), q8_nat (by omega), q8_nat (by omega), q8_nat (by omega)]
  simp only [sh8_nat, by8_mod]
  have e : by8 (IntKind.u64.wrap (sign : Int)) = UInt8.ofNat ((sign : Int)).toNat := by
    unfold by8
    congr 2
    show ((sign : Int) % 18446744073709551616) % 256 = sign
    omega
  rw [e]
  rfl
theorem rI_true {id sign : Nat} (h : id < 18446744073709551616) (hs : sign < 256) : okAs (rI (id : Int) (sign : Int)) (.bool true) := by
  refine okAs_of (rI_good _ _) ?_
  rw [rI_val, tag_eq h hs, beq_self_eq_true]
end Go.Proofs.YtkfaaeefbndkjaaGreat
