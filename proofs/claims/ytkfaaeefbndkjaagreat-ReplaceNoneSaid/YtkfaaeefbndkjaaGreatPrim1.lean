/-
  A part of the proof: Prim1.
-/
import Derived.Test.YtkfaaeefbndkjaaGreatBase
import Derived.Test.YtkfaaeefbndkjaaGreatEvY
set_option maxRecDepth 100000
namespace Go.EV
def rVal : R Value → Value
  | .ok v _ => v
  | .err _ => .tuple #[]
def rSt : R Value → St
  | .ok _ s => s
  | .err _ => ⟨H0, [], false⟩
def goodR : R Value → Bool
  | .ok _ s => s.ob
  | .err _ => false
theorem goodR_ok {r : R Value} (h : goodR r = true) : r = .ok (rVal r) (rSt r) ∧ (rSt r).ob = true := by
  cases r with
  | ok v s => exact ⟨rfl, h⟩
  | err n => cases h
theorem okAs_of {r : R Value} {v : Value} (h : goodR r = true) (hv : rVal r = v) : okAs r v := by
  obtain ⟨h1, h2⟩ := goodR_ok h
  exact ⟨_, by rw [← hv]; exact h1, h2⟩
/-- A word of 32 bits, turned. -/
def rotI (x : Int) (s : Nat) : Int := IntKind.u32.wrap ((BitVec.ofInt IntKind.u32.bits (IntKind.u32.wrap (x * 2 ^ s)) ||| BitVec.ofInt IntKind.u32.bits (x.fdiv (2 ^ (32 - s)))).toNat : Nat)
def rotN (m s : Nat) : Nat := Nat.lor (Nat.mod (Nat.shiftLeft m s) 4294967296) (Nat.shiftRight m (32 - s))
theorem wrap_u32 (n : Int) : IntKind.u32.wrap n = n % 4294967296 := rfl
theorem rotI_nat {m s : Nat} (hm : m < 4294967296) : rotI (m : Int) s = (rotN m s : Nat) := by
  unfold rotI rotN
  rw [wrap_u32, wrap_u32]
  have e1 : ((m : Int) * 2 ^ s) % 4294967296 = ((Nat.mod (Nat.shiftLeft m s) 4294967296 : Nat) : Int) := by
    rw [show Nat.mod (Nat.shiftLeft m s) 4294967296 = (m <<< s) % 4294967296 from rfl, Nat.shiftLeft_eq]
    rw [Int.natCast_emod, Int.natCast_mul, Int.natCast_pow]; rfl
  have e2 : (m : Int).fdiv (2 ^ (32 - s)) = ((Nat.shiftRight m (32 - s) : Nat) : Int) := by
    rw [show Nat.shiftRight m (32 - s) = m >>> (32 - s) from rfl, Nat.shiftRight_eq_div_pow, show ((2 : Int) ^ (32 - s)) = ((2 ^ (32 - s) : Nat) : Int) by rw [Int.natCast_pow]; rfl]
    rw [Int.fdiv_eq_ediv_of_nonneg _ (by exact Int.natCast_nonneg _)]
    rfl
  rw [e1, e2]
  generalize ha : Nat.mod (Nat.shiftLeft m s) 4294967296 = a
  generalize hb : Nat.shiftRight m (32 - s) = b
  have la : a < 2 ^ 32 := by rw [← ha]; exact Nat.mod_lt _ (by decide)
  have lb : b < 2 ^ 32 := by
    rw [← hb, show Nat.shiftRight m (32 - s) = m >>> (32 - s) from rfl, Nat.shiftRight_eq_div_pow]
    exact Nat.lt_of_le_of_lt (Nat.div_le_self _ _) hm
  have l1 : Nat.lor a b < 2 ^ 32 := Nat.or_lt_two_pow la lb
  rw [BitVec.toNat_or, BitVec.ofInt_natCast, BitVec.ofInt_natCast, BitVec.toNat_ofNat, BitVec.toNat_ofNat, show IntKind.u32.bits = 32 from rfl, Nat.mod_eq_of_lt la, Nat.mod_eq_of_lt lb]
  have l2 : (a ||| b) < 4294967296 := l1
  show ((a ||| b : Nat) : Int) % 4294967296 = _
  rw [Int.emod_eq_of_lt (by omega) (by omega)]
  rfl
end Go.EV
namespace Go.Proofs.YtkfaaeefbndkjaaGreat
open Go.EV
noncomputable def rT (x : Int) (n : Int) : R Value := (Fast.ev c1 1000).call 329 [.int .u32 x, .int .i64 n] ⟨H0, [], true⟩
def turnP : Prim := fun args h => match args with
  | [.int .u32 (.ofNat m), .int .i64 (.ofNat j)] => match Nat.ble m 4294967295, memN j [7, 18, 17, 19, 6, 11, 25, 2, 13, 22] with
    | true, true => some (.int .u32 (.ofNat (rotN m (Nat.sub 32 j))), h)
    | _, _ => none
  | _ => none
theorem memN_mem : ∀ {l : List Nat} {n : Nat}, memN n l = true → n ∈ l
  | [], n, h => by cases h
  | x :: r, n, h => by
    unfold memN at h
    split at h
    · rename_i e; rw [Nat.eq_of_beq_eq_true e]; simp
    · exact List.mem_cons_of_mem _ (memN_mem h)
theorem turn_run (x : Int) (j : Nat) (hj : j ∈ [7, 18, 17, 19, 6, 11, 25, 2, 13, 22]) : okAs (rT x j) (.int .u32 (rotI x (32 - j))) := by
  simp only [List.mem_cons, List.not_mem_nil, or_false] at hj
  rcases hj with rfl | rfl | rfl | rfl | rfl | rfl | rfl | rfl | rfl | rfl
  all_goals exact okAs_of (by kernel_rfl) (by kernel_rfl)
theorem turn_at : PrimOk1 Tryz.prog 329 turnP := by
  refine PrimOk1.plain c1_call fun args h v h' hp => ?_
  unfold turnP at hp
  split at hp
  · rename_i m j
    split at hp
    · rename_i h1 h2
      cases hp
      have h1 := Nat.le_of_ble_eq_true h1
      have h2 := memN_mem h2
      refine ⟨rfl, rfl, rfl, 1000, ?_⟩
      obtain ⟨s', e1, e2⟩ := turn_run (m : Int) j h2
      refine ⟨s', ?_, e2⟩
      rw [rotI_nat (by omega)] at e1
      rw [evCall_fast]
      exact e1
    · cases hp
  · cases hp
theorem turn_good : PrimGood1 turnP := .same fun args h v h' hp => by
  unfold turnP at hp
  repeat' split at hp
  all_goals first | (cases hp; rfl) | cases hp

def shlW (a : Int) : Int := IntKind.u64.wrap (a * 2 ^ 1)
def orW (a b : Int) : Int := IntKind.u64.wrap ((BitVec.ofInt IntKind.u64.bits (shlW a) ||| BitVec.ofInt IntKind.u64.bits (b.fdiv (2 ^ 63))).toNat : Nat)
def orN (a b : Nat) : Nat := Nat.lor (Nat.mod (Nat.shiftLeft a 1) 18446744073709551616) (Nat.shiftRight b 63)
theorem wrap_u64 (n : Int) : IntKind.u64.wrap n = n % 18446744073709551616 := rfl
theorem shlW_nat (m : Nat) : shlW (m : Int) = ((Nat.mod (Nat.shiftLeft m 1) 18446744073709551616 : Nat) : Int) := by
  unfold shlW
  rw [wrap_u64, show Nat.mod (Nat.shiftLeft m 1) 18446744073709551616 = (m <<< 1) % 18446744073709551616 from rfl, Nat.shiftLeft_eq, Int.natCast_emod, Int.natCast_mul, Int.natCast_pow]; rfl
theorem orW_nat {a b : Nat} (hb : b < 18446744073709551616) : orW (a : Int) (b : Int) = ((orN a b : Nat) : Int) := by
  unfold orW orN
  rw [shlW_nat]
  have e2 : (b : Int).fdiv (2 ^ 63) = ((Nat.shiftRight b 63 : Nat) : Int) := by
    rw [show Nat.shiftRight b 63 = b >>> 63 from rfl, Nat.shiftRight_eq_div_pow, show ((2 : Int) ^ 63) = ((2 ^ 63 : Nat) : Int) by rw [Int.natCast_pow]; rfl]
    rw [Int.fdiv_eq_ediv_of_nonneg _ (by exact Int.natCast_nonneg _)]
    rfl
  rw [e2]
  generalize ha : Nat.mod (Nat.shiftLeft a 1) 18446744073709551616 = x
  generalize hc : Nat.shiftRight b 63 = y
  have lx : x < 2 ^ 64 := by rw [← ha]; exact Nat.mod_lt _ (by decide)
  have ly : y < 2 ^ 64 := by
    rw [← hc, show Nat.shiftRight b 63 = b >>> 63 from rfl, Nat.shiftRight_eq_div_pow]
    exact Nat.lt_of_le_of_lt (Nat.div_le_self _ _) hb
  have l1 : Nat.lor x y < 2 ^ 64 := Nat.or_lt_two_pow lx ly
  rw [BitVec.toNat_or, BitVec.ofInt_natCast, BitVec.ofInt_natCast, BitVec.toNat_ofNat, BitVec.toNat_ofNat, show IntKind.u64.bits = 64 from rfl, Nat.mod_eq_of_lt lx, Nat.mod_eq_of_lt ly, wrap_u64]
  have l2 : (x ||| y) < 18446744073709551616 := l1
  show ((x ||| y : Nat) : Int) % 18446744073709551616 = _
  rw [Int.emod_eq_of_lt (by omega) (by omega)]
  rfl
noncomputable def rL (a b c d : Int) : R Value := (Fast.ev c1 1000).call 210 [.agg ⟨[.int .u64 a, .int .u64 b, .int .u64 c, .int .u64 d]⟩, .int .i64 1] ⟨H0, [], true⟩
theorem left_run (a b c d : Int) : okAs (rL a b c d) (.agg ⟨[.int .u64 (shlW a), .int .u64 (orW b a), .int .u64 (orW c b), .int .u64 (orW d c)]⟩) := okAs_of (by kernel_rfl) (by kernel_rfl)
def leftP : Prim := fun args h => match args with
  | [.agg ⟨[.int .u64 (.ofNat a), .int .u64 (.ofNat b), .int .u64 (.ofNat c), .int .u64 (.ofNat d)]⟩, .int .i64 (.ofNat j)] =>
    match Nat.ble a 18446744073709551615, Nat.ble b 18446744073709551615, Nat.ble c 18446744073709551615, Nat.beq j 1 with
    | true, true, true, true => some (.agg ⟨[.int .u64 (.ofNat (Nat.mod (Nat.shiftLeft a 1) 18446744073709551616)), .int .u64 (.ofNat (orN b a)), .int .u64 (.ofNat (orN c b)), .int .u64 (.ofNat (orN d c))]⟩, h)
    | _, _, _, _ => none
  | _ => none
theorem left_at : PrimOk1 Tryz.prog 210 (orP leftP fun _ _ => none) := by
  refine PrimOk1.plain c1_call fun args h v h' hp => ?_
  unfold orP at hp
  split at hp
  · rename_i r hr
    cases hp
    unfold leftP at hr
    split at hr
    · rename_i a b c d j
      split at hr
      · rename_i h1 h2 h3 h4
        cases hr
        have h1 := Nat.le_of_ble_eq_true h1
        have h2 := Nat.le_of_ble_eq_true h2
        have h3 := Nat.le_of_ble_eq_true h3
        have h4 := Nat.eq_of_beq_eq_true h4
        subst h4
        refine ⟨rfl, rfl, rfl, 1000, ?_⟩
        obtain ⟨s', e1, e2⟩ := left_run (a : Int) b c d
        refine ⟨s', ?_, e2⟩
        rw [shlW_nat, orW_nat (by omega), orW_nat (by omega), orW_nat (by omega)] at e1
        rw [evCall_fast]
        exact e1
      · cases hr
    · cases hr
  · cases hp
end Go.Proofs.YtkfaaeefbndkjaaGreat
