/- Integers as the program reckons with them: wraps, shifts, bits. Own work. -/
import Derived.Test.YthdmmmfgjmmelaaMem
namespace Go.Proofs.Ythdmmmfgjmmelaa
open Go Go.Proofs
set_option linter.unusedVariables false
set_option linter.unusedSimpArgs false

theorem wrap_u64 (x : Int) : IntKind.u64.wrap x = x % 18446744073709551616 := by simp [IntKind.wrap, IntKind.bits, IntKind.signed]
theorem wrap_u32 (x : Int) : IntKind.u32.wrap x = x % 4294967296 := by simp [IntKind.wrap, IntKind.bits, IntKind.signed]
theorem wrap_u16 (x : Int) : IntKind.u16.wrap x = x % 65536 := by simp [IntKind.wrap, IntKind.bits, IntKind.signed]
theorem wrap_u8 (x : Int) : IntKind.u8.wrap x = x % 256 := by simp [IntKind.wrap, IntKind.bits, IntKind.signed]
theorem wrap_i64 {x : Int} (h0 : -9223372036854775808 ≤ x) (h1 : x < 9223372036854775808) : IntKind.i64.wrap x = x := by
  simp only [IntKind.wrap, IntKind.bits, IntKind.signed, Bool.true_and]
  split <;> rename_i h <;> simp at h <;> omega
theorem wrap_i64_eq (x : Int) : IntKind.i64.wrap x = (x + 9223372036854775808) % 18446744073709551616 - 9223372036854775808 := by
  simp only [IntKind.wrap, IntKind.bits, IntKind.signed, Bool.true_and]
  split <;> rename_i h <;> simp at h <;> omega

theorem bits_pos (k : IntKind) : 8 ≤ k.bits := by cases k <;> decide

/-- a number that fits is what it was -/
theorem wrap_fit (k : IntKind) {x : Int} (h0 : 0 ≤ x) (h1 : x < 2 ^ (k.bits - 1)) : k.wrap x = x := by
  have hb := bits_pos k
  have h2 : (2 : Int) ^ k.bits = 2 * 2 ^ (k.bits - 1) := by
    rw [show k.bits = (k.bits - 1) + 1 by omega, Int.pow_succ]
    simp only [Nat.add_sub_cancel]
    omega
  have h3 : x % 2 ^ k.bits = x := Int.emod_eq_of_lt h0 (by omega)
  simp only [IntKind.wrap, h3]
  rw [if_neg]
  simp only [Bool.and_eq_true, decide_eq_true_eq, not_and, ge_iff_le, Int.not_le]
  exact fun _ => h1

theorem wrap_fit_nat (k : IntKind) {n : Nat} (h1 : n < 2 ^ (k.bits - 1)) : k.wrap (n : Int) = n :=
  wrap_fit k (by omega) (by exact_mod_cast h1)

theorem ofInt_toNat (w : Nat) (x : Int) : ((BitVec.ofInt w x).toNat : Int) = x % 2 ^ w := by
  rw [BitVec.toNat_ofInt]
  have : (0 : Int) ≤ x % 2 ^ w := Int.emod_nonneg _ (by
    have : (0 : Int) < 2 ^ w := Int.pow_pos (by decide)
    omega)
  have e : ((2 ^ w : Nat) : Int) = 2 ^ w := by simp
  rw [e]
  omega

theorem ofInt_toNat' (w n : Nat) (h : n < 2 ^ w) : (BitVec.ofInt w (n : Int)).toNat = n := by
  have h1 := ofInt_toNat w n
  have : ((n : Int)) % 2 ^ w = n := Int.emod_eq_of_lt (by omega) (by exact_mod_cast h)
  omega

theorem pow_pred (k : IntKind) : (2 : Nat) ^ k.bits = 2 * 2 ^ (k.bits - 1) := by
  have hb := bits_pos k
  rw [show k.bits = (k.bits - 1) + 1 by omega, Nat.pow_succ]
  simp only [Nat.add_sub_cancel]
  omega

/-- the lowest t bits -/
theorem andV_mod (k : IntKind) (x : Int) {t : Nat} (ht : t < k.bits) : andV k x (2 ^ t - 1) = x % 2 ^ t := by
  have hp := pow_pred k
  have h2 : (2 : Nat) ^ t ≤ 2 ^ (k.bits - 1) := Nat.pow_le_pow_right (by decide) (by omega)
  have hpos : 0 < (2 : Nat) ^ t := Nat.pow_pos (by decide)
  have e1 : ((2 : Int) ^ t - 1) = ((2 ^ t - 1 : Nat) : Int) := by
    rw [Int.ofNat_sub hpos]; simp
  unfold andV
  rw [e1, BitVec.toNat_and, ofInt_toNat' _ _ (by omega), Nat.and_two_pow_sub_one_eq_mod]
  have h3 := ofInt_toNat k.bits x
  have hlt : (BitVec.ofInt k.bits x).toNat % 2 ^ t < 2 ^ t := Nat.mod_lt _ hpos
  rw [wrap_fit_nat k (by omega), Int.natCast_emod, h3]
  have e2 : ((2 ^ t : Nat) : Int) = 2 ^ t := by simp
  rw [e2]
  exact Int.emod_emod_of_dvd _ ⟨2 ^ (k.bits - t), by rw [← Int.pow_add]; congr 1; omega⟩

theorem orV_nat (k : IntKind) {a b : Nat} (ha : a < 2 ^ (k.bits - 1)) (hb : b < 2 ^ (k.bits - 1)) : orV k (a : Int) (b : Int) = ((a ||| b : Nat) : Int) := by
  have hp := pow_pred k
  unfold orV
  rw [BitVec.toNat_or, ofInt_toNat' _ _ (by omega), ofInt_toNat' _ _ (by omega)]
  exact wrap_fit_nat k (Nat.or_lt_two_pow ha hb)

theorem andV_nat (k : IntKind) {a b : Nat} (ha : a < 2 ^ (k.bits - 1)) (hb : b < 2 ^ k.bits) : andV k (a : Int) (b : Int) = ((a &&& b : Nat) : Int) := by
  have hp := pow_pred k
  unfold andV
  rw [BitVec.toNat_and, ofInt_toNat' _ _ (by omega), ofInt_toNat' _ _ (by omega)]
  exact wrap_fit_nat k (Nat.lt_of_le_of_lt Nat.and_le_left ha)

/-- what is put above t bits stands beside them -/
theorem orV_add (k : IntKind) {a b : Nat} {t : Nat} (ha : a < 2 ^ t) (hs : a + b * 2 ^ t < 2 ^ (k.bits - 1)) : orV k (a : Int) ((b : Int) * 2 ^ t) = (a : Int) + (b : Int) * 2 ^ t := by
  have e : (b : Int) * 2 ^ t = ((b * 2 ^ t : Nat) : Int) := by simp
  rw [e, orV_nat k (by omega) (by omega), Nat.or_comm]
  have := Nat.two_pow_add_eq_or_of_lt ha b
  rw [Nat.mul_comm b, ← this]
  simp
  omega

theorem shlV_nat (k : IntKind) {x : Int} {t : Nat} (ht : t ≤ k.bits) (h0 : 0 ≤ x) (hs : x * 2 ^ t < 2 ^ (k.bits - 1)) : shlV k x (t : Int) = x * 2 ^ t := by
  unfold shlV
  rw [Int.toNat_natCast, Nat.min_eq_left ht]
  exact wrap_fit k (Int.mul_nonneg h0 (Int.le_of_lt (Int.pow_pos (by decide)))) hs

theorem shrV_nat (k : IntKind) (x : Int) {t : Nat} (ht : t ≤ k.bits) : shrV k x (t : Int) = x / 2 ^ t := by
  unfold shrV
  rw [Int.toNat_natCast, Nat.min_eq_left ht]
  exact Int.fdiv_eq_ediv_of_nonneg _ (Int.le_of_lt (Int.pow_pos (by decide)))

theorem shlV_lit (k : IntKind) {x y : Int} {t : Nat} (hy : y = t) (ht : t ≤ k.bits) (h0 : 0 ≤ x) (hs : x * 2 ^ t < 2 ^ (k.bits - 1)) : shlV k x y = x * 2 ^ t := by
  subst hy; exact shlV_nat k ht h0 hs

theorem tdiv_nn {a b : Int} (ha : 0 ≤ a) : a.tdiv b = a / b := by
  exact Int.tdiv_eq_ediv_of_nonneg ha
theorem tmod_nn {a b : Int} (ha : 0 ≤ a) : a.tmod b = a % b := by
  exact Int.tmod_eq_emod_of_nonneg ha

end Go.Proofs.Ythdmmmfgjmmelaa
