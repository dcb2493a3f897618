/- Words and their bits: wrapping, masks, shifts, in numbers. No condition. -/
import Derived.Test.YtjediiajmnlonaaEL
namespace Go.Proofs.Ytjediiajmnlonaa

theorem wrapU {x : Int} (h0 : 0 ≤ x) (h1 : x < 18446744073709551616) : IntKind.u64.wrap x = x := by
  unfold IntKind.wrap
  simp [IntKind.bits, IntKind.signed]
  omega
theorem wrapI {x : Int} (h0 : -9223372036854775808 ≤ x) (h1 : x < 9223372036854775808) : IntKind.i64.wrap x = x := by
  unfold IntKind.wrap
  simp [IntKind.bits, IntKind.signed]
  omega
theorem wrapU_pos (x : Int) : 0 ≤ IntKind.u64.wrap x ∧ IntKind.u64.wrap x < 18446744073709551616 := by
  unfold IntKind.wrap
  simp [IntKind.bits, IntKind.signed]
  omega
theorem wrapU_mod (x : Int) : IntKind.u64.wrap x = x % 18446744073709551616 := by
  unfold IntKind.wrap
  simp [IntKind.bits, IntKind.signed]
theorem fdiv_nat (a b : Nat) : Int.fdiv (a : Int) (b : Int) = ((a / b : Nat) : Int) := by
  rw [Int.fdiv_eq_ediv_of_nonneg _ (by omega)]
  simp
theorem tdiv_nat (a b : Nat) : Int.tdiv (a : Int) (b : Int) = ((a / b : Nat) : Int) := rfl
theorem tmod_nat (a b : Nat) : Int.tmod (a : Int) (b : Int) = ((a % b : Nat) : Int) := rfl
theorem ofInt_nat (n : Nat) : BitVec.ofInt 64 (n : Int) = BitVec.ofNat 64 n := by simp
/-- A number's low bits. -/
theorem and_mask (a k : Nat) (hk : k ≤ 64) : (BitVec.ofNat 64 a &&& BitVec.ofNat 64 (2 ^ k - 1)).toNat = a % 2 ^ k := by
  rw [BitVec.toNat_and, BitVec.toNat_ofNat, BitVec.toNat_ofNat]
  have hp : 2 ^ k ≤ 2 ^ 64 := Nat.pow_le_pow_right (by omega) hk
  have h0 : 0 < 2 ^ k := Nat.two_pow_pos k
  rw [Nat.mod_eq_of_lt (a := 2 ^ k - 1) (by omega), Nat.and_two_pow_sub_one_eq_mod]
  have : 2 ^ 64 = 2 ^ k * 2 ^ (64 - k) := by rw [← Nat.pow_add]; congr 1; omega
  rw [this, Nat.mod_mul_right_mod]
/-- A word's field, as the program takes it: shifted, and masked. -/
def fieldP (w : Int) (sh k : Int) : Int := IntKind.u64.wrap ↑(BitVec.ofInt IntKind.u64.bits (w.fdiv (2 ^ min (IntKind.u64.wrap sh).toNat IntKind.u64.bits)) &&&
  BitVec.ofInt IntKind.u64.bits (Int.fdiv 18446744073709551615 (2 ^ min (IntKind.u64.wrap (IntKind.i64.wrap k)).toNat IntKind.u64.bits))).toNat
theorem fieldP_eq {w : Int} (h0 : 0 ≤ w) (sh k : Nat) (hsh : sh < 64) (hk : k ≤ 64) : fieldP w sh (64 - k : Nat) = w / 2 ^ sh % 2 ^ k := by
  obtain ⟨n, rfl⟩ := Int.eq_ofNat_of_zero_le h0
  unfold fieldP
  rw [wrapU (x := (sh : Int)) (by omega) (by omega), wrapI (x := ((64 - k : Nat) : Int)) (by omega) (by omega), wrapU (x := ((64 - k : Nat) : Int)) (by omega) (by omega)]
  simp only [Int.toNat_natCast]
  have e1 : min sh IntKind.u64.bits = sh := Nat.min_eq_left (by simp [IntKind.bits]; omega)
  have e2 : min (64 - k) IntKind.u64.bits = 64 - k := Nat.min_eq_left (by simp [IntKind.bits])
  rw [e1, e2]
  have e3 : (n : Int).fdiv (2 ^ sh) = ((n / 2 ^ sh : Nat) : Int) := by
    have := fdiv_nat n (2 ^ sh)
    simpa using this
  have e4 : Int.fdiv 18446744073709551615 (2 ^ (64 - k)) = ((2 ^ k - 1 : Nat) : Int) := by
    have h1 := fdiv_nat 18446744073709551615 (2 ^ (64 - k))
    have h2 : 18446744073709551615 / 2 ^ (64 - k) = 2 ^ k - 1 := by
      have h3 : 2 ^ 64 = 2 ^ k * 2 ^ (64 - k) := by rw [← Nat.pow_add]; congr 1; omega
      have h4 : 0 < 2 ^ (64 - k) := Nat.two_pow_pos _
      have h5 : 0 < 2 ^ k := Nat.two_pow_pos _
      have h6 : 18446744073709551615 = (2 ^ k - 1) * 2 ^ (64 - k) + (2 ^ (64 - k) - 1) := by
        rw [Nat.sub_mul, Nat.one_mul, ← h3]
        have : 2 ^ (64 - k) ≤ 2 ^ 64 := Nat.pow_le_pow_right (by omega) (by omega)
        omega
      rw [h6, Nat.mul_comm, Nat.mul_add_div h4, Nat.div_eq_of_lt (by omega)]
      omega
    rw [← h2]
    simpa using h1
  have e5 : (BitVec.ofInt IntKind.u64.bits ((n / 2 ^ sh : Nat) : Int) &&& BitVec.ofInt IntKind.u64.bits ((2 ^ k - 1 : Nat) : Int)).toNat = n / 2 ^ sh % 2 ^ k := by
    show (BitVec.ofInt 64 _ &&& BitVec.ofInt 64 _).toNat = _
    rw [ofInt_nat, ofInt_nat, and_mask _ k hk]
  rw [e3, e4, e5]
  have h6 : n / 2 ^ sh % 2 ^ k < 2 ^ 64 := Nat.lt_of_lt_of_le (Nat.mod_lt _ (Nat.two_pow_pos _)) (Nat.pow_le_pow_right (by omega) hk)
  rw [wrapU (by omega) (by omega)]
  simp
end Go.Proofs.Ytjediiajmnlonaa
