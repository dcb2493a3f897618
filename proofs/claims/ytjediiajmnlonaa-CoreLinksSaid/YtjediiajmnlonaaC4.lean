/- A number put into a field of a word, in numbers. No condition. -/
import Derived.Test.YtjediiajmnlonaaC1
namespace Go.Proofs.Ytjediiajmnlonaa

/-- A field as the program puts it: what was there struck, the number laid in. -/
def putP (w x : Int) (sh k : Int) : Int := IntKind.u64.wrap ↑(BitVec.ofInt IntKind.u64.bits (IntKind.u64.wrap ↑(BitVec.ofInt IntKind.u64.bits w &&& ~~~BitVec.ofInt IntKind.u64.bits
    (IntKind.u64.wrap (Int.fdiv 18446744073709551615 (2 ^ min (IntKind.u64.wrap (IntKind.i64.wrap k)).toNat IntKind.u64.bits) * 2 ^ min (IntKind.u64.wrap sh).toNat IntKind.u64.bits))).toNat) |||
  BitVec.ofInt IntKind.u64.bits (IntKind.u64.wrap (x * 2 ^ min (IntKind.u64.wrap sh).toNat IntKind.u64.bits))).toNat
theorem strike (w m sh : Nat) (hw : w < 2 ^ sh) (hsh : sh < 64) : (BitVec.ofNat 64 w &&& ~~~BitVec.ofNat 64 (m * 2 ^ sh)).toNat = w := by
  have hw64 : w < 2 ^ 64 := Nat.lt_of_lt_of_le hw (Nat.pow_le_pow_right (by omega) (by omega))
  have e : BitVec.ofNat 64 w &&& ~~~BitVec.ofNat 64 (m * 2 ^ sh) = BitVec.ofNat 64 w := by
    apply BitVec.eq_of_getLsbD_eq
    intro i hi
    simp only [BitVec.getLsbD_and, BitVec.getLsbD_not, BitVec.getLsbD_ofNat, Nat.testBit_mul_two_pow, hi, decide_true, Bool.true_and]
    by_cases h : sh ≤ i
    · have : w.testBit i = false := Nat.testBit_lt_two_pow (Nat.lt_of_lt_of_le hw (Nat.pow_le_pow_right (by omega) h))
      simp [this]
    · simp [h]
  rw [e, BitVec.toNat_ofNat, Nat.mod_eq_of_lt hw64]
theorem lay (w x sh k : Nat) (hw : w < 2 ^ sh) (hx : x < 2 ^ k) (hk : sh + k ≤ 64) : (BitVec.ofNat 64 w ||| BitVec.ofNat 64 (x * 2 ^ sh)).toNat = w + x * 2 ^ sh := by
  have hw64 : w < 2 ^ 64 := Nat.lt_of_lt_of_le hw (Nat.pow_le_pow_right (by omega) (by omega))
  have hx64 : x * 2 ^ sh < 2 ^ 64 := by
    have h1 : x * 2 ^ sh < 2 ^ k * 2 ^ sh := Nat.mul_lt_mul_of_pos_right hx (Nat.two_pow_pos _)
    rw [← Nat.pow_add] at h1
    exact Nat.lt_of_lt_of_le h1 (Nat.pow_le_pow_right (by omega) (by omega))
  rw [BitVec.toNat_or, BitVec.toNat_ofNat, BitVec.toNat_ofNat, Nat.mod_eq_of_lt hw64, Nat.mod_eq_of_lt hx64, Nat.or_comm, Nat.mul_comm, ← Nat.two_pow_add_eq_or_of_lt hw]
  omega
theorem putP_eq {w x : Int} (sh k : Nat) (hw0 : 0 ≤ w) (hw : w < 2 ^ sh) (hx0 : 0 ≤ x) (hx : x < 2 ^ k) (hk0 : 0 < k) (hk : sh + k ≤ 64) : putP w x sh (64 - k : Nat) = w + x * 2 ^ sh := by
  obtain ⟨w, rfl⟩ := Int.eq_ofNat_of_zero_le hw0
  obtain ⟨x, rfl⟩ := Int.eq_ofNat_of_zero_le hx0
  have hw' : w < 2 ^ sh := by exact_mod_cast hw
  have hx' : x < 2 ^ k := by exact_mod_cast hx
  have hw64 : w < 2 ^ 64 := Nat.lt_of_lt_of_le hw' (Nat.pow_le_pow_right (by omega) (by omega))
  have hx64 : x * 2 ^ sh < 2 ^ 64 := by
    have h1 : x * 2 ^ sh < 2 ^ k * 2 ^ sh := Nat.mul_lt_mul_of_pos_right hx' (Nat.two_pow_pos _)
    rw [← Nat.pow_add] at h1
    exact Nat.lt_of_lt_of_le h1 (Nat.pow_le_pow_right (by omega) (by omega))
  have hm64 : (2 ^ k - 1) * 2 ^ sh < 2 ^ 64 := by
    have h1 : (2 ^ k - 1) * 2 ^ sh < 2 ^ k * 2 ^ sh := Nat.mul_lt_mul_of_pos_right (by have := Nat.two_pow_pos k; omega) (Nat.two_pow_pos _)
    rw [← Nat.pow_add] at h1
    exact Nat.lt_of_lt_of_le h1 (Nat.pow_le_pow_right (by omega) (by omega))
  unfold putP
  rw [wrapU (x := (sh : Int)) (by omega) (by omega), wrapI (x := ((64 - k : Nat) : Int)) (by omega) (by omega), wrapU (x := ((64 - k : Nat) : Int)) (by omega) (by omega)]
  simp only [Int.toNat_natCast]
  have e1 : min sh IntKind.u64.bits = sh := Nat.min_eq_left (by simp [IntKind.bits]; omega)
  have e2 : min (64 - k) IntKind.u64.bits = 64 - k := Nat.min_eq_left (by simp [IntKind.bits])
  have e4 : Int.fdiv 18446744073709551615 (2 ^ (64 - k)) = ((2 ^ k - 1 : Nat) : Int) := by
    have h1 := fdiv_nat 18446744073709551615 (2 ^ (64 - k))
    have h2 : 18446744073709551615 / 2 ^ (64 - k) = 2 ^ k - 1 := by
      have h3 : 2 ^ 64 = 2 ^ k * 2 ^ (64 - k) := by rw [← Nat.pow_add]; congr 1; omega
      have h4 : 0 < 2 ^ (64 - k) := Nat.two_pow_pos _
      have h5 : 0 < 2 ^ k := Nat.two_pow_pos _
      have h6 : 18446744073709551615 = (2 ^ k - 1) * 2 ^ (64 - k) + (2 ^ (64 - k) - 1) := by
        rw [Nat.sub_mul, Nat.one_mul, ← h3]
        have : 2 ^ (64 - k) ≤ 2 ^ 64 := Nat.pow_le_pow_right (by omega) (by omega)
        omega
      rw [h6, Nat.mul_comm, Nat.mul_add_div h4, Nat.div_eq_of_lt (by omega)]
      omega
    rw [← h2]
    simpa using h1
  rw [e1, e2, e4]
  have c1 : ((2 ^ k - 1 : Nat) : Int) * 2 ^ sh = (((2 ^ k - 1) * 2 ^ sh : Nat) : Int) := by simp
  have c2 : (x : Int) * 2 ^ sh = ((x * 2 ^ sh : Nat) : Int) := by simp
  rw [c1, c2, wrapU (x := (((2 ^ k - 1) * 2 ^ sh : Nat) : Int)) (by omega) (by omega), wrapU (x := ((x * 2 ^ sh : Nat) : Int)) (by omega) (by omega)]
  show IntKind.u64.wrap ↑(BitVec.ofInt 64 (IntKind.u64.wrap ↑(BitVec.ofInt 64 (w : Int) &&& ~~~BitVec.ofInt 64 (((2 ^ k - 1) * 2 ^ sh : Nat) : Int)).toNat) ||| BitVec.ofInt 64 ((x * 2 ^ sh : Nat) : Int)).toNat = _
  rw [ofInt_nat w, ofInt_nat ((2 ^ k - 1) * 2 ^ sh), strike w (2 ^ k - 1) sh hw' (by omega), wrapU (x := (w : Int)) (by omega) (by omega), ofInt_nat w, ofInt_nat (x * 2 ^ sh), lay w x sh k hw' hx' hk]
  have : w + x * 2 ^ sh < 2 ^ 64 := by
    have h1 : x * 2 ^ sh + 2 ^ sh ≤ 2 ^ k * 2 ^ sh := by
      rw [← Nat.succ_mul]
      exact Nat.mul_le_mul_right _ hx'
    rw [← Nat.pow_add, Nat.add_comm k sh] at h1
    have := Nat.pow_le_pow_right (n := 2) (by omega) hk
    omega
  rw [wrapU (by omega) (by omega)]
  simp
end Go.Proofs.Ytjediiajmnlonaa
