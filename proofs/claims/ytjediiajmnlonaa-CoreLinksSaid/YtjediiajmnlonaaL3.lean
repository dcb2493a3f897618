/- Links of words: what is laid in is read. No condition. -/
import Derived.Test.YtjediiajmnlonaaL2
import Derived.Test.YtjediiajmnlonaaV5
namespace Go.Proofs.Ytjediiajmnlonaa
theorem lkWord_pos {m : Bool} {s v : Int} (h : lkOK s v) : lkWord m s v = v + s * 1099511627776 + (if m then 9223372036854775808 else 0) := if_pos h
theorem lkWord_lt {m : Bool} {s v : Int} : 0 ≤ lkWord m s v ∧ lkWord m s v < 18446744073709551616 := by
  unfold lkWord
  split
  · cases m <;> simp <;> omega
  · omega
theorem lkSlot_word {m : Bool} {s v : Int} (h : lkOK s v) : lkSlot (lkWord m s v) = s := by
  rw [lkSlot_eq lkWord_lt.1, lkWord_pos h]
  obtain ⟨h1, h2⟩ := h
  cases m <;> simp <;> omega
theorem lkVer_word {m : Bool} {s v : Int} (h : lkOK s v) : lkVer (lkWord m s v) = v := by
  rw [lkVer_eq lkWord_lt.1, lkWord_pos h]
  obtain ⟨h1, h2⟩ := h
  cases m <;> simp <;> omega
theorem lkMark_word {m : Bool} {s v : Int} (h : lkOK s v) : lkMark (lkWord m s v) = m := by
  rw [lkMark_eq lkWord_lt.1 lkWord_lt.2, lkWord_pos h]
  obtain ⟨h1, h2⟩ := h
  cases m <;> simp <;> omega
theorem low40 (a : Int) : IntKind.u64.wrap (↑(BitVec.ofInt IntKind.u64.bits (IntKind.u64.wrap a) &&& BitVec.ofInt IntKind.u64.bits 1099511627775).toNat : Int) = IntKind.u64.wrap a % 1099511627776 := by
  have hw := wrapU_pos a
  obtain ⟨n, hn⟩ := Int.eq_ofNat_of_zero_le hw.1
  rw [hn]
  have e : (BitVec.ofInt IntKind.u64.bits (n : Int) &&& BitVec.ofInt IntKind.u64.bits 1099511627775).toNat = n % 1099511627776 := by
    show (BitVec.ofInt 64 _ &&& BitVec.ofInt 64 ((2 ^ 40 - 1 : Nat) : Int)).toNat = _
    rw [ofInt_nat, ofInt_nat, and_mask n 40 (by omega)]
  rw [e, wrapU (by omega) (by omega)]
  simp
theorem low23 (b : Int) : IntKind.i64.wrap ((IntKind.u64.wrap b).tmod 8388608) = IntKind.u64.wrap b % 8388608 := by
  have hw := wrapU_pos b
  rw [Int.tmod_eq_emod_of_nonneg hw.1, wrapI (by omega) (by omega)]
end Go.Proofs.Ytjediiajmnlonaa
