/- Links of words: what the program's functions answer, in numbers. No condition. -/
import Derived.Test.YtjediiajmnlonaaP2
import Derived.Test.YtjediiajmnlonaaC4
namespace Go.Proofs.Ytjediiajmnlonaa
set_option maxRecDepth 100000
set_option linter.unusedSimpArgs false

def lkSlot (w : Int) : Int := IntKind.i64.wrap (fieldP w 40 (64 - 23))
def lkVer (w : Int) : Int := IntKind.i64.wrap (fieldP w 0 (64 - 40))
def lkMark (w : Int) : Bool := w.fdiv (2 ^ min (Int.toNat 63) IntKind.u64.bits) == 1
def lkOK (s v : Int) : Prop := (0 ≤ s ∧ s ≤ 8388607) ∧ 0 ≤ v ∧ v ≤ 1099511627775
def lkRaw (m s v : Int) : Int := putP (putP (putP 0 v 0 (64 - 40)) s 40 (64 - 23)) m 63 (64 - 1)
theorem lkSlot_eq {w : Int} (h0 : 0 ≤ w) : lkSlot w = w / 1099511627776 % 8388608 := by
  have e := fieldP_eq h0 40 23 (by omega) (by omega)
  have e' : fieldP w 40 (64 - 23) = w / 1099511627776 % 8388608 := e
  rw [lkSlot, e', wrapI (by omega) (by omega)]
theorem lkVer_eq {w : Int} (h0 : 0 ≤ w) : lkVer w = w % 1099511627776 := by
  have e := fieldP_eq h0 0 40 (by omega) (by omega)
  have e' : fieldP w 0 (64 - 40) = w / 1 % 1099511627776 := e
  rw [lkVer, e', Int.ediv_one, wrapI (by omega) (by omega)]
theorem lkMark_eq {w : Int} (h0 : 0 ≤ w) (h1 : w < 18446744073709551616) : lkMark w = decide (9223372036854775808 ≤ w) := by
  have e : (2 ^ min (Int.toNat 63) IntKind.u64.bits : Int) = 9223372036854775808 := by rfl
  rw [lkMark, e, Int.fdiv_eq_ediv_of_nonneg _ (by omega), Bool.eq_iff_iff, beq_iff_eq, decide_eq_true_eq]
  omega
theorem lkRaw_eq {m s v : Int} (hm : m = 0 ∨ m = 1) (h : lkOK s v) : lkRaw m s v = v + s * 1099511627776 + m * 9223372036854775808 := by
  obtain ⟨⟨h1, h2⟩, h3, h4⟩ := h
  have e1 : putP 0 v 0 (64 - 40) = 0 + v * 2 ^ 0 := putP_eq (w := 0) (x := v) 0 40 (by omega) (by omega) h3 (by omega) (by omega) (by omega)
  have e2 : putP v s 40 (64 - 23) = v + s * 2 ^ 40 := putP_eq (w := v) (x := s) 40 23 h3 (by omega) h1 (by omega) (by omega) (by omega)
  have e3 : putP (v + s * 2 ^ 40) m 63 (64 - 1) = v + s * 2 ^ 40 + m * 2 ^ 63 := putP_eq (w := v + s * 2 ^ 40) (x := m) 63 1 (by omega) (by omega) (by omega) (by omega) (by omega) (by omega)
  rw [lkRaw, e1, show (0 : Int) + v * 2 ^ 0 = v by omega, e2, e3]
  omega
end Go.Proofs.Ytjediiajmnlonaa
