/- Maps whose keys are places (three numbers) and whose elements are words. -/
import Derived.Test.YtjediiajmnlonaaQ1
import Derived.DeepKeys5
import Derived.Maps.OwnSet
import Derived.Maps.OwnOps
import Derived.KernelRfl
namespace Go.Proofs.Ytjediiajmnlonaa
open Go.RowKit

abbrev Pl := Int × Int × Int
def kagg (p : Pl) : Value := .agg #[.int .i64 p.1, .int .i64 p.2.1, .int .i64 p.2.2]
def PlWf (p : Pl) : Prop := (Lit.int .i64 p.1).wf = true ∧ (Lit.int .i64 p.2.1).wf = true ∧ (Lit.int .i64 p.2.2).wf = true
def litP (p : Pl) : Lit := .string (keyBytes [.int .i64 p.1, .int .i64 p.2.1, .int .i64 p.2.2])

theorem laid_m : laidOutB Try.prog = true := by kernel_rfl
set_option maxRecDepth 100000 in
theorem place_law : WideMaps.KeyLaw Try.prog 53 := deep_law_gate laid_m (of_decide_eq_true (by kernel_rfl)) (of_decide_eq_true (by kernel_rfl)) (by kernel_rfl) (by kernel_rfl)
theorem place_keyed : Maps.Keyed Try.prog 53 := Maps.Keyed.of_law place_law

theorem keyOf_place (p : Pl) (h : PlWf p) : keyOf Try.prog 53 (kagg p) = some (litP p) := by
  obtain ⟨h1, h2, h3⟩ := h
  have hk : Try.prog.keyType 53 = true := by kernel_rfl
  have hI : Try.prog.cellsOf 3 = 1 := by kernel_rfl
  have hC : Try.prog.cellsOf 53 = 3 := by kernel_rfl
  obtain ⟨n, hn⟩ : ∃ n, Try.prog.types.size + 1 = n + 1 + 1 := ⟨Try.prog.types.size - 1, by have : 1 ≤ Try.prog.types.size := of_decide_eq_true (by kernel_rfl); omega⟩
  unfold keyOf
  rw [Try.underlying53, hn]
  simp [hk, kagg, litP, Program.keyLits, Try.underlying53, Try.underlying3, hI, hC, h1, h2, h3, Value.cells, Value.formed]
end Go.Proofs.Ytjediiajmnlonaa
