/- Maps whose keys are places (three numbers) and whose elements are words. -/
import Derived.Test.YtajncepjenmoiaaGreatQ1
import Derived.DeepKeys5
import Derived.Maps.OwnSet
import Derived.Maps.OwnOps
import Derived.KernelRfl
namespace Go.Proofs.YtajncepjenmoiaaGreat
open Go.RowKit

abbrev Pl := Int × Int × Int
def kagg (p : Pl) : Value := .agg #[.int .i64 p.1, .int .i64 p.2.1, .int .i64 p.2.2]
def PlWf (p : Pl) : Prop := (Lit.int .i64 p.1).wf = true ∧ (Lit.int .i64 p.2.1).wf = true ∧ (Lit.int .i64 p.2.2).wf = true
def litP (p : Pl) : Lit := .string (keyBytes [.int .i64 p.1, .int .i64 p.2.1, .int .i64 p.2.2])

theorem laid_m : laidOutB Tryz.prog = true := by kernel_rfl
set_option maxRecDepth 100000 in
theorem place_law : WideMaps.KeyLaw Tryz.prog 44 := deep_law_gate laid_m (of_decide_eq_true (by kernel_rfl)) (of_decide_eq_true (by kernel_rfl)) (by kernel_rfl) (by kernel_rfl)
theorem place_keyed : Maps.Keyed Tryz.prog 44 := Maps.Keyed.of_law place_law

theorem keyOf_place (p : Pl) (h : PlWf p) : keyOf Tryz.prog 44 (kagg p) = some (litP p) := by
  obtain ⟨h1, h2, h3⟩ := h
  have hk : Tryz.prog.keyType 44 = true := by kernel_rfl
  have hI : Tryz.prog.cellsOf 3 = 1 := by kernel_rfl
  have hC : Tryz.prog.cellsOf 44 = 3 := by kernel_rfl
  obtain ⟨n, hn⟩ : ∃ n, Tryz.prog.types.size + 1 = n + 1 + 1 := ⟨Tryz.prog.types.size - 1, by have : 1 ≤ Tryz.prog.types.size := of_decide_eq_true (by kernel_rfl); omega⟩
  unfold keyOf
  rw [Tryz.underlying44, hn]
  simp [hk, kagg, litP, Program.keyLits, Tryz.underlying44, Tryz.underlying3, hI, hC, h1, h2, h3, Value.cells, Value.formed]
end Go.Proofs.YtajncepjenmoiaaGreat
