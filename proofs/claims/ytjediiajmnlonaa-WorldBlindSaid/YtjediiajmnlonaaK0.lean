/- A key of a map of places is a place's value whose numbers fit int. -/
import Derived.Test.YtjediiajmnlonaaM2
namespace Go.Proofs.Ytjediiajmnlonaa
open Go.RowKit Go.Maps

set_option maxRecDepth 100000 in
theorem keyLits_int {n : Nat} {x : Value} {l : List Lit} (h : Try.prog.keyLits (n + 1) 3 [x] = some l) : ∃ i, x = .int .i64 i ∧ (Lit.int .i64 i).wf = true ∧ l = [.int .i64 i] := by
  unfold Program.keyLits at h
  rw [Try.underlying3] at h
  cases x <;> simp at h
  obtain ⟨⟨rfl, hw⟩, rfl⟩ := h
  exact ⟨_, rfl, hw, rfl⟩

set_option maxRecDepth 100000 in
theorem keyOf_inv {v : Value} {kl : Lit} (h : keyOf Try.prog 53 v = some kl) : ∃ p : Pl, v = kagg p ∧ PlWf p ∧ kl = litP p := by
  have hk : Try.prog.keyType 53 = true := by kernel_rfl
  have hI : Try.prog.cellsOf 3 = 1 := by kernel_rfl
  have hC : Try.prog.cellsOf 53 = 3 := by kernel_rfl
  obtain ⟨n, hn⟩ : ∃ n, Try.prog.types.size + 1 = n + 1 + 1 := ⟨Try.prog.types.size - 1, by have : 1 ≤ Try.prog.types.size := of_decide_eq_true (by kernel_rfl); omega⟩
  have h0 := h
  unfold keyOf at h
  rw [Try.underlying53, hn] at h
  cases v <;> simp only [hk, Value.formed, Try.underlying53, Bool.and_false, Bool.false_eq_true, if_false, Bool.true_and, reduceCtorEq] at h
  rename_i cs
  rw [hC] at h
  split at h
  · rename_i h3
    have h3 : cs.toList.length = 3 := by simpa using h3
    obtain ⟨l⟩ := cs
    match l, h3 with
    | [a, b, c], _ =>
      rw [Program.keyLits.eq_def] at h
      simp only [] at h
      generalize hg : Try.prog.keyLits (n + 1) = g at h
      simp [Try.underlying53, Value.cells, hC, hI] at h
      subst hg
      cases hx : Try.prog.keyLits (n + 1) 3 [a] with
      | none => rw [hx] at h; simp at h
      | some x =>
      cases hy : Try.prog.keyLits (n + 1) 3 [b] with
      | none => rw [hx, hy] at h; simp at h
      | some y =>
      cases hz : Try.prog.keyLits (n + 1) 3 [c] with
      | none => rw [hx, hy, hz] at h; simp at h
      | some z =>
      obtain ⟨i, rfl, hi, rfl⟩ := keyLits_int hx
      obtain ⟨j, rfl, hj, rfl⟩ := keyLits_int hy
      obtain ⟨k, rfl, hk, rfl⟩ := keyLits_int hz
      have hp : PlWf (i, j, k) := ⟨hi, hj, hk⟩
      refine ⟨(i, j, k), rfl, hp, ?_⟩
      have := keyOf_place (i, j, k) hp
      rw [show kagg (i, j, k) = .agg ⟨[.int .i64 i, .int .i64 j, .int .i64 k]⟩ from rfl, h0] at this
      injection this
  · cases h
end Go.Proofs.Ytjediiajmnlonaa
