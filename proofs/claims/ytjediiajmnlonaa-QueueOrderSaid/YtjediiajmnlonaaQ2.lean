/- Head and Pop of a queue that is known. Conditions: the queue is not nil. -/
import Derived.Test.YtjediiajmnlonaaQ1
namespace Go.Proofs.Ytjediiajmnlonaa
open Go.RowKit

theorem QAt.cells {w : World} {q rb L f t : Nat} {xs : List Ent} (h : QAt w q rb L f t xs) : w.cell? ⟨q, 0, none⟩ = some (.slice (some ⟨rb, 0, none⟩) L L) ∧ w.cell? ⟨q, 1, none⟩ = some (.int .u64 f) ∧ w.cell? ⟨q, 2, none⟩ = some (.int .u64 t) ∧ w.frozen? ⟨q, 0, none⟩ = false ∧ w.frozen? ⟨q, 1, none⟩ = false ∧ w.frozen? ⟨q, 2, none⟩ = false :=
  ⟨h.blk.cell 0, h.blk.cell 1, h.blk.cell 2, h.blk.frozen 0, h.blk.frozen 1, h.blk.frozen 2⟩
theorem QAt.elem {w : World} {q rb L f t : Nat} {xs : List Ent} (h : QAt w q rb L f t xs) (i : Nat) (e : Ent) (hi : xs[i]? = some e) :
    w.cell? ⟨rb, ((f + i) % L) * 3, none⟩ = some (.int .i64 e.1) ∧ w.cell? ⟨rb, ((f + i) % L) * 3 + 1, none⟩ = some (.int .i64 e.2.1) ∧ w.cell? ⟨rb, ((f + i) % L) * 3 + 2, none⟩ = some (.int .i64 e.2.2) := by
  obtain ⟨R, hl, hb, hr⟩ := h.ring
  have hlt : i < xs.length := by
    rcases Nat.lt_or_ge i xs.length with h1 | h1
    · exact h1
    · rw [List.getElem?_eq_none h1] at hi; cases hi
  have h1 := hr i hlt
  rw [hi] at h1
  refine ⟨?_, ?_, ?_⟩
  · have := flat_get ent_len R ((f + i) % L) 0 (by omega)
    rw [hb.cell, ← Nat.add_zero ((f + i) % L * 3), this, h1]; rfl
  · rw [hb.cell, flat_get ent_len R ((f + i) % L) 1 (by omega), h1]; rfl
  · rw [hb.cell, flat_get ent_len R ((f + i) % L) 2 (by omega), h1]; rfl
theorem QAt.mod {S : List Nat} {w w' : World} {q rb L f t : Nat} {xs : List Ent} (h : QAt w q rb L f t xs) (hm : Mod S w w') (h1 : q ∉ S) (h2 : rb ∉ S) : QAt w' q rb L f t xs := by
  obtain ⟨R, hl, hb, hr⟩ := h.ring
  exact ⟨h.blk.mod hm h1, ⟨R, hl, hb.mod hm h2, hr⟩, h.pow, h.pos, h.big, h.len, h.fits, h.bound⟩

theorem len_any {w : World} {q rb L f t : Nat} {xs : List Ent} (h : QAt w q rb L f t xs) :
    Calls Try.prog 26 #[.pointer (some ⟨q, 0, none⟩)] w fun e w' => e = .returned (.int .i64 xs.length) ∧ ∃ n, w' = w.drewN n := by
  obtain ⟨c0, c1, c2, _⟩ := h.cells
  have e : (xs.length : Int) = (t : Int) - f := by have := h.len; omega
  rw [e]
  exact len_cells q f t w (by have := h.len; omega) h.bound c1 c2

theorem at_any {w : World} {q rb L f t n : Nat} {xs : List Ent} (h : QAt w q rb L f t xs) (hn : n < 1099511627776) {m : Int} (hm : m = n) :
    Calls Try.prog 86 #[.pointer (some ⟨q, 0, none⟩), .int .u64 m] w fun e w' => e = .returned (.pointer (some ⟨rb, (n % L) * 3, none⟩)) ∧ ∃ n, w' = w.drewN n := by
  obtain ⟨c0, c1, c2, _⟩ := h.cells
  obtain ⟨k, rfl⟩ := h.pow
  subst hm
  exact at_cells q rb k n w h.big hn c0

theorem head_none {w : World} {q rb L f t : Nat} (h : QAt w q rb L f t []) :
    Calls Try.prog 22 #[.pointer (some ⟨q, 0, none⟩)] w fun e w' => e = .returned (.tuple #[.agg #[.int .i64 0, .int .i64 0, .int .i64 0], .bool false]) ∧ Mod [] w w' := by
  have hz := h.blk.lt
  have H := fun o => len_any (h.mod (Mod.alloc (Mod.refl [] w) o) (by simp) (by simp))
  clear h
  go_enter Try.func22, Try.ntmps22
  go_wp2_with (go_at_call 26; refine (H _).mono ?_; rintro e w' ⟨rfl, n, rfl⟩)
  go_returns
  exact ⟨rfl, by (repeat (first | exact Mod.refl _ _ | (with_reducible assumption) | (refine Mod.drewN ?_ _) | (refine Mod.drew ?_) | (refine Mod.alloc ?_ _) | (refine Mod.setCell ?_ (by first | exact Or.inr (by first | omega | (simp; done) | (simp; omega)) | exact Or.inl (by simp)) _)))⟩

theorem head_some {w : World} {q rb L f t : Nat} {x : Ent} {xs : List Ent} (h : QAt w q rb L f t (x :: xs)) :
    Calls Try.prog 22 #[.pointer (some ⟨q, 0, none⟩)] w fun e w' => e = .returned (.tuple #[.agg #[.int .i64 x.1, .int .i64 x.2.1, .int .i64 x.2.2], .bool true]) ∧ Mod [] w w' := by
  have hz := h.blk.lt
  have H := fun o => len_any (h.mod (Mod.alloc (Mod.refl [] w) o) (by simp) (by simp))
  have H2 := fun o n => at_any (n := f) (h.mod ((Mod.alloc (Mod.refl [] w) o).drewN n) (by simp) (by simp)) (by have := h.len; have := h.bound; omega) rfl
  obtain ⟨c0, c1, c2, _⟩ := h.cells
  obtain ⟨e0, e1, e2⟩ := h.elem 0 x rfl
  have hrb : rb < w.heap.size := by obtain ⟨R, _, hb, _⟩ := h.ring; exact hb.lt
  have hne : ((((x :: xs).length : Nat) : Int) == 0) = false := by simp; omega
  generalize ((x :: xs).length : Int) = len at *
  simp only [Nat.add_zero] at e0 e1 e2
  clear h
  go_enter Try.func22, Try.ntmps22
  go_wp2_with (first | (go_at_call 26; refine (H _).mono ?_; rintro e w' ⟨rfl, n, rfl⟩) | (go_at_call 86; refine (H2 _ _).mono ?_; rintro e w' ⟨rfl, m, rfl⟩))
  go_returns
  exact ⟨rfl, by (repeat (first | exact Mod.refl _ _ | (with_reducible assumption) | (refine Mod.drewN ?_ _) | (refine Mod.drew ?_) | (refine Mod.alloc ?_ _) | (refine Mod.setCell ?_ (by first | exact Or.inr (by first | omega | (simp; done) | (simp; omega)) | exact Or.inl (by simp)) _)))⟩
end Go.Proofs.Ytjediiajmnlonaa
