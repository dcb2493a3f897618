/- Pop and Room of a queue that is known; methods of a nil queue. Conditions: none but that the queue is known. -/
import Derived.Test.YtjediiajmnlonaaQ2
namespace Go.Proofs.Ytjediiajmnlonaa
open Go.RowKit

theorem QAt.rlt {w : World} {q rb L f t : Nat} {xs : List Ent} (h : QAt w q rb L f t xs) : rb < w.heap.size := by
  obtain ⟨R, _, hb, _⟩ := h.ring
  exact hb.lt
theorem QAt.ne_ {w : World} {q rb L f t : Nat} {xs : List Ent} (h : QAt w q rb L f t xs) : q ≠ rb := by
  obtain ⟨R, _, hb, _⟩ := h.ring
  exact h.blk.ne_ hb (by decide)
theorem QAt.popped {w : World} {q rb L f t : Nat} {x : Ent} {xs : List Ent} (h : QAt w q rb L f t (x :: xs)) : QAt (w.setCell ⟨q, 1, none⟩ (.int .u64 ((f : Int) + 1))) q rb L (f + 1) t xs := by
  obtain ⟨R, hl, hb, hr⟩ := h.ring
  have hlen := h.len
  have hfits := h.fits
  simp only [List.length_cons] at hlen hfits
  refine ⟨by simpa using h.blk.set_ 1 (.int .u64 ((f : Int) + 1)), ⟨R, hl, hb.far h.ne_.symm _, fun i hi => ?_⟩, h.pow, h.pos, h.big, by omega, by omega, h.bound⟩
  have := hr (i + 1) (by simp; omega)
  rw [show f + 1 + i = f + (i + 1) from by omega, this]
  simp

theorem pop_none {w : World} {q rb L f t : Nat} (h : QAt w q rb L f t []) :
    Calls Try.prog 20 #[.pointer (some ⟨q, 0, none⟩)] w fun e w' => e = .returned (.tuple #[.agg #[.int .i64 0, .int .i64 0, .int .i64 0], .bool false]) ∧ Mod [] w w' := by
  have H := fun o => head_none (h.mod (Mod.alloc (Mod.refl [] w) o) (by simp) (by simp))
  clear h
  go_enter Try.func20, Try.ntmps20
  go_wp2_with (go_at_call 22; refine (H _).mono ?_; rintro e w' ⟨rfl, hm⟩; have hb := (Blk.new w 35 [.int .i64 0, .int .i64 0, .int .i64 0]).mod hm (by simp); have hz := hb.lt; have d0 := hb.cell 0; have d1 := hb.cell 1; have d2 := hb.cell 2; have g0 := hb.frozen 0; have g1 := hb.frozen 1; have g2 := hb.frozen 2; simp at d0 d1 d2)
  refine bodyPost_ret (v := .tuple #[.agg #[.int .i64 0, .int .i64 0, .int .i64 0], .bool false]) (by simp [results, Try.results20, go_sem, d0, d1, d2, hz]) rfl ⟨rfl, ?_⟩
  have h1 := (Mod.alloc (Mod.refl [] w) (.cells #[.int .i64 0, .int .i64 0, .int .i64 0] 35)).trans hm (by simp)
  (repeat (first | exact Mod.refl _ _ | (with_reducible assumption) | (refine Mod.drewN ?_ _) | (refine Mod.drew ?_) | (refine Mod.alloc ?_ _) | (refine Mod.setCell ?_ ?_ _; rotate_left; focus (first | omega | (simp; done) | (simp; omega)))))

set_option maxHeartbeats 1600000 in
theorem pop_some {w : World} {q rb L f t : Nat} {x : Ent} {xs : List Ent} (h : QAt w q rb L f t (x :: xs)) :
    Calls Try.prog 20 #[.pointer (some ⟨q, 0, none⟩)] w fun e w' => e = .returned (.tuple #[.agg #[.int .i64 x.1, .int .i64 x.2.1, .int .i64 x.2.2], .bool true]) ∧ Mod [q] w w' ∧ QAt w' q rb L (f + 1) t xs := by
  have hq := h.blk.lt
  have H := fun o => head_some (h.mod (Mod.alloc (Mod.refl [] w) o) (by simp) (by simp))
  have hfb : f < 1099511627776 := by have := h.len; have := h.bound; omega
  go_enter Try.func20, Try.ntmps20
  go_wp2_with (go_at_call 22; refine (H _).mono ?_; rintro e w' ⟨rfl, hm⟩; have h1 := (Mod.alloc (Mod.refl [] w) _).trans hm (by simp); have hb := (Blk.new w 35 [.int .i64 0, .int .i64 0, .int .i64 0]).mod hm (by simp); have hz := hb.lt; have d0 := hb.cell 0; have d1 := hb.cell 1; have d2 := hb.cell 2; have g0 := hb.frozen 0; have g1 := hb.frozen 1; have g2 := hb.frozen 2; simp at d0 d1 d2; have h' := h.mod h1 (by simp) (by simp); have hq' := h'.blk.lt; obtain ⟨c0, c1, c2, f0, f1, f2⟩ := h'.cells)
  refine bodyPost_ret (v := .tuple #[.agg #[.int .i64 x.1, .int .i64 x.2.1, .int .i64 x.2.2], .bool true]) (by simp [results, Try.results20, go_sem, d0, d1, d2, hz]) rfl ⟨rfl, ?_, ?_⟩
  · replace h1 := h1.mono (T := [q]) (by simp)
    (repeat (first | exact Mod.refl _ _ | (with_reducible assumption) | (refine Mod.drewN ?_ _) | (refine Mod.drew ?_) | (refine Mod.alloc ?_ _) | (refine Mod.setCell ?_ ?_ _; rotate_left; focus (first | omega | (simp; done) | (simp; omega)))))
  · have hrl := h.rlt
    exact (h'.popped).mod (S := [w.heap.size]) (by (repeat (first | exact Mod.refl _ _ | (with_reducible assumption) | (refine Mod.drewN ?_ _) | (refine Mod.drew ?_) | (refine Mod.alloc ?_ _) | (refine Mod.setCell ?_ ?_ _; rotate_left; focus (first | omega | (simp; done) | (simp; omega)))))) (by simp; omega) (by simp; omega)

/-! a nil queue -/
theorem len_nil (w : World) : Calls Try.prog 26 #[.pointer none] w fun e w' => e = .returned (.int .i64 0) ∧ w = w' := by
  go_enter Try.func26, Try.ntmps26
  go_wp2
  go_ret
  exact ⟨rfl, rfl⟩
theorem room_nil (w : World) : Calls Try.prog 27 #[.pointer none] w fun e w' => e = .returned (.int .i64 0) ∧ w = w' := by
  go_enter Try.func27, Try.ntmps27
  go_wp2
  go_ret
  exact ⟨rfl, rfl⟩
theorem room_any {w : World} {q rb L f t : Nat} {xs : List Ent} (h : QAt w q rb L f t xs) : Calls Try.prog 27 #[.pointer (some ⟨q, 0, none⟩)] w fun e w' => e = .returned (.int .i64 L) ∧ w = w' := by
  obtain ⟨c0, c1, c2, _⟩ := h.cells
  go_enter Try.func27, Try.ntmps27
  go_wp2
  go_ret
  exact ⟨rfl, rfl⟩
theorem head_nil (w : World) : Calls Try.prog 22 #[.pointer none] w fun e w' => e = .returned (.tuple #[.agg #[.int .i64 0, .int .i64 0, .int .i64 0], .bool false]) ∧ Mod [] w w' := by
  go_enter Try.func22, Try.ntmps22
  go_wp2_with (go_at_call 26; refine (len_nil _).mono ?_; rintro e w' ⟨rfl, rfl⟩)
  go_returns
  exact ⟨rfl, by (repeat (first | exact Mod.refl _ _ | (with_reducible assumption) | (refine Mod.drewN ?_ _) | (refine Mod.drew ?_) | (refine Mod.alloc ?_ _) | (refine Mod.setCell ?_ ?_ _; rotate_left; focus (first | omega | (simp; done) | (simp; omega)))))⟩
theorem pop_nil (w : World) : Calls Try.prog 20 #[.pointer none] w fun e w' => e = .returned (.tuple #[.agg #[.int .i64 0, .int .i64 0, .int .i64 0], .bool false]) ∧ Mod [] w w' := by
  go_enter Try.func20, Try.ntmps20
  go_wp2_with (go_at_call 22; refine (head_nil _).mono ?_; rintro e w' ⟨rfl, hm⟩; have hb := (Blk.new w 35 [.int .i64 0, .int .i64 0, .int .i64 0]).mod hm (by simp); have hz := hb.lt; have d0 := hb.cell 0; have d1 := hb.cell 1; have d2 := hb.cell 2; have g0 := hb.frozen 0; have g1 := hb.frozen 1; have g2 := hb.frozen 2; simp at d0 d1 d2)
  refine bodyPost_ret (v := .tuple #[.agg #[.int .i64 0, .int .i64 0, .int .i64 0], .bool false]) (by simp [results, Try.results20, go_sem, d0, d1, d2, hz]) rfl ⟨rfl, ?_⟩
  have h1 := (Mod.alloc (Mod.refl [] w) (.cells #[.int .i64 0, .int .i64 0, .int .i64 0] 35)).trans hm (by simp)
  (repeat (first | exact Mod.refl _ _ | (with_reducible assumption) | (refine Mod.drewN ?_ _) | (refine Mod.drew ?_) | (refine Mod.alloc ?_ _) | (refine Mod.setCell ?_ ?_ _; rotate_left; focus (first | omega | (simp; done) | (simp; omega)))))
end Go.Proofs.Ytjediiajmnlonaa
