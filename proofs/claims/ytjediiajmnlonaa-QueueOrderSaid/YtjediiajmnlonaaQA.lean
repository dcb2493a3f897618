/- The law's own examples of a queue (awake) come out true. No condition. -/
import Derived.Test.YtjediiajmnlonaaQ9
namespace Go.Proofs.Ytjediiajmnlonaa
open Go.RowKit

theorem Rd.of_blk {w : World} {b t : Nat} {cs : List Value} (h : Blk w b t cs) : Rd w b 0 (some ⟨b, 0, none⟩) cs := fun j u hj => ⟨rfl, by rw [Nat.zero_add, h.cell]; exact hj⟩

set_option maxRecDepth 100000 in
set_option maxHeartbeats 1600000 in
theorem awake11 (w : World) : Calls Try.prog 15 #[] w fun e w' => e = .returned (.bool true) ∧ Mod [] w w' := by
  go_enter Try.func15, Try.ntmps15
  go_wp2_with fail
  have hb1 : Blk (w.alloc (.cells #[.int .i64 1, .int .i64 0, .int .i64 0, .int .i64 2, .int .i64 5, .int .i64 0] 35)) w.heap.size 35 (flat ent [(1, 0, 0), (2, 5, 0)]) := Blk.new w _ _
  refine (new_any (ys := [(1, 0, 0), (2, 5, 0)]) (Rd.of_blk hb1) (by simp)).mono ?_
  rintro e w1 ⟨q, rb, f, t, rfl, hm1, hq1, hq, hrb, ht⟩
  have hL : roomN 4 0 ([(1, 0, 0), (2, 5, 0)] : List Ent).length = 4 := rfl
  rw [hL] at hq1
  clear hL hb1
  have hw1 : Mod [] w w1 := ((Mod.refl [] w).alloc _).trans hm1 (by simp)
  simp at hq hrb
  clear hm1
  go_wp2_with fail
  refine (pop_some hq1).mono ?_
  rintro e w2 ⟨rfl, hm2, hq2⟩
  have hlt2 := hq2.blk.lt
  have hrl2 := hq2.rlt
  go_wp2_with fail
  obtain ⟨W, hW⟩ : ∃ W, W = (w2.alloc (.cells #[.int .i64 1, .int .i64 0, .int .i64 0] 35)).alloc (.cells #[.int .i64 3, .int .i64 0, .int .i64 0, .int .i64 4, .int .i64 0, .int .i64 0, .int .i64 5, .int .i64 0, .int .i64 0, .int .i64 6, .int .i64 0, .int .i64 0] 35) := ⟨_, rfl⟩
  have hx : Blk W w2.heap.size 35 [.int .i64 1, .int .i64 0, .int .i64 0] := by rw [hW]; (repeat (first | (with_reducible assumption) | (refine Blk.drewN ?_ _) | (refine Blk.drew ?_) | (refine Blk.new' _ _ _ ?_; first | rfl | (simp; done)) | (refine Blk.alloc ?_ _) | (refine Blk.far ?_ ?_ _; rotate_left; focus (first | omega | (simp; done) | (simp; omega)))))
  have hb : Blk W (w2.heap.size + 1) 35 (flat ent [(3, 0, 0), (4, 0, 0), (5, 0, 0), (6, 0, 0)]) := by rw [hW]; exact Blk.new' _ _ _ (by simp)
  have hm : Mod [] w2 W := by rw [hW]; (repeat (first | exact Mod.refl _ _ | (with_reducible assumption) | (refine Mod.drewN ?_ _) | (refine Mod.drew ?_) | (refine Mod.alloc ?_ _) | (refine Mod.setCell ?_ ?_ _; rotate_left; focus (first | omega | (simp; done) | (simp; omega)))))
  rw [← hW]
  clear hW
  have hq3 := hq2.mod hm (by simp) (by simp)
  have hw2 := hw1.trans hm2 (by simp; omega)
  have hw3 := hw2.trans hm (by simp)
  refine (push_any (ys := [(3, 0, 0), (4, 0, 0), (5, 0, 0), (6, 0, 0)]) hq3 (Rd.of_blk hb) (fun _ => by omega) (by simp at ht ⊢; omega)).mono ?_
  rintro e w4 ⟨rfl, hm4, rb4, f4, t4, hq4, hrb4, ht4⟩
  have hL : roomN 4 1 4 = 8 := rfl
  simp only [List.length_cons, List.length_nil, Nat.zero_add, Nat.reduceAdd, hL, List.cons_append, List.nil_append] at hq4 ht4
  have hw4 := hw3.trans hm4 (by simp; omega)
  have hx4 := hx.mod hm4 (by simp; omega)
  have hz4 := hx4.lt
  generalize w2.heap.size = bx at *
  clear hm2 hq2 hm hb hq3 hw3 hm4 hL hq1 hx
  go_wp2_with fail
  refine (head_some hq4).mono ?_
  rintro e w5 ⟨rfl, hm5⟩
  have hx5 := hx4.mod hm5 (by simp)
  have hq5 := hq4.mod hm5 (by simp) (by simp)
  have hw5 := hw4.trans hm5 (by simp)
  have d0 := hx5.cell 0
  have d1 := hx5.cell 1
  have d2 := hx5.cell 2
  have hz5 := hx5.lt
  simp only [List.getElem?_cons_zero, List.getElem?_cons_succ] at d0 d1 d2
  clear hm5 hq4 hx4 hz4 hw4
  go_wp2_with fail
  have hq6 := hq5.mod ((Mod.refl [] w5).alloc (.cells #[.int .i64 2, .int .i64 5, .int .i64 0] 35)) (by simp) (by simp)
  have hw6 := hw5.alloc (.cells #[.int .i64 2, .int .i64 5, .int .i64 0] 35)
  generalize w5.alloc (.cells #[.int .i64 2, .int .i64 5, .int .i64 0] 35) = w6 at *
  refine (len_any hq6).mono ?_
  rintro e w7 ⟨rfl, n7, rfl⟩
  go_wp2_with fail
  have hq7 := hq6.mod ((Mod.refl [] w6).drewN n7) (by simp) (by simp)
  have hw7 := hw6.drewN n7
  generalize w6.drewN n7 = w8 at *
  refine (room_any hq7).mono ?_
  rintro e w9 ⟨rfl, rfl⟩
  go_wp2_with fail
  refine (find_any hq7 4).mono ?_
  rintro e w10 ⟨rfl, hm10⟩
  have hi1 : idxE 4 [(2, 5, 0), (3, 0, 0), (4, 0, 0), (5, 0, 0), (6, 0, 0)] = 2 := by decide
  have hi2 : idxE 1 [(2, 5, 0), (3, 0, 0), (4, 0, 0), (5, 0, 0), (6, 0, 0)] = -1 := by decide
  rw [hi1]
  have hq10 := hq7.mod hm10 (by simp) (by simp)
  have hw10 := hw7.trans hm10 (by simp)
  clear hi1 d0 d1 d2
  go_wp2_with fail
  refine (find_any hq10 1).mono ?_
  rintro e w11 ⟨rfl, hm11⟩
  rw [hi2]
  clear hi2
  go_wp2
  go_ret
  exact ⟨rfl, hw10.trans hm11 (by simp)⟩
end Go.Proofs.Ytjediiajmnlonaa
