/- New of a queue. -/
import Derived.Test.YtjediiajmnlonaaQ7
namespace Go.Proofs.Ytjediiajmnlonaa
open Go.RowKit

theorem made_ent4 : (madeCells (Value.agg #[.int .i64 0, .int .i64 0, .int .i64 0]).cells (4 * 3)).toList = flat ent (List.replicate 4 (0, 0, 0)) := made_ent 4
theorem QAt.made {w : World} {q rb : Nat} (hq : Blk w q 159 [.slice (some ⟨rb, 0, none⟩) 4 4, .int .u64 0, .int .u64 0]) (hr : Blk w rb 35 (flat ent (List.replicate 4 (0, 0, 0)))) : QAt w q rb 4 0 0 [] :=
  ⟨by simpa using hq, ⟨_, by simp, hr, fun i hi => by simp at hi⟩, ⟨2, rfl⟩, by omega, by omega, rfl, by simp, by omega⟩

set_option maxRecDepth 100000 in
set_option maxHeartbeats 800000 in
theorem new_any {w : World} {b o c : Nat} {A : Option Addr} {ys : List Ent} (hr : Rd w b o A (flat ent ys)) (ht : ys.length < 549755813888) :
    Calls Try.prog 16 #[.slice A ys.length c] w fun e w' => ∃ q rb f t, e = .returned (.pointer (some ⟨q, 0, none⟩)) ∧ Mod [] w w' ∧ QAt w' q rb (roomN 4 0 ys.length) f t ys ∧ w.heap.size ≤ q ∧ w.heap.size ≤ rb ∧ t ≤ ys.length := by
  obtain ⟨i0, hi, hz0, hz1, hz2⟩ := info_parts infoEntry
  obtain ⟨m, hm⟩ : ∃ m, m = ys.length := ⟨_, rfl⟩
  have H := fun (W : World) (q rb : Nat) (hQ : QAt W q rb 4 0 0 []) (hR : Rd W b o A (flat ent ys)) (hb : ys ≠ [] → b ≠ q ∧ b ≠ rb) => push_any (c := c) hQ hR hb (by omega)
  simp only [List.nil_append, List.length_nil] at H
  have hbl : ys ≠ [] → b < w.heap.size := fun hne => hr.lt (by intro e; apply hne; cases ys with | nil => rfl | cons x l => simp [flat, ent] at e)
  rw [← hm] at H ht ⊢
  have HM := hide hm
  have HH := hide H
  clear hm H
  go_enter Try.func16, Try.ntmps16
  go_wp2_with (at_make; refine wpList_make_full _ rfl _ _ 22 rfl w.heap.size 35 i0 _ 3 Try.underlying22 hi hz0 hz1 .i64 .i64 4 4 4 rfl rfl rfl rfl (by rw [hz2]; omega) (by unfold maxLen; omega) (Nat.le_refl _) ?_; intro w2 hown2 hgr2; have hb2 := (Blk.of_own hown2).1; rw [made_ent4] at hb2; have hm2 : Mod [] w w2 := (Mod.refl [] w).grown hgr2 (by simp); clear hown2 hgr2)
  have hlt := hb2.lt
  have hq : QAt (w2.alloc (.cells #[.slice (some ⟨w.heap.size, 0, none⟩) 4 4, .int .u64 0, .int .u64 0] 159)) w2.heap.size w.heap.size 4 0 0 [] := QAt.made (Blk.new w2 _ [.slice (some ⟨w.heap.size, 0, none⟩) 4 4, .int .u64 0, .int .u64 0]) (hb2.alloc _)
  refine (HH.out _ _ _ hq (hr.mod (hm2.alloc _) (by simp)) (fun hne => by have := hbl hne; have := hm2.size; omega)).mono ?_
  rintro e w3 ⟨rfl, hm3, rb', f', t', hq3, hrb, ht'⟩
  have hz2' := hm2.size
  go_wp2
  go_ret
  refine ⟨w2.heap.size, rb', f', t', rfl, (hm2.alloc _).trans hm3 (by simp; omega), hq3, hm2.size, ?_, by omega⟩
  rcases hrb with h | h
  · omega
  · simp at h; omega
end Go.Proofs.Ytjediiajmnlonaa
