/- grow of a queue that is known: the same entries, twice the room. -/
import Derived.Test.YtjediiajmnlonaaQ4
import Derived.Test.YtjediiajmnlonaaSlices
namespace Go.Proofs.Ytjediiajmnlonaa
open Go.RowKit

theorem flat_ent_one (xs : List Ent) : ∀ u ∈ flat ent xs, u.oneCell' = true := by
  intro u hu
  simp only [flat, List.mem_flatten, List.mem_map] at hu
  obtain ⟨l, ⟨x, _, rfl⟩, hl⟩ := hu
  exact ent_one x u hl

set_option maxHeartbeats 1600000 in
theorem made_ent (n : Nat) : (madeCells (Value.agg #[.int .i64 0, .int .i64 0, .int .i64 0]).cells (n * 3)).toList = flat ent (List.replicate n (0, 0, 0)) := made_flat (sz := 3) ent_len (by decide) #[.int .i64 0, .int .i64 0, .int .i64 0] (0, 0, 0) rfl n

set_option maxRecDepth 100000 in
theorem grow_any {w : World} {q rb L f t : Nat} {xs : List Ent} (h : QAt w q rb L f t xs) (hL : 2 * L < 1099511627776) :
    Calls Try.prog 85 #[.pointer (some ⟨q, 0, none⟩)] w fun e w' => e = .returned (.tuple #[]) ∧ Mod [q] w w' ∧ ∃ rb', w.heap.size ≤ rb' ∧ QAt w' q rb' (2 * L) 0 xs.length xs := by
  obtain ⟨i0, hi, hz0, hz1, hz2⟩ := info_parts infoEntry
  have H := list_any h
  have hB : xs.length < 1099511627776 := by have := h.fits; have := h.big; omega
  obtain ⟨n, hn⟩ : ∃ n, n = xs.length := ⟨_, rfl⟩
  rw [← hn] at H hB
  have HN := hide hn
  clear hn
  go_enter Try.func85, Try.ntmps85
  go_wp2_with fail
  refine H.mono ?_
  rintro e w1 ⟨A, c, rfl, hm, hown⟩
  have h' := h.mod hm (by simp) (by simp)
  obtain ⟨c0, c1, c2, f0, f1, f2⟩ := h'.cells
  have hq := h'.blk.lt
  have hbig := h.big
  clear H
  have hnL : n ≤ 2 * L := by have := h.fits; rw [HN.out]; omega
  have hfl := flat_length ent_len xs
  have hrl := flat_length ent_len (List.replicate (2 * L) (((0, 0, 0) : Ent)))
  rw [List.length_replicate] at hrl
  have hle : (flat ent xs).length ≤ (flat ent (List.replicate (2 * L) (((0, 0, 0) : Ent)))).length := by rw [hfl, hrl, ← HN.out]; omega
  clear hfl hrl
  have HLE := hide hle
  clear hle
  go_wp2_with (first
    | (at_make; refine wpList_make_full _ rfl _ _ 22 rfl w1.heap.size 35 i0 _ 3 Try.underlying22 hi hz0 hz1 .i64 .i64 ((L : Int) * 2) ((L : Int) * 2) (2 * L) rfl rfl (by omega) (by omega) (by rw [hz2]; omega) (by unfold maxLen; omega) (Nat.le_refl _) ?_; intro w2 hown2 hgr2; have hb2 := (Blk.of_own hown2).1; rw [made_ent] at hb2; have hown' := hown.kept hgr2 (Classical.em _); clear hown2)
    | (with_reducible refine wpList_copy_owned rfl (.tmp 13) (.tmp 14) _ _ rfl 35 Try.underlying22 3 (by rw [hi]; simp [hz1]) w1.heap.size (2 * L) (2 * L) (.slice A n c) rfl rfl n w.heap.size 35 (flat ent xs) _ 35 hown' hb2 hnL HLE.out (flat_ent_one xs) ?_; intro w3 hb3 hgr3; have hm3 := ((Mod.refl [] w1).grown hgr2 (by simp)).grown hgr3 (fun g hg => by cases hg; exact .inr (Nat.le_refl _)); clear hown'; have h3 := h'.mod hm3 (by simp) (by simp); obtain ⟨d0, d1, d2, g0, g1, g2⟩ := h3.cells; have hq3 := h3.blk.lt))
  go_returns
  refine ⟨rfl, ?_, w1.heap.size, hm.size, ?_⟩
  · have h1 := (hm.trans hm3 (by simp)).mono (T := [q]) (by simp)
    (repeat (first | exact Mod.refl _ _ | (with_reducible assumption) | (refine Mod.drewN ?_ _) | (refine Mod.drew ?_) | (refine Mod.alloc ?_ _) | (refine Mod.setCell ?_ ?_ _; rotate_left; focus (first | omega | (simp; done) | (simp; omega)))))
  · have hne : w1.heap.size ≠ q := by omega
    have hfit := h.fits
    have hpos := h.pos
    obtain ⟨k, hk⟩ := h.pow
    rw [flat_length ent_len, flat_drop ent_len, ← flat_append] at hb3
    refine ⟨by have := ((h3.blk.set_ 0 (.slice (some ⟨w1.heap.size, 0, none⟩) (2 * L) (2 * L))).set_ 1 (.int .u64 0)).set_ 2 (.int .u64 n); simpa [HN.out] using this, ⟨_, ?_, ((hb3.far hne _).far hne _).far hne _, fun i hi => ?_⟩, ⟨k + 1, by rw [hk, Nat.pow_succ, Nat.mul_comm]⟩, by omega, by omega, by omega, by omega, by rw [← HN.out]; omega⟩
    · simp; omega
    · rw [Nat.zero_add, Nat.mod_eq_of_lt (by omega), List.getElem?_append_left hi]
end Go.Proofs.Ytjediiajmnlonaa
