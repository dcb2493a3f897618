/- List of a queue that is known: new memory that holds its entries in order. -/
import Derived.Test.YtjediiajmnlonaaQ3
import Derived.Test.YtjediiajmnlonaaSlices
namespace Go.Proofs.Ytjediiajmnlonaa
open Go.RowKit

theorem infoEntry : (Try.prog.info? 35).map (fun i => (i.zero, i.size, i.bytes)) = some (some (.agg #[.int .i64 0, .int .i64 0, .int .i64 0]), 3, 24) := by kernel_rfl

theorem ent_one (x : Ent) : ∀ u ∈ ent x, u.oneCell' = true := by
  intro u hu
  simp [ent] at hu
  rcases hu with rfl | rfl | rfl <;> rfl

theorem list_nil (w : World) : Calls Try.prog 28 #[.pointer none] w fun e w' => e = .returned (.slice none 0 0) ∧ w = w' := by
  go_enter Try.func28, Try.ntmps28
  go_wp2_with (go_at_call 26; refine (len_nil _).mono ?_; rintro e w' ⟨rfl, rfl⟩)
  go_rounds 1
  go_ret
  exact ⟨rfl, rfl⟩

set_option maxHeartbeats 1600000 in
theorem list_any {w : World} {q rb L f t : Nat} {xs : List Ent} (h : QAt w q rb L f t xs) :
    Calls Try.prog 28 #[.pointer (some ⟨q, 0, none⟩)] w fun e w' => ∃ A c, e = .returned (.slice A xs.length c) ∧ Mod [] w w' ∧ w'.ownsRow w.heap.size 35 3 (.slice A xs.length c) xs.length (flat ent xs) := by
  obtain ⟨i0, hi, hz0, hz1, hz2⟩ := info_parts infoEntry
  have H := len_any h
  have hB : xs.length < 1099511627776 := by have := h.fits; have := h.big; omega
  have hT : f + xs.length < 1099511627776 := by have := h.len; have := h.bound; omega
  obtain ⟨n, hn⟩ : ∃ n, n = xs.length := ⟨_, rfl⟩
  rw [← hn] at H hB hT
  have HN := hide hn
  clear hn
  go_enter Try.func28, Try.ntmps28
  go_wp2_with (go_at_call 26; refine H.mono ?_; rintro e w' ⟨rfl, d, rfl⟩)
  go_loopw [3, 7] (fun v i wr => ∃ k : Nat, k ≤ n ∧ i = .int .i64 k ∧ wr.ownsRow w.heap.size 35 3 v k (flat ent (xs.take k)) ∧ Mod [] w wr) (fun _ i _ => n - (intOf i).toNat)
  case atStart => exact ⟨0, Nat.zero_le _, rfl, World.ownsRow_nil _ _ _ _, (Mod.refl _ _).drewN _⟩
  case round =>
    obtain ⟨k, hk, rfl, hown, hm⟩ := hrel
    have h' := h.mod hm (by simp) (by simp)
    by_cases hlt : k < n
    · obtain ⟨x, hx⟩ : ∃ x, xs[k]? = some x := ⟨_, List.getElem?_eq_getElem (by rw [← HN.out]; exact hlt)⟩
      obtain ⟨e0, e1, e2⟩ := h'.elem k x hx
      have H2 := at_any (n := f + k) h' (by omega) (m := (f : Int) + k) (by omega)
      obtain ⟨c0, c1, c2, _⟩ := h'.cells
      have hrl := h'.rlt
      have hq := h'.blk.lt
      have HX := hide hx
      clear hx h h'
      generalize (f + k) % L = r at *
      go_wp2_with fail
      refine H2.mono ?_
      rintro e w' ⟨rfl, m, rfl⟩
      go_wp2_with (at_builtin; refine wpList_append_lies _ rfl _ _ 22 rfl w.heap.size 35 i0 _ 3 24 Try.underlying22 hi hz0 hz1 hz2 rfl (by decide) _ k (flat ent (xs.take k)) rfl (World.ownsRow.alloc (w := wr.drewN m) hown _) ⟨wr.heap.size, 0, none⟩ 1 1 (ent x) (by rfl) rfl (World.news_of_block (heap_alloc_new _ _)) (ent_one x) (by decide) (by unfold maxLen; omega) (by omega) (by have := hm.size; simp; omega) (wr.heap.size + 1) (by simp) ?_)
      intro g cap w1 hown1 hgrow hat hlt1
      rw [flat_snoc HX.out] at hown1
      have hm1 := ((hm.drewN m).alloc _).grown hgrow (fun k hk => .inr (hown.lt k hk).1)
      clear hgrow hat hown hm H2
      go_wp2
      go_roundw
      case rel => exact ⟨k + 1, by omega, by go_num, hown1, hm1⟩
      case measure => simp [intOf]; omega
    · go_wp2
      go_ret
      have e : k = n := by omega
      subst e
      rw [HN.out, List.take_length] at hown
      obtain ⟨A, c, rfl⟩ := own_form hown
      exact ⟨A, c, rfl, hm, hown⟩
end Go.Proofs.Ytjediiajmnlonaa
