/- The law's own comparison of a queue with the reference's; methods of a nil queue. -/
import Derived.Test.YtjediiajmnlonaaQ8
import Derived.Test.YtjediiajmnlonaaR2
namespace Go.Proofs.Ytjediiajmnlonaa
open Go.RowKit
attribute [local go_sem] withDeps relAt relUpon Stab.det Stab.own Stab.empty preAct pres isPre

theorem push_nil (w : World) (v : Value) : Calls Try.prog 19 #[.pointer none, v] w fun e w' => e = .returned (.int .i64 2) ∧ w = w' := by
  go_enter Try.func19, Try.ntmps19
  go_wp2
  go_ret
  exact ⟨rfl, rfl⟩
theorem same_nil (w : World) : Calls Try.prog 29 #[.pointer none, .pointer none] w fun e w' => e = .returned (.bool true) ∧ w = w' := by
  go_enter Try.func29, Try.ntmps29
  go_wp2
  go_ret
  exact ⟨rfl, rfl⟩
theorem same_nil_right (w : World) (q : Addr) : Calls Try.prog 29 #[.pointer (some q), .pointer none] w fun e w' => e = .returned (.bool false) ∧ w = w' := by
  go_enter Try.func29, Try.ntmps29
  go_wp2
  go_ret
  exact ⟨rfl, rfl⟩

set_option maxRecDepth 100000 in
set_option maxHeartbeats 800000 in
theorem alike_any {w : World} {q rb L f t u c : Nat} {A : Option Addr} {xs : List Ent} (h : QAt w q rb L f t xs) (hu : RAt w u A c L xs) :
    Calls Try.prog 25 #[.pointer (some ⟨q, 0, none⟩), .pointer (some ⟨u, 0, none⟩)] w fun e w' => e = .returned (.bool true) ∧ Mod [] w w' := by
  obtain ⟨n, hn'⟩ : ∃ n, n = xs.length := ⟨_, rfl⟩
  have hfew := hu.few
  have H := list_any h
  rw [← hn'] at H hfew
  have HN := hide hn'
  clear hn'
  go_enter Try.func25, Try.ntmps25
  go_wp2_with fail
  refine H.mono ?_
  rintro e w1 ⟨B, k1, rfl, hm1, hown⟩
  have h1 := h.mod hm1 (by simp) (by simp)
  have hu1 := hu.mod hm1 (by simp) (by simp)
  have H1 := fun m => len_any (h1.mod ((Mod.refl [] w1).drewN m) (by simp) (by simp))
  have H2 := fun m => room_any (h1.mod ((Mod.refl [] w1).drewN m) (by simp) (by simp))
  obtain ⟨c0, c1, _⟩ := hu1.cells
  rw [← HN.out] at c0 H1
  clear H
  go_wp2_with fail
  go_quiet (first | (go_at_call 26; exact quiet_from H1) | (go_at_call 27; exact Calls.quiet_of_same ((H2 _).mono (fun e w' h => ⟨h.1, h.2.symm⟩))))
  go_wp2_with fail
  obtain ⟨lb, hlr, _⟩ := Rd.of_own hown
  obtain ⟨ub, hur, _⟩ := Rd.of_own hu1.own
  clear H1 H2
  go_loopw [6] (fun i wr => ∃ k : Nat, k ≤ n ∧ i = .int .i64 k ∧ Mod [] w1 wr) (fun i _ => n - (intOf i).toNat)
  case atStart => exact ⟨0, Nat.zero_le _, rfl, (Mod.refl _ _).drewN _⟩
  case round =>
    obtain ⟨k, hk, rfl, hm⟩ := hrel
    by_cases hlt : k < n
    · obtain ⟨x, hx⟩ : ∃ x, xs[k]? = some x := ⟨_, List.getElem?_eq_getElem (by rw [← HN.out]; exact hlt)⟩
      have FACTS : ∀ w', Mod [] wr w' → w'.cell? ⟨u, 0, none⟩ = some (.slice A n c) ∧ (w'.cell? ⟨lb, k * 3, none⟩ = some (.int .i64 x.1) ∧ w'.cell? ⟨lb, k * 3 + 1, none⟩ = some (.int .i64 x.2.1) ∧ w'.cell? ⟨lb, k * 3 + 2, none⟩ = some (.int .i64 x.2.2)) ∧ w'.cell? ⟨ub, k * 3, none⟩ = some (.int .i64 x.1) ∧ w'.cell? ⟨ub, k * 3 + 1, none⟩ = some (.int .i64 x.2.1) ∧ w'.cell? ⟨ub, k * 3 + 2, none⟩ = some (.int .i64 x.2.2) := fun w' hm' => by
        have hmm := hm.trans hm' (by simp)
        have e1 := ((hlr.mod hmm (by simp)).ent hx).2
        have e2 := ((hur.mod hmm (by simp)).ent hx).2
        simp only [Nat.zero_add] at e1 e2
        exact ⟨by have := (hu1.mod hmm (by simp) (by simp)).cells.1; rw [← HN.out] at this; exact this, e1, e2⟩
      obtain rfl := (hlr.ent hx).1
      obtain rfl := (hur.ent hx).1
      have hk0 : (0 : Int) ≤ (k : Int) := by omega
      have hk1 : (k : Int) < (n : Int) := by omega
      clear hx
      go_wp2_with fail
      refine wp_region_rel [some [], some [], some [(0, 42), (1, 43)], some [(2, 44)], some [(3, 45)], some [], some [(5, 47)], some [(6, 48)], some [(7, 49)], some [], some [(8, 50), (9, 51)], some [(10, 52)], some [(4, 46), (11, 53)]] [(0, 42), (1, 43), (2, 44), (3, 45), (4, 46), (5, 47), (6, 48), (7, 49), (8, 50), (9, 51), (10, 52), (11, 53), (12, 54)] (by kernel_rfl) (by kernel_rfl) ?_
      iterate 4 (apply relWalk_det; · (intro w' hm; have F := FACTS w' hm; go_simp; first | exact ⟨Mod.refl _ _, rfl⟩ | exact Mod.refl _ _))
      apply relWalk_det
      · intro w' hm
        have F := FACTS w' hm
        go_simp
        refine (form_any x _).mono ?_
        rintro e w3 ⟨rfl, hm3⟩
        exact relPost_det hm3
      iterate 8 (apply relWalk_det; · (intro w' hm; have F := FACTS w' hm; go_simp; first | exact ⟨Mod.refl _ _, rfl⟩ | exact Mod.refl _ _))
      refine relWalk_end ?_
      rintro w2 hm2 _ rfl _ rfl _ rfl _ rfl _ rfl _ rfl _ rfl _ rfl _ rfl _ rfl _ rfl _ rfl _ rfl
      have hm3 := hm.trans hm2 (by simp)
      clear FACTS hm
      go_simp
      refine NoPanic.normal ?_
      go_wp2
      go_roundw
      case rel => exact ⟨k + 1, by omega, by go_num, hm3⟩
      case measure => simp [intOf]; omega
    · go_wp2
      go_ret
      exact ⟨rfl, hm1.trans hm (by simp)⟩
end Go.Proofs.Ytjediiajmnlonaa
