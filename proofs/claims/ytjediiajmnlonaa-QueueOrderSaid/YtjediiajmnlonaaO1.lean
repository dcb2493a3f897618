/- slices.Equal at entries: whether two rows hold the same entries. Condition: none but that the rows read so. -/
import Derived.Test.YtjediiajmnlonaaQ7
namespace Go.Proofs.Ytjediiajmnlonaa
open Go.RowKit

set_option maxRecDepth 100000 in
theorem equal_any {w : World} {b0 o0 c0 b1 o1 c1 : Nat} {A0 A1 : Option Addr} {xs ys : List Ent} (h0 : Rd w b0 o0 A0 (flat ent xs)) (h1 : Rd w b1 o1 A1 (flat ent ys)) (hn : xs.length < 1099511627776) :
    Calls Try.prog 89 #[.slice A0 xs.length c0, .slice A1 ys.length c1] w fun e w' => e = .returned (.bool (decide (xs = ys))) ∧ Mod [] w w' := by
  obtain ⟨n, hn'⟩ : ∃ n, n = xs.length := ⟨_, rfl⟩
  obtain ⟨m, hm'⟩ : ∃ m, m = ys.length := ⟨_, rfl⟩
  rw [← hn'] at hn ⊢
  rw [← hm']
  have HN := hide hn'
  have HM := hide hm'
  clear hn' hm'
  by_cases hlen : n = m
  · subst hlen
    go_enter Try.func89, Try.ntmps89
    go_wp2
    go_loopw [13] (fun i wr => ∃ k : Nat, k ≤ n ∧ i = .int .i64 k ∧ Mod [] w wr ∧ Hid (xs.take k = ys.take k)) (fun i _ => n - (intOf i).toNat)
    case atStart => exact ⟨0, Nat.zero_le _, rfl, Mod.refl _ _, hide rfl⟩
    case round =>
      obtain ⟨k, hk, rfl, hm, HE⟩ := hrel
      by_cases hlt : k < n
      · obtain ⟨x, hx⟩ : ∃ x, xs[k]? = some x := ⟨_, List.getElem?_eq_getElem (by rw [← HN.out]; exact hlt)⟩
        obtain ⟨y, hy⟩ : ∃ y, ys[k]? = some y := ⟨_, List.getElem?_eq_getElem (by rw [← HM.out]; exact hlt)⟩
        obtain ⟨rfl, e0, e1, e2⟩ := (h0.mod hm (by simp)).ent hx
        obtain ⟨rfl, f0, f1, f2⟩ := (h1.mod hm (by simp)).ent hy
        have HX := hide hx
        have HY := hide hy
        clear hx hy
        have hk0 : (0 : Int) ≤ (k : Int) := by omega
        have hk1 : (k : Int) < (n : Int) := by omega
        by_cases hxy : x = y
        · subst hxy
          go_wp2_with fail
          go_quiet (fail)
          go_wp2
          go_roundw
          case rel => exact ⟨k + 1, by omega, by go_num, hm.drewN _, hide (by rw [List.take_add_one, List.take_add_one, HX.out, HY.out, HE.out])⟩
          case measure => simp [intOf]; omega
        · have hd : xs ≠ ys := by
            intro e
            have h2 := HY.out
            rw [← e, HX.out] at h2
            exact hxy (Option.some.inj h2)
          have HD := hide hd
          have HXY := hide hxy
          clear hd hxy HX HY
          obtain ⟨x1, x2, x3⟩ := x
          obtain ⟨y1, y2, y3⟩ := y
          simp only at e0 e1 e2 f0 f1 f2
          have hcase : (x1 == y1) = false ∨ (x1 = y1 ∧ (x2 == y2) = false) ∨ (x1 = y1 ∧ x2 = y2 ∧ (x3 == y3) = false) := by
            have h2 := HXY.out
            simp at h2 ⊢
            by_cases a : x1 = y1
            · by_cases b : x2 = y2
              · exact .inr (.inr ⟨a, b, h2 a b⟩)
              · exact .inr (.inl ⟨a, b⟩)
            · exact .inl a
          rcases hcase with g0 | ⟨rfl, g0⟩ | ⟨rfl, rfl, g0⟩
          all_goals
            go_wp2_with fail
            go_quiet (fail)
            go_wp2
            go_ret
            exact ⟨by simp [HD.out], hm.drewN _⟩
      · go_wp2
        go_ret
        have e : k = n := by omega
        have hE : xs = ys := by
          have := HE.out
          rwa [e, List.take_of_length_le (by rw [← HN.out]; omega), List.take_of_length_le (by rw [← HM.out]; omega)] at this
        exact ⟨by simp [hE], hm⟩
  · have hne : (n == m) = false := by simp [hlen]
    have hne' : ((n : Int) == (m : Int)) = false := by simp; omega
    go_enter Try.func89, Try.ntmps89
    go_wp2
    go_ret
    have hd : xs ≠ ys := fun e => hlen (by rw [HN.out, HM.out, e])
    exact ⟨by simp [hd], Mod.refl _ _⟩
end Go.Proofs.Ytjediiajmnlonaa
