/- New, Find and Same of queues that are known. -/
import Derived.Test.YtjediiajmnlonaaQ6
namespace Go.Proofs.Ytjediiajmnlonaa
open Go.RowKit

/-- The place of the first entry of a slot; -1: there is none. -/
def idxE (s : Int) (xs : List Ent) : Int := match xs.findIdx? (fun e => e.1 == s) with | some i => i | none => -1

theorem idxE_some {s : Int} {xs : List Ent} {k : Nat} {x : Ent} (hx : xs[k]? = some x) (h : x.1 = s) (hn : ∀ j y, j < k → xs[j]? = some y → y.1 ≠ s) : idxE s xs = k := by
  have hk := lt_of_some hx
  have : xs.findIdx? (fun e => e.1 == s) = some k := by
    rw [List.findIdx?_eq_some_iff_getElem]
    rw [List.getElem?_eq_getElem hk] at hx
    injection hx with hx
    refine ⟨hk, by simp [hx, h], fun j hj => ?_⟩
    simpa using hn j _ hj (List.getElem?_eq_getElem (by omega))
  unfold idxE
  rw [this]
theorem idxE_none {s : Int} {xs : List Ent} (hn : ∀ j y, j < xs.length → xs[j]? = some y → y.1 ≠ s) : idxE s xs = -1 := by
  have : xs.findIdx? (fun e => e.1 == s) = none := by
    rw [List.findIdx?_eq_none_iff]
    intro x hx
    obtain ⟨j, hj, rfl⟩ := List.getElem_of_mem hx
    simpa using hn j _ hj (List.getElem?_eq_getElem hj)
  unfold idxE
  rw [this]

theorem finder_any (x : Ent) (g : Nat) (s : Int) (w : World) (hc : w.cell? ⟨g, 0, none⟩ = some (.int .i64 s)) :
    Calls Try.prog 88 #[.agg #[.int .i64 x.1, .int .i64 x.2.1, .int .i64 x.2.2], .pointer (some ⟨g, 0, none⟩)] w fun e w' => e = .returned (.bool (x.1 == s)) ∧ Mod [] w w' := by
  have hg : g < w.heap.size := World.block_lt_of_cell? w _ hc
  go_enter Try.func88, Try.ntmps88
  go_wp2
  go_ret
  exact ⟨rfl, by (repeat (first | exact Mod.refl _ _ | (with_reducible assumption) | (refine Mod.drewN ?_ _) | (refine Mod.drew ?_) | (refine Mod.alloc ?_ _) | (refine Mod.setCell ?_ ?_ _; rotate_left; focus (first | omega | (simp; done) | (simp; omega)))))⟩

theorem Rd.ent {w : World} {b o : Nat} {A : Option Addr} {xs : List Ent} (h : Rd w b o A (flat ent xs)) {k : Nat} {x : Ent} (hx : xs[k]? = some x) :
    A = some ⟨b, o, none⟩ ∧ w.cell? ⟨b, o + k * 3, none⟩ = some (.int .i64 x.1) ∧ w.cell? ⟨b, o + k * 3 + 1, none⟩ = some (.int .i64 x.2.1) ∧ w.cell? ⟨b, o + k * 3 + 2, none⟩ = some (.int .i64 x.2.2) := by
  have r0 := h (k * 3 + 0) (.int .i64 x.1) (by rw [flat_get ent_len xs k 0 (by omega), hx]; rfl)
  have r1 := h (k * 3 + 1) (.int .i64 x.2.1) (by rw [flat_get ent_len xs k 1 (by omega), hx]; rfl)
  have r2 := h (k * 3 + 2) (.int .i64 x.2.2) (by rw [flat_get ent_len xs k 2 (by omega), hx]; rfl)
  rw [← Nat.add_assoc] at r1 r2
  exact ⟨r0.1, r0.2, r1.2, r2.2⟩

theorem indexFunc_any {w : World} {b o g c : Nat} {A : Option Addr} {xs : List Ent} {s : Int} (h : Rd w b o A (flat ent xs)) (hn : xs.length < 1099511627776) (hc : w.cell? ⟨g, 0, none⟩ = some (.int .i64 s)) :
    Calls Try.prog 87 #[.slice A xs.length c, .func (.func 88) #[] #[.pointer (some ⟨g, 0, none⟩)]] w fun e w' => e = .returned (.int .i64 (idxE s xs)) ∧ Mod [] w w' := by
  obtain ⟨n, hn'⟩ : ∃ n, n = xs.length := ⟨_, rfl⟩
  rw [← hn'] at hn ⊢
  have HN := hide hn'
  clear hn'
  have hg : g < w.heap.size := World.block_lt_of_cell? w _ hc
  go_enter Try.func87, Try.ntmps87
  go_wp2
  go_loopw [8] (fun i wr => ∃ k : Nat, k ≤ n ∧ i = .int .i64 k ∧ Mod [] w wr ∧ ∀ j x, j < k → xs[j]? = some x → x.1 ≠ s) (fun i _ => n - (intOf i).toNat)
  case atStart => exact ⟨0, Nat.zero_le _, rfl, Mod.refl _ _, fun j _ hj => by omega⟩
  case round =>
    obtain ⟨k, hk, rfl, hm, hnot⟩ := hrel
    by_cases hlt : k < n
    · obtain ⟨x, hx⟩ : ∃ x, xs[k]? = some x := ⟨_, List.getElem?_eq_getElem (by rw [← HN.out]; exact hlt)⟩
      obtain ⟨rfl, e0, e1, e2⟩ := (h.mod hm (by simp)).ent hx
      have H := finder_any x g s wr ((hm.cell (p := ⟨g, 0, none⟩) hg (by simp)).trans hc)
      have HX := hide hx
      have HNOT := hide hnot
      clear hx hnot
      go_wp2_with (go_at_call 88; refine H.mono ?_; rintro e w1 ⟨rfl, hm1⟩)
      · go_ret
        have hb : (x.1 == s) = true := by assumption
        exact ⟨by simp [idxE_some HX.out (by simpa using hb) HNOT.out], by have := hm.trans hm1 (by simp); exact this⟩
      · go_roundw
        case rel =>
          have hb : (x.1 == s) = false := by first | assumption | (simp; assumption)
          refine ⟨k + 1, by omega, by go_num, hm.trans hm1 (by simp), fun j y hj hy => ?_⟩
          rcases Nat.lt_or_ge j k with h1 | h1
          · exact HNOT.out j y h1 hy
          · obtain rfl : j = k := by omega
            rw [HX.out] at hy
            injection hy with hy
            subst hy
            simpa using hb
        case measure => simp [intOf]; omega
    · go_wp2
      go_ret
      have e : k = n := by omega
      subst e
      exact ⟨by rw [idxE_none (by rw [← HN.out]; exact hnot)]; rfl, hm⟩

theorem find_any {w : World} {q rb L f t : Nat} {xs : List Ent} (h : QAt w q rb L f t xs) (s : Int) :
    Calls Try.prog 23 #[.pointer (some ⟨q, 0, none⟩), .int .i64 s] w fun e w' => e = .returned (.int .i64 (idxE s xs)) ∧ Mod [] w w' := by
  have hB : xs.length < 1099511627776 := by have := h.fits; have := h.big; omega
  have hw := h.blk.lt
  have H := list_any (h.mod (Mod.alloc (Mod.refl [] w) (.cells #[.int .i64 s] 3)) (by simp) (by simp))
  go_enter Try.func23, Try.ntmps23
  go_wp2_with fail
  refine H.mono ?_
  rintro e w1 ⟨A, c, rfl, hm, hown⟩
  obtain ⟨b, hr, _⟩ := Rd.of_own hown
  have hc : w1.cell? ⟨w.heap.size, 0, none⟩ = some (.int .i64 s) := by
    rw [hm.cell (p := ⟨w.heap.size, 0, none⟩) (by simp) (by simp)]; simp
  go_wp2_with fail
  refine (indexFunc_any hr hB hc).mono ?_
  rintro e w2 ⟨rfl, hm2⟩
  go_wp2
  go_ret
  exact ⟨rfl, ((Mod.alloc (Mod.refl [] w) _).trans hm (by simp)).trans hm2 (by simp)⟩

theorem find_nil (w : World) (s : Int) :
    Calls Try.prog 23 #[.pointer none, .int .i64 s] w fun e w' => e = .returned (.int .i64 (-1)) ∧ Mod [] w w' := by
  go_enter Try.func23, Try.ntmps23
  go_wp2_with fail
  refine (list_nil _).mono ?_
  rintro e w1 ⟨rfl, rfl⟩
  have hc : (w.alloc (.cells #[.int .i64 s] 3)).cell? ⟨w.heap.size, 0, none⟩ = some (.int .i64 s) := by simp
  have hr : Rd (w.alloc (.cells #[.int .i64 s] 3)) 0 0 none (flat ent []) := fun j u hj => by simp [flat] at hj
  go_wp2_with fail
  refine (indexFunc_any hr (by simp) hc).mono ?_
  rintro e w2 ⟨rfl, hm2⟩
  go_wp2
  go_ret
  exact ⟨rfl, (Mod.alloc (Mod.refl [] w) _).trans hm2 (by simp)⟩
end Go.Proofs.Ytjediiajmnlonaa
