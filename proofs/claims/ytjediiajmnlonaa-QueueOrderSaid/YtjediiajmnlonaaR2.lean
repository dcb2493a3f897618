/- The reference's queue: Pop; an entry in the document's form; New. -/
import Derived.Test.YtjediiajmnlonaaR1
namespace Go.Proofs.Ytjediiajmnlonaa
open Go.RowKit

theorem rpop_none {w : World} {u c R : Nat} {A : Option Addr} (h : RAt w u A c R []) :
    Calls Try.prog 21 #[.pointer (some ⟨u, 0, none⟩)] w fun e w' => e = .returned (.tuple #[.agg #[.int .i64 0, .int .i64 0, .int .i64 0], .bool false]) ∧ Mod [] w w' := by
  obtain ⟨c0, c1, f0, f1⟩ := h.cells
  have hu := h.blk.lt
  simp only [List.length_nil] at c0
  go_enter Try.func21, Try.ntmps21
  go_wp2
  go_returns
  exact ⟨rfl, by (repeat (first | exact Mod.refl _ _ | (with_reducible assumption) | (refine Mod.drewN ?_ _) | (refine Mod.drew ?_) | (refine Mod.alloc ?_ _) | (refine Mod.setCell ?_ ?_ _; rotate_left; focus (first | omega | (simp; done) | (simp; omega)))))⟩

set_option maxRecDepth 100000 in
set_option maxHeartbeats 800000 in
theorem rpop_some {w : World} {u c R : Nat} {A : Option Addr} {x : Ent} {xs : List Ent} (h : RAt w u A c R (x :: xs)) :
    Calls Try.prog 21 #[.pointer (some ⟨u, 0, none⟩)] w fun e w' => e = .returned (.tuple #[.agg #[.int .i64 x.1, .int .i64 x.2.1, .int .i64 x.2.2], .bool true]) ∧ Mod [u] w w' ∧
      ∃ A' c', RAt w' u A' c' R xs ∧ ∀ g, (Value.slice A' xs.length c').ownBlock = some g → w.heap.size ≤ g := by
  obtain ⟨i0, hi, hz0, hz1, hz2⟩ := info_parts infoREntry
  obtain ⟨c0, c1, f0, f1⟩ := h.cells
  have hu := h.blk.lt
  have hfew := h.few
  obtain ⟨b, hr, _⟩ := Rd.of_own h.own
  obtain ⟨rfl, e0, e1, e2⟩ := hr.ent (k := 0) (x := x) rfl
  have hcap : xs.length + 1 ≤ c := by
    rcases h.own.2 with ⟨h0, _⟩ | ⟨g, cap, cur, hv, _, _, hle, _⟩
    · cases h0
    · injection hv with _ _ h3
      subst h3
      simpa using hle
  obtain ⟨n, hn'⟩ : ∃ n, n = xs.length := ⟨_, rfl⟩
  simp only [List.length_cons, ← hn'] at c0 hfew hcap ⊢
  have HN := hide hn'
  clear hn'
  simp only [Nat.zero_mul, Nat.zero_add] at e0 e1 e2
  have hb0 : b < w.heap.size := World.block_lt_of_cell? w _ e0
  have hne : (((n : Int) + 1) == 0) = false := by simp; omega
  have hu1 : u < w.heap.size + 1 := by omega
  have hu2 : u < w.heap.size + 1 + 1 := by omega
  have hb1 : b < w.heap.size + 1 := by omega
  have hb2 : b < w.heap.size + 1 + 1 := by omega
  have hcap0 : (0 : Int) ≤ (n : Int) + 1 := by omega
  have hcap1 : (1 : Int) ≤ (n : Int) + 1 := by omega
  have hcap2 : (n : Int) + 1 ≤ (c : Int) := by omega
  go_enter Try.func21, Try.ntmps21
  have ARM : ∀ (W : World) (o : Nat) (g k : Nat), Mod [] w W → (n = 0 ∨ o = 3) → Rd W b o (some ⟨b, o, none⟩) (flat ent xs) := by
    intro W o g k hm ho j v hj
    refine ⟨rfl, ?_⟩
    have hj' : (flat ent (x :: xs))[3 + j]? = some v := by
      rw [flat_cons, List.getElem?_append_right (by simp [ent_len])]
      simpa [ent_len] using hj
    have h3 := (hr _ _ hj').2
    rcases ho with ho | ho
    · rw [HN.out] at ho
      have : xs = [] := List.eq_nil_of_length_eq_zero ho
      subst this
      cases hj
    · subst ho
      rw [hm.cell (p := ⟨b, 3 + j, none⟩) hb0 (by simp)]
      simpa using h3
  have hxl : (flat ent xs).length = n * 3 := by rw [flat_length ent_len, HN.out]
  have HXL := hide hxl
  have HARM := hide ARM
  clear hxl ARM
  by_cases hc1 : c = 1
  case' pos =>
    have hn0 : n = 0 := by omega
    have HN0 := hide hn0
    have hn1 : n + 1 = 1 := by omega
    rw [hn1] at c0
    have hn2 : (n : Int) + 1 = 1 := by omega
    subst hc1
    clear hn0 hn1 hne hcap0 hcap1 hcap2 hn2
    go_wp2_with (at_builtin; refine wpList_append_clone_rd rfl (.tmp 19) (.tmp 24) 28 rfl (w.heap.size + 1 + 1) 33 i0 _ 3 24 Try.underlying28 hi hz0 hz1 hz2 rfl (by decide) (w.heap.size + 1 + 1) rfl (Blk.own (base := w.heap.size + 1 + 1) (n := 0) (Blk.new' (g := w.heap.size + 1 + 1) _ _ [] (by simp)) (Nat.le_refl _) (by unfold maxLen; omega) (by simp)) (some ⟨b, 0, none⟩) 0 0 b 0 (flat ent xs) rfl (fun h => by cases h) (HARM.out _ 0 0 0 (by (repeat (first | exact Mod.refl _ _ | (with_reducible assumption) | (refine Mod.drewN ?_ _) | (refine Mod.drew ?_) | (refine Mod.alloc ?_ _) | (refine Mod.setCell ?_ ?_ _; rotate_left; focus (first | omega | (simp; done) | (simp; omega)))))) (.inl HN0.out)) (by rw [HXL.out, HN0.out]) (flat_ent_one xs) (by unfold maxLen; omega) (by omega) (by simp) ?_; intro A3 k3 w2 ho3 hgr3; have hm2 : Mod [] w w2 := Mod.grown (by (repeat (first | exact Mod.refl _ _ | (with_reducible assumption) | (refine Mod.drewN ?_ _) | (refine Mod.drew ?_) | (refine Mod.alloc ?_ _) | (refine Mod.setCell ?_ ?_ _; rotate_left; focus (first | omega | (simp; done) | (simp; omega)))))) hgr3 (by simp); have hbx : Blk w2 (w.heap.size + 1) 33 [.int .i64 x.1, .int .i64 x.2.1, .int .i64 x.2.2] := Blk.grown (by (repeat (first | (with_reducible assumption) | (refine Blk.drewN ?_ _) | (refine Blk.drew ?_) | (refine Blk.new' _ _ _ ?_; first | rfl | (simp; done)) | (refine Blk.alloc ?_ _) | (refine Blk.far ?_ ?_ _; rotate_left; focus (first | omega | (simp; done) | (simp; omega)))))) hgr3 (by simp); have hbz : Blk w2 w.heap.size 33 [.int .i64 0, .int .i64 0, .int .i64 0] := Blk.grown (by (repeat (first | (with_reducible assumption) | (refine Blk.drewN ?_ _) | (refine Blk.drew ?_) | (refine Blk.new' _ _ _ ?_; first | rfl | (simp; done)) | (refine Blk.alloc ?_ _) | (refine Blk.far ?_ ?_ _; rotate_left; focus (first | omega | (simp; done) | (simp; omega)))))) hgr3 (by simp); have hbu := h.blk.mod hm2 (by simp); have p0 := hbx.cell 0; have p1 := hbx.cell 1; have p2 := hbx.cell 2; have z0 := hbz.cell 0; have z1 := hbz.cell 1; have z2 := hbz.cell 2; have y0 := hbz.frozen 0; have y1 := hbz.frozen 1; have y2 := hbz.frozen 2; have d0 := hbu.cell 0; have d1 := hbu.cell 1; have f0' := hbu.frozen 0; have hlt2 := hbx.lt; simp only [List.getElem?_cons_zero, List.getElem?_cons_succ] at p0 p1 p2 z0 z1 z2 d0 d1; clear hgr3 hbx hbz)
    have hA : ∀ A, (Value.slice A 0 k3) = .slice A n k3 := fun A => by rw [HN0.out]
    have ho3 : w2.ownsRow (w.heap.size + 1 + 1) 33 3 (.slice A3 n k3) n (flat ent xs) := by rw [HN0.out]; exact ho3
    rw [hA]
  case' neg =>
    have hc2 : (c = 1) = False := by simp [hc1]
    go_wp2_with (at_builtin; refine wpList_append_clone_rd rfl (.tmp 19) (.tmp 24) 28 rfl (w.heap.size + 1 + 1) 33 i0 _ 3 24 Try.underlying28 hi hz0 hz1 hz2 rfl (by decide) (w.heap.size + 1 + 1) rfl (Blk.own (base := w.heap.size + 1 + 1) (n := 0) (Blk.new' (g := w.heap.size + 1 + 1) _ _ [] (by simp)) (Nat.le_refl _) (by unfold maxLen; omega) (by simp)) (some ⟨b, 3, none⟩) n (c - 1) b 3 (flat ent xs) rfl (fun h => by cases h) (HARM.out _ 3 0 0 (by (repeat (first | exact Mod.refl _ _ | (with_reducible assumption) | (refine Mod.drewN ?_ _) | (refine Mod.drew ?_) | (refine Mod.alloc ?_ _) | (refine Mod.setCell ?_ ?_ _; rotate_left; focus (first | omega | (simp; done) | (simp; omega)))))) (.inr rfl)) HXL.out (flat_ent_one xs) (by unfold maxLen; omega) (by omega) (by simp) ?_; intro A3 k3 w2 ho3 hgr3; have hm2 : Mod [] w w2 := Mod.grown (by (repeat (first | exact Mod.refl _ _ | (with_reducible assumption) | (refine Mod.drewN ?_ _) | (refine Mod.drew ?_) | (refine Mod.alloc ?_ _) | (refine Mod.setCell ?_ ?_ _; rotate_left; focus (first | omega | (simp; done) | (simp; omega)))))) hgr3 (by simp); have hbx : Blk w2 (w.heap.size + 1) 33 [.int .i64 x.1, .int .i64 x.2.1, .int .i64 x.2.2] := Blk.grown (by (repeat (first | (with_reducible assumption) | (refine Blk.drewN ?_ _) | (refine Blk.drew ?_) | (refine Blk.new' _ _ _ ?_; first | rfl | (simp; done)) | (refine Blk.alloc ?_ _) | (refine Blk.far ?_ ?_ _; rotate_left; focus (first | omega | (simp; done) | (simp; omega)))))) hgr3 (by simp); have hbz : Blk w2 w.heap.size 33 [.int .i64 0, .int .i64 0, .int .i64 0] := Blk.grown (by (repeat (first | (with_reducible assumption) | (refine Blk.drewN ?_ _) | (refine Blk.drew ?_) | (refine Blk.new' _ _ _ ?_; first | rfl | (simp; done)) | (refine Blk.alloc ?_ _) | (refine Blk.far ?_ ?_ _; rotate_left; focus (first | omega | (simp; done) | (simp; omega)))))) hgr3 (by simp); have hbu := h.blk.mod hm2 (by simp); have p0 := hbx.cell 0; have p1 := hbx.cell 1; have p2 := hbx.cell 2; have z0 := hbz.cell 0; have z1 := hbz.cell 1; have z2 := hbz.cell 2; have y0 := hbz.frozen 0; have y1 := hbz.frozen 1; have y2 := hbz.frozen 2; have d0 := hbu.cell 0; have d1 := hbu.cell 1; have f0' := hbu.frozen 0; have hlt2 := hbx.lt; simp only [List.getElem?_cons_zero, List.getElem?_cons_succ] at p0 p1 p2 z0 z1 z2 d0 d1; clear hgr3 hbx hbz)
  all_goals
    refine bodyPost_ret (v := .tuple #[.agg #[.int .i64 x.1, .int .i64 x.2.1, .int .i64 x.2.2], .bool true]) (by simp [results, Try.results21, go_sem, z0, z1, z2]) rfl ⟨rfl, ?_, A3, k3, ?_, fun g hg => by have := (ho3.lt g hg).1; omega⟩
    · have hm2' := hm2.mono (T := [u]) (by simp)
      (repeat (first | exact Mod.refl _ _ | (with_reducible assumption) | (refine Mod.drewN ?_ _) | (refine Mod.drew ?_) | (refine Mod.alloc ?_ _) | (refine Mod.setCell ?_ ?_ _; rotate_left; focus (first | omega | (simp; done) | (simp; omega)))))
    · have hz := hm2.size
      have hbu1 := hbu.set_ 0 (.slice A3 n k3)
      have hM : Mod [w.heap.size] (w2.setCell ⟨u, 0, none⟩ (.slice A3 n k3)) ((((w2.setCell ⟨u, 0, none⟩ (.slice A3 n k3)).setCell ⟨w.heap.size, 0, none⟩ (.int .i64 x.1)).setCell ⟨w.heap.size, 1, none⟩ (.int .i64 x.2.1)).setCell ⟨w.heap.size, 2, none⟩ (.int .i64 x.2.2)) := by (repeat (first | exact Mod.refl _ _ | (with_reducible assumption) | (refine Mod.drewN ?_ _) | (refine Mod.drew ?_) | (refine Mod.alloc ?_ _) | (refine Mod.setCell ?_ ?_ _; rotate_left; focus (first | omega | (simp; done) | (simp; omega)))))
      have hfit := h.fits
      simp only [List.length_cons] at hfit
      refine ⟨?_, ?_, by rw [← HN.out]; omega, by omega, h.room⟩
      · rw [← HN.out]
        exact (by simpa using hbu1 : Blk _ u _ _).mod hM (by simp; omega)
      · rw [← HN.out]
        have ho4 := own_mod ho3 ((Mod.refl [u] w2).setCell (p := ⟨u, 0, none⟩) (by simp) (.slice A3 n k3)) (fun g hg hmem => by have := (ho3.lt g hg).1; simp at hmem; omega)
        exact ownsRow_base (own_mod ho4 hM (fun g hg hmem => by have := (ho3.lt g hg).1; simp at hmem; omega)) (Nat.zero_le _)

theorem form_any (x : Ent) (w : World) : Calls Try.prog 18 #[.agg #[.int .i64 x.1, .int .i64 x.2.1, .int .i64 x.2.2]] w fun e w' => e = .returned (.agg #[.int .i64 x.1, .int .i64 x.2.1, .int .i64 x.2.2]) ∧ Mod [] w w' := by
  go_enter Try.func18, Try.ntmps18
  go_wp2
  go_returns
  exact ⟨rfl, by (repeat (first | exact Mod.refl _ _ | (with_reducible assumption) | (refine Mod.drewN ?_ _) | (refine Mod.drew ?_) | (refine Mod.alloc ?_ _) | (refine Mod.setCell ?_ ?_ _; rotate_left; focus (first | omega | (simp; done) | (simp; omega)))))⟩

end Go.Proofs.Ytjediiajmnlonaa
