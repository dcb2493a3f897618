/- The reference's queue: Push, Pop and Find of one that is known. -/
import Derived.Test.YtjediiajmnlonaaQ7
import Derived.Test.YtjediiajmnlonaaRel
namespace Go.Proofs.Ytjediiajmnlonaa
open Go.RowKit

/-- The reference's queue: entries in a row of its own, and the room. -/
structure RAt (w : World) (u : Nat) (A : Option Addr) (c : Nat) (R : Nat) (xs : List Ent) : Prop where
  blk : Blk w u 30 [.slice A xs.length c, .int .i64 R]
  own : w.ownsRow 0 33 3 (.slice A xs.length c) xs.length (flat ent xs)
  few : xs.length < 549755813888
  fits : xs.length ≤ R
  room : 0 < R ∧ R < 1099511627776

theorem infoREntry : (Try.prog.info? 33).map (fun i => (i.zero, i.size, i.bytes)) = some (some (.agg #[.int .i64 0, .int .i64 0, .int .i64 0]), 3, 24) := by kernel_rfl

theorem RAt.mod {S : List Nat} {w w' : World} {u c R : Nat} {A : Option Addr} {xs : List Ent} (h : RAt w u A c R xs) (hm : Mod S w w') (h1 : u ∉ S) (h2 : ∀ g, (Value.slice A xs.length c).ownBlock = some g → g ∉ S) : RAt w' u A c R xs := by
  refine ⟨h.blk.mod hm h1, ⟨h.own.1, ?_⟩, h.few, h.fits, h.room⟩
  rcases h.own.2 with h0 | ⟨g, cap, cur, hv, hb, hg, r⟩
  · exact .inl h0
  · refine .inr ⟨g, cap, cur, hv, hb, ?_, r⟩
    rw [hm.block g (heap_lt hg) (h2 g (by rw [hv]; rfl))]
    exact hg

attribute [local go_sem] withDeps relAt relUpon Stab.det Stab.own Stab.empty preAct pres isPre

set_option maxRecDepth 100000 in
set_option maxHeartbeats 400000 in
theorem rpush_any {w : World} {u c R : Nat} {A : Option Addr} {xs : List Ent} (h : RAt w u A c R xs) (hn : xs.length + 1 < 549755813888) (x : Ent) :
    Calls Try.prog 17 #[.pointer (some ⟨u, 0, none⟩), .agg #[.int .i64 x.1, .int .i64 x.2.1, .int .i64 x.2.2]] w fun e w' => e = .returned (.tuple #[]) ∧ Mod [u] w w' ∧
      ∃ A' c', RAt w' u A' c' (room1 R xs.length) (xs ++ [x]) ∧ ∀ g, (Value.slice A' (xs.length + 1) c').ownBlock = some g → w.heap.size ≤ g := by
  obtain ⟨i0, hi, hz0, hz1, hz2⟩ := info_parts infoREntry
  have hu := h.blk.lt
  have c0 := h.blk.cell 0
  have c1 := h.blk.cell 1
  have f0 := h.blk.frozen 0
  have f1 := h.blk.frozen 1
  have hR : ((R : Int) == 0) = false := by have := h.room; simp; omega
  have hR2 := h.room
  obtain ⟨n, hn'⟩ : ∃ n, n = xs.length := ⟨_, rfl⟩
  have hown := h.own
  rw [← hn'] at hn c0 hown ⊢
  have HN := hide hn'
  clear hn'
  simp only [List.getElem?_cons_zero, List.getElem?_cons_succ] at c0 c1
  go_enter Try.func17, Try.ntmps17
  go_wp2_with fail
  refine wp_region_rel [none, some [], some [], some [(2, 14)], some [(3, 15)], some [(4, 16)], some [(1, 13), (5, 17)], some [], some [(7, 19)]] [(1, 13), (2, 14), (3, 15), (4, 16), (5, 17), (6, 18), (7, 19), (8, 20)] (by kernel_rfl) (by kernel_rfl) ?_
  have FACTS : ∀ w', Mod [] (w.alloc (.cells #[.int .i64 x.1, .int .i64 x.2.1, .int .i64 x.2.2] 33)) w' → w'.cell? ⟨u, 0, none⟩ = some (.slice A n c) ∧ w'.cell? ⟨w.heap.size, 0, none⟩ = some (.int .i64 x.1) ∧ w'.cell? ⟨w.heap.size, 1, none⟩ = some (.int .i64 x.2.1) ∧ w'.cell? ⟨w.heap.size, 2, none⟩ = some (.int .i64 x.2.2) := fun w' hm =>
    ⟨(hm.cell (p := ⟨u, 0, none⟩) (by simp; omega) (by simp)).trans (by rw [World.cell?_alloc_lt _ _ _ hu]; exact c0), by rw [hm.cell (by simp) (by simp)]; simp, by rw [hm.cell (by simp) (by simp)]; simp, by rw [hm.cell (by simp) (by simp)]; simp⟩
  refine relWalk_pre ?_
  refine relWalk_by (Stab.empty w.heap.size 33 3) ?_ ?_
  · intro w' hm
    go_simp
    exact ⟨(Mod.refl _ _).alloc _, (Blk.new w' 33 []).own (by have := hm.size; simp at this; omega) (by unfold maxLen; omega) (by simp)⟩
  iterate 4 (apply relWalk_det; · (intro w' hm; have F := FACTS w' hm; go_simp; first | exact ⟨Mod.refl _ _, rfl⟩ | exact Mod.refl _ _))
  refine relWalk_by (Stab.own w.heap.size 33 3 n (flat ent xs)) ?_ ?_
  · rintro w' hm v ⟨g, rfl, ho⟩ v2 rfl
    exact relAt_append_clone rfl (.tmp 13) (.tmp 17) 28 rfl w.heap.size 33 i0 _ 3 24 Try.underlying28 hi hz0 hz1 hz2 rfl (by decide) g rfl ho (.slice A n c) n 0 33 (flat ent xs) rfl (own_mod hown (((Mod.refl [] w).alloc _).trans hm (by simp)) (by simp)) (flat_ent_one xs) (by unfold maxLen; omega) (by omega) (Nat.le_trans (by simp) hm.size)
  (apply relWalk_det; · (intro w' hm; have F := FACTS w' hm; go_simp; first | exact ⟨Mod.refl _ _, rfl⟩ | exact Mod.refl _ _))
  refine relWalk_by (Stab.own w.heap.size 33 3 1 (ent x)) ?_ ?_
  · intro w' hm
    go_simp
    exact ⟨(Mod.refl _ _).alloc _, (Blk.new w' 33 (ent x)).own (by have := hm.size; simp at this; omega) (by unfold maxLen; omega) (by simp [ent])⟩
  refine relWalk_end ?_
  rintro w1 hm1 v13 ⟨g, rfl, ho⟩ v14 rfl v15 rfl v16 rfl v17 rfl v18 ⟨⟨A1, k1, rfl⟩, ho1⟩ v19 rfl v20 ⟨⟨A2, k2, rfl⟩, ho2⟩
  clear c0 c1 f0 f1 FACTS ho
  have hmw := ((Mod.refl [] w).alloc (.cells #[.int .i64 x.1, .int .i64 x.2.1, .int .i64 x.2.2] 33)).trans hm1 (by simp)
  go_wp2_with (at_builtin; refine wpList_append_owned rfl (.tmp 18) (.tmp 20) 28 rfl w.heap.size 33 i0 _ 3 24 Try.underlying28 hi hz0 hz1 hz2 rfl (by decide) (.slice A1 n k1) n (flat ent xs) rfl ho1 (.slice A2 1 k2) 1 w.heap.size 33 (ent x) rfl ho2 (ent_one x) (by unfold maxLen; omega) (by omega) hmw.size ?_; intro A3 k3 w2 ho3 hgr3 hat3; have hm2 := hmw.grown hgr3 (fun g hg => .inr (ho1.lt g hg).1); have hb2 := h.blk.mod hm2 (by simp); have d0 := hb2.cell 0; have d1 := hb2.cell 1; have f0 := hb2.frozen 0; have f1 := hb2.frozen 1; have hlt2 := hb2.lt; rw [← HN.out] at d0; simp only [List.getElem?_cons_zero, List.getElem?_cons_succ] at d0 d1; clear hgr3 hat3 ho1 ho2)
  refine NoPanic.normal ?_
  have hfit := h.fits
  rw [← HN.out] at hfit
  have hb3 := hb2.set_ 0 (.slice A3 (n + 1) k3)
  have hm3 := (hm2.mono (T := [u]) (by simp)).setCell (p := ⟨u, 0, none⟩) (by simp) (.slice A3 (n + 1) k3)
  have ho4 : (w2.setCell ⟨u, 0, none⟩ (.slice A3 (n + 1) k3)).ownsRow w.heap.size 33 3 (.slice A3 (n + 1) k3) (n + 1) (flat ent xs ++ ent x) :=
    own_mod ho3 ((Mod.refl [u] w2).setCell (p := ⟨u, 0, none⟩) (by simp) _) (fun g hg hmem => by have := (ho3.lt g hg).1; simp at hmem; omega)
  generalize w2.setCell ⟨u, 0, none⟩ (.slice A3 (n + 1) k3) = w3 at *
  have e0 := hb3.cell 0
  have e1 := hb3.cell 1
  have g1 := hb3.frozen 1
  simp only [List.set_cons_zero, List.getElem?_cons_zero, List.getElem?_cons_succ] at e0 e1
  clear d0 d1 f0 f1 hlt2 ho3 hm2 hb2 hmw hm1
  have hbnd := h.room
  go_wp2_with fail
  go_quiet (fail)
  by_cases hfull : n = R
  · have hgt : (R : Int) < (n : Int) + 1 := by omega
    go_wp2
    go_returns
    have hn1 : (xs ++ [x]).length = n + 1 := by simp [HN.out]
    have hb4 := (hb3.drewN nq).set_ 1 (.int .i64 (2 * (R : Int)))
    have ho5 := own_mod ho4 (((Mod.refl [u] w3).drewN nq).setCell (p := ⟨u, 1, none⟩) (by simp) (.int .i64 (2 * (R : Int)))) (fun g hg hmem => by have := (ho4.lt g hg).1; simp at hmem; omega)
    refine ⟨rfl, by (repeat (first | exact Mod.refl _ _ | (with_reducible assumption) | (refine Mod.drewN ?_ _) | (refine Mod.drew ?_) | (refine Mod.alloc ?_ _) | (refine Mod.setCell ?_ ?_ _; rotate_left; focus (first | omega | (simp; done) | (simp; omega))))), A3, k3, ⟨?_, ?_, by rw [hn1]; omega, by rw [hn1, room1, if_pos hfull]; omega, by rw [room1, if_pos hfull]; omega⟩, fun g hg => (ho4.lt g hg).1⟩
    · rw [hn1, room1, if_pos hfull]
      simpa using hb4
    · rw [hn1, flat_append, flat_one]
      exact ownsRow_base ho5 (Nat.zero_le _)
  · have hgt : ¬ (R : Int) < (n : Int) + 1 := by omega
    go_wp2
    go_returns
    have hn1 : (xs ++ [x]).length = n + 1 := by simp [HN.out]
    refine ⟨rfl, by (repeat (first | exact Mod.refl _ _ | (with_reducible assumption) | (refine Mod.drewN ?_ _) | (refine Mod.drew ?_) | (refine Mod.alloc ?_ _) | (refine Mod.setCell ?_ ?_ _; rotate_left; focus (first | omega | (simp; done) | (simp; omega))))), A3, k3, ⟨?_, ?_, by rw [hn1]; omega, by rw [hn1, room1, if_neg hfull]; omega, by rw [room1, if_neg hfull]; omega⟩, fun g hg => (ho4.lt g hg).1⟩
    · rw [hn1, room1, if_neg hfull]
      exact (by simpa using hb3 : Blk w3 u _ _).drewN nq
    · rw [hn1, flat_append, flat_one]
      exact ownsRow_base ho4 (Nat.zero_le _)

theorem RAt.cells {w : World} {u c R : Nat} {A : Option Addr} {xs : List Ent} (h : RAt w u A c R xs) : w.cell? ⟨u, 0, none⟩ = some (.slice A xs.length c) ∧ w.cell? ⟨u, 1, none⟩ = some (.int .i64 R) ∧ w.frozen? ⟨u, 0, none⟩ = false ∧ w.frozen? ⟨u, 1, none⟩ = false :=
  ⟨h.blk.cell 0, h.blk.cell 1, h.blk.frozen 0, h.blk.frozen 1⟩

theorem rfind_any {w : World} {u c R : Nat} {A : Option Addr} {xs : List Ent} (h : RAt w u A c R xs) (s : Int) :
    Calls Try.prog 24 #[.pointer (some ⟨u, 0, none⟩), .int .i64 s] w fun e w' => e = .returned (.int .i64 (idxE s xs)) ∧ w = w' := by
  obtain ⟨c0, c1, f0, f1⟩ := h.cells
  obtain ⟨b, hr, _⟩ := Rd.of_own h.own
  have hn := h.few
  obtain ⟨n, hn'⟩ : ∃ n, n = xs.length := ⟨_, rfl⟩
  rw [← hn'] at hn c0
  have HN := hide hn'
  clear hn'
  go_enter Try.func24, Try.ntmps24
  go_wp2
  go_loop [5] (fun i => ∃ k : Nat, k ≤ n ∧ i = .int .i64 k ∧ ∀ j x, j < k → xs[j]? = some x → x.1 ≠ s) (fun i => n - (intOf i).toNat)
  case atStart => exact ⟨0, Nat.zero_le _, rfl, fun j _ hj => by omega⟩
  case round =>
    obtain ⟨k, hk, rfl, hnot⟩ := hrel
    by_cases hlt : k < n
    · obtain ⟨x, hx⟩ : ∃ x, xs[k]? = some x := ⟨_, List.getElem?_eq_getElem (by rw [← HN.out]; exact hlt)⟩
      obtain ⟨rfl, e0, e1, e2⟩ := hr.ent hx
      rw [Nat.zero_add] at e0
      have HX := hide hx
      have HNOT := hide hnot
      clear hx hnot
      go_wp2
      · go_ret
        have hb : (x.1 == s) = true := by assumption
        exact ⟨by simp [idxE_some HX.out (by simpa using hb) HNOT.out], rfl⟩
      · go_round
        case rel =>
          have hb : (x.1 == s) = false := by first | assumption | (simp; assumption)
          refine ⟨k + 1, by omega, by go_num, fun j y hj hy => ?_⟩
          rcases Nat.lt_or_ge j k with h1 | h1
          · exact HNOT.out j y h1 hy
          · obtain rfl : j = k := by omega
            rw [HX.out] at hy
            injection hy with hy
            subst hy
            simpa using hb
        case measure => simp [intOf]; omega
    · go_wp2
      go_ret
      have e : k = n := by omega
      subst e
      exact ⟨by rw [idxE_none (by rw [← HN.out]; exact hnot)]; rfl, rfl⟩
end Go.Proofs.Ytjediiajmnlonaa
