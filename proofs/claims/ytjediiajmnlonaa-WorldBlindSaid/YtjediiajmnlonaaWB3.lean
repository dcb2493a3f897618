/- WorldBlind returns true, whatever its numbers. No condition. -/
import Derived.Test.YtjediiajmnlonaaWB2
import Derived.Test.YtjediiajmnlonaaA2
namespace Go.Proofs.Ytjediiajmnlonaa
set_option maxRecDepth 100000
set_option maxHeartbeats 8000000
theorem two_uncons {α β : Type} {R : α → β → Prop} {l : α} {ls : List α} {c : List β} (h : Two R (l :: ls) c) : ∃ a r, c = a :: r ∧ R l a ∧ Two R ls r := by
  cases h with
  | cons h1 h2 => exact ⟨_, _, rfl, h1, h2⟩
theorem two_nil {α β : Type} {R : α → β → Prop} {c : List β} (h : Two R [] c) : c = [] := by
  cases h
  rfl
theorem wb_start (a : WBA) (len lj : Nat) (ha : a.ok len) : Tri repAt Try.prog wbZ 0 (.go (bodyOf Try.prog wbF)) [] ⟨argsE [.tsl 0 len, .tsl 1 lj], [(0, .rep (.tab a.cols len)), (1, .rep (.tab [.int .i64 a.J] lj))], 2⟩ wbQ := by
  refine Tri.pathG mixed lib07_ok (n := 10000) (k := 10000) (j := 0) (cfg := wbCfg) (o := []) (g' := .go (.loop wbL.1)) (fs' := wbL.2) (s' := wbS a len lj (Int.ofNat 0) (Int.ofNat 0) (Int.ofNat 0) (Int.ofNat 0) (Int.ofNat 0) (Int.ofNat 0) (getL [] zeroG) 0) (asks := []) (by kernel_rfl) trivial ?_
  refine Tri.loop (I := wbI a len lj) (fun k s h => ?_) (k := 150) ⟨_, _, _, _, _, _, _, _, rfl, ⟨by decide, by decide, by decide, ha⟩, rfl⟩
  obtain ⟨i, c0, c1, c2, c3, c4, G, n, rfl, hP, hk⟩ := h
  exact wb_round a len lj i c0 c1 c2 c3 c4 G n hP k hk
theorem worldBlind_walk {cols cols2 : List Col} {len len2 : Nat} {sp sp2 : Spot} {w : World} (h : Two (ColOK len) [.int .i64, .int .i64, .int .i64, .int .i64, .int .i64, .int .u64, .int .i64, .bool, .int .u64, .int .i64, .bool] cols) (ht : TabAt w.heap.size (colsF cols) len cols.length sp [] w)
    (h2 : Two (ColOK len2) [.int .i64] cols2) (ht2 : TabAt w.heap.size (colsF cols2) len2 cols2.length sp2 [] w) (w' : World) (hw : w' = w) : Calls Try.prog 6 #[.slice sp.ad len sp.cap, .slice sp2.ad len2 sp2.cap] w' fun e w1 => e = .returned (.bool true) ∧ Mod [] w' w1 := by
  subst hw
  obtain ⟨_, _, rfl, ⟨K, rfl, _⟩, g1⟩ := two_uncons h
  obtain ⟨_, _, rfl, ⟨A0, rfl, w0⟩, g2⟩ := two_uncons g1
  obtain ⟨_, _, rfl, ⟨A1, rfl, w1⟩, g3⟩ := two_uncons g2
  obtain ⟨_, _, rfl, ⟨A2, rfl, w2⟩, g4⟩ := two_uncons g3
  obtain ⟨_, _, rfl, ⟨AI, rfl, _⟩, g5⟩ := two_uncons g4
  obtain ⟨_, _, rfl, ⟨OW, rfl, _⟩, g6⟩ := two_uncons g5
  obtain ⟨_, _, rfl, ⟨OI, rfl, _⟩, g7⟩ := two_uncons g6
  obtain ⟨_, _, rfl, ⟨OS, rfl⟩, g8⟩ := two_uncons g7
  obtain ⟨_, _, rfl, ⟨VW, rfl, wv⟩, g9⟩ := two_uncons g8
  obtain ⟨_, _, rfl, ⟨VI, rfl, _⟩, g10⟩ := two_uncons g9
  obtain ⟨_, _, rfl, ⟨VS, rfl⟩, g11⟩ := two_uncons g10
  obtain rfl := two_nil g11
  obtain ⟨_, _, rfl, ⟨J, rfl, _⟩, q2⟩ := two_uncons h2
  obtain rfl := two_nil q2
  have ha : WBA.ok ⟨K, A0, A1, A2, AI, OW, OI, OS, VW, VI, VS, J⟩ len := fun j hj => ⟨plWfB_iff.2 ⟨w0 j hj, w1 j hj, w2 j hj⟩, wv j hj⟩
  have hst := stand_args (P := Try.prog) (w := w') (l := [((WBA.mk K A0 A1 A2 AI OW OI OS VW VI VS J).cols, len, sp), ([.int .i64 J], len2, sp2)]) (fun a ha => by
    rcases List.mem_cons.1 ha with rfl | ha
    · exact ht
    · rw [List.mem_singleton] at ha
      subst ha
      exact ht2) (argsE [.tsl 0 len, .tsl 1 len2])
  exact Tri.law (args := [.tsl 0 len, .tsl 1 len2]) Try.func6 (c := bodyOf Try.prog wbF) (by kernel_rfl) (by kernel_rfl) (wb_start ⟨K, A0, A1, A2, AI, OW, OI, OS, VW, VI, VS, J⟩ len len2 ha) hst rfl
end Go.Proofs.Ytjediiajmnlonaa
