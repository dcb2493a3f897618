/- CoreEpochs returns true, whatever its numbers. No condition. -/
import Derived.Test.YtjediiajmnlonaaCE2
import Derived.Test.YtjediiajmnlonaaA2
namespace Go.Proofs.Ytjediiajmnlonaa
set_option maxRecDepth 100000
set_option maxHeartbeats 8000000
theorem ce_start (A : Nat → Int) (len : Nat) : Tri repAt Try.prog ceZ 0 (.go (bodyOf Try.prog ceF)) [] ⟨argsE [.tsl 0 len], [(0, .rep (.tab [.int .i64 A] len))], 1⟩ ceQ := by
  cases h0 : (decide ((↑len : Int) > 100)) with
  | true => exact Tri.pathG mixed lib13_ok (n := 10000) (k := 10000) (j := 1) (cfg := ceCfg) (o := [none] ++ [some true]) (g' := .out .ret) (fs' := []) (s' := ⟨[(2, .v (.bool true))], [], 0⟩) (asks := [(decide ((↑len : Int) > 100), true)]) (by kernel_rfl) ⟨h0, trivial⟩ (Tri.fin (Ends.one (t := 2) (by kernel_rfl) (.inl rfl) rfl))
  | false =>
    have hl : len ≤ 100 := by
      have := of_decide_eq_false h0
      omega
    refine Tri.pathG mixed lib13_ok (n := 10000) (k := 10000) (j := 1) (cfg := ceCfg) (o := [none] ++ [some false]) (g' := .go (.loop ceL.1)) (fs' := ceL.2) (s' := ceS A len (Int.ofNat 0) (Int.ofNat 1) (fun i => [0, 0, 0, 0, 0, 0, 0, 0].getD i 0) (Int.ofNat 0) (Int.ofNat 0) (Int.ofNat 0) (Int.ofNat 0) (Int.ofNat 0) (Int.ofNat 0) (Int.ofNat 0) (Int.ofNat 0) (Int.ofNat 0) (Int.ofNat 0) (Int.ofNat 0) (Int.ofNat 0) (Int.ofNat 0) (Int.ofNat 0) (Int.ofNat 0) (Int.ofNat 0) (Int.ofNat 0) (IntKind.i64.wrap (0 + 1)) (Int.ofNat 0) (Int.ofNat 0) (Int.ofNat 0) (getL [((1, 0, 0), 1)] zeroG) 1) (asks := [(decide ((↑len : Int) > 100), false)]) (by kernel_rfl) ⟨h0, trivial⟩ ?_
    refine Tri.loop (I := ceI A len) (fun k s h => ?_) (k := len) ⟨_, _, _, _, _, _, _, _, _, _, _, _, _, _, _, _, _, _, _, _, _, _, _, _, _, _, rfl, ⟨⟨by decide, by simp, hl, by decide, by decide, by simp⟩, rfl, ⟨rfl, rfl, rfl, rfl, rfl, rfl, rfl, rfl⟩, by decide⟩, rfl⟩
    obtain ⟨i, now, W, e0, e1, e2, e3, e4, e5, e6, e7, r0, r1, r2, r3, r4, r5, r6, r7, c0, c1, c2, c3, c4, G, n, rfl, hP, hk⟩ := h
    exact ce_round A len i now W e0 e1 e2 e3 e4 e5 e6 e7 r0 r1 r2 r3 r4 r5 r6 r7 c0 c1 c2 c3 c4 G n hP k hk
theorem coreEpochs_walk {cols : List Col} {len : Nat} {sp : Spot} (h : Two (ColOK len) [.int .i64] cols) {w : World} (ht : TabAt w.heap.size (colsF cols) len cols.length sp [] w) (w' : World) (hw : w' = w) : Calls Try.prog 7 #[.slice sp.ad len sp.cap] w' fun e w1 => e = .returned (.bool true) ∧ Mod [] w' w1 := by
  subst hw
  match cols, h with
  | [_], .cons ⟨A, rfl, _⟩ .nil =>
    have hst := stand_args (P := Try.prog) (w := w') (l := [([.int .i64 A], len, sp)]) (fun a ha => by
      rw [List.mem_singleton] at ha
      subst ha
      exact ht) (argsE [.tsl 0 len])
    exact Tri.law (args := [.tsl 0 len]) Try.func7 (c := bodyOf Try.prog ceF) (by kernel_rfl) (by kernel_rfl) (ce_start A len) hst rfl
end Go.Proofs.Ytjediiajmnlonaa
