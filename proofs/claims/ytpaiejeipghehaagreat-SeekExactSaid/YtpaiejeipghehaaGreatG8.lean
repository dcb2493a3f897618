/- SeekExact, called with whatever, returns true, and its arguments read behind it as they did. No condition. -/
import Derived.Test.YtpaiejeipghehaaGreatG7
import Derived.Test.YtpaiejeipghehaaGreatProg
import Derived.Test.YtpaiejeipghehaaGreatG1
import Derived.Test.YtpaiejeipghehaaGreatG4
import Derived.ProofKit
import Derived.Deep.Slices
import Derived.Deep.Strs
import Derived.ChangeArms
import Derived.Carry
import Derived.Below
import Derived.WalkKit
import Derived.OpenShut
import Derived.ChangeOld
import Derived.Test.YtpaiejeipghehaaGreatG3
import Derived.Test.YtpaiejeipghehaaGreatRows
section
/- SeekExact: the state at its loop's head ahead of its first round; what it begins with. No condition. -/
namespace Go.Proofs.YtpaiejeipghehaaGreat
def zS (a : SEA) (G F : Pl → Int) (n k : Nat) (c0 c1 c2 c3 c4 d0 d1 d2 d3 d4 : Int) : Sym Rep :=
  ⟨[(11, .ptr 0 0), (13, .ptr 1 0), (17, .ptr 2 0), (16, .ptr 3 0), (18, .ptr 4 0), (15, .ptr 5 0), (14, .ptr 6 0), (4, .tsl 7 a.alen), (19, iv 0)],
   [(0, .rep (.ucells [] F k)), (1, .row [.ptr 8 0] 153), (2, .row [iv a.root, uv a.key, .v (.bool a.vals), .v (.bool false), .v (.pointer none)] 77), (3, .row [.ptr 6 0, iv a.root, uv a.key, .v (.bool a.vals), .v (.pointer none), .v (.bool false)] 137),
    (4, .row [iv d0, iv d1, iv d2, iv d3, iv d4] 80), (5, .row [iv 2, iv 1000, iv 3, iv 1, iv 1073741824, iv 0, .v (.slice none 0 0), iv 0, iv 0, iv 0] 45),
    (6, .row [iv 2, iv 1000, iv 3, iv 1, iv 1073741824, iv 0, .ptr 9 0, iv 0, iv 0, iv 0] 122), (7, .rep (.tab [.int .i64 a.AK, .int .i64 a.A0, .int .i64 a.A1, .int .i64 a.A2, .int .u64 a.AW] a.alen)),
    (8, .row [.mp 10, iv c0, iv c1, iv c2, iv c3, iv c4] 176), (9, .row [.sl 11 0 0 4, uv 0, uv 0] 160), (10, .rep (.pmap [] G n)), (11, .row [iv 0, iv 0, iv 0, iv 0, iv 0, iv 0, iv 0, iv 0, iv 0, iv 0, iv 0, iv 0] 182)], 12⟩
def zCfg : Goer → List Gen × List Nat
  | .out .ret => ([], [10])
  | _ => ([.map 0, .map 10], [11, 13, 17, 16, 18, 15, 14, 4, 19])
def zCfgT : Goer → List Gen × List Nat
  | .out .ret => ([], [10])
  | _ => ([.map 0, .map 12], [11, 13, 17, 16, 18, 15, 14, 4, 19, 20])
def zCfg0 : Stop → List Gen × List Nat := fun _ => ([], [11, 13, 17, 16, 18, 15, 14, 4, 19])
/-- What is given. -/
structure SEB where
  S : Nat → Int
  K : Nat → Int
  V : Nat → Int
  M : Nat → Bool
  len : Nat
  rt : Int
  key : Int
  vals : Bool
  AK : Nat → Int
  A0 : Nat → Int
  A1 : Nat → Int
  A2 : Nat → Int
  AW : Nat → Int
  alen : Nat
def SEB.nd (b : SEB) : NA := ⟨b.S, b.K, b.V, b.M, b.len⟩
def SEB.a (b : SEB) : SEA := ⟨b.S, b.K, b.V, b.M, b.len, IntKind.i64.wrap ((IntKind.u64.wrap b.rt).tmod 3), b.key, b.vals, b.AK, b.A0, b.A1, b.A2, b.AW, b.alen⟩
def SEB.ly (b : SEB) : LYA := ⟨fun i => (b.nd.out.getD i ndD).S, fun i => (b.nd.out.getD i ndD).K, fun i => (b.nd.out.getD i ndD).V, fun i => (b.nd.out.getD i ndD).M, b.nd.out.length, IntKind.i64.wrap ((IntKind.u64.wrap b.rt).tmod 3), 0, 5, getL [] zeroG, 0⟩
def SEB.ok (b : SEB) : Prop := (∀ j, j < b.len → (Lit.int .u64 (b.K j)).wf = true ∧ (Lit.int .u64 (b.V j)).wf = true) ∧ ∀ j, j < b.alen → plWfB (b.A0 j, b.A1 j, b.A2 j) = true ∧ (Lit.int .u64 (b.AW j)).wf = true
theorem NA.row_wf {a : NA} (h : ∀ j, j < a.len → (Lit.int .u64 (a.K j)).wf = true ∧ (Lit.int .u64 (a.V j)).wf = true) : ∀ k, k ≤ a.len → ∀ x ∈ a.row k, (Lit.int .u64 x.K).wf = true ∧ (Lit.int .u64 x.V).wf = true
  | 0, _, x, hx => by cases hx
  | k + 1, hk, x, hx => by
    simp only [NA.row] at hx
    split at hx
    · exact NA.row_wf h k (by omega) x hx
    · rcases List.mem_append.1 hx with hx | hx
      · exact NA.row_wf h k (by omega) x hx
      · rw [List.mem_singleton] at hx
        subst hx
        exact h k (by omega)
theorem nd_mem {L : List Nd} {k : Nat} (h : k < L.length) : L.getD k ndD ∈ L := by
  simp [List.getD, List.getElem?_eq_getElem h]
theorem LYA.F_wf {a : LYA} (h0 : WfG a.F0) (h : ∀ j, j < a.len → (Lit.int .u64 (a.K j)).wf = true ∧ (Lit.int .u64 (a.V j)).wf = true) : ∀ k, k ≤ a.len → WfG (a.F k)
  | 0, _ => h0.put (wrap_wf _) _
  | k + 1, hk => by
    have hw := h k (by omega)
    exact (((LYA.F_wf h0 h k (by omega)).put (lkWord_wf _ _ _) _).put hw.1 _).put hw.2 _
theorem LYA.fin_wf {a : LYA} (h0 : WfG a.F0) (h : ∀ j, j < a.len → (Lit.int .u64 (a.K j)).wf = true ∧ (Lit.int .u64 (a.V j)).wf = true) : WfG a.fin := (LYA.F_wf h0 h a.len (Nat.le_refl _)).put (lkWord_wf _ _ _) _
theorem zero_wf : WfG zeroG := fun _ => by unfold zeroG; decide
theorem SEB.ly_ok (b : SEB) : b.ly.ok := by
  obtain ⟨h1, h2, _⟩ := b.nd.out_ok
  refine ⟨by show b.nd.out.length ≤ 1000; omega, Nat.zero_le _, pl_wf (by decide) (by decide) (wrapI_wf _), fun k hk => ?_⟩
  have := h2 _ (nd_mem hk)
  exact slot_wf (by show 0 ≤ (b.nd.out.getD k ndD).S; omega) (by show (b.nd.out.getD k ndD).S ≤ 8388607; omega)
theorem SEB.fin_wf {b : SEB} (hb : b.ok) : WfG b.ly.fin := LYA.fin_wf zero_wf fun j hj => NA.row_wf hb.1 _ (Nat.min_le_left _ _) _ (nd_mem hj)
end Go.Proofs.YtpaiejeipghehaaGreat
end
section
/- SeekExact: its first round, and its start. No condition. -/
namespace Go.Proofs.YtpaiejeipghehaaGreat
set_option linter.unusedVariables false
set_option linter.unusedSimpArgs false
set_option maxRecDepth 100000
set_option maxHeartbeats 8000000

theorem ze_off (a : SEA) (F : Pl → Int) (n k : Nat) (c0 c1 c2 c3 c4 : Int) (hM : SEP a 1 0 0 F n k c0 c1 c2 c3 c4 4 0 a.root 0 0 0 0 0) (hi : (0 : Int) < 300) {r : Nat} (hr : r = 300 - (0 : Int).toNat) : Tri repAt Tryz.prog seZ 0 (.go seC.1) seC.2 (zS a F F n k c0 c1 c2 c3 c4 c0 c1 c2 c3 c4) (seR a r) := by
  rcases Bool.eq_false_or_eq_true (decide (IntKind.i64.wrap (getL [] F (1, 0, 0)) < 0)) with h0 | h0
  · have h1 : (k.ble 1000000) = true := by (obtain ⟨i0, i1, hn, hk, hF, e0, e1, c0a, c0b, c1a, c1b, c2a, c2b, c4a, c4b, hp, hW, hX, hK, hV, C0, C1, hok⟩ := hM; first | (exact hp) | (exact ly_put hp (by omega)) | (exact Nat.ble_eq_true_of_le (by omega)) | (exact bne_self_eq_false _) | (exact hW) | (exact hX) | (exact lkWord_wf _ _ _) | (exact hF _) | (exact cell_wf C0 C1 (by decide)) | (exact put_se hp (lkWord_wf _ _ _) (by assumption) (by omega)) | (exact propB_true rfl) | (exact propB_true (get_put_zero (by assumption))) | (simp only [Bool.and_eq_true]; exact ⟨Nat.ble_eq_true_of_le (by omega), Nat.ble_eq_true_of_le (by omega)⟩) | (show (IntKind.i64.wrap _ != IntKind.i64.wrap _) = false; rw [bne_eq_false_iff_eq]; simp only [wrapI_mod]; omega) | (have hv := word_pos (hF (1, 0, 0)); (first | refine decide_eq_true ?_ | refine decide_eq_false ?_); simp only [getL_nil, wrapI_mod, decide_eq_true_eq, decide_eq_false_iff_not] at *; omega) | (show (c1 != c1) = false; exact bne_self_eq_false _) | (show (_ == _) = true; exact beq_self_eq_true _))
    have h2 : (decide (getL [] F (1, 0, 0) < 9223372036854775808)) = false := by (obtain ⟨i0, i1, hn, hk, hF, e0, e1, c0a, c0b, c1a, c1b, c2a, c2b, c4a, c4b, hp, hW, hX, hK, hV, C0, C1, hok⟩ := hM; first | (exact hp) | (exact ly_put hp (by omega)) | (exact Nat.ble_eq_true_of_le (by omega)) | (exact bne_self_eq_false _) | (exact hW) | (exact hX) | (exact lkWord_wf _ _ _) | (exact hF _) | (exact cell_wf C0 C1 (by decide)) | (exact put_se hp (lkWord_wf _ _ _) (by assumption) (by omega)) | (exact propB_true rfl) | (exact propB_true (get_put_zero (by assumption))) | (simp only [Bool.and_eq_true]; exact ⟨Nat.ble_eq_true_of_le (by omega), Nat.ble_eq_true_of_le (by omega)⟩) | (show (IntKind.i64.wrap _ != IntKind.i64.wrap _) = false; rw [bne_eq_false_iff_eq]; simp only [wrapI_mod]; omega) | (have hv := word_pos (hF (1, 0, 0)); (first | refine decide_eq_true ?_ | refine decide_eq_false ?_); simp only [getL_nil, wrapI_mod, decide_eq_true_eq, decide_eq_false_iff_not] at *; omega) | (show (c1 != c1) = false; exact bne_self_eq_false _) | (show (_ == _) = true; exact beq_self_eq_true _))
    exact Tri.pathR mixed libSE_ok (n := 10000) (k := 10000) (j := 0) (cfg := zCfgT) (tgt := 26) (o := List.replicate 6 (none) ++ [some true] ++ [none, none] ++ [some true] ++ [some false]) (g' := .go seD.1) (fs' := seD.2) (s' := seT (a) (Int.ofNat 0) (true) (Int.ofNat 0) (Int.ofNat 0) (getL [] F) (getL [] F) (n) (k) (IntKind.i64.wrap (c0 + 1)) (c1) (c2) (c3) (c4) (c0) (c1) (c2) (c3) (c4) (Int.ofNat 4) (Int.ofNat 0) (a.root) (Int.ofNat 0) (Int.ofNat 0) (Int.ofNat 0) (Int.ofNat 0) (Int.ofNat 0) (Int.ofNat 0) (Int.ofNat 0) (Int.ofNat 0) (false) (false) (Int.ofNat 0)) (asks := [((decide (getL [] F (1, 0, 0) < 9223372036854775808)), false), ((k.ble 1000000), true), ((decide (IntKind.i64.wrap (getL [] F (1, 0, 0)) < 0)), true)]) (by kernel_rfl) ⟨h2, h1, h0, trivial⟩ (se_tail (a) (Int.ofNat 0) (true) (Int.ofNat 0) (Int.ofNat 0) (getL [] F) (getL [] F) (n) (k) (IntKind.i64.wrap (c0 + 1)) (c1) (c2) (c3) (c4) (c0) (c1) (c2) (c3) (c4) (Int.ofNat 4) (Int.ofNat 0) (a.root) (Int.ofNat 0) (Int.ofNat 0) (Int.ofNat 0) (Int.ofNat 0) (Int.ofNat 0) (Int.ofNat 0) (Int.ofNat 0) (Int.ofNat 0) (false) (false) (Int.ofNat 0) (by (refine ⟨?_, ?_, ?_, ?_, hi, ?_, ?_, ?_, ⟨hM.c0a, hM.c2a, hM.c4a⟩, ?_, ?_⟩; (first | rfl | exact get_put_zero (by assumption)); (first | rfl | exact beq_iff_eq.1 (by assumption)); (first | rfl | (simp only [*]; done) | (symm; assumption) | assumption); (first | exact fun _ _ => rfl | (intro hx; exact absurd hx (by decide)) | (intro _ hx; exact absurd hx (by decide)) | (intro _ _; assumption)); (first | rfl); (have q0 := hM.c0a; have q1 := hM.c0b; have q2 := hM.c2a; have q3 := hM.c2b; have q4 := hM.i1; simp only [wrapI_mod]; omega); (first | exact .inl rfl | exact .inr rfl); (first | exact .inl ⟨rfl, rfl⟩ | exact .inr ⟨by decide, by decide, by decide⟩ | assumption); (obtain ⟨i0, i1, hn, hk, hF, e0, e1, c0a, c0b, c1a, c1b, c2a, c2b, c4a, c4b, hp, hW, hX, hK, hV, C0, C1, hok⟩ := hM; constructor <;> first | assumption | exact hF | omega | (simp only [wrapI_mod]; omega) | (simp only [wrapI_mod, Int.ofNat_eq_natCast]; omega) | (simp only [Int.ofNat_eq_natCast]; omega) | exact hF.put (lkWord_wf _ _ _) _ | exact hF.put (wrap_wf _) _ | exact hF.put (hok.2 _ (by have := of_decide_eq_true h1; omega)).2 _ | exact lkWord_wf _ _ _ | exact hF _ | exact cell_wf C0 C1 (by decide) | exact hok.1 | exact (lkSlot_le hW).1 | exact (lkSlot_le hW).2 | exact (lkSlot_le hX).1 | exact (lkSlot_le hX).2 | exact (lkSlot_le (lkWord_wf _ _ _)).1 | exact (lkSlot_le (lkWord_wf _ _ _)).2 | decide | (simp only [decide_eq_true_eq, decide_eq_false_iff_not, wrapI_mod] at *; omega)))) hr)
  · have h1 : (k.ble 1000000) = true := by (obtain ⟨i0, i1, hn, hk, hF, e0, e1, c0a, c0b, c1a, c1b, c2a, c2b, c4a, c4b, hp, hW, hX, hK, hV, C0, C1, hok⟩ := hM; first | (exact hp) | (exact ly_put hp (by omega)) | (exact Nat.ble_eq_true_of_le (by omega)) | (exact bne_self_eq_false _) | (exact hW) | (exact hX) | (exact lkWord_wf _ _ _) | (exact hF _) | (exact cell_wf C0 C1 (by decide)) | (exact put_se hp (lkWord_wf _ _ _) (by assumption) (by omega)) | (exact propB_true rfl) | (exact propB_true (get_put_zero (by assumption))) | (simp only [Bool.and_eq_true]; exact ⟨Nat.ble_eq_true_of_le (by omega), Nat.ble_eq_true_of_le (by omega)⟩) | (show (IntKind.i64.wrap _ != IntKind.i64.wrap _) = false; rw [bne_eq_false_iff_eq]; simp only [wrapI_mod]; omega) | (have hv := word_pos (hF (1, 0, 0)); (first | refine decide_eq_true ?_ | refine decide_eq_false ?_); simp only [getL_nil, wrapI_mod, decide_eq_true_eq, decide_eq_false_iff_not] at *; omega) | (show (c1 != c1) = false; exact bne_self_eq_false _) | (show (_ == _) = true; exact beq_self_eq_true _))
    have h2 : (decide (getL [] F (1, 0, 0) < 9223372036854775808)) = true := by (obtain ⟨i0, i1, hn, hk, hF, e0, e1, c0a, c0b, c1a, c1b, c2a, c2b, c4a, c4b, hp, hW, hX, hK, hV, C0, C1, hok⟩ := hM; first | (exact hp) | (exact ly_put hp (by omega)) | (exact Nat.ble_eq_true_of_le (by omega)) | (exact bne_self_eq_false _) | (exact hW) | (exact hX) | (exact lkWord_wf _ _ _) | (exact hF _) | (exact cell_wf C0 C1 (by decide)) | (exact put_se hp (lkWord_wf _ _ _) (by assumption) (by omega)) | (exact propB_true rfl) | (exact propB_true (get_put_zero (by assumption))) | (simp only [Bool.and_eq_true]; exact ⟨Nat.ble_eq_true_of_le (by omega), Nat.ble_eq_true_of_le (by omega)⟩) | (show (IntKind.i64.wrap _ != IntKind.i64.wrap _) = false; rw [bne_eq_false_iff_eq]; simp only [wrapI_mod]; omega) | (have hv := word_pos (hF (1, 0, 0)); (first | refine decide_eq_true ?_ | refine decide_eq_false ?_); simp only [getL_nil, wrapI_mod, decide_eq_true_eq, decide_eq_false_iff_not] at *; omega) | (show (c1 != c1) = false; exact bne_self_eq_false _) | (show (_ == _) = true; exact beq_self_eq_true _))
    have h3 : (IntKind.i64.wrap (getL [] F (1, 0, 0)) != IntKind.i64.wrap (getL [] F (1, 0, 0))) = false := by (obtain ⟨i0, i1, hn, hk, hF, e0, e1, c0a, c0b, c1a, c1b, c2a, c2b, c4a, c4b, hp, hW, hX, hK, hV, C0, C1, hok⟩ := hM; first | (exact hp) | (exact ly_put hp (by omega)) | (exact Nat.ble_eq_true_of_le (by omega)) | (exact bne_self_eq_false _) | (exact hW) | (exact hX) | (exact lkWord_wf _ _ _) | (exact hF _) | (exact cell_wf C0 C1 (by decide)) | (exact put_se hp (lkWord_wf _ _ _) (by assumption) (by omega)) | (exact propB_true rfl) | (exact propB_true (get_put_zero (by assumption))) | (simp only [Bool.and_eq_true]; exact ⟨Nat.ble_eq_true_of_le (by omega), Nat.ble_eq_true_of_le (by omega)⟩) | (show (IntKind.i64.wrap _ != IntKind.i64.wrap _) = false; rw [bne_eq_false_iff_eq]; simp only [wrapI_mod]; omega) | (have hv := word_pos (hF (1, 0, 0)); (first | refine decide_eq_true ?_ | refine decide_eq_false ?_); simp only [getL_nil, wrapI_mod, decide_eq_true_eq, decide_eq_false_iff_not] at *; omega) | (show (c1 != c1) = false; exact bne_self_eq_false _) | (show (_ == _) = true; exact beq_self_eq_true _))
    exact Tri.pathR mixed libSE_ok (n := 10000) (k := 10000) (j := 0) (cfg := zCfgT) (tgt := 26) (o := List.replicate 6 (none) ++ [some false] ++ [none, none] ++ [some true, some true] ++ List.replicate 18 (none) ++ [some false]) (g' := .go seD.1) (fs' := seD.2) (s' := seT (a) (Int.ofNat 0) (true) (IntKind.i64.wrap (getL [] F (1, 0, 0))) (Int.ofNat 0) (getL [] F) (getL [] F) (n) (k) (IntKind.i64.wrap (c0 + 1)) (c1) (c2) (c3) (c4) (c0) (c1) (c2) (c3) (c4) (Int.ofNat 4) (Int.ofNat 0) (a.root) (Int.ofNat 0) (Int.ofNat 0) (Int.ofNat 0) (Int.ofNat 0) (Int.ofNat 0) (Int.ofNat 0) (Int.ofNat 0) (Int.ofNat 0) (false) (false) (Int.ofNat 0)) (asks := [((IntKind.i64.wrap (getL [] F (1, 0, 0)) != IntKind.i64.wrap (getL [] F (1, 0, 0))), false), ((decide (getL [] F (1, 0, 0) < 9223372036854775808)), true), ((k.ble 1000000), true), ((decide (IntKind.i64.wrap (getL [] F (1, 0, 0)) < 0)), false)]) (by kernel_rfl) ⟨h3, h2, h1, h0, trivial⟩ (se_tail (a) (Int.ofNat 0) (true) (IntKind.i64.wrap (getL [] F (1, 0, 0))) (Int.ofNat 0) (getL [] F) (getL [] F) (n) (k) (IntKind.i64.wrap (c0 + 1)) (c1) (c2) (c3) (c4) (c0) (c1) (c2) (c3) (c4) (Int.ofNat 4) (Int.ofNat 0) (a.root) (Int.ofNat 0) (Int.ofNat 0) (Int.ofNat 0) (Int.ofNat 0) (Int.ofNat 0) (Int.ofNat 0) (Int.ofNat 0) (Int.ofNat 0) (false) (false) (Int.ofNat 0) (by (refine ⟨?_, ?_, ?_, ?_, hi, ?_, ?_, ?_, ⟨hM.c0a, hM.c2a, hM.c4a⟩, ?_, ?_⟩; (first | rfl | exact get_put_zero (by assumption)); (first | rfl | exact beq_iff_eq.1 (by assumption)); (first | rfl | (simp only [*]; done) | (symm; assumption) | assumption); (first | exact fun _ _ => rfl | (intro hx; exact absurd hx (by decide)) | (intro _ hx; exact absurd hx (by decide)) | (intro _ _; assumption)); (first | rfl); (have q0 := hM.c0a; have q1 := hM.c0b; have q2 := hM.c2a; have q3 := hM.c2b; have q4 := hM.i1; simp only [wrapI_mod]; omega); (first | exact .inl rfl | exact .inr rfl); (first | exact .inl ⟨rfl, rfl⟩ | exact .inr ⟨by decide, by decide, by decide⟩ | assumption); (obtain ⟨i0, i1, hn, hk, hF, e0, e1, c0a, c0b, c1a, c1b, c2a, c2b, c4a, c4b, hp, hW, hX, hK, hV, C0, C1, hok⟩ := hM; constructor <;> first | assumption | exact hF | omega | (simp only [wrapI_mod]; omega) | (simp only [wrapI_mod, Int.ofNat_eq_natCast]; omega) | (simp only [Int.ofNat_eq_natCast]; omega) | exact hF.put (lkWord_wf _ _ _) _ | exact hF.put (wrap_wf _) _ | exact hF.put (hok.2 _ (by have := of_decide_eq_true h1; omega)).2 _ | exact lkWord_wf _ _ _ | exact hF _ | exact cell_wf C0 C1 (by decide) | exact hok.1 | exact (lkSlot_le hW).1 | exact (lkSlot_le hW).2 | exact (lkSlot_le hX).1 | exact (lkSlot_le hX).2 | exact (lkSlot_le (lkWord_wf _ _ _)).1 | exact (lkSlot_le (lkWord_wf _ _ _)).2 | decide | (simp only [decide_eq_true_eq, decide_eq_false_iff_not, wrapI_mod] at *; omega)))) hr)
theorem ze_mid (a : SEA) (G F : Pl → Int) (n k : Nat) (c0 c1 c2 c3 c4 d0 d1 d2 d3 d4 : Int) (hG : G = F) (hd : d0 = c0 ∧ d1 = c1 ∧ d2 = c2 ∧ d3 = c3 ∧ d4 = c4) (hM : SEP a 1 0 0 F n k c0 c1 c2 c3 c4 4 0 a.root 0 0 0 0 0) {r : Nat} (hr : r = 300 - (0 : Int).toNat) : Tri repAt Tryz.prog seZ 0 (.go seC.1) seC.2 (zS a G F n k c0 c1 c2 c3 c4 d0 d1 d2 d3 d4) (seR a r) := by
  subst hG
  obtain ⟨rfl, rfl, rfl, rfl, rfl⟩ := hd
  exact ze_off a G n k d0 d1 d2 d3 d4 hM (by decide) hr
theorem ze_dis (a : SEA) (F : Pl → Int) (n k : Nat) (c0 c1 c2 c3 c4 : Int) (hM : SEP a 0 0 0 F n k c0 c1 c2 c3 c4 4 0 a.root 0 0 0 0 0) {r : Nat} (hr : r = 300 - (0 : Int).toNat) : Tri repAt Tryz.prog seZ 0 (.go seL.1) [] (zS a F F n k c0 c1 c2 c3 c4 c0 c1 c2 c3 c4) (seR a r) := by
  rcases Bool.eq_false_or_eq_true (decide (0 < (↑a.alen : Int))) with h0 | h0
  · have h1 : (decide ((0 : Int) ≤ 0 ∧ 0 < (↑a.alen : Int) ∧ a.alen ≤ a.alen)) = true := by (obtain ⟨i0, i1, hn, hk, hF, e0, e1, c0a, c0b, c1a, c1b, c2a, c2b, c4a, c4b, hp, hW, hX, hK, hV, C0, C1, hok⟩ := hM; first | (exact decide_eq_true ⟨Int.le_refl _, of_decide_eq_true h0, Nat.le_refl _⟩) | (exact ly_put (hok.2 _ (by have := of_decide_eq_true h0; omega)).1 (by omega)) | (exact ly_put (by decide) (by omega)) | (exact (hok.2 _ (by have := of_decide_eq_true h0; omega)).1) | (exact put_se (hok.2 _ (by have := of_decide_eq_true h0; omega)).1 (hok.2 _ (by have := of_decide_eq_true h0; omega)).2 (by assumption) (by omega)) | (exact put_se (by decide) (wrap_wf _) (by assumption) (by omega)) | (exact put_se (hok.2 _ (by have := of_decide_eq_true h0; omega)).1 (wrap_wf _) (by assumption) (by omega)) | (simp only [beq_iff_eq, beq_eq_false_iff_ne, ne_eq] at *; omega) | (exact hp) | (exact ly_put hp (by omega)) | (exact Nat.ble_eq_true_of_le (by omega)) | (exact bne_self_eq_false _) | (exact hW) | (exact hX) | (exact lkWord_wf _ _ _) | (exact hF _) | (exact cell_wf C0 C1 (by decide)) | (exact put_se hp (lkWord_wf _ _ _) (by assumption) (by omega)) | (exact propB_true rfl) | (exact propB_true (get_put_zero (by assumption))))
    rcases Bool.eq_false_or_eq_true (a.AK (Int.toNat 0) == 2) with h2 | h2
    · have h3 : (a.AK (Int.toNat 0) == 1) = false := by (obtain ⟨i0, i1, hn, hk, hF, e0, e1, c0a, c0b, c1a, c1b, c2a, c2b, c4a, c4b, hp, hW, hX, hK, hV, C0, C1, hok⟩ := hM; first | (exact decide_eq_true ⟨Int.le_refl _, of_decide_eq_true h0, Nat.le_refl _⟩) | (exact ly_put (hok.2 _ (by have := of_decide_eq_true h0; omega)).1 (by omega)) | (exact ly_put (by decide) (by omega)) | (exact (hok.2 _ (by have := of_decide_eq_true h0; omega)).1) | (exact put_se (hok.2 _ (by have := of_decide_eq_true h0; omega)).1 (hok.2 _ (by have := of_decide_eq_true h0; omega)).2 (by assumption) (by omega)) | (exact put_se (by decide) (wrap_wf _) (by assumption) (by omega)) | (exact put_se (hok.2 _ (by have := of_decide_eq_true h0; omega)).1 (wrap_wf _) (by assumption) (by omega)) | (simp only [beq_iff_eq, beq_eq_false_iff_ne, ne_eq] at *; omega) | (exact hp) | (exact ly_put hp (by omega)) | (exact Nat.ble_eq_true_of_le (by omega)) | (exact bne_self_eq_false _) | (exact hW) | (exact hX) | (exact lkWord_wf _ _ _) | (exact hF _) | (exact cell_wf C0 C1 (by decide)) | (exact put_se hp (lkWord_wf _ _ _) (by assumption) (by omega)) | (exact propB_true rfl) | (exact propB_true (get_put_zero (by assumption))))
      have h5 : (plWfB (a.A0 (Int.toNat 0), a.A1 (Int.toNat 0), a.A2 (Int.toNat 0)) && k.ble 1000000) = true := by (obtain ⟨i0, i1, hn, hk, hF, e0, e1, c0a, c0b, c1a, c1b, c2a, c2b, c4a, c4b, hp, hW, hX, hK, hV, C0, C1, hok⟩ := hM; first | (exact decide_eq_true ⟨Int.le_refl _, of_decide_eq_true h0, Nat.le_refl _⟩) | (exact ly_put (hok.2 _ (by have := of_decide_eq_true h0; omega)).1 (by omega)) | (exact ly_put (by decide) (by omega)) | (exact (hok.2 _ (by have := of_decide_eq_true h0; omega)).1) | (exact put_se (hok.2 _ (by have := of_decide_eq_true h0; omega)).1 (hok.2 _ (by have := of_decide_eq_true h0; omega)).2 (by assumption) (by omega)) | (exact put_se (by decide) (wrap_wf _) (by assumption) (by omega)) | (exact put_se (hok.2 _ (by have := of_decide_eq_true h0; omega)).1 (wrap_wf _) (by assumption) (by omega)) | (simp only [beq_iff_eq, beq_eq_false_iff_ne, ne_eq] at *; omega) | (exact hp) | (exact ly_put hp (by omega)) | (exact Nat.ble_eq_true_of_le (by omega)) | (exact bne_self_eq_false _) | (exact hW) | (exact hX) | (exact lkWord_wf _ _ _) | (exact hF _) | (exact cell_wf C0 C1 (by decide)) | (exact put_se hp (lkWord_wf _ _ _) (by assumption) (by omega)) | (exact propB_true rfl) | (exact propB_true (get_put_zero (by assumption))))
      rcases Bool.eq_false_or_eq_true (a.AW (Int.toNat 0) == 0) with h6 | h6
      · have h9 : (plWfB (a.A0 (Int.toNat 0), a.A1 (Int.toNat 0), a.A2 (Int.toNat 0))) = true := by (obtain ⟨i0, i1, hn, hk, hF, e0, e1, c0a, c0b, c1a, c1b, c2a, c2b, c4a, c4b, hp, hW, hX, hK, hV, C0, C1, hok⟩ := hM; first | (exact decide_eq_true ⟨Int.le_refl _, of_decide_eq_true h0, Nat.le_refl _⟩) | (exact ly_put (hok.2 _ (by have := of_decide_eq_true h0; omega)).1 (by omega)) | (exact ly_put (by decide) (by omega)) | (exact (hok.2 _ (by have := of_decide_eq_true h0; omega)).1) | (exact put_se (hok.2 _ (by have := of_decide_eq_true h0; omega)).1 (hok.2 _ (by have := of_decide_eq_true h0; omega)).2 (by assumption) (by omega)) | (exact put_se (by decide) (wrap_wf _) (by assumption) (by omega)) | (exact put_se (hok.2 _ (by have := of_decide_eq_true h0; omega)).1 (wrap_wf _) (by assumption) (by omega)) | (simp only [beq_iff_eq, beq_eq_false_iff_ne, ne_eq] at *; omega) | (exact hp) | (exact ly_put hp (by omega)) | (exact Nat.ble_eq_true_of_le (by omega)) | (exact bne_self_eq_false _) | (exact hW) | (exact hX) | (exact lkWord_wf _ _ _) | (exact hF _) | (exact cell_wf C0 C1 (by decide)) | (exact put_se hp (lkWord_wf _ _ _) (by assumption) (by omega)) | (exact propB_true rfl) | (exact propB_true (get_put_zero (by assumption))))
        exact Tri.pathR mixed libSE_ok (n := 10000) (k := 10000) (j := 0) (cfg := zCfg) (tgt := 23) (o := [none] ++ List.replicate 9 (some true) ++ [none] ++ [some true] ++ [some false] ++ [some true] ++ [some false] ++ [some true, some true] ++ [none, none] ++ [some true, some true]) (g' := .go seC.1) (fs' := seC.2) (s' := zS (a) (getL [((a.A0 (Int.toNat 0), a.A1 (Int.toNat 0), a.A2 (Int.toNat 0)), 0)] F) (getL [((a.A0 (Int.toNat 0), a.A1 (Int.toNat 0), a.A2 (Int.toNat 0)), a.AW (Int.toNat 0))] F) (n) (k + 1) (c0) (IntKind.i64.wrap (c1 + 1)) (c2) (c3) (c4) (c0) (IntKind.i64.wrap (c1 + 1)) (c2) (c3) (c4)) (asks := [((plWfB (a.A0 (Int.toNat 0), a.A1 (Int.toNat 0), a.A2 (Int.toNat 0))), true), ((a.AW (Int.toNat 0) == 0), true), ((plWfB (a.A0 (Int.toNat 0), a.A1 (Int.toNat 0), a.A2 (Int.toNat 0)) && k.ble 1000000), true), ((a.AK (Int.toNat 0) == 2), true), ((a.AK (Int.toNat 0) == 1), false), ((decide ((0 : Int) ≤ 0 ∧ 0 < (↑a.alen : Int) ∧ a.alen ≤ a.alen)), true), ((a.AK (Int.toNat 0) == 1), false), ((decide ((0 : Int) ≤ 0 ∧ 0 < (↑a.alen : Int) ∧ a.alen ≤ a.alen)), true), ((a.AK (Int.toNat 0) == 2), true), ((a.AK (Int.toNat 0) == 2), true), ((a.AK (Int.toNat 0) == 2), true), ((a.AK (Int.toNat 0) == 2), true), ((a.AK (Int.toNat 0) == 2), true), ((a.AK (Int.toNat 0) == 2), true), ((a.AK (Int.toNat 0) == 2), true), ((decide ((0 : Int) ≤ 0 ∧ 0 < (↑a.alen : Int) ∧ a.alen ≤ a.alen)), true), ((decide (0 < (↑a.alen : Int))), true)]) (by kernel_rfl) ⟨h9, h6, h5, h2, h3, h1, h3, h1, h2, h2, h2, h2, h2, h2, h2, h1, h0, trivial⟩ (ze_mid (a) (getL [((a.A0 (Int.toNat 0), a.A1 (Int.toNat 0), a.A2 (Int.toNat 0)), 0)] F) (getL [((a.A0 (Int.toNat 0), a.A1 (Int.toNat 0), a.A2 (Int.toNat 0)), a.AW (Int.toNat 0))] F) (n) (k + 1) (c0) (IntKind.i64.wrap (c1 + 1)) (c2) (c3) (c4) (c0) (IntKind.i64.wrap (c1 + 1)) (c2) (c3) (c4) (by first | rfl | exact get_put_zero (by assumption)) ⟨rfl, rfl, rfl, rfl, rfl⟩ (by (obtain ⟨i0, i1, hn, hk, hF, e0, e1, c0a, c0b, c1a, c1b, c2a, c2b, c4a, c4b, hp, hW, hX, hK, hV, C0, C1, hok⟩ := hM; constructor <;> first | assumption | exact hF | omega | (simp only [wrapI_mod]; omega) | (simp only [wrapI_mod, Int.ofNat_eq_natCast]; omega) | (simp only [Int.ofNat_eq_natCast]; omega) | exact hF.put (lkWord_wf _ _ _) _ | exact hF.put (wrap_wf _) _ | exact hF.put (hok.2 _ (by have := of_decide_eq_true h0; omega)).2 _ | exact lkWord_wf _ _ _ | exact hF _ | exact cell_wf C0 C1 (by decide) | exact hok.1 | exact (lkSlot_le hW).1 | exact (lkSlot_le hW).2 | exact (lkSlot_le hX).1 | exact (lkSlot_le hX).2 | exact (lkSlot_le (lkWord_wf _ _ _)).1 | exact (lkSlot_le (lkWord_wf _ _ _)).2 | decide | (simp only [decide_eq_true_eq, decide_eq_false_iff_not, wrapI_mod] at *; omega))) hr)
      · have h10 : (plWfB (a.A0 (Int.toNat 0), a.A1 (Int.toNat 0), a.A2 (Int.toNat 0)) && (Lit.int IntKind.u64 (a.AW (Int.toNat 0))).wf && a.AW (Int.toNat 0) != 0 && decide (n < maxLen)) = true := by (obtain ⟨i0, i1, hn, hk, hF, e0, e1, c0a, c0b, c1a, c1b, c2a, c2b, c4a, c4b, hp, hW, hX, hK, hV, C0, C1, hok⟩ := hM; first | (exact decide_eq_true ⟨Int.le_refl _, of_decide_eq_true h0, Nat.le_refl _⟩) | (exact ly_put (hok.2 _ (by have := of_decide_eq_true h0; omega)).1 (by omega)) | (exact ly_put (by decide) (by omega)) | (exact (hok.2 _ (by have := of_decide_eq_true h0; omega)).1) | (exact put_se (hok.2 _ (by have := of_decide_eq_true h0; omega)).1 (hok.2 _ (by have := of_decide_eq_true h0; omega)).2 (by assumption) (by omega)) | (exact put_se (by decide) (wrap_wf _) (by assumption) (by omega)) | (exact put_se (hok.2 _ (by have := of_decide_eq_true h0; omega)).1 (wrap_wf _) (by assumption) (by omega)) | (simp only [beq_iff_eq, beq_eq_false_iff_ne, ne_eq] at *; omega) | (exact hp) | (exact ly_put hp (by omega)) | (exact Nat.ble_eq_true_of_le (by omega)) | (exact bne_self_eq_false _) | (exact hW) | (exact hX) | (exact lkWord_wf _ _ _) | (exact hF _) | (exact cell_wf C0 C1 (by decide)) | (exact put_se hp (lkWord_wf _ _ _) (by assumption) (by omega)) | (exact propB_true rfl) | (exact propB_true (get_put_zero (by assumption))))
        exact Tri.pathR mixed libSE_ok (n := 10000) (k := 10000) (j := 0) (cfg := zCfg) (tgt := 23) (o := [none] ++ List.replicate 9 (some true) ++ [none] ++ [some true] ++ [some false] ++ [some true] ++ [some false] ++ [some true, some true] ++ [none, none] ++ [some false] ++ [some true]) (g' := .go seC.1) (fs' := seC.2) (s' := zS (a) (getL [((a.A0 (Int.toNat 0), a.A1 (Int.toNat 0), a.A2 (Int.toNat 0)), a.AW (Int.toNat 0))] F) (getL [((a.A0 (Int.toNat 0), a.A1 (Int.toNat 0), a.A2 (Int.toNat 0)), a.AW (Int.toNat 0))] F) (n + 1) (k + 1) (c0) (IntKind.i64.wrap (c1 + 1)) (c2) (c3) (c4) (c0) (IntKind.i64.wrap (c1 + 1)) (c2) (c3) (c4)) (asks := [((plWfB (a.A0 (Int.toNat 0), a.A1 (Int.toNat 0), a.A2 (Int.toNat 0)) && (Lit.int IntKind.u64 (a.AW (Int.toNat 0))).wf && a.AW (Int.toNat 0) != 0 && decide (n < maxLen)), true), ((a.AW (Int.toNat 0) == 0), false), ((plWfB (a.A0 (Int.toNat 0), a.A1 (Int.toNat 0), a.A2 (Int.toNat 0)) && k.ble 1000000), true), ((a.AK (Int.toNat 0) == 2), true), ((a.AK (Int.toNat 0) == 1), false), ((decide ((0 : Int) ≤ 0 ∧ 0 < (↑a.alen : Int) ∧ a.alen ≤ a.alen)), true), ((a.AK (Int.toNat 0) == 1), false), ((decide ((0 : Int) ≤ 0 ∧ 0 < (↑a.alen : Int) ∧ a.alen ≤ a.alen)), true), ((a.AK (Int.toNat 0) == 2), true), ((a.AK (Int.toNat 0) == 2), true), ((a.AK (Int.toNat 0) == 2), true), ((a.AK (Int.toNat 0) == 2), true), ((a.AK (Int.toNat 0) == 2), true), ((a.AK (Int.toNat 0) == 2), true), ((a.AK (Int.toNat 0) == 2), true), ((decide ((0 : Int) ≤ 0 ∧ 0 < (↑a.alen : Int) ∧ a.alen ≤ a.alen)), true), ((decide (0 < (↑a.alen : Int))), true)]) (by kernel_rfl) ⟨h10, h6, h5, h2, h3, h1, h3, h1, h2, h2, h2, h2, h2, h2, h2, h1, h0, trivial⟩ (ze_mid (a) (getL [((a.A0 (Int.toNat 0), a.A1 (Int.toNat 0), a.A2 (Int.toNat 0)), a.AW (Int.toNat 0))] F) (getL [((a.A0 (Int.toNat 0), a.A1 (Int.toNat 0), a.A2 (Int.toNat 0)), a.AW (Int.toNat 0))] F) (n + 1) (k + 1) (c0) (IntKind.i64.wrap (c1 + 1)) (c2) (c3) (c4) (c0) (IntKind.i64.wrap (c1 + 1)) (c2) (c3) (c4) (by first | rfl | exact get_put_zero (by assumption)) ⟨rfl, rfl, rfl, rfl, rfl⟩ (by (obtain ⟨i0, i1, hn, hk, hF, e0, e1, c0a, c0b, c1a, c1b, c2a, c2b, c4a, c4b, hp, hW, hX, hK, hV, C0, C1, hok⟩ := hM; constructor <;> first | assumption | exact hF | omega | (simp only [wrapI_mod]; omega) | (simp only [wrapI_mod, Int.ofNat_eq_natCast]; omega) | (simp only [Int.ofNat_eq_natCast]; omega) | exact hF.put (lkWord_wf _ _ _) _ | exact hF.put (wrap_wf _) _ | exact hF.put (hok.2 _ (by have := of_decide_eq_true h0; omega)).2 _ | exact lkWord_wf _ _ _ | exact hF _ | exact cell_wf C0 C1 (by decide) | exact hok.1 | exact (lkSlot_le hW).1 | exact (lkSlot_le hW).2 | exact (lkSlot_le hX).1 | exact (lkSlot_le hX).2 | exact (lkSlot_le (lkWord_wf _ _ _)).1 | exact (lkSlot_le (lkWord_wf _ _ _)).2 | decide | (simp only [decide_eq_true_eq, decide_eq_false_iff_not, wrapI_mod] at *; omega))) hr)
    · rcases Bool.eq_false_or_eq_true (a.AK (Int.toNat 0) == 3) with h4 | h4
      · have h3 : (a.AK (Int.toNat 0) == 1) = false := by (obtain ⟨i0, i1, hn, hk, hF, e0, e1, c0a, c0b, c1a, c1b, c2a, c2b, c4a, c4b, hp, hW, hX, hK, hV, C0, C1, hok⟩ := hM; first | (exact decide_eq_true ⟨Int.le_refl _, of_decide_eq_true h0, Nat.le_refl _⟩) | (exact ly_put (hok.2 _ (by have := of_decide_eq_true h0; omega)).1 (by omega)) | (exact ly_put (by decide) (by omega)) | (exact (hok.2 _ (by have := of_decide_eq_true h0; omega)).1) | (exact put_se (hok.2 _ (by have := of_decide_eq_true h0; omega)).1 (hok.2 _ (by have := of_decide_eq_true h0; omega)).2 (by assumption) (by omega)) | (exact put_se (by decide) (wrap_wf _) (by assumption) (by omega)) | (exact put_se (hok.2 _ (by have := of_decide_eq_true h0; omega)).1 (wrap_wf _) (by assumption) (by omega)) | (simp only [beq_iff_eq, beq_eq_false_iff_ne, ne_eq] at *; omega) | (exact hp) | (exact ly_put hp (by omega)) | (exact Nat.ble_eq_true_of_le (by omega)) | (exact bne_self_eq_false _) | (exact hW) | (exact hX) | (exact lkWord_wf _ _ _) | (exact hF _) | (exact cell_wf C0 C1 (by decide)) | (exact put_se hp (lkWord_wf _ _ _) (by assumption) (by omega)) | (exact propB_true rfl) | (exact propB_true (get_put_zero (by assumption))))
        have h7 : (k.ble 1000000) = true := by (obtain ⟨i0, i1, hn, hk, hF, e0, e1, c0a, c0b, c1a, c1b, c2a, c2b, c4a, c4b, hp, hW, hX, hK, hV, C0, C1, hok⟩ := hM; first | (exact decide_eq_true ⟨Int.le_refl _, of_decide_eq_true h0, Nat.le_refl _⟩) | (exact ly_put (hok.2 _ (by have := of_decide_eq_true h0; omega)).1 (by omega)) | (exact ly_put (by decide) (by omega)) | (exact (hok.2 _ (by have := of_decide_eq_true h0; omega)).1) | (exact put_se (hok.2 _ (by have := of_decide_eq_true h0; omega)).1 (hok.2 _ (by have := of_decide_eq_true h0; omega)).2 (by assumption) (by omega)) | (exact put_se (by decide) (wrap_wf _) (by assumption) (by omega)) | (exact put_se (hok.2 _ (by have := of_decide_eq_true h0; omega)).1 (wrap_wf _) (by assumption) (by omega)) | (simp only [beq_iff_eq, beq_eq_false_iff_ne, ne_eq] at *; omega) | (exact hp) | (exact ly_put hp (by omega)) | (exact Nat.ble_eq_true_of_le (by omega)) | (exact bne_self_eq_false _) | (exact hW) | (exact hX) | (exact lkWord_wf _ _ _) | (exact hF _) | (exact cell_wf C0 C1 (by decide)) | (exact put_se hp (lkWord_wf _ _ _) (by assumption) (by omega)) | (exact propB_true rfl) | (exact propB_true (get_put_zero (by assumption))))
        have h5 : (plWfB (a.A0 (Int.toNat 0), a.A1 (Int.toNat 0), a.A2 (Int.toNat 0)) && k.ble 1000000) = true := by (obtain ⟨i0, i1, hn, hk, hF, e0, e1, c0a, c0b, c1a, c1b, c2a, c2b, c4a, c4b, hp, hW, hX, hK, hV, C0, C1, hok⟩ := hM; first | (exact decide_eq_true ⟨Int.le_refl _, of_decide_eq_true h0, Nat.le_refl _⟩) | (exact ly_put (hok.2 _ (by have := of_decide_eq_true h0; omega)).1 (by omega)) | (exact ly_put (by decide) (by omega)) | (exact (hok.2 _ (by have := of_decide_eq_true h0; omega)).1) | (exact put_se (hok.2 _ (by have := of_decide_eq_true h0; omega)).1 (hok.2 _ (by have := of_decide_eq_true h0; omega)).2 (by assumption) (by omega)) | (exact put_se (by decide) (wrap_wf _) (by assumption) (by omega)) | (exact put_se (hok.2 _ (by have := of_decide_eq_true h0; omega)).1 (wrap_wf _) (by assumption) (by omega)) | (simp only [beq_iff_eq, beq_eq_false_iff_ne, ne_eq] at *; omega) | (exact hp) | (exact ly_put hp (by omega)) | (exact Nat.ble_eq_true_of_le (by omega)) | (exact bne_self_eq_false _) | (exact hW) | (exact hX) | (exact lkWord_wf _ _ _) | (exact hF _) | (exact cell_wf C0 C1 (by decide)) | (exact put_se hp (lkWord_wf _ _ _) (by assumption) (by omega)) | (exact propB_true rfl) | (exact propB_true (get_put_zero (by assumption))))
        rcases Bool.eq_false_or_eq_true (IntKind.u64.wrap (↑(BitVec.ofInt IntKind.u64.bits (getL [] F (a.A0 (Int.toNat 0), a.A1 (Int.toNat 0), a.A2 (Int.toNat 0))) ||| BitVec.ofInt IntKind.u64.bits 9223372036854775808).toNat : Int) == 0) with h13 | h13
        · have h9 : (plWfB (a.A0 (Int.toNat 0), a.A1 (Int.toNat 0), a.A2 (Int.toNat 0))) = true := by (obtain ⟨i0, i1, hn, hk, hF, e0, e1, c0a, c0b, c1a, c1b, c2a, c2b, c4a, c4b, hp, hW, hX, hK, hV, C0, C1, hok⟩ := hM; first | (exact decide_eq_true ⟨Int.le_refl _, of_decide_eq_true h0, Nat.le_refl _⟩) | (exact ly_put (hok.2 _ (by have := of_decide_eq_true h0; omega)).1 (by omega)) | (exact ly_put (by decide) (by omega)) | (exact (hok.2 _ (by have := of_decide_eq_true h0; omega)).1) | (exact put_se (hok.2 _ (by have := of_decide_eq_true h0; omega)).1 (hok.2 _ (by have := of_decide_eq_true h0; omega)).2 (by assumption) (by omega)) | (exact put_se (by decide) (wrap_wf _) (by assumption) (by omega)) | (exact put_se (hok.2 _ (by have := of_decide_eq_true h0; omega)).1 (wrap_wf _) (by assumption) (by omega)) | (simp only [beq_iff_eq, beq_eq_false_iff_ne, ne_eq] at *; omega) | (exact hp) | (exact ly_put hp (by omega)) | (exact Nat.ble_eq_true_of_le (by omega)) | (exact bne_self_eq_false _) | (exact hW) | (exact hX) | (exact lkWord_wf _ _ _) | (exact hF _) | (exact cell_wf C0 C1 (by decide)) | (exact put_se hp (lkWord_wf _ _ _) (by assumption) (by omega)) | (exact propB_true rfl) | (exact propB_true (get_put_zero (by assumption))))
          exact Tri.pathR mixed libSE_ok (n := 10000) (k := 10000) (j := 0) (cfg := zCfg) (tgt := 23) (o := [none] ++ [some true, some true] ++ List.replicate 3 (some false) ++ [some true] ++ List.replicate 4 (some false) ++ [some true, some true] ++ [some false] ++ [some true] ++ [some false, some false] ++ List.replicate 3 (some true) ++ [none, none] ++ [some true, some true]) (g' := .go seC.1) (fs' := seC.2) (s' := zS (a) (getL [((a.A0 (Int.toNat 0), a.A1 (Int.toNat 0), a.A2 (Int.toNat 0)), 0)] F) (getL [((a.A0 (Int.toNat 0), a.A1 (Int.toNat 0), a.A2 (Int.toNat 0)), IntKind.u64.wrap (↑(BitVec.ofInt IntKind.u64.bits (getL [] F (a.A0 (Int.toNat 0), a.A1 (Int.toNat 0), a.A2 (Int.toNat 0))) ||| BitVec.ofInt IntKind.u64.bits 9223372036854775808).toNat : Int))] F) (n) (k + 1) (c0) (IntKind.i64.wrap (c1 + 1)) (c2) (c3) (c4) (c0) (IntKind.i64.wrap (c1 + 1)) (c2) (c3) (c4)) (asks := [((plWfB (a.A0 (Int.toNat 0), a.A1 (Int.toNat 0), a.A2 (Int.toNat 0))), true), ((IntKind.u64.wrap (↑(BitVec.ofInt IntKind.u64.bits (getL [] F (a.A0 (Int.toNat 0), a.A1 (Int.toNat 0), a.A2 (Int.toNat 0))) ||| BitVec.ofInt IntKind.u64.bits 9223372036854775808).toNat : Int) == 0), true), ((plWfB (a.A0 (Int.toNat 0), a.A1 (Int.toNat 0), a.A2 (Int.toNat 0)) && k.ble 1000000), true), ((k.ble 1000000), true), ((a.AK (Int.toNat 0) == 3), true), ((a.AK (Int.toNat 0) == 2), false), ((a.AK (Int.toNat 0) == 1), false), ((decide ((0 : Int) ≤ 0 ∧ 0 < (↑a.alen : Int) ∧ a.alen ≤ a.alen)), true), ((a.AK (Int.toNat 0) == 1), false), ((decide ((0 : Int) ≤ 0 ∧ 0 < (↑a.alen : Int) ∧ a.alen ≤ a.alen)), true), ((a.AK (Int.toNat 0) == 3), true), ((a.AK (Int.toNat 0) == 2), false), ((a.AK (Int.toNat 0) == 2), false), ((a.AK (Int.toNat 0) == 2), false), ((a.AK (Int.toNat 0) == 2), false), ((decide ((0 : Int) ≤ 0 ∧ 0 < (↑a.alen : Int) ∧ a.alen ≤ a.alen)), true), ((a.AK (Int.toNat 0) == 2), false), ((a.AK (Int.toNat 0) == 2), false), ((a.AK (Int.toNat 0) == 2), false), ((decide ((0 : Int) ≤ 0 ∧ 0 < (↑a.alen : Int) ∧ a.alen ≤ a.alen)), true), ((decide (0 < (↑a.alen : Int))), true)]) (by kernel_rfl) ⟨h9, h13, h5, h7, h4, h2, h3, h1, h3, h1, h4, h2, h2, h2, h2, h1, h2, h2, h2, h1, h0, trivial⟩ (ze_mid (a) (getL [((a.A0 (Int.toNat 0), a.A1 (Int.toNat 0), a.A2 (Int.toNat 0)), 0)] F) (getL [((a.A0 (Int.toNat 0), a.A1 (Int.toNat 0), a.A2 (Int.toNat 0)), IntKind.u64.wrap (↑(BitVec.ofInt IntKind.u64.bits (getL [] F (a.A0 (Int.toNat 0), a.A1 (Int.toNat 0), a.A2 (Int.toNat 0))) ||| BitVec.ofInt IntKind.u64.bits 9223372036854775808).toNat : Int))] F) (n) (k + 1) (c0) (IntKind.i64.wrap (c1 + 1)) (c2) (c3) (c4) (c0) (IntKind.i64.wrap (c1 + 1)) (c2) (c3) (c4) (by first | rfl | exact get_put_zero (by assumption)) ⟨rfl, rfl, rfl, rfl, rfl⟩ (by (obtain ⟨i0, i1, hn, hk, hF, e0, e1, c0a, c0b, c1a, c1b, c2a, c2b, c4a, c4b, hp, hW, hX, hK, hV, C0, C1, hok⟩ := hM; constructor <;> first | assumption | exact hF | omega | (simp only [wrapI_mod]; omega) | (simp only [wrapI_mod, Int.ofNat_eq_natCast]; omega) | (simp only [Int.ofNat_eq_natCast]; omega) | exact hF.put (lkWord_wf _ _ _) _ | exact hF.put (wrap_wf _) _ | exact hF.put (hok.2 _ (by have := of_decide_eq_true h0; omega)).2 _ | exact lkWord_wf _ _ _ | exact hF _ | exact cell_wf C0 C1 (by decide) | exact hok.1 | exact (lkSlot_le hW).1 | exact (lkSlot_le hW).2 | exact (lkSlot_le hX).1 | exact (lkSlot_le hX).2 | exact (lkSlot_le (lkWord_wf _ _ _)).1 | exact (lkSlot_le (lkWord_wf _ _ _)).2 | decide | (simp only [decide_eq_true_eq, decide_eq_false_iff_not, wrapI_mod] at *; omega))) hr)
        · have h14 : (plWfB (a.A0 (Int.toNat 0), a.A1 (Int.toNat 0), a.A2 (Int.toNat 0)) && (Lit.int IntKind.u64 (IntKind.u64.wrap (↑(BitVec.ofInt IntKind.u64.bits (getL [] F (a.A0 (Int.toNat 0), a.A1 (Int.toNat 0), a.A2 (Int.toNat 0))) ||| BitVec.ofInt IntKind.u64.bits 9223372036854775808).toNat : Int))).wf && IntKind.u64.wrap (↑(BitVec.ofInt IntKind.u64.bits (getL [] F (a.A0 (Int.toNat 0), a.A1 (Int.toNat 0), a.A2 (Int.toNat 0))) ||| BitVec.ofInt IntKind.u64.bits 9223372036854775808).toNat : Int) != 0 && decide (n < maxLen)) = true := by (obtain ⟨i0, i1, hn, hk, hF, e0, e1, c0a, c0b, c1a, c1b, c2a, c2b, c4a, c4b, hp, hW, hX, hK, hV, C0, C1, hok⟩ := hM; first | (exact decide_eq_true ⟨Int.le_refl _, of_decide_eq_true h0, Nat.le_refl _⟩) | (exact ly_put (hok.2 _ (by have := of_decide_eq_true h0; omega)).1 (by omega)) | (exact ly_put (by decide) (by omega)) | (exact (hok.2 _ (by have := of_decide_eq_true h0; omega)).1) | (exact put_se (hok.2 _ (by have := of_decide_eq_true h0; omega)).1 (hok.2 _ (by have := of_decide_eq_true h0; omega)).2 (by assumption) (by omega)) | (exact put_se (by decide) (wrap_wf _) (by assumption) (by omega)) | (exact put_se (hok.2 _ (by have := of_decide_eq_true h0; omega)).1 (wrap_wf _) (by assumption) (by omega)) | (simp only [beq_iff_eq, beq_eq_false_iff_ne, ne_eq] at *; omega) | (exact hp) | (exact ly_put hp (by omega)) | (exact Nat.ble_eq_true_of_le (by omega)) | (exact bne_self_eq_false _) | (exact hW) | (exact hX) | (exact lkWord_wf _ _ _) | (exact hF _) | (exact cell_wf C0 C1 (by decide)) | (exact put_se hp (lkWord_wf _ _ _) (by assumption) (by omega)) | (exact propB_true rfl) | (exact propB_true (get_put_zero (by assumption))))
          exact Tri.pathR mixed libSE_ok (n := 10000) (k := 10000) (j := 0) (cfg := zCfg) (tgt := 23) (o := [none] ++ [some true, some true] ++ List.replicate 3 (some false) ++ [some true] ++ List.replicate 4 (some false) ++ [some true, some true] ++ [some false] ++ [some true] ++ [some false, some false] ++ List.replicate 3 (some true) ++ [none, none] ++ [some false] ++ [some true]) (g' := .go seC.1) (fs' := seC.2) (s' := zS (a) (getL [((a.A0 (Int.toNat 0), a.A1 (Int.toNat 0), a.A2 (Int.toNat 0)), IntKind.u64.wrap (↑(BitVec.ofInt IntKind.u64.bits (getL [] F (a.A0 (Int.toNat 0), a.A1 (Int.toNat 0), a.A2 (Int.toNat 0))) ||| BitVec.ofInt IntKind.u64.bits 9223372036854775808).toNat : Int))] F) (getL [((a.A0 (Int.toNat 0), a.A1 (Int.toNat 0), a.A2 (Int.toNat 0)), IntKind.u64.wrap (↑(BitVec.ofInt IntKind.u64.bits (getL [] F (a.A0 (Int.toNat 0), a.A1 (Int.toNat 0), a.A2 (Int.toNat 0))) ||| BitVec.ofInt IntKind.u64.bits 9223372036854775808).toNat : Int))] F) (n + 1) (k + 1) (c0) (IntKind.i64.wrap (c1 + 1)) (c2) (c3) (c4) (c0) (IntKind.i64.wrap (c1 + 1)) (c2) (c3) (c4)) (asks := [((plWfB (a.A0 (Int.toNat 0), a.A1 (Int.toNat 0), a.A2 (Int.toNat 0)) && (Lit.int IntKind.u64 (IntKind.u64.wrap (↑(BitVec.ofInt IntKind.u64.bits (getL [] F (a.A0 (Int.toNat 0), a.A1 (Int.toNat 0), a.A2 (Int.toNat 0))) ||| BitVec.ofInt IntKind.u64.bits 9223372036854775808).toNat : Int))).wf && IntKind.u64.wrap (↑(BitVec.ofInt IntKind.u64.bits (getL [] F (a.A0 (Int.toNat 0), a.A1 (Int.toNat 0), a.A2 (Int.toNat 0))) ||| BitVec.ofInt IntKind.u64.bits 9223372036854775808).toNat : Int) != 0 && decide (n < maxLen)), true), ((IntKind.u64.wrap (↑(BitVec.ofInt IntKind.u64.bits (getL [] F (a.A0 (Int.toNat 0), a.A1 (Int.toNat 0), a.A2 (Int.toNat 0))) ||| BitVec.ofInt IntKind.u64.bits 9223372036854775808).toNat : Int) == 0), false), ((plWfB (a.A0 (Int.toNat 0), a.A1 (Int.toNat 0), a.A2 (Int.toNat 0)) && k.ble 1000000), true), ((k.ble 1000000), true), ((a.AK (Int.toNat 0) == 3), true), ((a.AK (Int.toNat 0) == 2), false), ((a.AK (Int.toNat 0) == 1), false), ((decide ((0 : Int) ≤ 0 ∧ 0 < (↑a.alen : Int) ∧ a.alen ≤ a.alen)), true), ((a.AK (Int.toNat 0) == 1), false), ((decide ((0 : Int) ≤ 0 ∧ 0 < (↑a.alen : Int) ∧ a.alen ≤ a.alen)), true), ((a.AK (Int.toNat 0) == 3), true), ((a.AK (Int.toNat 0) == 2), false), ((a.AK (Int.toNat 0) == 2), false), ((a.AK (Int.toNat 0) == 2), false), ((a.AK (Int.toNat 0) == 2), false), ((decide ((0 : Int) ≤ 0 ∧ 0 < (↑a.alen : Int) ∧ a.alen ≤ a.alen)), true), ((a.AK (Int.toNat 0) == 2), false), ((a.AK (Int.toNat 0) == 2), false), ((a.AK (Int.toNat 0) == 2), false), ((decide ((0 : Int) ≤ 0 ∧ 0 < (↑a.alen : Int) ∧ a.alen ≤ a.alen)), true), ((decide (0 < (↑a.alen : Int))), true)]) (by kernel_rfl) ⟨h14, h13, h5, h7, h4, h2, h3, h1, h3, h1, h4, h2, h2, h2, h2, h1, h2, h2, h2, h1, h0, trivial⟩ (ze_mid (a) (getL [((a.A0 (Int.toNat 0), a.A1 (Int.toNat 0), a.A2 (Int.toNat 0)), IntKind.u64.wrap (↑(BitVec.ofInt IntKind.u64.bits (getL [] F (a.A0 (Int.toNat 0), a.A1 (Int.toNat 0), a.A2 (Int.toNat 0))) ||| BitVec.ofInt IntKind.u64.bits 9223372036854775808).toNat : Int))] F) (getL [((a.A0 (Int.toNat 0), a.A1 (Int.toNat 0), a.A2 (Int.toNat 0)), IntKind.u64.wrap (↑(BitVec.ofInt IntKind.u64.bits (getL [] F (a.A0 (Int.toNat 0), a.A1 (Int.toNat 0), a.A2 (Int.toNat 0))) ||| BitVec.ofInt IntKind.u64.bits 9223372036854775808).toNat : Int))] F) (n + 1) (k + 1) (c0) (IntKind.i64.wrap (c1 + 1)) (c2) (c3) (c4) (c0) (IntKind.i64.wrap (c1 + 1)) (c2) (c3) (c4) (by first | rfl | exact get_put_zero (by assumption)) ⟨rfl, rfl, rfl, rfl, rfl⟩ (by (obtain ⟨i0, i1, hn, hk, hF, e0, e1, c0a, c0b, c1a, c1b, c2a, c2b, c4a, c4b, hp, hW, hX, hK, hV, C0, C1, hok⟩ := hM; constructor <;> first | assumption | exact hF | omega | (simp only [wrapI_mod]; omega) | (simp only [wrapI_mod, Int.ofNat_eq_natCast]; omega) | (simp only [Int.ofNat_eq_natCast]; omega) | exact hF.put (lkWord_wf _ _ _) _ | exact hF.put (wrap_wf _) _ | exact hF.put (hok.2 _ (by have := of_decide_eq_true h0; omega)).2 _ | exact lkWord_wf _ _ _ | exact hF _ | exact cell_wf C0 C1 (by decide) | exact hok.1 | exact (lkSlot_le hW).1 | exact (lkSlot_le hW).2 | exact (lkSlot_le hX).1 | exact (lkSlot_le hX).2 | exact (lkSlot_le (lkWord_wf _ _ _)).1 | exact (lkSlot_le (lkWord_wf _ _ _)).2 | decide | (simp only [decide_eq_true_eq, decide_eq_false_iff_not, wrapI_mod] at *; omega))) hr)
      · rcases Bool.eq_false_or_eq_true (a.AK (Int.toNat 0) == 1) with h3 | h3
        · have h7 : (k.ble 1000000) = true := by (obtain ⟨i0, i1, hn, hk, hF, e0, e1, c0a, c0b, c1a, c1b, c2a, c2b, c4a, c4b, hp, hW, hX, hK, hV, C0, C1, hok⟩ := hM; first | (exact decide_eq_true ⟨Int.le_refl _, of_decide_eq_true h0, Nat.le_refl _⟩) | (exact ly_put (hok.2 _ (by have := of_decide_eq_true h0; omega)).1 (by omega)) | (exact ly_put (by decide) (by omega)) | (exact (hok.2 _ (by have := of_decide_eq_true h0; omega)).1) | (exact put_se (hok.2 _ (by have := of_decide_eq_true h0; omega)).1 (hok.2 _ (by have := of_decide_eq_true h0; omega)).2 (by assumption) (by omega)) | (exact put_se (by decide) (wrap_wf _) (by assumption) (by omega)) | (exact put_se (hok.2 _ (by have := of_decide_eq_true h0; omega)).1 (wrap_wf _) (by assumption) (by omega)) | (simp only [beq_iff_eq, beq_eq_false_iff_ne, ne_eq] at *; omega) | (exact hp) | (exact ly_put hp (by omega)) | (exact Nat.ble_eq_true_of_le (by omega)) | (exact bne_self_eq_false _) | (exact hW) | (exact hX) | (exact lkWord_wf _ _ _) | (exact hF _) | (exact cell_wf C0 C1 (by decide)) | (exact put_se hp (lkWord_wf _ _ _) (by assumption) (by omega)) | (exact propB_true rfl) | (exact propB_true (get_put_zero (by assumption))))
          have h8 : (plWfB (1, 0, 0) && k.ble 1000000) = true := by (obtain ⟨i0, i1, hn, hk, hF, e0, e1, c0a, c0b, c1a, c1b, c2a, c2b, c4a, c4b, hp, hW, hX, hK, hV, C0, C1, hok⟩ := hM; first | (exact decide_eq_true ⟨Int.le_refl _, of_decide_eq_true h0, Nat.le_refl _⟩) | (exact ly_put (hok.2 _ (by have := of_decide_eq_true h0; omega)).1 (by omega)) | (exact ly_put (by decide) (by omega)) | (exact (hok.2 _ (by have := of_decide_eq_true h0; omega)).1) | (exact put_se (hok.2 _ (by have := of_decide_eq_true h0; omega)).1 (hok.2 _ (by have := of_decide_eq_true h0; omega)).2 (by assumption) (by omega)) | (exact put_se (by decide) (wrap_wf _) (by assumption) (by omega)) | (exact put_se (hok.2 _ (by have := of_decide_eq_true h0; omega)).1 (wrap_wf _) (by assumption) (by omega)) | (simp only [beq_iff_eq, beq_eq_false_iff_ne, ne_eq] at *; omega) | (exact hp) | (exact ly_put hp (by omega)) | (exact Nat.ble_eq_true_of_le (by omega)) | (exact bne_self_eq_false _) | (exact hW) | (exact hX) | (exact lkWord_wf _ _ _) | (exact hF _) | (exact cell_wf C0 C1 (by decide)) | (exact put_se hp (lkWord_wf _ _ _) (by assumption) (by omega)) | (exact propB_true rfl) | (exact propB_true (get_put_zero (by assumption))))
          rcases Bool.eq_false_or_eq_true (IntKind.u64.wrap (getL [] F (1, 0, 0) + 1) == 0) with h11 | h11
          · exact Tri.pathR mixed libSE_ok (n := 10000) (k := 10000) (j := 0) (cfg := zCfg) (tgt := 23) (o := [none] ++ [some true, some true] ++ List.replicate 3 (some false) ++ [some true] ++ List.replicate 5 (some false) ++ List.replicate 6 (some true) ++ [none, none] ++ [some true]) (g' := .go seC.1) (fs' := seC.2) (s' := zS (a) (getL [((1, 0, 0), 0)] F) (getL [((1, 0, 0), IntKind.u64.wrap (getL [] F (1, 0, 0) + 1))] F) (n) (k + 1) (c0) (IntKind.i64.wrap (c1 + 1)) (c2) (c3) (c4) (c0) (IntKind.i64.wrap (c1 + 1)) (c2) (c3) (c4)) (asks := [((IntKind.u64.wrap (getL [] F (1, 0, 0) + 1) == 0), true), ((plWfB (1, 0, 0) && k.ble 1000000), true), ((k.ble 1000000), true), ((a.AK (Int.toNat 0) == 1), true), ((decide ((0 : Int) ≤ 0 ∧ 0 < (↑a.alen : Int) ∧ a.alen ≤ a.alen)), true), ((a.AK (Int.toNat 0) == 1), true), ((decide ((0 : Int) ≤ 0 ∧ 0 < (↑a.alen : Int) ∧ a.alen ≤ a.alen)), true), ((a.AK (Int.toNat 0) == 3), false), ((a.AK (Int.toNat 0) == 2), false), ((a.AK (Int.toNat 0) == 2), false), ((a.AK (Int.toNat 0) == 2), false), ((a.AK (Int.toNat 0) == 2), false), ((decide ((0 : Int) ≤ 0 ∧ 0 < (↑a.alen : Int) ∧ a.alen ≤ a.alen)), true), ((a.AK (Int.toNat 0) == 2), false), ((a.AK (Int.toNat 0) == 2), false), ((a.AK (Int.toNat 0) == 2), false), ((decide ((0 : Int) ≤ 0 ∧ 0 < (↑a.alen : Int) ∧ a.alen ≤ a.alen)), true), ((decide (0 < (↑a.alen : Int))), true)]) (by kernel_rfl) ⟨h11, h8, h7, h3, h1, h3, h1, h4, h2, h2, h2, h2, h1, h2, h2, h2, h1, h0, trivial⟩ (ze_mid (a) (getL [((1, 0, 0), 0)] F) (getL [((1, 0, 0), IntKind.u64.wrap (getL [] F (1, 0, 0) + 1))] F) (n) (k + 1) (c0) (IntKind.i64.wrap (c1 + 1)) (c2) (c3) (c4) (c0) (IntKind.i64.wrap (c1 + 1)) (c2) (c3) (c4) (by first | rfl | exact get_put_zero (by assumption)) ⟨rfl, rfl, rfl, rfl, rfl⟩ (by (obtain ⟨i0, i1, hn, hk, hF, e0, e1, c0a, c0b, c1a, c1b, c2a, c2b, c4a, c4b, hp, hW, hX, hK, hV, C0, C1, hok⟩ := hM; constructor <;> first | assumption | exact hF | omega | (simp only [wrapI_mod]; omega) | (simp only [wrapI_mod, Int.ofNat_eq_natCast]; omega) | (simp only [Int.ofNat_eq_natCast]; omega) | exact hF.put (lkWord_wf _ _ _) _ | exact hF.put (wrap_wf _) _ | exact hF.put (hok.2 _ (by have := of_decide_eq_true h0; omega)).2 _ | exact lkWord_wf _ _ _ | exact hF _ | exact cell_wf C0 C1 (by decide) | exact hok.1 | exact (lkSlot_le hW).1 | exact (lkSlot_le hW).2 | exact (lkSlot_le hX).1 | exact (lkSlot_le hX).2 | exact (lkSlot_le (lkWord_wf _ _ _)).1 | exact (lkSlot_le (lkWord_wf _ _ _)).2 | decide | (simp only [decide_eq_true_eq, decide_eq_false_iff_not, wrapI_mod] at *; omega))) hr)
          · have h12 : (plWfB (1, 0, 0) && (Lit.int IntKind.u64 (IntKind.u64.wrap (getL [] F (1, 0, 0) + 1))).wf && IntKind.u64.wrap (getL [] F (1, 0, 0) + 1) != 0 && decide (n < maxLen)) = true := by (obtain ⟨i0, i1, hn, hk, hF, e0, e1, c0a, c0b, c1a, c1b, c2a, c2b, c4a, c4b, hp, hW, hX, hK, hV, C0, C1, hok⟩ := hM; first | (exact decide_eq_true ⟨Int.le_refl _, of_decide_eq_true h0, Nat.le_refl _⟩) | (exact ly_put (hok.2 _ (by have := of_decide_eq_true h0; omega)).1 (by omega)) | (exact ly_put (by decide) (by omega)) | (exact (hok.2 _ (by have := of_decide_eq_true h0; omega)).1) | (exact put_se (hok.2 _ (by have := of_decide_eq_true h0; omega)).1 (hok.2 _ (by have := of_decide_eq_true h0; omega)).2 (by assumption) (by omega)) | (exact put_se (by decide) (wrap_wf _) (by assumption) (by omega)) | (exact put_se (hok.2 _ (by have := of_decide_eq_true h0; omega)).1 (wrap_wf _) (by assumption) (by omega)) | (simp only [beq_iff_eq, beq_eq_false_iff_ne, ne_eq] at *; omega) | (exact hp) | (exact ly_put hp (by omega)) | (exact Nat.ble_eq_true_of_le (by omega)) | (exact bne_self_eq_false _) | (exact hW) | (exact hX) | (exact lkWord_wf _ _ _) | (exact hF _) | (exact cell_wf C0 C1 (by decide)) | (exact put_se hp (lkWord_wf _ _ _) (by assumption) (by omega)) | (exact propB_true rfl) | (exact propB_true (get_put_zero (by assumption))))
            exact Tri.pathR mixed libSE_ok (n := 10000) (k := 10000) (j := 0) (cfg := zCfg) (tgt := 23) (o := [none] ++ [some true, some true] ++ List.replicate 3 (some false) ++ [some true] ++ List.replicate 5 (some false) ++ List.replicate 6 (some true) ++ [none, none] ++ [some false] ++ [some true]) (g' := .go seC.1) (fs' := seC.2) (s' := zS (a) (getL [((1, 0, 0), IntKind.u64.wrap (getL [] F (1, 0, 0) + 1))] F) (getL [((1, 0, 0), IntKind.u64.wrap (getL [] F (1, 0, 0) + 1))] F) (n + 1) (k + 1) (c0) (IntKind.i64.wrap (c1 + 1)) (c2) (c3) (c4) (c0) (IntKind.i64.wrap (c1 + 1)) (c2) (c3) (c4)) (asks := [((plWfB (1, 0, 0) && (Lit.int IntKind.u64 (IntKind.u64.wrap (getL [] F (1, 0, 0) + 1))).wf && IntKind.u64.wrap (getL [] F (1, 0, 0) + 1) != 0 && decide (n < maxLen)), true), ((IntKind.u64.wrap (getL [] F (1, 0, 0) + 1) == 0), false), ((plWfB (1, 0, 0) && k.ble 1000000), true), ((k.ble 1000000), true), ((a.AK (Int.toNat 0) == 1), true), ((decide ((0 : Int) ≤ 0 ∧ 0 < (↑a.alen : Int) ∧ a.alen ≤ a.alen)), true), ((a.AK (Int.toNat 0) == 1), true), ((decide ((0 : Int) ≤ 0 ∧ 0 < (↑a.alen : Int) ∧ a.alen ≤ a.alen)), true), ((a.AK (Int.toNat 0) == 3), false), ((a.AK (Int.toNat 0) == 2), false), ((a.AK (Int.toNat 0) == 2), false), ((a.AK (Int.toNat 0) == 2), false), ((a.AK (Int.toNat 0) == 2), false), ((decide ((0 : Int) ≤ 0 ∧ 0 < (↑a.alen : Int) ∧ a.alen ≤ a.alen)), true), ((a.AK (Int.toNat 0) == 2), false), ((a.AK (Int.toNat 0) == 2), false), ((a.AK (Int.toNat 0) == 2), false), ((decide ((0 : Int) ≤ 0 ∧ 0 < (↑a.alen : Int) ∧ a.alen ≤ a.alen)), true), ((decide (0 < (↑a.alen : Int))), true)]) (by kernel_rfl) ⟨h12, h11, h8, h7, h3, h1, h3, h1, h4, h2, h2, h2, h2, h1, h2, h2, h2, h1, h0, trivial⟩ (ze_mid (a) (getL [((1, 0, 0), IntKind.u64.wrap (getL [] F (1, 0, 0) + 1))] F) (getL [((1, 0, 0), IntKind.u64.wrap (getL [] F (1, 0, 0) + 1))] F) (n + 1) (k + 1) (c0) (IntKind.i64.wrap (c1 + 1)) (c2) (c3) (c4) (c0) (IntKind.i64.wrap (c1 + 1)) (c2) (c3) (c4) (by first | rfl | exact get_put_zero (by assumption)) ⟨rfl, rfl, rfl, rfl, rfl⟩ (by (obtain ⟨i0, i1, hn, hk, hF, e0, e1, c0a, c0b, c1a, c1b, c2a, c2b, c4a, c4b, hp, hW, hX, hK, hV, C0, C1, hok⟩ := hM; constructor <;> first | assumption | exact hF | omega | (simp only [wrapI_mod]; omega) | (simp only [wrapI_mod, Int.ofNat_eq_natCast]; omega) | (simp only [Int.ofNat_eq_natCast]; omega) | exact hF.put (lkWord_wf _ _ _) _ | exact hF.put (wrap_wf _) _ | exact hF.put (hok.2 _ (by have := of_decide_eq_true h0; omega)).2 _ | exact lkWord_wf _ _ _ | exact hF _ | exact cell_wf C0 C1 (by decide) | exact hok.1 | exact (lkSlot_le hW).1 | exact (lkSlot_le hW).2 | exact (lkSlot_le hX).1 | exact (lkSlot_le hX).2 | exact (lkSlot_le (lkWord_wf _ _ _)).1 | exact (lkSlot_le (lkWord_wf _ _ _)).2 | decide | (simp only [decide_eq_true_eq, decide_eq_false_iff_not, wrapI_mod] at *; omega))) hr)
        · exact Tri.pathR mixed libSE_ok (n := 10000) (k := 10000) (j := 0) (cfg := zCfg) (tgt := 23) (o := [none] ++ [some true, some true] ++ List.replicate 3 (some false) ++ [some true] ++ List.replicate 5 (some false) ++ [some true] ++ [some false] ++ [some true] ++ List.replicate 3 (some false)) (g' := .go seC.1) (fs' := seC.2) (s' := zS (a) (getL [] F) (getL [] F) (n) (k) (c0) (c1) (c2) (c3) (c4) (c0) (c1) (c2) (c3) (c4)) (asks := [((a.AK (Int.toNat 0) == 3), false), ((a.AK (Int.toNat 0) == 2), false), ((a.AK (Int.toNat 0) == 1), false), ((decide ((0 : Int) ≤ 0 ∧ 0 < (↑a.alen : Int) ∧ a.alen ≤ a.alen)), true), ((a.AK (Int.toNat 0) == 1), false), ((decide ((0 : Int) ≤ 0 ∧ 0 < (↑a.alen : Int) ∧ a.alen ≤ a.alen)), true), ((a.AK (Int.toNat 0) == 3), false), ((a.AK (Int.toNat 0) == 2), false), ((a.AK (Int.toNat 0) == 2), false), ((a.AK (Int.toNat 0) == 2), false), ((a.AK (Int.toNat 0) == 2), false), ((decide ((0 : Int) ≤ 0 ∧ 0 < (↑a.alen : Int) ∧ a.alen ≤ a.alen)), true), ((a.AK (Int.toNat 0) == 2), false), ((a.AK (Int.toNat 0) == 2), false), ((a.AK (Int.toNat 0) == 2), false), ((decide ((0 : Int) ≤ 0 ∧ 0 < (↑a.alen : Int) ∧ a.alen ≤ a.alen)), true), ((decide (0 < (↑a.alen : Int))), true)]) (by kernel_rfl) ⟨h4, h2, h3, h1, h3, h1, h4, h2, h2, h2, h2, h1, h2, h2, h2, h1, h0, trivial⟩ (ze_mid (a) (getL [] F) (getL [] F) (n) (k) (c0) (c1) (c2) (c3) (c4) (c0) (c1) (c2) (c3) (c4) (by first | rfl | exact get_put_zero (by assumption)) ⟨rfl, rfl, rfl, rfl, rfl⟩ (by (obtain ⟨i0, i1, hn, hk, hF, e0, e1, c0a, c0b, c1a, c1b, c2a, c2b, c4a, c4b, hp, hW, hX, hK, hV, C0, C1, hok⟩ := hM; constructor <;> first | assumption | exact hF | omega | (simp only [wrapI_mod]; omega) | (simp only [wrapI_mod, Int.ofNat_eq_natCast]; omega) | (simp only [Int.ofNat_eq_natCast]; omega) | exact hF.put (lkWord_wf _ _ _) _ | exact hF.put (wrap_wf _) _ | exact hF.put (hok.2 _ (by have := of_decide_eq_true h0; omega)).2 _ | exact lkWord_wf _ _ _ | exact hF _ | exact cell_wf C0 C1 (by decide) | exact hok.1 | exact (lkSlot_le hW).1 | exact (lkSlot_le hW).2 | exact (lkSlot_le hX).1 | exact (lkSlot_le hX).2 | exact (lkSlot_le (lkWord_wf _ _ _)).1 | exact (lkSlot_le (lkWord_wf _ _ _)).2 | decide | (simp only [decide_eq_true_eq, decide_eq_false_iff_not, wrapI_mod] at *; omega))) hr)
  · exact Tri.pathR mixed libSE_ok (n := 10000) (k := 10000) (j := 0) (cfg := zCfg) (tgt := 23) (o := [none] ++ [some false]) (g' := .go seC.1) (fs' := seC.2) (s' := zS (a) (getL [] F) (getL [] F) (n) (k) (c0) (c1) (c2) (c3) (c4) (c0) (c1) (c2) (c3) (c4)) (asks := [((decide (0 < (↑a.alen : Int))), false)]) (by kernel_rfl) ⟨h0, trivial⟩ (ze_mid (a) (getL [] F) (getL [] F) (n) (k) (c0) (c1) (c2) (c3) (c4) (c0) (c1) (c2) (c3) (c4) (by first | rfl | exact get_put_zero (by assumption)) ⟨rfl, rfl, rfl, rfl, rfl⟩ (by (obtain ⟨i0, i1, hn, hk, hF, e0, e1, c0a, c0b, c1a, c1b, c2a, c2b, c4a, c4b, hp, hW, hX, hK, hV, C0, C1, hok⟩ := hM; constructor <;> first | assumption | exact hF | omega | (simp only [wrapI_mod]; omega) | (simp only [wrapI_mod, Int.ofNat_eq_natCast]; omega) | (simp only [Int.ofNat_eq_natCast]; omega) | exact hF.put (lkWord_wf _ _ _) _ | exact hF.put (wrap_wf _) _ | exact hF.put (hok.2 _ (by have := of_decide_eq_true h0; omega)).2 _ | exact lkWord_wf _ _ _ | exact hF _ | exact cell_wf C0 C1 (by decide) | exact hok.1 | exact (lkSlot_le hW).1 | exact (lkSlot_le hW).2 | exact (lkSlot_le hX).1 | exact (lkSlot_le hX).2 | exact (lkSlot_le (lkWord_wf _ _ _)).1 | exact (lkSlot_le (lkWord_wf _ _ _)).2 | decide | (simp only [decide_eq_true_eq, decide_eq_false_iff_not, wrapI_mod] at *; omega))) hr)
theorem ze_loop (a : SEA) (F : Pl → Int) (n k : Nat) (c0 c1 c2 c3 c4 : Int) (hM : SEP a 0 0 0 F n k c0 c1 c2 c3 c4 4 0 a.root 0 0 0 0 0) : Tri repAt Tryz.prog seZ 0 (.go (.loop seL.1)) seL.2 (zS a F F n k c0 c1 c2 c3 c4 c0 c1 c2 c3 c4) seQ := by
  refine Tri.loop (I := fun r s => seI a r s ∨ (r = 300 ∧ s = zS a F F n k c0 c1 c2 c3 c4 c0 c1 c2 c3 c4)) (fun r s h => ?_) (k := 300) (.inr ⟨rfl, rfl⟩)
  have key : Tri repAt Tryz.prog seZ 0 (.go seL.1) [] s (seR a r) := by
    rcases h with ⟨i, on, E, rolls, G, F, n, k, c0, c1, c2, c3, c4, d0, d1, d2, d3, d4, a0, a1, a2, p, P, W, X, KW, VW, C, D, fd, fr, rfl, hP, hk⟩ | ⟨rfl, rfl⟩
    · exact se_round a _ _ _ _ _ _ _ _ _ _ _ _ _ _ _ _ _ _ _ _ _ _ _ _ _ _ _ _ _ _ _ hP hk
    · exact ze_dis a F n k c0 c1 c2 c3 c4 hM rfl
  refine key.mono fun x s' hx => ?_
  cases x with
  | nor =>
    obtain ⟨k', h1, h2⟩ := hx
    exact ⟨k', h1, .inl h2⟩
  | ret => exact hx
  | out i => exact hx
theorem se_start (b : SEB) (hb : b.ok) : Tri repAt Tryz.prog seZ 0 (.go (bodyOf Tryz.prog seF)) [] ⟨argsE [.tsl 0 b.len, iv b.rt, uv b.key, .v (.bool b.vals), .tsl 1 b.alen], [(0, .rep (.tab [.int .i64 b.S, .int .u64 b.K, .int .u64 b.V, .bool b.M] b.len)), (1, .rep (.tab [.int .i64 b.AK, .int .i64 b.A0, .int .i64 b.A1, .int .i64 b.A2, .int .u64 b.AW] b.alen))], 2⟩ seQ := by
  have h0 : Nat.beq b.len b.len = true := Nat.beq_refl _
  have h1 : Nat.beq b.nd.out.length b.nd.out.length = true := Nat.beq_refl _
  have h2 : propB (LYA.ok b.ly) = true := propB_true b.ly_ok
  have hl := b.nd.out_ok.1
  have h3 : propB (LDA.ok ⟨getL [] b.ly.fin, 0 + 2 + 3 * b.nd.out.length⟩) = true := propB_true ⟨SEB.fin_wf hb, by show 0 + 2 + 3 * b.nd.out.length ≤ 1000000; omega⟩
  refine Tri.pathG mixed libSE_ok (n := 10000) (k := 10000) (j := 0) (cfg := zCfg0) (o := [none] ++ List.replicate 4 (some true)) (g' := .go (.loop seL.1)) (fs' := seL.2) (s' := zS b.a b.ly.fin b.ly.fin (placesOf (getL [] b.ly.fin)).length (0 + 2 + 3 * b.nd.out.length) 0 ((placesOf (getL [] b.ly.fin)).length : Nat) 0 0 0 0 ((placesOf (getL [] b.ly.fin)).length : Nat) 0 0 0)
    (asks := [(propB (LDA.ok ⟨getL [] b.ly.fin, 0 + 2 + 3 * b.nd.out.length⟩), true), (propB (LYA.ok b.ly), true), (Nat.beq b.nd.out.length b.nd.out.length, true), (Nat.beq b.len b.len, true)]) (by kernel_rfl) ⟨h3, h2, h1, h0, trivial⟩ ?_
  refine Tri.know (φ := IsPlaces (getL [] b.ly.fin) (placesOf (getL [] b.ly.fin)) ∧ (placesOf (getL [] b.ly.fin)).length ≤ 0 + 2 + 3 * b.nd.out.length) (fun B ρ own w hs => stand_fin (k := 0) hs rfl) (fun hf => ?_)
  have hn := hf.2
  exact ze_loop b.a b.ly.fin _ _ _ _ _ _ _ ⟨by decide, by decide, by omega, by omega, SEB.fin_wf hb, by decide, by decide, by decide, by decide, by omega, by omega, by decide, by decide, by decide, by decide, pl_wf (by decide) (by decide) (wrapI_wf _), by decide, by decide, by decide, by decide, by decide, by decide, ⟨pl_wf (by decide) (by decide) (wrapI_wf _), hb.2⟩⟩
end Go.Proofs.YtpaiejeipghehaaGreat
end
section
/- How the arguments of these rows stand in memory: a slice of structs of three cells, and of entries and deeds. No condition. -/
namespace Go.Proofs.YtpaiejeipghehaaGreat
open Go.RowKit Go.WideShapes Go.ChangeShapes Go.Deep

theorem exists_list {α : Type} {n : Nat} {R : Nat → α → Prop} (h : ∀ i, i < n → ∃ a, R i a) : ∃ l : List α, l.length = n ∧ ∀ i a, l[i]? = some a → R i a := by
  induction n with
  | zero => exact ⟨[], rfl, fun i a h => by simp at h⟩
  | succ n ih =>
    obtain ⟨l, hl, hg⟩ := ih (fun i hi => h i (by omega))
    obtain ⟨a, ha⟩ := h n (by omega)
    refine ⟨l ++ [a], by simp [hl], fun i b hb => ?_⟩
    rcases Nat.lt_or_ge i n with h1 | h1
    · exact hg i b (by rwa [List.getElem?_append_left (by omega)] at hb)
    · rw [List.getElem?_append_right (by omega)] at hb
      have h2 : i - l.length < 1 := by
        have := (List.getElem?_eq_some_iff.1 hb).1
        simpa using this
      have h3 : i = n := by omega
      subst h3
      rw [hl, Nat.sub_self] at hb
      simp at hb
      exact hb ▸ ha

section
variable {H : Type} {enc : TypeId × Value → H} {P : Program} {w : World} {base : Nat} {spare : Nat → Bool} {held : Bool}

/-- A slice whose elements are of a known form: where it lies, and what it holds. -/
theorem rd_slice {α : Type} {cells : α → List Value} {C : Nat} (hcl : ∀ a, (cells a).length = C) (hC0 : 0 < C) {t e : TypeId} {fuel : Nat} {cs : List Value} {x : DataW H × List MemPlace} (G : α → Prop)
    (ht : P.underlying t = some (.slice e)) (hC : P.cellsOf e = C) (one : ∀ n cs d, DataW.trod enc P w base spare held n e cs = some d → ∃ a : α, cs = cells a ∧ G a)
    (h : DataW.trod enc P w base spare held fuel t cs = some x) :
    ∃ (A : Option Addr) (cap b o : Nat) (xs : List α), cs = [.slice A xs.length cap] ∧ xs.length ≤ maxLen ∧ Rd w b o A (flat cells xs) ∧ ∀ a ∈ xs, G a := by
  rcases open_slice ht h with ⟨rfl, _⟩ | ⟨a, len, cap, m, n, D, Pl, rfl, _, hl, hm, hmm, _, hi⟩
  · exact ⟨none, 0, 0, 0, [], rfl, Nat.zero_le _, (fun j u hj => by simp [flat] at hj), fun a ha => by cases ha⟩
  · have hle : len ≤ m := by rw [hmm]; split <;> omega
    obtain ⟨xs, hxl, hx⟩ := exists_list (n := len) (R := fun i y => w.cells? base (a.add (i * C)) C = some (cells y) ∧ G y) (fun i hil => by
      obtain ⟨cs', h1, h2⟩ := hi i (by omega)
      obtain ⟨y, rfl, hg⟩ := one _ _ _ h2
      rw [hC] at h1
      exact ⟨y, h1, hg⟩)
    obtain ⟨ab, ao, asp⟩ := a
    have hspot : xs ≠ [] → asp = none := fun hne => by
      obtain ⟨y, l, rfl⟩ := List.exists_cons_of_ne_nil hne
      have h1 := (World.cells?_some (hx 0 y rfl).1).2.2 0 hC0
      obtain ⟨u, hu⟩ : ∃ u, (cells y)[0]? = some u := ⟨_, List.getElem?_eq_getElem (by rw [hcl]; exact hC0)⟩
      rw [hu, Nat.zero_mul] at h1
      exact World.cell?_spot (a := ⟨ab, ao, asp⟩) (by simpa [Addr.add] using h1)
    have hcell : ∀ i y j, xs[i]? = some y → j < C → w.cell? ⟨ab, ao + (i * C + j), none⟩ = (cells y)[j]? := fun i y j hy hj => by
      have h1 := (World.cells?_some (hx i y hy).1).2.2 j hj
      obtain rfl := hspot (fun e => by rw [e] at hy; simp at hy)
      rw [← h1]
      congr 1
      by_cases h2 : i * C = 0 <;> by_cases h3 : j = 0 <;> simp [Addr.add, h2, h3, Nat.add_assoc]
    refine ⟨some ⟨ab, ao, asp⟩, cap, ab, ao, xs, by rw [hxl], by omega, fun j u hj => ?_, fun y hy => ?_⟩
    · have hjl : j < (flat cells xs).length := (List.getElem?_eq_some_iff.1 hj).1
      rw [flat_length hcl] at hjl
      have hd : j / C < xs.length := Nat.div_lt_of_lt_mul (by rwa [Nat.mul_comm] at hjl)
      have hr : j % C < C := Nat.mod_lt _ hC0
      have hjj : j = j / C * C + j % C := by rw [Nat.mul_comm]; exact (Nat.div_add_mod j C).symm
      obtain ⟨y, hy⟩ : ∃ y, xs[j / C]? = some y := ⟨_, List.getElem?_eq_getElem hd⟩
      have hc := hcell _ y _ hy hr
      have hf := flat_get hcl xs (j / C) (j % C) hr
      rw [← hjj, hj, hy] at hf
      rw [← hjj] at hc
      obtain rfl := hspot (fun e => by rw [e] at hy; simp at hy)
      refine ⟨rfl, ?_⟩
      rw [hc]
      simpa using hf.symm
    · obtain ⟨i, hil, he⟩ := List.getElem_of_mem hy
      exact (hx i y (by rw [← he]; exact List.getElem?_eq_getElem hil)).2

/-- The outer form of a slice, its cells known. -/
theorem slice_of_cells {r : Reach} {b0 : Nat} {t e : TypeId} {v : Value} {A : Option Addr} {n c : Nat} (ht : P.underlying t = some (.slice e)) (hval : Value.okWide P w r b0 t v) (hc : v.cells.toList = [.slice A n c]) : v = .slice A n c := by
  obtain ⟨A', n', c', rfl⟩ := okWide_slice ht hval
  simpa [Value.cells] using hc
end
end Go.Proofs.YtpaiejeipghehaaGreat
end
section
/- Arguments without pointers: their cells by kind. No condition. -/
namespace Go.Proofs.YtpaiejeipghehaaGreat
open Go.ChangeShapes Go.WideShapes Go.ChangeAt Go.RowKit Go.Deep

inductive Leaf where
  | int (k : IntKind)
  | bool
  | str
def LeafOK : Leaf → Value → Prop
  | .int k, v => ∃ z : Int, v = .int k z ∧ (Lit.int k z).wf = true
  | .bool, v => ∃ b : Bool, v = .bool b
  | .str, v => ∃ s : ByteArray, v = .string s ∧ s.size ≤ maxLen
def leavesF (P : Program) (g : TypeId → Option (List Leaf)) : List Field → Nat → Option (List Leaf)
  | [], _ => some []
  | f :: fs, off => match Nat.beq f.offset off, g f.type with
    | true, some l => match Nat.beq l.length (P.cellsOf f.type) with
      | true => (leavesF P g fs (off + l.length)).map fun r => l ++ r
      | false => none
    | _, _ => none
def leaves (P : Program) : Nat → TypeId → Option (List Leaf)
  | 0, _ => none
  | d + 1, t => match P.underlying t with
    | some .bool => some [.bool]
    | some (.int k) => some [.int k]
    | some .string => some [.str]
    | some (.struct fs) => match leavesF P (leaves P d) fs.toList 0 with
      | some l => match Nat.beq l.length (P.cellsOf t) with
        | true => some l
        | false => none
      | none => none
    | _ => none

theorem Two.append {α β : Type} {R : α → β → Prop} : ∀ {a b : List α} {c d : List β}, Two R a c → Two R b d → Two R (a ++ b) (c ++ d)
  | _, _, _, _, .nil, h => h
  | _, _, _, _, .cons h t, k => .cons h (t.append k)
theorem Two.length {α β : Type} {R : α → β → Prop} : ∀ {a : List α} {b : List β}, Two R a b → a.length = b.length
  | _, _, .nil => rfl
  | _, _, .cons _ t => by simp [t.length]

section
variable {H : Type} {enc : TypeId × Value → H} {P : Program} {w : World} {base : Nat} {spare : Nat → Bool} {held : Bool}
theorem leavesF_trod {g : TypeId → Option (List Leaf)} {m : Nat} {cs : List Value} (hg : ∀ t ls n cs x, g t = some ls → DataW.trod enc P w base spare held n t cs = some x → Two LeafOK ls cs) :
    ∀ {fs : List Field} {off : Nat} {ls : List Leaf}, leavesF P g fs off = some ls → (∀ f ∈ fs, ∃ x, DataW.trod enc P w base spare held m f.type ((cs.drop f.offset).take (P.cellsOf f.type)) = some x) → Two LeafOK ls ((cs.drop off).take ls.length)
  | [], off, ls, h, _ => by
    simp only [leavesF, Option.some.injEq] at h
    subst h
    simpa using Two.nil
  | f :: fs, off, ls, h, hx => by
    simp only [leavesF] at h
    split at h <;> try cases h
    next l ho hl =>
    split at h <;> try cases h
    next hlen =>
    simp only [Option.map_eq_some_iff] at h
    obtain ⟨r, hr, rfl⟩ := h
    have ho := Nat.eq_of_beq_eq_true ho
    have hlen := Nat.eq_of_beq_eq_true hlen
    obtain ⟨x, h1⟩ := hx f (List.mem_cons_self ..)
    have h2 := hg _ _ _ _ _ hl h1
    have h3 := leavesF_trod hg hr (fun f hf => hx f (List.mem_cons_of_mem _ hf))
    rw [← hlen, ho] at h2
    rw [List.length_append, List.take_add, List.drop_drop]
    exact h2.append h3
theorem leaves_trod : ∀ {d : Nat} {t : TypeId} {ls : List Leaf} {n : Nat} {cs : List Value} {x : DataW H × List MemPlace}, leaves P d t = some ls → DataW.trod enc P w base spare held n t cs = some x → Two LeafOK ls cs
  | 0, _, _, _, _, _, h, _ => by simp [leaves] at h
  | d + 1, t, ls, n, cs, x, h, hx => by
    simp only [leaves] at h
    split at h
    · next hu =>
      injection h with h
      subst h
      obtain ⟨b, rfl, _⟩ := DataW.trod_bool hu hx
      exact .cons ⟨b, rfl⟩ .nil
    · next k hu =>
      injection h with h
      subst h
      obtain ⟨z, rfl, _, hw⟩ := DataW.trod_int hu hx
      exact .cons ⟨z, rfl, hw⟩ .nil
    · next hu =>
      injection h with h
      subst h
      obtain ⟨s, rfl, _, hs⟩ := DataW.trod_string hu hx
      exact .cons ⟨s, rfl, hs⟩ .nil
    · next fs hu =>
      split at h <;> try cases h
      next l hl =>
      split at h <;> cases h
      next hlen =>
      have hlen := Nat.eq_of_beq_eq_true hlen
      obtain ⟨xs, m, _, _, hcl, hxl, hf⟩ := DataW.trod_struct hu hx
      have h3 := leavesF_trod (enc := enc) (w := w) (base := base) (spare := spare) (held := held) (cs := cs) (m := m) (fun t ls n cs x h1 h2 => leaves_trod h1 h2) hl (fun f hfm => by
        obtain ⟨i, hi, he⟩ := List.getElem_of_mem hfm
        have hfi : fs[i]? = some f := by
          rw [← Array.getElem?_toList, ← he]
          exact List.getElem?_eq_getElem hi
        have hix : i < xs.length := by rw [hxl]; simpa using hi
        exact ⟨xs[i], by have := hf i f hfi; rw [List.getElem?_eq_getElem hix] at this; exact this⟩)
      rw [List.drop_zero, hlen, ← hcl, List.take_length] at h3
      exact h3
    · cases h
end
end Go.Proofs.YtpaiejeipghehaaGreat
end
section
/- Slices among the arguments: as rows of open number. No condition. -/
namespace Go.Proofs.YtpaiejeipghehaaGreat
open Go.ChangeShapes Go.WideShapes Go.ChangeAt Go.RowKit Go.Deep

def colOfLeaf (l : Leaf) (g : Nat → Value) : Col := match l with
  | .int k => .int k fun i => match g i with
    | .int _ z => z
    | _ => 0
  | .bool => .bool fun i => match g i with
    | .bool b => b
    | _ => false
  | .str => .str fun i => match g i with
    | .string s => s
    | _ => ByteArray.empty
def colsOfLeaves : List Leaf → (Nat → List Value) → List Col
  | [], _ => []
  | l :: r, f => colOfLeaf l (fun i => (f i).headD undef) :: colsOfLeaves r fun i => (f i).tail
/-- A column of n cells of a kind. -/
def ColOK (n : Nat) : Leaf → Col → Prop
  | .int k, c => ∃ W : Nat → Int, c = .int k W ∧ ∀ i, i < n → (Lit.int k (W i)).wf = true
  | .bool, c => ∃ W : Nat → Bool, c = .bool W
  | .str, c => ∃ W : Nat → ByteArray, c = .str W ∧ ∀ i, i < n → (W i).size ≤ maxLen
theorem colsOfLeaves_length : ∀ {ls : List Leaf} {f : Nat → List Value}, (colsOfLeaves ls f).length = ls.length
  | [], _ => rfl
  | _ :: r, f => by simp [colsOfLeaves, colsOfLeaves_length (ls := r)]
theorem colsOfLeaves_at : ∀ {ls : List Leaf} {f : Nat → List Value} {i : Nat}, Two LeafOK ls (f i) → colsF (colsOfLeaves ls f) i = f i
  | [], f, i, h => by
    cases hf : f i with
    | nil => rfl
    | cons a l => rw [hf] at h; cases h
  | l :: r, f, i, h => by
    cases hf : f i with
    | nil => rw [hf] at h; cases h
    | cons a t =>
      rw [hf] at h
      cases h with
      | cons h1 h2 =>
        have ih := colsOfLeaves_at (ls := r) (f := fun i => (f i).tail) (i := i) (by simp only [hf, List.tail_cons]; exact h2)
        simp only [colsOfLeaves, colsF, ih, hf, List.tail_cons]
        congr 1
        cases l with
        | int k => obtain ⟨z, rfl, _⟩ := h1; simp [colOfLeaf, Col.at, hf]
        | bool => obtain ⟨b, rfl⟩ := h1; simp [colOfLeaf, Col.at, hf]
        | str => obtain ⟨s, rfl, _⟩ := h1; simp [colOfLeaf, Col.at, hf]
theorem colsOfLeaves_ok {n : Nat} : ∀ {ls : List Leaf} {f : Nat → List Value}, (∀ i, i < n → Two LeafOK ls (f i)) → Two (ColOK n) ls (colsOfLeaves ls f)
  | [], _, _ => .nil
  | l :: r, f, h => by
    have hd : ∀ i, i < n → ∃ a t, f i = a :: t ∧ LeafOK l a ∧ Two LeafOK r t := fun i hi => by
      have := h i hi
      cases hf : f i with
      | nil => rw [hf] at this; cases this
      | cons a t =>
        rw [hf] at this
        cases this with
        | cons h1 h2 => exact ⟨a, t, rfl, h1, h2⟩
    refine .cons ?_ (colsOfLeaves_ok fun i hi => ?_)
    · cases l with
      | int k =>
        refine ⟨_, rfl, fun i hi => ?_⟩
        obtain ⟨a, t, h1, ⟨z, rfl, hz⟩, _⟩ := hd i hi
        simpa [h1] using hz
      | bool => exact ⟨_, rfl⟩
      | str =>
        refine ⟨_, rfl, fun i hi => ?_⟩
        obtain ⟨a, t, h1, ⟨z, rfl, hz⟩, _⟩ := hd i hi
        simpa [h1] using hz
    · obtain ⟨a, t, h1, _, h2⟩ := hd i hi
      simpa [h1] using h2
theorem leaf_one {l : Leaf} {v : Value} (h : LeafOK l v) : v.oneCell' = true := by
  cases l with
  | int k => obtain ⟨z, rfl, _⟩ := h; rfl
  | bool => obtain ⟨b, rfl⟩ := h; rfl
  | str => obtain ⟨s, rfl, _⟩ := h; rfl
theorem leaves_one : ∀ {ls : List Leaf} {vs : List Value}, Two LeafOK ls vs → ∀ v ∈ vs, v.oneCell' = true
  | _, _, .nil, v, h => by cases h
  | _, _, .cons h t, v, hv => by
    rcases List.mem_cons.1 hv with rfl | hv
    · exact leaf_one h
    · exact leaves_one t v hv

section
variable {H : Type} {enc : TypeId × Value → H} {P : Program} {w : World} {base : Nat} {spare : Nat → Bool} {held : Bool}
/-- A slice of elements without pointers, as an argument. -/
theorem tab_slice {d : Nat} {t e : TypeId} {ls : List Leaf} {fuel : Nat} {cs : List Value} {x : DataW H × List MemPlace} (ht : P.underlying t = some (.slice e)) (hl : leaves P d e = some ls) (hC : P.cellsOf e = ls.length) (h0 : 0 < ls.length)
    (h : DataW.trod enc P w base spare held fuel t cs = some x) : ∃ (cols : List Col) (n : Nat) (sp : Spot), cs = [.slice sp.ad n sp.cap] ∧ n ≤ maxLen ∧ Two (ColOK n) ls cols ∧ cols.length = ls.length ∧ TabAt w.heap.size (colsF cols) n cols.length sp [] w := by
  obtain ⟨A, cap, b, o, xs, hcs, hn, hr, _⟩ := rd_slice (α := { r : List Value // Two LeafOK ls r }) (cells := fun a => a.1) (C := ls.length) (fun a => a.2.length.symm) h0 (fun _ => True) ht hC (fun n cs d hd => ⟨⟨cs, leaves_trod hl hd⟩, rfl, trivial⟩) h
  have hf : ∀ i, i < xs.length → ∃ a : { r : List Value // Two LeafOK ls r }, xs[i]? = some a := fun i hi => ⟨_, List.getElem?_eq_getElem hi⟩
  have hT : ∀ i, i < xs.length → Two LeafOK ls (match xs[i]? with | some a => a.1 | none => []) := fun i hi => by
    obtain ⟨a, ha⟩ := hf i hi
    rw [ha]
    exact a.2
  refine ⟨colsOfLeaves ls fun i => match xs[i]? with | some a => a.1 | none => [], xs.length, ⟨b, cap, o, ls.length, xs.length, A⟩, hcs, hn, colsOfLeaves_ok hT, colsOfLeaves_length, ?_⟩
  have hcell : ∀ i, i < xs.length → ∀ j, j < ls.length → ∃ v, (colsF (colsOfLeaves ls fun i => match xs[i]? with | some a => a.1 | none => []) i)[j]? = some v ∧ A = some ⟨b, o, none⟩ ∧ w.cell? ⟨b, o + (i * ls.length + j), none⟩ = some v := fun i hi j hj => by
    rw [colsOfLeaves_at (hT i hi)]
    obtain ⟨a, ha⟩ := hf i hi
    rw [ha]
    have hlen : a.1.length = ls.length := a.2.length.symm
    obtain ⟨v, hv⟩ : ∃ v, a.1[j]? = some v := ⟨_, List.getElem?_eq_getElem (by omega)⟩
    have hfl := flat_get (enc := fun a : { r : List Value // Two LeafOK ls r } => a.1) (fun a => a.2.length.symm) xs i j hj
    rw [ha] at hfl
    have := hr (i * ls.length + j) v (by rw [hfl]; exact hv)
    exact ⟨v, hv, this⟩
  rw [colsOfLeaves_length]
  refine ⟨rfl, rfl, rfl, fun hl0 => ?_, fun i hi => ⟨⟨?_, ?_⟩, fun j hj => ?_⟩⟩
  · obtain ⟨v, _, h1, h2⟩ := hcell 0 hl0 0 h0
    exact ⟨h1, World.block_lt_of_cell? w _ h2, World.block_lt_of_cell? w _ h2⟩
  · rw [colsF_length, colsOfLeaves_length]
  · rw [colsOfLeaves_at (hT i hi)]
    exact leaves_one (hT i hi)
  · obtain ⟨v, h1, _, h2⟩ := hcell i hi j hj
    rw [h1]
    show w.cell? ⟨b, o + i * ls.length + j, none⟩ = _
    rw [Nat.add_assoc]
    exact h2
end

/-- Tables as pieces, and where they lie. -/
def tabsHp : List (List Col × Nat × Spot) → Nat → List (Nat × Chunk Rep)
  | [], _ => []
  | a :: r, i => (i, .rep (.tab a.1 a.2.1)) :: tabsHp r (i + 1)
def tabsN (l : List (List Col × Nat × Spot)) : Names := fun m => (l[m]?).map fun a => a.2.2
theorem tabsHp_get : ∀ {l : List (List Col × Nat × Spot)} {i m : Nat} {c : Chunk Rep}, hget m (tabsHp l i) = some c → i ≤ m ∧ ∃ a, l[m - i]? = some a ∧ c = .rep (.tab a.1 a.2.1)
  | [], _, _, _, h => by cases h
  | a :: r, i, m, c, h => by
    simp only [tabsHp, hget_cons] at h
    split at h
    · next e =>
      subst e
      injection h with h
      exact ⟨Nat.le_refl _, a, by simp, h.symm⟩
    · obtain ⟨h1, b, h2, h3⟩ := tabsHp_get h
      refine ⟨by omega, b, ?_, h3⟩
      rw [show m - i = (m - (i + 1)) + 1 by omega, List.getElem?_cons_succ]
      exact h2
theorem stand_args {P : Program} {w : World} {l : List (List Col × Nat × Spot)} (h : ∀ a ∈ l, TabAt w.heap.size (colsF a.1) a.2.1 a.1.length a.2.2 [] w) (e : Env) : Stand repAt P w.heap.size ⟨e, tabsHp l 0, l.length⟩ (tabsN l) (fun _ => []) w := by
  refine ⟨⟨fun n c _ hc => ?_, (fun n m c d _ _ _ _ _ b hb => by cases hb), (fun n c _ _ b hb => by cases hb)⟩, fun n hn => ?_, fun n hn => ?_, Nat.le_refl _⟩
  · obtain ⟨_, a, h1, rfl⟩ := tabsHp_get hc
    rw [Nat.sub_zero] at h1
    exact ⟨a.2.2, by simp [tabsN, h1], h a (List.mem_of_getElem? h1)⟩
  · cases hx : hget n (tabsHp l 0) with
    | none => rfl
    | some c =>
      obtain ⟨_, a, h1, _⟩ := tabsHp_get hx
      rw [Nat.sub_zero] at h1
      have := lt_of_some h1
      simp only at hn
      omega
  · simp only [tabsN]
    rw [List.getElem?_eq_none hn]
    rfl
end Go.Proofs.YtpaiejeipghehaaGreat
end
section
/- SeekExact returns true, whatever its arguments. No condition. -/
namespace Go.Proofs.YtpaiejeipghehaaGreat
set_option maxRecDepth 100000
set_option maxHeartbeats 8000000
set_option linter.unusedVariables false
theorem seekExact_walk {k0 : List Col} {L0 : Nat} {s0 : Spot} {c1 : Value} {c2 : Value} {c3 : Value} {k4 : List Col} {L4 : Nat} {s4 : Spot} {w : World} (h0 : Two (ColOK L0) [.int .i64, .int .u64, .int .u64, .bool] k0) (t0 : TabAt w.heap.size (colsF k0) L0 k0.length s0 [] w) (h1 : Two LeafOK [.int .i64] [c1]) (h2 : Two LeafOK [.int .u64] [c2]) (h3 : Two LeafOK [.bool] [c3]) (h4 : Two (ColOK L4) [.int .i64, .int .i64, .int .i64, .int .i64, .int .u64] k4) (t4 : TabAt w.heap.size (colsF k4) L4 k4.length s4 [] w) (w' : World) (hw : w' = w) : Calls Tryz.prog 4 #[.slice s0.ad L0 s0.cap, c1, c2, c3, .slice s4.ad L4 s4.cap] w' fun e w1 => e = .returned (.bool true) ∧ Mod [] w' w1 := by
  subst hw
  obtain ⟨_, _, rfl, ⟨S, rfl, g_S⟩, q0_0⟩ := two_uncons h0
  obtain ⟨_, _, rfl, ⟨K, rfl, g_K⟩, q0_1⟩ := two_uncons q0_0
  obtain ⟨_, _, rfl, ⟨V, rfl, g_V⟩, q0_2⟩ := two_uncons q0_1
  obtain ⟨_, _, rfl, ⟨M, rfl⟩, q0_3⟩ := two_uncons q0_2
  obtain rfl := two_nil q0_3
  obtain ⟨_, _, e1, ⟨rt, rfl, g_rt⟩, _⟩ := two_uncons h1
  injection e1 with e1 _
  subst e1
  obtain ⟨_, _, e2, ⟨key, rfl, g_key⟩, _⟩ := two_uncons h2
  injection e2 with e2 _
  subst e2
  obtain ⟨_, _, e3, ⟨vals, rfl⟩, _⟩ := two_uncons h3
  injection e3 with e3 _
  subst e3
  obtain ⟨_, _, rfl, ⟨AK, rfl, g_AK⟩, q4_0⟩ := two_uncons h4
  obtain ⟨_, _, rfl, ⟨A0, rfl, g_A0⟩, q4_1⟩ := two_uncons q4_0
  obtain ⟨_, _, rfl, ⟨A1, rfl, g_A1⟩, q4_2⟩ := two_uncons q4_1
  obtain ⟨_, _, rfl, ⟨A2, rfl, g_A2⟩, q4_3⟩ := two_uncons q4_2
  obtain ⟨_, _, rfl, ⟨AW, rfl, g_AW⟩, q4_4⟩ := two_uncons q4_3
  obtain rfl := two_nil q4_4
  have hok : _ := (⟨fun j hj => ⟨g_K j hj, g_V j hj⟩, fun j hj => ⟨plWfB_iff.2 ⟨g_A0 j hj, g_A1 j hj, g_A2 j hj⟩, g_AW j hj⟩⟩ : SEB.ok ⟨S, K, V, M, L0, rt, key, vals, AK, A0, A1, A2, AW, L4⟩)
  have hst := stand_args (P := Tryz.prog) (w := w') (l := [([.int .i64 S, .int .u64 K, .int .u64 V, .bool M], L0, s0), ([.int .i64 AK, .int .i64 A0, .int .i64 A1, .int .i64 A2, .int .u64 AW], L4, s4)]) (fun a ha => by
    simp only [List.mem_cons, List.not_mem_nil, or_false] at ha
    rcases ha with rfl | rfl
    · exact t0
    · exact t4) (argsE [.tsl 0 L0, iv rt, uv key, .v (.bool vals), .tsl 1 L4])
  exact Tri.law (args := [.tsl 0 L0, iv rt, uv key, .v (.bool vals), .tsl 1 L4]) Tryz.func4 (c := bodyOf Tryz.prog seF) (by kernel_rfl) (by kernel_rfl) (se_start ⟨S, K, V, M, L0, rt, key, vals, AK, A0, A1, A2, AW, L4⟩ hok) hst rfl
end Go.Proofs.YtpaiejeipghehaaGreat
end
section
/- Five arguments, and six, read one by one. No condition. -/
namespace Go.Proofs.YtpaiejeipghehaaGreat
open Go.ChangeShapes
section
variable {H : Type} {enc : TypeId × Value → H} {P : Program} {w : World} {base : Nat} {spare : Nat → Bool} {held : Bool}
theorem trod_list {ts : List TypeId} {args : Array Value} {vs : List Value} (h : args.toList = vs) : args = vs.toArray := by
  cases args
  simp_all
theorem trod_five {t0 t1 t2 t3 t4 : TypeId} {args : Array Value} {ds : List (DataW H)} {ps : List MemPlace} (h : DataW.TrodAll enc P w base spare held [t0, t1, t2, t3, t4] args.toList ds ps) :
    ∃ v0 v1 v2 v3 v4 d0 d1 d2 d3 d4 p0 p1 p2 p3 p4, args = #[v0, v1, v2, v3, v4] ∧ ds = [d0, d1, d2, d3, d4] ∧ ps = p0 ++ (p1 ++ (p2 ++ (p3 ++ p4))) ∧
      DataW.Trod enc P w base spare held t0 v0 d0 p0 ∧ DataW.Trod enc P w base spare held t1 v1 d1 p1 ∧ DataW.Trod enc P w base spare held t2 v2 d2 p2 ∧ DataW.Trod enc P w base spare held t3 v3 d3 p3 ∧ DataW.Trod enc P w base spare held t4 v4 d4 p4 := by
  obtain ⟨v0, l0, d0, e0, p0, q0, ha, rfl, rfl, h0, h⟩ := trodAll_cons h
  obtain ⟨v1, l1, d1, e1, p1, q1, rfl, rfl, rfl, h1, h⟩ := trodAll_cons h
  obtain ⟨v2, l2, d2, e2, p2, q2, rfl, rfl, rfl, h2, h⟩ := trodAll_cons h
  obtain ⟨v3, l3, d3, e3, p3, q3, rfl, rfl, rfl, h3, h⟩ := trodAll_cons h
  obtain ⟨v4, l4, d4, e4, p4, q4, rfl, rfl, rfl, h4, h⟩ := trodAll_cons h
  obtain ⟨rfl, rfl, rfl⟩ := trodAll_nil h
  exact ⟨v0, v1, v2, v3, v4, d0, d1, d2, d3, d4, p0, p1, p2, p3, p4, trod_list (ts := []) ha, rfl, by simp, h0, h1, h2, h3, h4⟩
end
end Go.Proofs.YtpaiejeipghehaaGreat
end
section
/- SeekExact, called with whatever, returns true, and its arguments read behind it as they did. No condition. -/
namespace Go.Proofs.YtpaiejeipghehaaGreat
open Go.ChangeShapes Go.WideShapes Go.ChangeAt Go.RowKit Go.Deep
set_option linter.unusedVariables false

set_option maxRecDepth 100000 in
theorem seekExact_lifted (os : Os) (started : os.Started) (H : Type) (enc : TypeId × Value → H) :
    ReturnsInHanded {} Tryz.checked os 4 .any (Rows.seekExactSpec.pre6 enc Tryz.prog Tryz.f4 Rows.seekExactRow.domain false) (Rows.seekExactSpec.post enc Tryz.prog Tryz.f4 false true false false) := by
  refine returnsInHanded_of_change (C := Tryz.checked) own_ started (by kernel_rfl) Tryz.func4
    (ChangeSpec.witness6 (enc := enc) (C := Tryz.checked) false ⟨#[], #[.slice none 0 0, .int .i64 0, .int .u64 0, .bool false, .slice none 0 0], []⟩ 8 (by kernel_rfl) (by kernel_rfl) (by kernel_rfl) (by kernel_rfl)) ?_
  intro W base args ds gs before hval0 hW hcnd _
  have hval : ∀ (j : Nat) t v, Tryz.f4.params[j]? = some t → args[j]? = some v → Value.okWide Tryz.prog W .any base t v := hval0
  have hW' := hW
  obtain ⟨p, q, hA0, hV, rfl, hfz, hnd⟩ := hW
  have hA : DataW.TrodAll enc Tryz.prog W 0 (fun _ => true) true Tryz.f4.params.toList args.toList ds p := hA0
  rw [Tryz.params4] at hA hval
  obtain ⟨v0, v1, v2, v3, v4, d0, d1, d2, d3, d4, p0, p1, p2, p3, p4, rfl, rfl, rfl, h0, h1, h2, h3, h4⟩ := trod_five hA
  obtain ⟨rfl, rfl⟩ := trodVars_none hV
  have k0 := h0
  have k1 := h1
  have k2 := h2
  have k3 := h3
  have k4 := h4
  have lt0 : ∀ x ∈ p0, x.block < W.heap.size := by obtain ⟨m, hm⟩ := k0; exact DataW.trod_lt m _ _ _ hm
  have lt1 : ∀ x ∈ p1, x.block < W.heap.size := by obtain ⟨m, hm⟩ := k1; exact DataW.trod_lt m _ _ _ hm
  have lt2 : ∀ x ∈ p2, x.block < W.heap.size := by obtain ⟨m, hm⟩ := k2; exact DataW.trod_lt m _ _ _ hm
  have lt3 : ∀ x ∈ p3, x.block < W.heap.size := by obtain ⟨m, hm⟩ := k3; exact DataW.trod_lt m _ _ _ hm
  have lt4 : ∀ x ∈ p4, x.block < W.heap.size := by obtain ⟨m, hm⟩ := k4; exact DataW.trod_lt m _ _ _ hm
  obtain ⟨f0, hf0⟩ := h0
  obtain ⟨f1, hf1⟩ := h1
  obtain ⟨f2, hf2⟩ := h2
  obtain ⟨f3, hf3⟩ := h3
  obtain ⟨f4, hf4⟩ := h4
  obtain ⟨c0, n0, s0, e0, _, l0, _, t0⟩ := tab_slice (d := 9) (t := 22) (e := 105) (ls := [.int .i64, .int .u64, .int .u64, .bool]) Tryz.underlying22 (by kernel_rfl) (by kernel_rfl) (by decide) hf0
  obtain rfl := slice_of_cells Tryz.underlying22 (hval 0 _ v0 rfl rfl) e0
  obtain ⟨c1, rfl⟩ := okWide_int Tryz.underlying3 (hval 1 _ v1 rfl rfl)
  have l1 := leaves_trod (d := 9) (ls := [.int .i64]) (by kernel_rfl) hf1
  obtain ⟨c2, rfl⟩ := okWide_int Tryz.underlying23 (hval 2 _ v2 rfl rfl)
  have l2 := leaves_trod (d := 9) (ls := [.int .u64]) (by kernel_rfl) hf2
  obtain ⟨c3, rfl⟩ := okWide_bool Tryz.underlying4 (hval 3 _ v3 rfl rfl)
  have l3 := leaves_trod (d := 9) (ls := [.bool]) (by kernel_rfl) hf3
  obtain ⟨c4, n4, s4, e4, _, l4, _, t4⟩ := tab_slice (d := 9) (t := 24) (e := 60) (ls := [.int .i64, .int .i64, .int .i64, .int .i64, .int .u64]) Tryz.underlying24 (by kernel_rfl) (by kernel_rfl) (by decide) hf4
  obtain rfl := slice_of_cells Tryz.underlying24 (hval 4 _ v4 rfl rfl) e4
  clear hA0 hval0
  refine (seekExact_walk l0 t0 l1 l2 l3 l4 t4 W rfl).mono fun e W' ⟨he, hm⟩ => ?_
  subst he
  have bel := hm.below
  exact ⟨_, rfl, _, _, _, [], _, [], hW', trodAll_mk1 (shut_bool Tryz.underlying4 _), (trodAll_cons_mk (Below.trod laid_ (by kernel_rfl) (of_decide_eq_true (by kernel_rfl)) k0 bel lt0) (trodAll_cons_mk (Below.trod laid_ (by kernel_rfl) (of_decide_eq_true (by kernel_rfl)) k1 bel lt1) (trodAll_cons_mk (Below.trod laid_ (by kernel_rfl) (of_decide_eq_true (by kernel_rfl)) k2 bel lt2) (trodAll_cons_mk (Below.trod laid_ (by kernel_rfl) (of_decide_eq_true (by kernel_rfl)) k3 bel lt3) (trodAll_cons_mk (Below.trod laid_ (by kernel_rfl) (of_decide_eq_true (by kernel_rfl)) k4 bel lt4) trodAll_mk0))))), rfl, bel.frame _, fun h => by cases h⟩

theorem seekExact_holds : Rows.SeekExactSaid :=
  OpenClaim.holds_of_wide 4 Tryz.f4 rfl rfl rfl rfl rfl rfl rfl ⟨rfl, rfl, rfl, rfl, rfl⟩ rfl rfl rfl rfl rfl (by kernel_rfl) Tryz.func4 (by kernel_rfl)
    (of_decide_eq_true (by kernel_rfl)) (by unfold Func.isWrapper; first | (rw [if_pos (by decide +kernel)]; kernel_rfl) | (rw [if_neg (by decide +kernel)]; exact ⟨rfl, rfl⟩))
    (fun os started H enc _ => seekExact_lifted os started H enc)
end Go.Proofs.YtpaiejeipghehaaGreat
end
