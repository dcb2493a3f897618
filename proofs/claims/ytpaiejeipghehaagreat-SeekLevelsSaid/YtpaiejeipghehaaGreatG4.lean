/- slices.AppendSeq(nil, seq), slices.Collect(seq) at places: the kit's worked walk turned (wip/turn_collect.py). -/
import Derived.Test.YtpaiejeipghehaaGreatG3
import Derived.Test.YtpaiejeipghehaaGreatG2
import Derived.RangeFuncSeq
import Derived.Shelf.AbstractIn
import Derived.Sort.MapsRangeIn
import Derived.WalkKit
import Derived.OwnWalkIn
import Derived.TacticsInMore
import Derived.RegionIn
import Derived.LoopNIn
import Derived.LoopIn
import Derived.RangeFuncGives
import Derived.Maps.AppendAt
import Derived.Shelf.SlIter.Collect
section
/- The document's Places, run from point to point. No condition. -/
namespace Go.Proofs.YtpaiejeipghehaaGreat
set_option linter.unusedVariables false
set_option linter.unusedSimpArgs false
set_option maxRecDepth 100000
set_option maxHeartbeats 8000000

theorem up_done {a : UB} {B0 B1 B2 : Nat → Int} {m : Nat} {i : Int} (hP : UPP a B0 B1 B2 m i) (hi : i = (a.len : Int)) : upT a [.tsl 1 m] ⟨[(2, .tsl 1 m)], upHp a B0 B1 B2 m, 3⟩ := by
  obtain ⟨i0, i1, hm, hok, L, hl, hr, hs, hc⟩ := hP
  subst hi
  exact ⟨B0, B1, B2, m, rfl, rfl, L, hl, hr, hs, by simpa using hc⟩
theorem up_exit (a : UB) (B0 B1 B2 : Nat → Int) (m : Nat) (i : Int) (hP : UPP a B0 B1 B2 m i) (hi : i = (a.len : Int))  : Tri repAt Tryz.prog upZ 1 (.out (.out 0)) upL.2 (upS a B0 B1 B2 m i) (upQ a) := by
  exact Tri.pathP mixed libP_ok (n := 10000) (k := 10000) (j := 0) (cfg := upCfg) (o := []) (g' := .out .ret) (fs' := []) (s' := ⟨[(2, SV.tsl 1 m)], [(0, Chunk.row [SV.tsl 2 a.len] 29), (1, Chunk.rep (Rep.vec [Col.int IntKind.i64 B0, Col.int IntKind.i64 B1, Col.int IntKind.i64 B2] m 51)), (2, Chunk.rep (Rep.vec [Col.int IntKind.i64 a.A0, Col.int IntKind.i64 a.A1, Col.int IntKind.i64 a.A2, Col.int IntKind.u64 a.W] a.len 147))], 3⟩) (asks := []) rfl (by kernel_rfl) trivial (Tri.fin (Ends.of (t := 2) (v := .tsl 1 m) (by kernel_rfl) (.inl rfl) rfl (up_done hP hi)))
theorem up_exit2 (a : UB) (B0 B1 B2 : Nat → Int) (m : Nat) (i : Int) (k : Int) (hP : UPQ a B0 B1 B2 m i k) {r : Nat} (hr : r = a.len - i.toNat) (hd : k ≤ 0 ∨ decide (ltPl (B0 k.toNat, B1 k.toNat, B2 k.toNat) (B0 (IntKind.i64.wrap (k - 1)).toNat, B1 (IntKind.i64.wrap (k - 1)).toNat, B2 (IntKind.i64.wrap (k - 1)).toNat)) = false) : Tri repAt Tryz.prog upZ 1 (.out (.out 2)) upM.2 (upS2 a B0 B1 B2 m i k) (upR a r) := by
  exact Tri.pathP mixed libP_ok (n := 10000) (k := 10000) (j := 0) (cfg := upCfg) (o := []) (g' := .out .nor) (fs' := []) (s' := ⟨[(3, SV.tsl 1 m), (0, SV.ptr 0 0), (4, SV.v (Value.int IntKind.i64 (IntKind.i64.wrap (i + 1))))], [(0, Chunk.row [SV.tsl 2 a.len] 29), (1, Chunk.rep (Rep.vec [Col.int IntKind.i64 B0, Col.int IntKind.i64 B1, Col.int IntKind.i64 B2] m 51)), (2, Chunk.rep (Rep.vec [Col.int IntKind.i64 a.A0, Col.int IntKind.i64 a.A1, Col.int IntKind.i64 a.A2, Col.int IntKind.u64 a.W] a.len 147))], 3⟩) (asks := []) rfl (by kernel_rfl) trivial (up_next a B0 B1 B2 m (IntKind.i64.wrap (i + 1)) (upq_end hP hd) (upq_less hP hr))
theorem up_round2 (a : UB) (B0 B1 B2 : Nat → Int) (m : Nat) (i : Int) (k : Int) (hP : UPQ a B0 B1 B2 m i k) {n r : Nat} (hn : n = a.len - i.toNat) (hr : r = k.toNat) : Tri repAt Tryz.prog upZ 1 (.go upM.1) [] (upS2 a B0 B1 B2 m i k) (upR2 a i n r) := by
  rcases Bool.eq_false_or_eq_true (decide (k > 0)) with h0 | h0
  · have h1 : (decide (0 ≤ k ∧ k < (↑m : Int) ∧ m ≤ m)) = true := by (obtain ⟨i0, i1, hm, ⟨hl, hone⟩, k0, k1, L1, x, L2, hL⟩ := hP; first | rfl | (simp only [decide_eq_true_eq, decide_eq_false_iff_not] at *; omega) | (have hk := of_decide_eq_true h0; rw [wrapI (x := k - 1) (by omega) (by omega)]; simp only [decide_eq_true_eq]; omega) | (simp; done))
    have h2 : (decide (0 ≤ IntKind.i64.wrap (k - 1) ∧ IntKind.i64.wrap (k - 1) < (↑m : Int) ∧ m ≤ m)) = true := by (obtain ⟨i0, i1, hm, ⟨hl, hone⟩, k0, k1, L1, x, L2, hL⟩ := hP; first | rfl | (simp only [decide_eq_true_eq, decide_eq_false_iff_not] at *; omega) | (have hk := of_decide_eq_true h0; rw [wrapI (x := k - 1) (by omega) (by omega)]; simp only [decide_eq_true_eq]; omega) | (simp; done))
    rcases Bool.eq_false_or_eq_true (decide (ltPl (B0 k.toNat, B1 k.toNat, B2 k.toNat) (B0 (IntKind.i64.wrap (k - 1)).toNat, B1 (IntKind.i64.wrap (k - 1)).toNat, B2 (IntKind.i64.wrap (k - 1)).toNat))) with h3 | h3
    · exact Tri.pathP mixed libP_ok (n := 10000) (k := 10000) (j := 0) (cfg := upCfg2) (o := List.replicate 18 (some true)) (g' := .out .nor) (fs' := []) (s' := upS2 (a) (updI (updI B0 k.toNat (B0 (IntKind.i64.wrap (k - 1)).toNat)) (IntKind.i64.wrap (k - 1)).toNat (B0 k.toNat)) (updI (updI B1 k.toNat (B1 (IntKind.i64.wrap (k - 1)).toNat)) (IntKind.i64.wrap (k - 1)).toNat (B1 k.toNat)) (updI (updI B2 k.toNat (B2 (IntKind.i64.wrap (k - 1)).toNat)) (IntKind.i64.wrap (k - 1)).toNat (B2 k.toNat)) (m) (i) (IntKind.i64.wrap (k - 1))) (asks := [((decide (0 ≤ IntKind.i64.wrap (k - 1) ∧ IntKind.i64.wrap (k - 1) < (↑m : Int) ∧ m ≤ m)), true), ((decide (0 ≤ k ∧ k < (↑m : Int) ∧ m ≤ m)), true), ((decide (0 ≤ IntKind.i64.wrap (k - 1) ∧ IntKind.i64.wrap (k - 1) < (↑m : Int) ∧ m ≤ m)), true), ((decide (0 ≤ k ∧ k < (↑m : Int) ∧ m ≤ m)), true), ((decide (ltPl (B0 k.toNat, B1 k.toNat, B2 k.toNat) (B0 (IntKind.i64.wrap (k - 1)).toNat, B1 (IntKind.i64.wrap (k - 1)).toNat, B2 (IntKind.i64.wrap (k - 1)).toNat))), true), ((decide (k > 0)), true), ((decide (k > 0)), true), ((decide (k > 0)), true), ((decide (0 ≤ IntKind.i64.wrap (k - 1) ∧ IntKind.i64.wrap (k - 1) < (↑m : Int) ∧ m ≤ m)), true), ((decide (k > 0)), true), ((decide (k > 0)), true), ((decide (k > 0)), true), ((decide (k > 0)), true), ((decide (k > 0)), true), ((decide (0 ≤ k ∧ k < (↑m : Int) ∧ m ≤ m)), true), ((decide (k > 0)), true), ((decide (k > 0)), true), ((decide (k > 0)), true)]) rfl (by kernel_rfl) ⟨h2, h1, h2, h1, h3, h0, h0, h0, h2, h0, h0, h0, h0, h0, h1, h0, h0, h0, trivial⟩ (up_next2 (a) (updI (updI B0 k.toNat (B0 (IntKind.i64.wrap (k - 1)).toNat)) (IntKind.i64.wrap (k - 1)).toNat (B0 k.toNat)) (updI (updI B1 k.toNat (B1 (IntKind.i64.wrap (k - 1)).toNat)) (IntKind.i64.wrap (k - 1)).toNat (B1 k.toNat)) (updI (updI B2 k.toNat (B2 (IntKind.i64.wrap (k - 1)).toNat)) (IntKind.i64.wrap (k - 1)).toNat (B2 k.toNat)) (m) (i) (IntKind.i64.wrap (k - 1)) (upq_step hP h0 h3) (upk_less hP h0 hr))
    · exact Tri.pathP mixed libP_ok (n := 10000) (k := 10000) (j := 0) (cfg := upCfg2) (o := List.replicate 13 (some true) ++ [some false]) (g' := .out (.out 2)) (fs' := []) (s' := upS2 (a) (B0) (B1) (B2) (m) (i) (k)) (asks := [((decide (ltPl (B0 k.toNat, B1 k.toNat, B2 k.toNat) (B0 (IntKind.i64.wrap (k - 1)).toNat, B1 (IntKind.i64.wrap (k - 1)).toNat, B2 (IntKind.i64.wrap (k - 1)).toNat))), false), ((decide (k > 0)), true), ((decide (k > 0)), true), ((decide (k > 0)), true), ((decide (0 ≤ IntKind.i64.wrap (k - 1) ∧ IntKind.i64.wrap (k - 1) < (↑m : Int) ∧ m ≤ m)), true), ((decide (k > 0)), true), ((decide (k > 0)), true), ((decide (k > 0)), true), ((decide (k > 0)), true), ((decide (k > 0)), true), ((decide (0 ≤ k ∧ k < (↑m : Int) ∧ m ≤ m)), true), ((decide (k > 0)), true), ((decide (k > 0)), true), ((decide (k > 0)), true)]) rfl (by kernel_rfl) ⟨h3, h0, h0, h0, h2, h0, h0, h0, h0, h0, h1, h0, h0, h0, trivial⟩ (Tri.fin (up_exit2 a B0 B1 B2 m i k hP hn (by first | exact .inr h3 | exact .inl (by simpa using h0))))
  · exact Tri.pathP mixed libP_ok (n := 10000) (k := 10000) (j := 0) (cfg := upCfg2) (o := List.replicate 11 (some false)) (g' := .out (.out 2)) (fs' := []) (s' := upS2 (a) (B0) (B1) (B2) (m) (i) (k)) (asks := [((decide (k > 0)), false), ((decide (k > 0)), false), ((decide (k > 0)), false), ((decide (k > 0)), false), ((decide (k > 0)), false), ((decide (k > 0)), false), ((decide (k > 0)), false), ((decide (k > 0)), false), ((decide (k > 0)), false), ((decide (k > 0)), false), ((decide (k > 0)), false)]) rfl (by kernel_rfl) ⟨h0, h0, h0, h0, h0, h0, h0, h0, h0, h0, h0, trivial⟩ (Tri.fin (up_exit2 a B0 B1 B2 m i k hP hn (by first | exact .inr h3 | exact .inl (by simpa using h0))))
theorem up_round (a : UB) (B0 B1 B2 : Nat → Int) (m : Nat) (i : Int) (hP : UPP a B0 B1 B2 m i) {r : Nat} (hr : r = a.len - i.toNat) : Tri repAt Tryz.prog upZ 1 (.go upL.1) [] (upS a B0 B1 B2 m i) (upR a r) := by
  rcases Bool.eq_false_or_eq_true (decide (i < (↑a.len : Int))) with h0 | h0
  · have h1 : (decide (0 ≤ i ∧ i < (↑a.len : Int) ∧ a.len ≤ a.len)) = true := by (obtain ⟨i0, i1, hm, ⟨hl, hone⟩, L, hL⟩ := hP; first | rfl | (simp only [decide_eq_true_eq, decide_eq_false_iff_not] at *; omega) | (simp; done) | (show decide (m ≤ m ∧ _ * _ ≤ 140737488351232) = true; refine Eq.trans (b := decide (m ≤ m ∧ (m + 1) * 24 ≤ 140737488351232)) (by kernel_rfl) ?_; simp only [decide_eq_true_eq]; omega))
    rcases Bool.eq_false_or_eq_true (a.W i.toNat == 0) with h2 | h2
    · exact Tri.pathP mixed libP_ok (n := 10000) (k := 10000) (j := 0) (cfg := upCfg2) (o := List.replicate 3 (some true)) (g' := .out .nor) (fs' := []) (s' := ⟨[(3, SV.tsl 1 m), (0, SV.ptr 0 0), (4, SV.v (Value.int IntKind.i64 (IntKind.i64.wrap (i + 1))))], [(0, Chunk.row [SV.tsl 2 a.len] 29), (1, Chunk.rep (Rep.vec [Col.int IntKind.i64 B0, Col.int IntKind.i64 B1, Col.int IntKind.i64 B2] m 51)), (2, Chunk.rep (Rep.vec [Col.int IntKind.i64 a.A0, Col.int IntKind.i64 a.A1, Col.int IntKind.i64 a.A2, Col.int IntKind.u64 a.W] a.len 147))], 3⟩) (asks := [((a.W i.toNat == 0), true), ((decide (0 ≤ i ∧ i < (↑a.len : Int) ∧ a.len ≤ a.len)), true), ((decide (i < (↑a.len : Int))), true)]) rfl (by kernel_rfl) ⟨h2, h1, h0, trivial⟩ (up_next a B0 B1 B2 m (IntKind.i64.wrap (i + 1)) (upp_skip hP h0 h2) (upi_less hP h0 hr))
    · have h3 : (decide (m ≤ m ∧ (m + 1) * 24 ≤ 140737488351232)) = true := by (obtain ⟨i0, i1, hm, ⟨hl, hone⟩, L, hL⟩ := hP; first | rfl | (simp only [decide_eq_true_eq, decide_eq_false_iff_not] at *; omega) | (simp; done) | (show decide (m ≤ m ∧ _ * _ ≤ 140737488351232) = true; refine Eq.trans (b := decide (m ≤ m ∧ (m + 1) * 24 ≤ 140737488351232)) (by kernel_rfl) ?_; simp only [decide_eq_true_eq]; omega))
      exact Tri.pathP mixed libP_ok (n := 10000) (k := 10000) (j := 0) (cfg := upCfg2) (o := [some true, some true] ++ [some false] ++ [some true, some true]) (g' := .go (.loop upM.1)) (fs' := upM.2) (s' := upS2 (a) (joinI B0 m fun x => a.A0 i.toNat) (joinI B1 m fun x => a.A1 i.toNat) (joinI B2 m fun x => a.A2 i.toNat) (m + 1) (i) (IntKind.i64.wrap ((↑(m + 1) : Int) - 1))) (asks := [((decide (m ≤ m ∧ (m + 1) * 24 ≤ 140737488351232)), true), ((decide (0 ≤ i ∧ i < (↑a.len : Int) ∧ a.len ≤ a.len)), true), ((a.W i.toNat == 0), false), ((decide (0 ≤ i ∧ i < (↑a.len : Int) ∧ a.len ≤ a.len)), true), ((decide (i < (↑a.len : Int))), true)]) rfl (by kernel_rfl) ⟨h3, h1, h2, h1, h0, trivial⟩ (Tri.loop (I := upJ a i) (fun k s ⟨B0, B1, B2, m, k', hs, hP, hk⟩ => by subst hs; exact up_round2 a B0 B1 B2 m i k' hP hr hk) ⟨_, _, _, _, _, rfl, upp_push hP h0 h2, rfl⟩)
  · exact Tri.pathP mixed libP_ok (n := 10000) (k := 10000) (j := 0) (cfg := upCfg2) (o := [some false]) (g' := .out (.out 0)) (fs' := []) (s' := ⟨[(3, SV.tsl 1 m), (0, SV.ptr 0 0), (4, SV.v (Value.int IntKind.i64 i))], [(0, Chunk.row [SV.tsl 2 a.len] 29), (1, Chunk.rep (Rep.vec [Col.int IntKind.i64 B0, Col.int IntKind.i64 B1, Col.int IntKind.i64 B2] m 51)), (2, Chunk.rep (Rep.vec [Col.int IntKind.i64 a.A0, Col.int IntKind.i64 a.A1, Col.int IntKind.i64 a.A2, Col.int IntKind.u64 a.W] a.len 147))], 3⟩) (asks := [((decide (i < (↑a.len : Int))), false)]) rfl (by kernel_rfl) ⟨h0, trivial⟩ (Tri.fin (up_exit a B0 B1 B2 m i hP (by obtain ⟨i0, i1, _⟩ := hP; have := of_decide_eq_false h0; omega)))
theorem up_start (a : UB) (ha : a.ok)  : Tri repAt Tryz.prog upZ 1 (.go (bodyOf Tryz.prog upF)) [] (⟨argsE [.ptr 0 0], cellsHp a.A0 a.A1 a.A2 a.W a.len, 2⟩) (upQ a) := by
  exact Tri.pathP mixed libP_ok (n := 10000) (k := 10000) (j := 0) (cfg := upCfg0) (o := []) (g' := .go (.loop upL.1)) (fs' := upL.2) (s' := upS (a) (fun i => [].getD i 0) (fun i => [].getD i 0) (fun i => [].getD i 0) (0) (Int.ofNat 0)) (asks := []) rfl (by kernel_rfl) trivial (Tri.loop (I := upI a) (fun k s ⟨B0, B1, B2, m, i, hs, hP, hk⟩ => by subst hs; exact up_round a B0 B1 B2 m i hP hk) ⟨_, _, _, _, _, rfl, ⟨by decide, by simp, by decide, ha, [], rfl, (fun j hj => absurd hj (Nat.not_lt_zero _)), List.Pairwise.nil, fun p => ⟨(fun h => by cases h), fun ⟨j, hj, _⟩ => absurd hj (Nat.not_lt_zero _)⟩⟩, rfl⟩)
end Go.Proofs.YtpaiejeipghehaaGreat
end
section
/- The document's Places and Copy as known calls. -/
namespace Go.Proofs.YtpaiejeipghehaaGreat
open Go.RowKit
section
variable {R : Type} {A : RepAt R} {P : Program} {B : Nat} {F : Nat → Prop} {st : St R} {ρ : Names} {own : Nat → List Nat} {w w' : World}
/-- Another content, and a new piece. -/
theorem Tr.setNew {n : Nat} {c c2 d : Chunk R} {e e2 : Spot} {own0 own2 : List Nat} (s : Sit A P B F st ((st.set n c).new c2) ρ own w) (hd : hget n st.hp = some d) (he : ρ n = some e) (hm : ModP (fun b => b ∈ own n) w w')
    (hc : CAt A P (ρ.put st.nx e2) B e own0 c w') (hc2 : CAt A P (ρ.put st.nx e2) B e2 own2 c2 w') (ho : ∀ b ∈ own0, b ∈ own n ∨ (w.heap.size ≤ b ∧ b < w'.heap.size)) (ho2 : ∀ b ∈ own2, b ∈ own n ∨ (w.heap.size ≤ b ∧ b < w'.heap.size)) (hdis : ∀ b ∈ own2, b ∉ own0) :
    Tr A P B F st ((st.set n c).new c2) ρ own w (ρ.put st.nx e2) (ownPut (ownPut own n own0) st.nx own2) w' := by
  have hnlt : n < st.nx := s.wf.lt hd
  have hnn : ∀ m, newN st ((st.set n c).new c2) m ↔ m = st.nx := fun m => by unfold newN St.new St.set; simp only; omega
  have hwr : n ∈ ((st.set n c).new c2).wr := mem_ins.2 (.inl rfl)
  have hF : F n := s.log n (mem_ins.2 (.inl rfl))
  have hle : ρ.le (ρ.put st.nx e2) := Names.put_le (s.fresh st.nx ((hnn _).2 rfl))
  have hlow := fun b hb => s.li.low n d hF hd b hb
  have o1 : ownPut (ownPut own n own0) st.nx own2 n = own0 := by rw [ownPut_other (Nat.ne_of_lt hnlt), ownPut_same]
  have o2 : ownPut (ownPut own n own0) st.nx own2 st.nx = own2 := ownPut_same
  have o3 : ∀ m, m ≠ n → m ≠ st.nx → ownPut (ownPut own n own0) st.nx own2 m = own m := fun m h1 h2 => by rw [ownPut_other h2, ownPut_other h1]
  have hget' : ∀ m x, hget m ((st.set n c).new c2).hp = some x → (m = st.nx ∧ x = c2) ∨ (m = n ∧ x = c) ∨ (m ≠ n ∧ m ≠ st.nx ∧ hget m st.hp = some x) := fun m x hx => by
    simp only [St.new, St.set] at hx
    rw [hget_cons] at hx
    split at hx
    · next h => injection hx with hx; exact .inl ⟨h, hx.symm⟩
    · next h =>
      rw [hget_set] at hx
      split at hx
      · next h2 => rw [hd] at hx; injection hx with hx; exact .inr (.inl ⟨h2, hx.symm⟩)
      · next h2 => exact .inr (.inr ⟨h2, h, hx⟩)
  refine ⟨hle, fun m hmm => Names.put_other fun h => hmm ((hnn m).2 h), fun m hmm hmw => o3 m (fun h => hmw (h ▸ hwr)) fun h => hmm ((hnn m).2 h), fun m hmm b hb => ?_, ?_, hm.mono (fun b _ h => ⟨n, hwr, fun hx => absurd ((hnn n).1 hx) (Nat.ne_of_lt hnlt), h⟩)⟩
  · by_cases h2 : m = st.nx
    · subst h2
      rw [o2] at hb
      rcases ho2 b hb with h | h
      · exact .inr ⟨n, hwr, fun hx => absurd ((hnn n).1 hx) (Nat.ne_of_lt hnlt), h⟩
      · exact .inl h.1
    · by_cases h1 : m = n
      · subst h1
        rw [o1] at hb
        rcases ho b hb with h | h
        · exact .inr ⟨m, hwr, fun hx => h2 ((hnn m).1 hx), h⟩
        · exact .inl h.1
      · rw [o3 m h1 h2] at hb
        exact .inr ⟨m, hmm.resolve_left (fun hx => h2 ((hnn m).1 hx)), fun hx => h2 ((hnn m).1 hx), hb⟩
  · refine s.li.step (X := fun m => m = n ∨ m = st.nx) hm hle (fun b hb => ⟨n, d, .inl rfl, hF, hd, hb⟩) (fun m x hx hX hx' => ?_) (fun m x _ hX hx => ?_) (fun m x _ hX hx b hb => ?_) (fun m k x y _ _ h1 h2 hne hx hy b hb hb' => ?_)
    · rw [not_or] at hX
      rcases hget' m x hx' with ⟨h, _⟩ | ⟨h, _⟩ | ⟨_, _, h⟩
      · exact absurd h hX.2
      · exact absurd h hX.1
      · exact ⟨hx.resolve_right (fun hq => hX.2 ((hnn m).1 hq)), h, o3 m hX.1 hX.2⟩
    · rcases hget' m x hx with ⟨rfl, rfl⟩ | ⟨rfl, rfl⟩ | ⟨h1, h2, _⟩
      · exact ⟨e2, Names.put_same, by rw [o2]; exact hc2⟩
      · exact ⟨e, by rw [Names.put_other (Nat.ne_of_lt hnlt)]; exact he, by rw [o1]; exact hc⟩
      · exact absurd hX (by simp [h1, h2])
    · rcases hX with rfl | rfl
      · rw [o1] at hb
        rcases ho b hb with h | h
        · exact ⟨Nat.lt_of_lt_of_le (hlow b h).2 hm.size, (hlow b h).1, .inr ⟨m, d, .inl rfl, hF, hd, h⟩⟩
        · exact ⟨h.2, Nat.le_trans s.base h.1, .inl h.1⟩
      · rw [o2] at hb
        rcases ho2 b hb with h | h
        · exact ⟨Nat.lt_of_lt_of_le (hlow b h).2 hm.size, (hlow b h).1, .inr ⟨n, d, .inl rfl, hF, hd, h⟩⟩
        · exact ⟨h.2, Nat.le_trans s.base h.1, .inl h.1⟩
    · rcases h1 with rfl | rfl <;> rcases h2 with rfl | rfl
      · exact hne rfl
      · rw [o1] at hb; rw [o2] at hb'; exact hdis b hb' hb
      · rw [o2] at hb; rw [o1] at hb'; exact hdis b hb hb'
      · exact hne rfl
end
theorem came_places {a : UB} {f : Pl → Int} {L : List Pl} (h : URel a.A0 a.A1 a.A2 a.W a.len f) (hs : L.Pairwise ltPl) (hc : Came a a.len L) : IsPlaces f L := by
  refine ⟨hs, fun p => ?_⟩
  rw [hc p]
  constructor
  · rintro ⟨j, h1, rfl, h3⟩
    exact ⟨h.wf j h1, by rw [show f (a.key j) = a.W j from h.val j h1]; exact h3⟩
  · rintro ⟨h1, h2⟩
    by_cases hx : ∃ j, j < a.len ∧ a.key j = p
    · obtain ⟨j, h3, rfl⟩ := hx
      exact ⟨j, h3, rfl, by rw [← show f (a.key j) = a.W j from h.val j h3]; exact h2⟩
    · exact absurd (h.off p fun k hk e => hx ⟨k, hk, e⟩) h2
theorem vec_rows {B0 B1 B2 : Nat → Int} {L : List Pl} {m : Nat} {sp : Spot} {own : List Nat} {w : World} (h : VecAt (colsF [.int .i64 B0, .int .i64 B1, .int .i64 B2]) m 51 3 sp own w) (hm : L.length = m) (hr : RowsOf B0 B1 B2 L) : VecAt (plRow L) L.length 51 3 sp own w := by
  subst hm
  have e : ∀ i, i < L.length → colsF [.int .i64 B0, .int .i64 B1, .int .i64 B2] i = plRow L i := fun i hi => by
    have := hr i hi
    simp only [Prod.ext_iff] at this
    simp only [colsF, Col.at, plRow, kvs, this.1, this.2.1, this.2.2]
  obtain ⟨h1, h2, h3, h4, h5⟩ := h
  refine ⟨h1, h2, h3, fun i hi => by rw [← e i hi]; exact h4 i hi, ?_⟩
  cases ha : sp.ad with
  | none => rw [ha] at h5; exact h5
  | some g =>
    rw [ha] at h5
    obtain ⟨g1, g2, cs, g3, g4, g5⟩ := h5
    exact ⟨g1, g2, cs, g3, g4, fun i hi j hj => by rw [← e i hi]; exact g5 i hi j hj⟩
set_option maxRecDepth 100000 in
set_option maxHeartbeats 4000000 in
theorem ucells_places {f : Pl → Int} {n : Nat} {e : Spot} {own : List Nat} {w : World} (h : UAt f n e own w) (hn : n ≤ 1000000) :
    Calls Tryz.prog 56 #[.pointer (some ⟨e.b, e.off, none⟩)] w fun x w' => ∃ (sp : Spot) (own' own2 : List Nat), x = .returned (.slice sp.ad (placesOf f).length sp.cap) ∧ VecAt (plRow (placesOf f)) (placesOf f).length 51 3 sp own2 w' ∧
      UAt f n e own' w' ∧ ModP (fun b => b ∈ own) w w' ∧ (∀ b ∈ own', b ∈ own ∨ (w.heap.size ≤ b ∧ b < w'.heap.size)) ∧ (∀ b ∈ own2, b ∈ own ∨ (w.heap.size ≤ b ∧ b < w'.heap.size)) ∧ ∀ b ∈ own2, b ∉ own' := by
  obtain ⟨A0, A1, A2, W, len, sp, own1, rfl, h1, h2, h3, h4, h5⟩ := h
  have hst := cells_stand h1 h2 h3 (argsE [.ptr 0 0])
  refine (Tri.calls (pin := 1) Tryz.func56 (c := bodyOf Tryz.prog upF) (by kernel_rfl) (args := [.ptr 0 0]) (Nat.le_of_ble_eq_true (by kernel_rfl)) (up_start ⟨A0, A1, A2, W, len⟩ ⟨Nat.le_trans h5 hn, fun i j hi hj he => h4.one i j hi hj he⟩) hst (vals := [.pointer (some ⟨e.b, e.off, none⟩)]) rfl).mono ?_
  rintro x w' ⟨y, l, s', ρ', own', rfl, hy, ⟨B0, B1, B2, m, rfl, hhp, L, hL, hr, hs1, hc1⟩, hs, hw, hpp⟩
  have hip := came_places (a := ⟨A0, A1, A2, W, len⟩) h4 hs1 hc1
  rw [placesOf_eq hip]
  obtain ⟨e0, g0, o0, cs, vs, q1, q2, q3, q4, q5⟩ := hs.li.at_ 0 (.row [.tsl 2 len] tRC) trivial (by rw [hhp]; rfl)
  obtain ⟨sp1, g1, v1⟩ := hs.li.at_ 1 (.rep (.vec [.int .i64 B0, .int .i64 B1, .int .i64 B2] m 51)) trivial (by rw [hhp]; rfl)
  obtain ⟨sp2, g2, v2⟩ := hs.li.at_ 2 (.rep (.vec (oneCols A0 A1 A2 W) len tOne)) trivial (by rw [hhp]; rfl)
  have he : some e = some e0 := (hpp 0 (by decide)).symm.trans g0
  injection he with he
  subst he
  simp only [denL, den, g2, Option.map_some, Option.some.injEq] at q2
  subst q2
  rw [cells1, Nat.mul_one] at q4 q5
  simp only [oneOf, den, g1, Option.map_some, Option.some.injEq] at hy
  subst hy
  have hown : ∀ m d, hget m (cellsHp A0 A1 A2 W len) = some d → ∀ b ∈ cellsO e.b own1 m, b ∈ e.b :: own1 := fun m d hd b hb => by
    rcases cellsHp_get hd with ⟨rfl, _⟩ | ⟨rfl, _⟩
    · simp only [cellsO, List.mem_singleton] at hb; simp [hb]
    · exact List.mem_cons_of_mem _ hb
  have came : ∀ k c, hget k s'.hp = some c → ∀ b ∈ own' k, b ∈ e.b :: own1 ∨ (w.heap.size ≤ b ∧ b < w'.heap.size) := fun k c hk b hb => by
    rcases hw.pool k c hk b hb with h | ⟨m, d, hd, hm⟩
    · exact .inr ⟨h, (hs.li.low k c trivial hk b hb).2⟩
    · exact .inl (hown m d hd b hm)
  have k0 : hget 0 s'.hp = some (.row [.tsl 2 len] tRC) := by rw [hhp]; rfl
  have k1 : hget 1 s'.hp = some (.rep (.vec [.int .i64 B0, .int .i64 B1, .int .i64 B2] m 51)) := by rw [hhp]; rfl
  have k2 : hget 2 s'.hp = some (.rep (.vec (oneCols A0 A1 A2 W) len tOne)) := by rw [hhp]; rfl
  refine ⟨sp1, e.b :: own' 2, own' 1, by rw [hL], vec_rows v1 hL hr, ⟨A0, A1, A2, W, len, sp2, own' 2, rfl, fun hx => ?_, ⟨cs, q1, q3 0 (by simp), q4, q5⟩, v2, h4, h5⟩, hw.mod.mono fun b _ ⟨m, d, hd, hb⟩ => hown m d hd b hb, fun b hb => ?_, fun b hb => came 1 _ k1 b hb, fun b hb hb' => ?_⟩
  · exact hs.li.dis 0 2 _ _ trivial trivial (by decide) k0 k2 e.b (by rw [o0]; simp) hx
  · rcases List.mem_cons.1 hb with rfl | hb
    · exact .inl (by simp)
    · exact came 2 _ k2 b hb
  · rcases List.mem_cons.1 hb' with rfl | hb'
    · exact hs.li.dis 0 1 _ _ trivial trivial (by decide) k0 k1 e.b (by rw [o0]; simp) hb
    · exact hs.li.dis 1 2 _ _ trivial trivial (by decide) k1 k2 b hb hb'
noncomputable def placesUX : List SV → M Rep SV
  | [.ptr n 0] => (getC n).bind fun c => (M.opt 370 (asU c)).bind fun | (l, g, k) => (need 371 (Nat.ble k 1000000)).bind fun _ => (setC n (.rep (.ucells l g k))).bind fun _ =>
    (newC (.rep (.vec (colsPl (placesOf (getL l g))) (placesOf (getL l g)).length 51))).bind fun k2 => .ret (.tsl k2 (placesOf (getL l g)).length)
  | _ => .fail 372
theorem placesU_s {args : List SV} {st st' : St Rep} {s : SV} (h : placesUX args st = .ok s st') : CallS repAt Tryz.prog 56 args st st' s := by
  unfold placesUX at h
  split at h
  · next n =>
    obtain ⟨c, st1, h3, h4⟩ := bind_ok.1 h
    obtain ⟨hc, rfl⟩ := getC_ok.1 h3
    obtain ⟨⟨l, g, k⟩, _, h5, h6⟩ := bind_ok.1 h4
    obtain ⟨hu, rfl⟩ := opt_ok.1 h5
    obtain ⟨_, st2, h9, h10⟩ := bind_ok.1 h6
    obtain ⟨q2, hq⟩ := need_ok h9
    obtain ⟨_, st3, h11, h12⟩ := bind_ok.1 h10
    obtain ⟨_, rfl⟩ := setC_ok.1 h11
    obtain ⟨k2, st4, h13, h14⟩ := bind_ok.1 h12
    obtain ⟨rfl, rfl⟩ := newC_ok.1 h13
    obtain ⟨rfl, rfl⟩ := ret_ok.1 h14
    have q := Quiet.get.trans q2
    have hc2 : hget n st2.hp = some c := by rw [q.hp]; exact hc
    refine ⟨q.fn.trans ((Fn.set st2 n (.rep (.ucells l g k)) _ hc2).trans (Fn.new _ _)), fun B F ρ own w vals si hv => ?_⟩
    have s1 := si.of_quiet q
    obtain ⟨e, he, hat⟩ := s1.li.at_ n _ (s1.log n (mem_ins.2 (.inl rfl))) hc2
    simp only [denL, den, he, Option.map_some, Option.some.injEq, Nat.add_zero] at hv
    subst hv
    refine (ucells_places (asU_at hu hat) (Nat.le_of_ble_eq_true (hq si.ask))).mono ?_
    rintro x w' ⟨sp, own', own2, rfl, hvec, hu', hm, ho, ho2, hd⟩
    have ht := Tr.setNew (A := repAt) (P := Tryz.prog) (B := B) (F := F) (own := own) (e2 := sp) (c := .rep (.ucells l g k)) (c2 := .rep (.vec (colsPl (placesOf (getL l g))) (placesOf (getL l g)).length 51)) s1 hc2 he hm (show Rep.At B (.ucells l g k) e own' w' from hu') (show Rep.At B (.vec (colsPl (placesOf (getL l g))) (placesOf (getL l g)).length 51) sp own2 w' from hvec) ho ho2 hd
    exact ⟨_, _, _, rfl, by simp [den, Names.put_same, St.set], Tr.of_quiet q ht⟩
  · exact (fail_ok.1 h).elim
/-- The document's calls on Cells. -/
noncomputable def primUP (f : FuncId) (args : List SV) : Option (M Rep SV) := match Nat.beq f 56 with
  | true => some (placesUX args)
  | false => primU f args
theorem primUP_ok : ∀ f args m, primUP f args = some m → ∀ st s st', m st = .ok s st' → CallS repAt Tryz.prog f args st st' s := by
  intro f args m hm st s st' h
  unfold primUP at hm
  split at hm
  · next hb =>
    obtain rfl := Nat.eq_of_beq_eq_true hb
    cases hm
    exact placesU_s h
  · exact primU_ok f args m hm st s st' h
end Go.Proofs.YtpaiejeipghehaaGreat
end
section
/- What memory tells of a Cells: its places are finitely many. No condition. -/
namespace Go.Proofs.YtpaiejeipghehaaGreat
open Go.RowKit
theorem Tri.know {A : RepAt Rep} {P : Program} {sz pin : Nat} {g : Goer} {fs : List Fr} {s : Sym Rep} {Q : Ex → Sym Rep → Prop} {φ : Prop} (h : ∀ B ρ own w, Stand A P B s ρ own w → φ) (k : φ → Tri A P sz pin g fs s Q) : Tri A P sz pin g fs s Q :=
  fun B ρ own w a hs he hz K hk => k (h B ρ own w hs) B ρ own w a hs he hz K hk
theorem nodup_map {α β : Type} {f : α → β} : ∀ {l : List α}, l.Nodup → (∀ x ∈ l, ∀ y ∈ l, f x = f y → x = y) → (l.map f).Nodup
  | [], _, _ => List.nodup_nil
  | a :: l, h, hf => by
    rw [List.nodup_cons] at h
    rw [List.map_cons, List.nodup_cons]
    refine ⟨fun hm => ?_, nodup_map h.2 fun x hx y hy => hf x (List.mem_cons_of_mem _ hx) y (List.mem_cons_of_mem _ hy)⟩
    obtain ⟨y, hy, he⟩ := List.mem_map.1 hm
    have := hf y (List.mem_cons_of_mem _ hy) a (by simp) he
    subst this
    exact h.1 hy
theorem urel_fin {A0 A1 A2 W : Nat → Int} {len : Nat} {f : Pl → Int} (h : URel A0 A1 A2 W len f) : IsPlaces f (placesOf f) ∧ (placesOf f).length ≤ len := by
  have hnd : (((List.range len).filter fun k => decide (W k ≠ 0)).map fun k => ((A0 k, A1 k, A2 k) : Pl)).Nodup := nodup_map (List.Pairwise.filter _ List.nodup_range) fun x hx y hy e => by
    have hx := List.mem_range.1 (List.mem_filter.1 hx).1
    have hy := List.mem_range.1 (List.mem_filter.1 hy).1
    exact h.one x y hx hy e
  have hip := places_ex (f := f) hnd fun p => by
    rw [List.mem_map]
    constructor
    · rintro ⟨k, hk, rfl⟩
      obtain ⟨h1, h2⟩ := List.mem_filter.1 hk
      have h1 := List.mem_range.1 h1
      refine ⟨h.wf k h1, ?_⟩
      rw [h.val k h1]
      simpa using h2
    · rintro ⟨_, h2⟩
      by_cases hx : ∃ k, k < len ∧ ((A0 k, A1 k, A2 k) : Pl) = p
      · obtain ⟨k, h3, rfl⟩ := hx
        rw [h.val k h3] at h2
        exact ⟨k, List.mem_filter.2 ⟨List.mem_range.2 h3, by simpa using h2⟩, rfl⟩
      · exact absurd (h.off p fun k hk e => hx ⟨k, hk, e⟩) h2
  refine ⟨hip.1, ?_⟩
  rw [hip.2, List.length_map]
  exact Nat.le_trans (List.length_filter_le _ _) (by simp)
theorem uat_fin {f : Pl → Int} {n : Nat} {e : Spot} {own : List Nat} {w : World} (h : UAt f n e own w) : IsPlaces f (placesOf f) ∧ (placesOf f).length ≤ n := by
  obtain ⟨A0, A1, A2, W, len, sp, own1, _, _, _, _, h4, h5⟩ := h
  have := urel_fin h4
  exact ⟨this.1, Nat.le_trans this.2 h5⟩
/-- What is known where a Cells stands. -/
theorem stand_fin {P : Program} {B k n : Nat} {s : Sym Rep} {ρ : Names} {own : Nat → List Nat} {w : World} {l : List (Pl × Int)} {g : Pl → Int} (hs : Stand repAt P B s ρ own w) (hk : hget k s.hp = some (.rep (.ucells l g n))) : IsPlaces (getL l g) (placesOf (getL l g)) ∧ (placesOf (getL l g)).length ≤ n := by
  obtain ⟨e, _, hat⟩ := hs.li.at_ k _ trivial hk
  exact uat_fin hat
theorem getD_mem {L : List Pl} {k : Nat} (h : k < L.length) : L.getD k (0, 0, 0) ∈ L := by
  simp [List.getD, List.getElem?_eq_getElem h]
theorem place_wf {f : Pl → Int} {L : List Pl} (h : IsPlaces f L) {k : Nat} (hk : k < L.length) : plWfB ((L.getD k (0, 0, 0)).1, (L.getD k (0, 0, 0)).2.1, (L.getD k (0, 0, 0)).2.2) = true := plWfB_iff.2 ((h.2 _).1 (getD_mem hk)).1
end Go.Proofs.YtpaiejeipghehaaGreat
end
section
/- A number put into a field of a word, in numbers. No condition. -/
namespace Go.Proofs.YtpaiejeipghehaaGreat

/-- A field as the program puts it: what was there struck, the number laid in. -/
def putP (w x : Int) (sh k : Int) : Int := IntKind.u64.wrap ↑(BitVec.ofInt IntKind.u64.bits (IntKind.u64.wrap ↑(BitVec.ofInt IntKind.u64.bits w &&& ~~~BitVec.ofInt IntKind.u64.bits
    (IntKind.u64.wrap (Int.fdiv 18446744073709551615 (2 ^ min (IntKind.u64.wrap (IntKind.i64.wrap k)).toNat IntKind.u64.bits) * 2 ^ min (IntKind.u64.wrap sh).toNat IntKind.u64.bits))).toNat) |||
  BitVec.ofInt IntKind.u64.bits (IntKind.u64.wrap (x * 2 ^ min (IntKind.u64.wrap sh).toNat IntKind.u64.bits))).toNat
theorem strike (w m sh : Nat) (hw : w < 2 ^ sh) (hsh : sh < 64) : (BitVec.ofNat 64 w &&& ~~~BitVec.ofNat 64 (m * 2 ^ sh)).toNat = w := by
  have hw64 : w < 2 ^ 64 := Nat.lt_of_lt_of_le hw (Nat.pow_le_pow_right (by omega) (by omega))
  have e : BitVec.ofNat 64 w &&& ~~~BitVec.ofNat 64 (m * 2 ^ sh) = BitVec.ofNat 64 w := by
    apply BitVec.eq_of_getLsbD_eq
    intro i hi
    simp only [BitVec.getLsbD_and, BitVec.getLsbD_not, BitVec.getLsbD_ofNat, Nat.testBit_mul_two_pow, hi, decide_true, Bool.true_and]
    by_cases h : sh ≤ i
    · have : w.testBit i = false := Nat.testBit_lt_two_pow (Nat.lt_of_lt_of_le hw (Nat.pow_le_pow_right (by omega) h))
      simp [this]
    · simp [h]
  rw [e, BitVec.toNat_ofNat, Nat.mod_eq_of_lt hw64]
theorem lay (w x sh k : Nat) (hw : w < 2 ^ sh) (hx : x < 2 ^ k) (hk : sh + k ≤ 64) : (BitVec.ofNat 64 w ||| BitVec.ofNat 64 (x * 2 ^ sh)).toNat = w + x * 2 ^ sh := by
  have hw64 : w < 2 ^ 64 := Nat.lt_of_lt_of_le hw (Nat.pow_le_pow_right (by omega) (by omega))
  have hx64 : x * 2 ^ sh < 2 ^ 64 := by
    have h1 : x * 2 ^ sh < 2 ^ k * 2 ^ sh := Nat.mul_lt_mul_of_pos_right hx (Nat.two_pow_pos _)
    rw [← Nat.pow_add] at h1
    exact Nat.lt_of_lt_of_le h1 (Nat.pow_le_pow_right (by omega) (by omega))
  rw [BitVec.toNat_or, BitVec.toNat_ofNat, BitVec.toNat_ofNat, Nat.mod_eq_of_lt hw64, Nat.mod_eq_of_lt hx64, Nat.or_comm, Nat.mul_comm, ← Nat.two_pow_add_eq_or_of_lt hw]
  omega
theorem putP_eq {w x : Int} (sh k : Nat) (hw0 : 0 ≤ w) (hw : w < 2 ^ sh) (hx0 : 0 ≤ x) (hx : x < 2 ^ k) (hk0 : 0 < k) (hk : sh + k ≤ 64) : putP w x sh (64 - k : Nat) = w + x * 2 ^ sh := by
  obtain ⟨w, rfl⟩ := Int.eq_ofNat_of_zero_le hw0
  obtain ⟨x, rfl⟩ := Int.eq_ofNat_of_zero_le hx0
  have hw' : w < 2 ^ sh := by exact_mod_cast hw
  have hx' : x < 2 ^ k := by exact_mod_cast hx
  have hw64 : w < 2 ^ 64 := Nat.lt_of_lt_of_le hw' (Nat.pow_le_pow_right (by omega) (by omega))
  have hx64 : x * 2 ^ sh < 2 ^ 64 := by
    have h1 : x * 2 ^ sh < 2 ^ k * 2 ^ sh := Nat.mul_lt_mul_of_pos_right hx' (Nat.two_pow_pos _)
    rw [← Nat.pow_add] at h1
    exact Nat.lt_of_lt_of_le h1 (Nat.pow_le_pow_right (by omega) (by omega))
  have hm64 : (2 ^ k - 1) * 2 ^ sh < 2 ^ 64 := by
    have h1 : (2 ^ k - 1) * 2 ^ sh < 2 ^ k * 2 ^ sh := Nat.mul_lt_mul_of_pos_right (by have := Nat.two_pow_pos k; omega) (Nat.two_pow_pos _)
    rw [← Nat.pow_add] at h1
    exact Nat.lt_of_lt_of_le h1 (Nat.pow_le_pow_right (by omega) (by omega))
  unfold putP
  rw [wrapU (x := (sh : Int)) (by omega) (by omega), wrapI (x := ((64 - k : Nat) : Int)) (by omega) (by omega), wrapU (x := ((64 - k : Nat) : Int)) (by omega) (by omega)]
  simp only [Int.toNat_natCast]
  have e1 : min sh IntKind.u64.bits = sh := Nat.min_eq_left (by simp [IntKind.bits]; omega)
  have e2 : min (64 - k) IntKind.u64.bits = 64 - k := Nat.min_eq_left (by simp [IntKind.bits])
  have e4 : Int.fdiv 18446744073709551615 (2 ^ (64 - k)) = ((2 ^ k - 1 : Nat) : Int) := by
    have h1 := fdiv_nat 18446744073709551615 (2 ^ (64 - k))
    have h2 : 18446744073709551615 / 2 ^ (64 - k) = 2 ^ k - 1 := by
      have h3 : 2 ^ 64 = 2 ^ k * 2 ^ (64 - k) := by rw [← Nat.pow_add]; congr 1; omega
      have h4 : 0 < 2 ^ (64 - k) := Nat.two_pow_pos _
      have h5 : 0 < 2 ^ k := Nat.two_pow_pos _
      have h6 : 18446744073709551615 = (2 ^ k - 1) * 2 ^ (64 - k) + (2 ^ (64 - k) - 1) := by
        rw [Nat.sub_mul, Nat.one_mul, ← h3]
        have : 2 ^ (64 - k) ≤ 2 ^ 64 := Nat.pow_le_pow_right (by omega) (by omega)
        omega
      rw [h6, Nat.mul_comm, Nat.mul_add_div h4, Nat.div_eq_of_lt (by omega)]
      omega
    rw [← h2]
    simpa using h1
  rw [e1, e2, e4]
  have c1 : ((2 ^ k - 1 : Nat) : Int) * 2 ^ sh = (((2 ^ k - 1) * 2 ^ sh : Nat) : Int) := by simp
  have c2 : (x : Int) * 2 ^ sh = ((x * 2 ^ sh : Nat) : Int) := by simp
  rw [c1, c2, wrapU (x := (((2 ^ k - 1) * 2 ^ sh : Nat) : Int)) (by omega) (by omega), wrapU (x := ((x * 2 ^ sh : Nat) : Int)) (by omega) (by omega)]
  show IntKind.u64.wrap ↑(BitVec.ofInt 64 (IntKind.u64.wrap ↑(BitVec.ofInt 64 (w : Int) &&& ~~~BitVec.ofInt 64 (((2 ^ k - 1) * 2 ^ sh : Nat) : Int)).toNat) ||| BitVec.ofInt 64 ((x * 2 ^ sh : Nat) : Int)).toNat = _
  rw [ofInt_nat w, ofInt_nat ((2 ^ k - 1) * 2 ^ sh), strike w (2 ^ k - 1) sh hw' (by omega), wrapU (x := (w : Int)) (by omega) (by omega), ofInt_nat w, ofInt_nat (x * 2 ^ sh), lay w x sh k hw' hx' hk]
  have : w + x * 2 ^ sh < 2 ^ 64 := by
    have h1 : x * 2 ^ sh + 2 ^ sh ≤ 2 ^ k * 2 ^ sh := by
      rw [← Nat.succ_mul]
      exact Nat.mul_le_mul_right _ hx'
    rw [← Nat.pow_add, Nat.add_comm k sh] at h1
    have := Nat.pow_le_pow_right (n := 2) (by omega) hk
    omega
  rw [wrapU (by omega) (by omega)]
  simp
end Go.Proofs.YtpaiejeipghehaaGreat
end
section
/- Links of words: what the program's functions answer, in numbers. No condition. -/
namespace Go.Proofs.YtpaiejeipghehaaGreat
set_option maxRecDepth 100000
set_option linter.unusedSimpArgs false

def lkSlot (w : Int) : Int := IntKind.i64.wrap (fieldP w 40 (64 - 23))
def lkVer (w : Int) : Int := IntKind.i64.wrap (fieldP w 0 (64 - 40))
def lkMark (w : Int) : Bool := w.fdiv (2 ^ min (Int.toNat 63) IntKind.u64.bits) == 1
def lkOK (s v : Int) : Prop := (0 ≤ s ∧ s ≤ 8388607) ∧ 0 ≤ v ∧ v ≤ 1099511627775
def lkRaw (m s v : Int) : Int := putP (putP (putP 0 v 0 (64 - 40)) s 40 (64 - 23)) m 63 (64 - 1)
theorem lkSlot_eq {w : Int} (h0 : 0 ≤ w) : lkSlot w = w / 1099511627776 % 8388608 := by
  have e := fieldP_eq h0 40 23 (by omega) (by omega)
  have e' : fieldP w 40 (64 - 23) = w / 1099511627776 % 8388608 := e
  rw [lkSlot, e', wrapI (by omega) (by omega)]
theorem lkVer_eq {w : Int} (h0 : 0 ≤ w) : lkVer w = w % 1099511627776 := by
  have e := fieldP_eq h0 0 40 (by omega) (by omega)
  have e' : fieldP w 0 (64 - 40) = w / 1 % 1099511627776 := e
  rw [lkVer, e', Int.ediv_one, wrapI (by omega) (by omega)]
theorem lkMark_eq {w : Int} (h0 : 0 ≤ w) (h1 : w < 18446744073709551616) : lkMark w = decide (9223372036854775808 ≤ w) := by
  have e : (2 ^ min (Int.toNat 63) IntKind.u64.bits : Int) = 9223372036854775808 := by rfl
  rw [lkMark, e, Int.fdiv_eq_ediv_of_nonneg _ (by omega), Bool.eq_iff_iff, beq_iff_eq, decide_eq_true_eq]
  omega
theorem lkRaw_eq {m s v : Int} (hm : m = 0 ∨ m = 1) (h : lkOK s v) : lkRaw m s v = v + s * 1099511627776 + m * 9223372036854775808 := by
  obtain ⟨⟨h1, h2⟩, h3, h4⟩ := h
  have e1 : putP 0 v 0 (64 - 40) = 0 + v * 2 ^ 0 := putP_eq (w := 0) (x := v) 0 40 (by omega) (by omega) h3 (by omega) (by omega) (by omega)
  have e2 : putP v s 40 (64 - 23) = v + s * 2 ^ 40 := putP_eq (w := v) (x := s) 40 23 h3 (by omega) h1 (by omega) (by omega) (by omega)
  have e3 : putP (v + s * 2 ^ 40) m 63 (64 - 1) = v + s * 2 ^ 40 + m * 2 ^ 63 := putP_eq (w := v + s * 2 ^ 40) (x := m) 63 1 (by omega) (by omega) (by omega) (by omega) (by omega) (by omega)
  rw [lkRaw, e1, show (0 : Int) + v * 2 ^ 0 = v by omega, e2, e3]
  omega
end Go.Proofs.YtpaiejeipghehaaGreat
end
section
/- Links of words: contracts of the program's functions, and of the document's. No condition. -/
namespace Go.Proofs.YtpaiejeipghehaaGreat
set_option maxRecDepth 100000
set_option maxHeartbeats 4000000
set_option linter.unusedSimpArgs false
set_option linter.unusedVariables false
/-- A link's word. -/
def lkWord (m : Bool) (s v : Int) : Int := if (0 ≤ s ∧ s ≤ 8388607) ∧ 0 ≤ v ∧ v ≤ 1099511627775 then v + s * 1099511627776 + (if m then 9223372036854775808 else 0) else 0
def lkMarked (w s v : Int) : Int := if lkMark w = true then w else lkWord true s v
theorem to_good (s v : Int) : Good (fun o => run0 114 [.v (.int .i64 s), .v (.int .i64 v)] (St.none o)) (fun x => x = .int .u64 (lkWord false s v)) := by
  rcases Bool.eq_false_or_eq_true (decide (s ≥ 0)) with h0 | h0
  · rcases Bool.eq_false_or_eq_true (decide (s ≤ 8388607)) with h1 | h1
    · rcases Bool.eq_false_or_eq_true (decide (v ≥ 0)) with h2 | h2
      · rcases Bool.eq_false_or_eq_true (decide (v ≤ 1099511627775)) with h3 | h3
        · have h4 : (decide (IntKind.u64.wrap v > Int.fdiv 18446744073709551615 (2 ^ min (IntKind.u64.wrap (IntKind.i64.wrap (64 - 40))).toNat IntKind.u64.bits))) = false := by ((have f40 : Int.fdiv 18446744073709551615 (2 ^ min (IntKind.u64.wrap (IntKind.i64.wrap (64 - 40))).toNat IntKind.u64.bits) = 1099511627775 := by rfl); (have f23 : Int.fdiv 18446744073709551615 (2 ^ min (IntKind.u64.wrap (IntKind.i64.wrap (64 - 23))).toNat IntKind.u64.bits) = 8388607 := by rfl); simp only [decide_eq_true_eq, decide_eq_false_iff_not, f40, f23] at *; rw [wrapU (by omega) (by omega)]; omega)
          have h5 : (decide (IntKind.u64.wrap s > Int.fdiv 18446744073709551615 (2 ^ min (IntKind.u64.wrap (IntKind.i64.wrap (64 - 23))).toNat IntKind.u64.bits))) = false := by ((have f40 : Int.fdiv 18446744073709551615 (2 ^ min (IntKind.u64.wrap (IntKind.i64.wrap (64 - 40))).toNat IntKind.u64.bits) = 1099511627775 := by rfl); (have f23 : Int.fdiv 18446744073709551615 (2 ^ min (IntKind.u64.wrap (IntKind.i64.wrap (64 - 23))).toNat IntKind.u64.bits) = 8388607 := by rfl); simp only [decide_eq_true_eq, decide_eq_false_iff_not, f40, f23] at *; rw [wrapU (by omega) (by omega)]; omega)
          exact ⟨List.replicate 12 (some true) ++ [some false] ++ List.replicate 165 (none) ++ [some false] ++ List.replicate 56 (none) ++ [some false], [((decide (IntKind.u64.wrap s > Int.fdiv 18446744073709551615 (2 ^ min (IntKind.u64.wrap (IntKind.i64.wrap (64 - 23))).toNat IntKind.u64.bits))), false), ((decide (IntKind.u64.wrap v > Int.fdiv 18446744073709551615 (2 ^ min (IntKind.u64.wrap (IntKind.i64.wrap (64 - 40))).toNat IntKind.u64.bits))), false), (!(decide (v ≤ 1099511627775)), false), ((decide (v ≥ 0)), true), ((decide (v ≥ 0)), true), ((decide (v ≥ 0)), true), ((decide (v ≥ 0)), true), ((decide (s ≤ 8388607)), true), ((decide (s ≤ 8388607)), true), ((decide (s ≤ 8388607)), true), ((decide (s ≤ 8388607)), true), ((decide (s ≥ 0)), true), ((decide (s ≥ 0)), true), ((decide (s ≥ 0)), true), ((decide (s ≥ 0)), true)], Value.int IntKind.u64 (IntKind.u64.wrap (↑(BitVec.ofInt IntKind.u64.bits (IntKind.u64.wrap (↑(BitVec.ofInt IntKind.u64.bits (IntKind.u64.wrap (↑(BitVec.ofInt IntKind.u64.bits (IntKind.u64.wrap (↑(BitVec.ofInt IntKind.u64.bits (IntKind.u64.wrap (↑(BitVec.ofInt IntKind.u64.bits (IntKind.u64.wrap (↑(BitVec.ofInt IntKind.u64.bits 0 &&& ~~~BitVec.ofInt IntKind.u64.bits (IntKind.u64.wrap (Int.fdiv 18446744073709551615 (2 ^ min (IntKind.u64.wrap (IntKind.i64.wrap (64 - 40))).toNat IntKind.u64.bits) * 2 ^ min (IntKind.u64.wrap 0).toNat IntKind.u64.bits))).toNat : Int)) ||| BitVec.ofInt IntKind.u64.bits (IntKind.u64.wrap (IntKind.u64.wrap v * 2 ^ min (IntKind.u64.wrap 0).toNat IntKind.u64.bits))).toNat : Int)) &&& ~~~BitVec.ofInt IntKind.u64.bits (IntKind.u64.wrap (Int.fdiv 18446744073709551615 (2 ^ min (IntKind.u64.wrap (IntKind.i64.wrap (64 - 23))).toNat IntKind.u64.bits) * 2 ^ min (IntKind.u64.wrap 40).toNat IntKind.u64.bits))).toNat : Int)) ||| BitVec.ofInt IntKind.u64.bits (IntKind.u64.wrap (IntKind.u64.wrap s * 2 ^ min (IntKind.u64.wrap 40).toNat IntKind.u64.bits))).toNat : Int)) &&& ~~~BitVec.ofInt IntKind.u64.bits (IntKind.u64.wrap (Int.fdiv 18446744073709551615 (2 ^ min (IntKind.u64.wrap (IntKind.i64.wrap (64 - 1))).toNat IntKind.u64.bits) * 2 ^ min (IntKind.u64.wrap 63).toNat IntKind.u64.bits))).toNat : Int)) ||| BitVec.ofInt IntKind.u64.bits (IntKind.u64.wrap (0 * 2 ^ min (IntKind.u64.wrap 63).toNat IntKind.u64.bits))).toNat : Int)), by kernel_rfl, ⟨h5, h4, (by rw [h3]; rfl), h2, h2, h2, h2, h1, h1, h1, h1, h0, h0, h0, h0, trivial⟩, (by simp only [decide_eq_true_eq, decide_eq_false_iff_not] at *; first | (rw [lkWord, if_neg (by omega)]; rfl) | (rw [lkWord, if_pos ⟨⟨by omega, by omega⟩, by omega, by omega⟩]; show Value.int _ (lkRaw 0 (IntKind.u64.wrap s) (IntKind.u64.wrap v)) = _; rw [wrapU (x := s) (by omega) (by omega), wrapU (x := v) (by omega) (by omega), lkRaw_eq (.inl rfl) ⟨⟨by omega, by omega⟩, by omega, by omega⟩]; simp))⟩
        · exact ⟨List.replicate 13 (some true), [(!(decide (v ≤ 1099511627775)), true), ((decide (v ≥ 0)), true), ((decide (v ≥ 0)), true), ((decide (v ≥ 0)), true), ((decide (v ≥ 0)), true), ((decide (s ≤ 8388607)), true), ((decide (s ≤ 8388607)), true), ((decide (s ≤ 8388607)), true), ((decide (s ≤ 8388607)), true), ((decide (s ≥ 0)), true), ((decide (s ≥ 0)), true), ((decide (s ≥ 0)), true), ((decide (s ≥ 0)), true)], Value.int IntKind.u64 (Int.ofNat 0), by kernel_rfl, ⟨(by rw [h3]; rfl), h2, h2, h2, h2, h1, h1, h1, h1, h0, h0, h0, h0, trivial⟩, (by simp only [decide_eq_true_eq, decide_eq_false_iff_not] at *; first | (rw [lkWord, if_neg (by omega)]; rfl) | (rw [lkWord, if_pos ⟨⟨by omega, by omega⟩, by omega, by omega⟩]; show Value.int _ (lkRaw 0 (IntKind.u64.wrap s) (IntKind.u64.wrap v)) = _; rw [wrapU (x := s) (by omega) (by omega), wrapU (x := v) (by omega) (by omega), lkRaw_eq (.inl rfl) ⟨⟨by omega, by omega⟩, by omega, by omega⟩]; simp))⟩
      · exact ⟨List.replicate 8 (some true) ++ List.replicate 4 (some false), [((decide (v ≥ 0)), false), ((decide (v ≥ 0)), false), ((decide (v ≥ 0)), false), ((decide (v ≥ 0)), false), ((decide (s ≤ 8388607)), true), ((decide (s ≤ 8388607)), true), ((decide (s ≤ 8388607)), true), ((decide (s ≤ 8388607)), true), ((decide (s ≥ 0)), true), ((decide (s ≥ 0)), true), ((decide (s ≥ 0)), true), ((decide (s ≥ 0)), true)], Value.int IntKind.u64 (Int.ofNat 0), by kernel_rfl, ⟨h2, h2, h2, h2, h1, h1, h1, h1, h0, h0, h0, h0, trivial⟩, (by simp only [decide_eq_true_eq, decide_eq_false_iff_not] at *; first | (rw [lkWord, if_neg (by omega)]; rfl) | (rw [lkWord, if_pos ⟨⟨by omega, by omega⟩, by omega, by omega⟩]; show Value.int _ (lkRaw 0 (IntKind.u64.wrap s) (IntKind.u64.wrap v)) = _; rw [wrapU (x := s) (by omega) (by omega), wrapU (x := v) (by omega) (by omega), lkRaw_eq (.inl rfl) ⟨⟨by omega, by omega⟩, by omega, by omega⟩]; simp))⟩
    · exact ⟨List.replicate 4 (some true) ++ List.replicate 4 (some false), [((decide (s ≤ 8388607)), false), ((decide (s ≤ 8388607)), false), ((decide (s ≤ 8388607)), false), ((decide (s ≤ 8388607)), false), ((decide (s ≥ 0)), true), ((decide (s ≥ 0)), true), ((decide (s ≥ 0)), true), ((decide (s ≥ 0)), true)], Value.int IntKind.u64 (Int.ofNat 0), by kernel_rfl, ⟨h1, h1, h1, h1, h0, h0, h0, h0, trivial⟩, (by simp only [decide_eq_true_eq, decide_eq_false_iff_not] at *; first | (rw [lkWord, if_neg (by omega)]; rfl) | (rw [lkWord, if_pos ⟨⟨by omega, by omega⟩, by omega, by omega⟩]; show Value.int _ (lkRaw 0 (IntKind.u64.wrap s) (IntKind.u64.wrap v)) = _; rw [wrapU (x := s) (by omega) (by omega), wrapU (x := v) (by omega) (by omega), lkRaw_eq (.inl rfl) ⟨⟨by omega, by omega⟩, by omega, by omega⟩]; simp))⟩
  · exact ⟨List.replicate 4 (some false), [((decide (s ≥ 0)), false), ((decide (s ≥ 0)), false), ((decide (s ≥ 0)), false), ((decide (s ≥ 0)), false)], Value.int IntKind.u64 (Int.ofNat 0), by kernel_rfl, ⟨h0, h0, h0, h0, trivial⟩, (by simp only [decide_eq_true_eq, decide_eq_false_iff_not] at *; first | (rw [lkWord, if_neg (by omega)]; rfl) | (rw [lkWord, if_pos ⟨⟨by omega, by omega⟩, by omega, by omega⟩]; show Value.int _ (lkRaw 0 (IntKind.u64.wrap s) (IntKind.u64.wrap v)) = _; rw [wrapU (x := s) (by omega) (by omega), wrapU (x := v) (by omega) (by omega), lkRaw_eq (.inl rfl) ⟨⟨by omega, by omega⟩, by omega, by omega⟩]; simp))⟩
theorem rword_good (m : Bool) (s v : Int) : Good (fun o => run0 87 [.agg [.v (.bool m), .v (.int .i64 s), .v (.int .i64 v)]] (St.none o)) (fun x => x = .int .u64 (lkWord m s v)) := by
  rcases Bool.eq_false_or_eq_true (decide (s ≥ 0)) with h0 | h0
  · rcases Bool.eq_false_or_eq_true (decide (s < 8388608)) with h1 | h1
    · rcases Bool.eq_false_or_eq_true (decide (v ≥ 0)) with h2 | h2
      · rcases Bool.eq_false_or_eq_true (decide (v < 1099511627776)) with h3 | h3
        · rcases Bool.eq_false_or_eq_true (m) with h4 | h4
          · exact ⟨List.replicate 12 (some true) ++ [some false] ++ [some true], [((m), true), (!(decide (v < 1099511627776)), false), ((decide (v ≥ 0)), true), ((decide (v ≥ 0)), true), ((decide (v ≥ 0)), true), ((decide (v ≥ 0)), true), ((decide (s < 8388608)), true), ((decide (s < 8388608)), true), ((decide (s < 8388608)), true), ((decide (s < 8388608)), true), ((decide (s ≥ 0)), true), ((decide (s ≥ 0)), true), ((decide (s ≥ 0)), true), ((decide (s ≥ 0)), true)], Value.int IntKind.u64 (IntKind.u64.wrap (IntKind.u64.wrap (IntKind.u64.wrap (IntKind.u64.wrap s * 1099511627776) + IntKind.u64.wrap v) + 9223372036854775808)), by kernel_rfl, ⟨h4, (by rw [h3]; rfl), h2, h2, h2, h2, h1, h1, h1, h1, h0, h0, h0, h0, trivial⟩, (by simp only [decide_eq_true_eq, decide_eq_false_iff_not] at *; first | (rw [lkWord, if_neg (by omega)]; rfl) | (rw [lkWord, if_pos ⟨⟨by omega, by omega⟩, by omega, by omega⟩, wrapU (x := s) (by omega) (by omega), wrapU (x := v) (by omega) (by omega), wrapU (x := s * 1099511627776) (by omega) (by omega), wrapU (x := s * 1099511627776 + v) (by omega) (by omega), h4]; simp; first | done | omega | (rw [wrapU (by omega) (by omega)]; omega)))⟩
          · exact ⟨List.replicate 12 (some true) ++ [some false, some false], [((m), false), (!(decide (v < 1099511627776)), false), ((decide (v ≥ 0)), true), ((decide (v ≥ 0)), true), ((decide (v ≥ 0)), true), ((decide (v ≥ 0)), true), ((decide (s < 8388608)), true), ((decide (s < 8388608)), true), ((decide (s < 8388608)), true), ((decide (s < 8388608)), true), ((decide (s ≥ 0)), true), ((decide (s ≥ 0)), true), ((decide (s ≥ 0)), true), ((decide (s ≥ 0)), true)], Value.int IntKind.u64 (IntKind.u64.wrap (IntKind.u64.wrap (IntKind.u64.wrap s * 1099511627776) + IntKind.u64.wrap v)), by kernel_rfl, ⟨h4, (by rw [h3]; rfl), h2, h2, h2, h2, h1, h1, h1, h1, h0, h0, h0, h0, trivial⟩, (by simp only [decide_eq_true_eq, decide_eq_false_iff_not] at *; first | (rw [lkWord, if_neg (by omega)]; rfl) | (rw [lkWord, if_pos ⟨⟨by omega, by omega⟩, by omega, by omega⟩, wrapU (x := s) (by omega) (by omega), wrapU (x := v) (by omega) (by omega), wrapU (x := s * 1099511627776) (by omega) (by omega), wrapU (x := s * 1099511627776 + v) (by omega) (by omega), h4]; simp; first | done | omega | (rw [wrapU (by omega) (by omega)]; omega)))⟩
        · exact ⟨List.replicate 13 (some true), [(!(decide (v < 1099511627776)), true), ((decide (v ≥ 0)), true), ((decide (v ≥ 0)), true), ((decide (v ≥ 0)), true), ((decide (v ≥ 0)), true), ((decide (s < 8388608)), true), ((decide (s < 8388608)), true), ((decide (s < 8388608)), true), ((decide (s < 8388608)), true), ((decide (s ≥ 0)), true), ((decide (s ≥ 0)), true), ((decide (s ≥ 0)), true), ((decide (s ≥ 0)), true)], Value.int IntKind.u64 (Int.ofNat 0), by kernel_rfl, ⟨(by rw [h3]; rfl), h2, h2, h2, h2, h1, h1, h1, h1, h0, h0, h0, h0, trivial⟩, (by simp only [decide_eq_true_eq, decide_eq_false_iff_not] at *; first | (rw [lkWord, if_neg (by omega)]; rfl) | (rw [lkWord, if_pos ⟨⟨by omega, by omega⟩, by omega, by omega⟩, wrapU (x := s) (by omega) (by omega), wrapU (x := v) (by omega) (by omega), wrapU (x := s * 1099511627776) (by omega) (by omega), wrapU (x := s * 1099511627776 + v) (by omega) (by omega), h4]; simp; first | done | omega | (rw [wrapU (by omega) (by omega)]; omega)))⟩
      · exact ⟨List.replicate 8 (some true) ++ List.replicate 4 (some false), [((decide (v ≥ 0)), false), ((decide (v ≥ 0)), false), ((decide (v ≥ 0)), false), ((decide (v ≥ 0)), false), ((decide (s < 8388608)), true), ((decide (s < 8388608)), true), ((decide (s < 8388608)), true), ((decide (s < 8388608)), true), ((decide (s ≥ 0)), true), ((decide (s ≥ 0)), true), ((decide (s ≥ 0)), true), ((decide (s ≥ 0)), true)], Value.int IntKind.u64 (Int.ofNat 0), by kernel_rfl, ⟨h2, h2, h2, h2, h1, h1, h1, h1, h0, h0, h0, h0, trivial⟩, (by simp only [decide_eq_true_eq, decide_eq_false_iff_not] at *; first | (rw [lkWord, if_neg (by omega)]; rfl) | (rw [lkWord, if_pos ⟨⟨by omega, by omega⟩, by omega, by omega⟩, wrapU (x := s) (by omega) (by omega), wrapU (x := v) (by omega) (by omega), wrapU (x := s * 1099511627776) (by omega) (by omega), wrapU (x := s * 1099511627776 + v) (by omega) (by omega), h4]; simp; first | done | omega | (rw [wrapU (by omega) (by omega)]; omega)))⟩
    · exact ⟨List.replicate 4 (some true) ++ List.replicate 4 (some false), [((decide (s < 8388608)), false), ((decide (s < 8388608)), false), ((decide (s < 8388608)), false), ((decide (s < 8388608)), false), ((decide (s ≥ 0)), true), ((decide (s ≥ 0)), true), ((decide (s ≥ 0)), true), ((decide (s ≥ 0)), true)], Value.int IntKind.u64 (Int.ofNat 0), by kernel_rfl, ⟨h1, h1, h1, h1, h0, h0, h0, h0, trivial⟩, (by simp only [decide_eq_true_eq, decide_eq_false_iff_not] at *; first | (rw [lkWord, if_neg (by omega)]; rfl) | (rw [lkWord, if_pos ⟨⟨by omega, by omega⟩, by omega, by omega⟩, wrapU (x := s) (by omega) (by omega), wrapU (x := v) (by omega) (by omega), wrapU (x := s * 1099511627776) (by omega) (by omega), wrapU (x := s * 1099511627776 + v) (by omega) (by omega), h4]; simp; first | done | omega | (rw [wrapU (by omega) (by omega)]; omega)))⟩
  · exact ⟨List.replicate 4 (some false), [((decide (s ≥ 0)), false), ((decide (s ≥ 0)), false), ((decide (s ≥ 0)), false), ((decide (s ≥ 0)), false)], Value.int IntKind.u64 (Int.ofNat 0), by kernel_rfl, ⟨h0, h0, h0, h0, trivial⟩, (by simp only [decide_eq_true_eq, decide_eq_false_iff_not] at *; first | (rw [lkWord, if_neg (by omega)]; rfl) | (rw [lkWord, if_pos ⟨⟨by omega, by omega⟩, by omega, by omega⟩, wrapU (x := s) (by omega) (by omega), wrapU (x := v) (by omega) (by omega), wrapU (x := s * 1099511627776) (by omega) (by omega), wrapU (x := s * 1099511627776 + v) (by omega) (by omega), h4]; simp; first | done | omega | (rw [wrapU (by omega) (by omega)]; omega)))⟩

theorem to_tab : TabOK Tryz.prog (Tab.one 114 (kI2 fun s v => .int .u64 (lkWord false s v))) := TabOK.i2 fun s v w => good_calls (to_good s v) rfl w
theorem rword_tab : TabOK Tryz.prog (Tab.one 87 (kLink fun m s v => .int .u64 (lkWord m s v))) := TabOK.one fun args s hs ρ vals w hv => by
  unfold kLink at hs
  split at hs <;> cases hs
  simp only [denL, den, Option.map_some, Option.some.injEq] at hv
  subst hv
  exact (good_calls (rword_good _ _ _) rfl w).mono fun e w' ⟨he, hm⟩ => ⟨_, he, rfl, hm⟩
theorem isMarked_tab : TabOK Tryz.prog (Tab.one 99 (kU1 fun w => .bool (lkMark w))) := TabOK.u1 fun a w => good_calls (args := [.v (.int .u64 a)]) ⟨[], [], _, by kernel_rfl, trivial, rfl⟩ rfl w
theorem slot_tab : TabOK Tryz.prog (Tab.one 115 (kU1 fun w => .int .i64 (lkSlot w))) := TabOK.u1 fun a w => good_calls (args := [.v (.int .u64 a)]) ⟨[], [], .int .i64 (lkSlot a), by kernel_rfl, trivial, rfl⟩ rfl w
noncomputable def tabL0 : Tab := (Tab.one 114 (kI2 fun s v => .int .u64 (lkWord false s v))).or ((Tab.one 87 (kLink fun m s v => .int .u64 (lkWord m s v))).or ((Tab.one 99 (kU1 fun w => .bool (lkMark w))).or (Tab.one 115 (kU1 fun w => .int .i64 (lkSlot w)))))
theorem tabL0_ok : TabOK Tryz.prog tabL0 := to_tab.or (rword_tab.or (isMarked_tab.or slot_tab))
noncomputable def tabL1 : Tab := tabL0
theorem tabL1_ok : TabOK Tryz.prog tabL1 := tabL0_ok
noncomputable def tabL : Tab := tabL1
theorem tabL_ok : TabOK Tryz.prog tabL := tabL1_ok
/-- The executor with these, and a law's awake. -/
noncomputable def libL (f : FuncId) : Lib Rep := lib0.with ((Tab.one f kTrue).or tabL)
theorem libL_ok {f : FuncId} (h : ∀ w, Calls Tryz.prog f #[] w fun e w' => e = .returned (.bool true) ∧ Mod [] w w') : LibOK repAt Tryz.prog (libL f) := Lib.with_ok lib0_ok ((TabOK.true h).or tabL_ok)
end Go.Proofs.YtpaiejeipghehaaGreat
end
section
/- Links of words: what is laid in is read. No condition. -/
namespace Go.Proofs.YtpaiejeipghehaaGreat
theorem lkWord_pos {m : Bool} {s v : Int} (h : lkOK s v) : lkWord m s v = v + s * 1099511627776 + (if m then 9223372036854775808 else 0) := if_pos h
theorem lkWord_lt {m : Bool} {s v : Int} : 0 ≤ lkWord m s v ∧ lkWord m s v < 18446744073709551616 := by
  unfold lkWord
  split
  · cases m <;> simp <;> omega
  · omega
theorem lkSlot_word {m : Bool} {s v : Int} (h : lkOK s v) : lkSlot (lkWord m s v) = s := by
  rw [lkSlot_eq lkWord_lt.1, lkWord_pos h]
  obtain ⟨h1, h2⟩ := h
  cases m <;> simp <;> omega
theorem lkVer_word {m : Bool} {s v : Int} (h : lkOK s v) : lkVer (lkWord m s v) = v := by
  rw [lkVer_eq lkWord_lt.1, lkWord_pos h]
  obtain ⟨h1, h2⟩ := h
  cases m <;> simp <;> omega
theorem lkMark_word {m : Bool} {s v : Int} (h : lkOK s v) : lkMark (lkWord m s v) = m := by
  rw [lkMark_eq lkWord_lt.1 lkWord_lt.2, lkWord_pos h]
  obtain ⟨h1, h2⟩ := h
  cases m <;> simp <;> omega
theorem low40 (a : Int) : IntKind.u64.wrap (↑(BitVec.ofInt IntKind.u64.bits (IntKind.u64.wrap a) &&& BitVec.ofInt IntKind.u64.bits 1099511627775).toNat : Int) = IntKind.u64.wrap a % 1099511627776 := by
  have hw := wrapU_pos a
  obtain ⟨n, hn⟩ := Int.eq_ofNat_of_zero_le hw.1
  rw [hn]
  have e : (BitVec.ofInt IntKind.u64.bits (n : Int) &&& BitVec.ofInt IntKind.u64.bits 1099511627775).toNat = n % 1099511627776 := by
    show (BitVec.ofInt 64 _ &&& BitVec.ofInt 64 ((2 ^ 40 - 1 : Nat) : Int)).toNat = _
    rw [ofInt_nat, ofInt_nat, and_mask n 40 (by omega)]
  rw [e, wrapU (by omega) (by omega)]
  simp
theorem low23 (b : Int) : IntKind.i64.wrap ((IntKind.u64.wrap b).tmod 8388608) = IntKind.u64.wrap b % 8388608 := by
  have hw := wrapU_pos b
  rw [Int.tmod_eq_emod_of_nonneg hw.1, wrapI (by omega) (by omega)]
end Go.Proofs.YtpaiejeipghehaaGreat
end
section
/- The executor with links, and the document's Cells, known. No condition. -/
namespace Go.Proofs.YtpaiejeipghehaaGreat
noncomputable abbrev libK : Lib Rep := (lib0.with tabL).more primUP
theorem libK_ok : LibOK repAt Tryz.prog libK := Lib.more_ok (Lib.with_ok lib0_ok tabL_ok) primUP_ok
end Go.Proofs.YtpaiejeipghehaaGreat
end
section
/- Lay of the document's layer 15: the states at its loop's head, and the words that it lays. Condition: few slots. -/
namespace Go.Proofs.YtpaiejeipghehaaGreat
noncomputable def propB (φ : Prop) : Bool := @decide φ (Classical.propDecidable φ)
theorem propB_true {φ : Prop} (h : φ) : propB φ = true := @decide_eq_true _ (Classical.propDecidable φ) h
theorem of_propB {φ : Prop} (h : propB φ = true) : φ := @of_decide_eq_true _ (Classical.propDecidable φ) h
noncomputable abbrev lyF : FuncId := 7
noncomputable abbrev lyZ : Nat := slotsOf Tryz.prog lyF
noncomputable def lyL : Code × List Fr := loopOf Tryz.prog lyF 0
structure LYA where
  S : Nat → Int
  K : Nat → Int
  V : Nat → Int
  M : Nat → Bool
  len : Nat
  root : Int
  level : Int
  epoch : Int
  F0 : Pl → Int
  m0 : Nat
def LYA.p (a : LYA) : Nat → Pl
  | 0 => (4, 0, a.root)
  | k + 1 => (5, a.S k, IntKind.i64.wrap (7 + a.level))
def LYA.mrk (a : LYA) : Nat → Bool
  | 0 => false
  | k + 1 => a.M k
/-- The words ahead of a slot's link. -/
def LYA.F (a : LYA) : Nat → Pl → Int
  | 0 => getL [((1, 0, 0), IntKind.u64.wrap a.epoch)] a.F0
  | k + 1 => getL [((5, a.S k, 4), a.V k), ((5, a.S k, 3), a.K k), (a.p k, lkWord (a.mrk k) (a.S k) a.epoch)] (a.F k)
def LYA.fin (a : LYA) : Pl → Int := getL [(a.p a.len, lkWord (a.mrk a.len) 0 a.epoch)] (a.F a.len)
def LYA.ok (a : LYA) : Prop := a.len ≤ 1000 ∧ a.m0 ≤ 10000 ∧ plWfB (4, 0, a.root) = true ∧ ∀ k, k < a.len → (Lit.int .i64 (a.S k)).wf = true
def lyS (a : LYA) (i p0 p1 p2 : Int) (mk : Bool) (F : Pl → Int) (m : Nat) : Sym Rep :=
  ⟨[(4, .tsl 1 a.len), (0, .ptr 0 0), (11, .ptr 2 0), (2, iv a.level), (10, .ptr 3 0), (12, .v (.bool mk)), (13, iv i)],
   [(0, .rep (.ucells [] F m)), (1, .rep (.vec [.int .i64 a.S, .int .u64 a.K, .int .u64 a.V, .bool a.M] a.len 105)), (2, .row [iv p0, iv p1, iv p2] 51), (3, .row [iv 0, iv 0, iv 0, iv 0, iv 0, iv a.epoch, .v (.slice none 0 0), iv 0, iv 0, iv 0] 45)], 4⟩
def lyCfg : Stop → List Gen × List Nat := fun _ => ([.map 0], [4, 0, 11, 2, 10, 12, 13])
def lyCfg2 : Stop → List Gen × List Nat := fun _ => ([], [])
def lyP (a : LYA) (i p0 p1 p2 : Int) (mk : Bool) (F : Pl → Int) (m : Nat) : Prop :=
  0 ≤ i ∧ i ≤ (a.len : Int) + 1 ∧ a.ok ∧ (i ≤ (a.len : Int) → (p0, p1, p2) = a.p i.toNat ∧ mk = a.mrk i.toNat ∧ F = a.F i.toNat ∧ m = a.m0 + 1 + 3 * i.toNat) ∧ ((a.len : Int) < i → F = a.fin ∧ m = a.m0 + 2 + 3 * a.len)
def lyHp (F : Pl → Int) (m : Nat) (a : LYA) : List (Nat × Chunk Rep) := [(0, .rep (.ucells [] F m)), (1, .rep (.vec [.int .i64 a.S, .int .u64 a.K, .int .u64 a.V, .bool a.M] a.len 105))]
abbrev lyQ (a : LYA) : Ex → Sym Rep → Prop := Ends Tryz.prog Tryz.f7 fun l s => l = [] ∧ s.hp = lyHp a.fin (a.m0 + 2 + 3 * a.len) a
theorem lk_low (s v : Int) : lkWord false s v < 9223372036854775808 := by
  unfold lkWord
  split
  · simp
    omega
  · omega
theorem wrapI_wf (z : Int) : (Lit.int .i64 (IntKind.i64.wrap z)).wf = true := by
  simp [Lit.wf, IntKind.wrap, IntKind.min, IntKind.max, IntKind.signed, IntKind.bits]
  omega
theorem pl_wf {a b c : Int} (ha : (Lit.int .i64 a).wf = true) (hb : (Lit.int .i64 b).wf = true) (hc : (Lit.int .i64 c).wf = true) : plWfB (a, b, c) = true := by
  simp [plWfB, ha, hb, hc]
theorem LYA.p_wf {a : LYA} (ha : a.ok) {k : Nat} (hk : k ≤ a.len) : plWfB (a.p k) = true := by
  cases k with
  | zero => exact ha.2.2.1
  | succ k => exact pl_wf (by decide) (ha.2.2.2 k (by omega)) (wrapI_wf _)
theorem ly_put {p : Pl} {m : Nat} (hp : plWfB p = true) (hm : m ≤ 1000000) : (plWfB p && m.ble 1000000) = true := by
  rw [hp, Nat.ble_eq_true_of_le hm]
  rfl
theorem ly_push {a : LYA} {i p0 p1 p2 : Int} {mk : Bool} {F : Pl → Int} {m : Nat} (hP : lyP a i p0 p1 p2 mk F m) (h1 : decide (i < (a.len : Int)) = true) {b : Bool} (hb : mk = b) :
    lyP a (IntKind.i64.wrap (i + 1)) 5 (a.S i.toNat) (IntKind.i64.wrap (7 + a.level)) (a.M i.toNat) (getL [((5, a.S i.toNat, 4), a.V i.toNat), ((5, a.S i.toNat, 3), a.K i.toNat), ((p0, p1, p2), lkWord b (a.S i.toNat) a.epoch)] F) (m + 1 + 1 + 1) := by
  subst hb
  obtain ⟨i0, i1, hok, hx, hy⟩ := hP
  have e1 := of_decide_eq_true h1
  have hl := hok.1
  obtain ⟨hp, hmk, hF, hm⟩ := hx (by omega)
  have hi : (IntKind.i64.wrap (i + 1)).toNat = i.toNat + 1 := by rw [wrapI (by omega) (by omega)]; omega
  rw [lyP, hi, wrapI (x := i + 1) (by omega) (by omega)]
  refine ⟨by omega, by omega, hok, fun _ => ⟨rfl, rfl, ?_, by omega⟩, fun h => by omega⟩
  rw [hp, hF, hmk]
  rfl
theorem ly_last {a : LYA} {i p0 p1 p2 : Int} {mk : Bool} {F : Pl → Int} {m : Nat} (hP : lyP a i p0 p1 p2 mk F m) (h0 : decide (i ≤ (a.len : Int)) = true) (h1 : decide (i < (a.len : Int)) = false) {b : Bool} (hb : mk = b) :
    lyP a (IntKind.i64.wrap (i + 1)) p0 p1 p2 mk (getL [((p0, p1, p2), lkWord b 0 a.epoch)] F) (m + 1) := by
  subst hb
  obtain ⟨i0, i1, hok, hx, hy⟩ := hP
  have e0 := of_decide_eq_true h0
  have e1 := of_decide_eq_false h1
  have hl := hok.1
  obtain ⟨hp, hmk, hF, hm⟩ := hx e0
  have hi : i.toNat = a.len := by omega
  rw [hi] at hp hmk hF hm
  rw [lyP, wrapI (x := i + 1) (by omega) (by omega)]
  refine ⟨by omega, by omega, hok, (fun h => by omega), fun _ => ⟨?_, by omega⟩⟩
  rw [hp, hF, hmk]
  rfl
theorem ly_less {a : LYA} {i p0 p1 p2 : Int} {mk : Bool} {F : Pl → Int} {m : Nat} (hP : lyP a i p0 p1 p2 mk F m) (h0 : decide (i ≤ (a.len : Int)) = true) {r : Nat} (hr : r = a.len + 1 - i.toNat) : a.len + 1 - (IntKind.i64.wrap (i + 1)).toNat < r := by
  obtain ⟨i0, i1, hok, _⟩ := hP
  have e0 := of_decide_eq_true h0
  have hl := hok.1
  rw [wrapI (by omega) (by omega)]
  omega
end Go.Proofs.YtpaiejeipghehaaGreat
end
section
/- Lay of the document's layer 15: its runs from point to point. Condition: few slots. -/
namespace Go.Proofs.YtpaiejeipghehaaGreat
set_option linter.unusedVariables false
set_option linter.unusedSimpArgs false
set_option maxRecDepth 100000
set_option maxHeartbeats 8000000
def lyI (a : LYA) (r : Nat) (s : Sym Rep) : Prop := ∃ (i p0 p1 p2 : Int) (mk : Bool) (F : Pl → Int) (m : Nat), s = lyS a i p0 p1 p2 mk F m ∧ lyP a i p0 p1 p2 mk F m ∧ r = a.len + 1 - i.toNat
abbrev lyR (a : LYA) (r : Nat) (x : Ex) (s : Sym Rep) : Prop := match x with
  | .nor => ∃ k', k' < r ∧ lyI a k' s
  | x => Tri repAt Tryz.prog lyZ 2 (.out x) lyL.2 s (lyQ a)
theorem ly_next (a : LYA) (i p0 p1 p2 : Int) (mk : Bool) (F : Pl → Int) (m : Nat) {r : Nat} (hP : lyP a i p0 p1 p2 mk F m) (hk : a.len + 1 - i.toNat < r) : Tri repAt Tryz.prog lyZ 2 (.out .nor) [] (lyS a i p0 p1 p2 mk F m) (lyR a r) := Tri.fin ⟨_, hk, i, p0, p1, p2, mk, F, m, rfl, hP, rfl⟩

theorem ly_exit (a : LYA) (i p0 p1 p2 : Int) (mk : Bool) (F : Pl → Int) (m : Nat) (h : F = a.fin ∧ m = a.m0 + 2 + 3 * a.len)  : Tri repAt Tryz.prog lyZ 2 (.out (.out 0)) lyL.2 (lyS a i p0 p1 p2 mk F m) (lyQ a) := by
  exact Tri.pathP mixed libK_ok (n := 10000) (k := 10000) (j := 0) (cfg := lyCfg2) (o := []) (g' := .out .nor) (fs' := []) (s' := ⟨[], [(0, Chunk.rep (Rep.ucells [] F m)), (1, Chunk.rep (Rep.vec [Col.int IntKind.i64 a.S, Col.int IntKind.u64 a.K, Col.int IntKind.u64 a.V, Col.bool a.M] a.len 105))], 2⟩) (asks := []) rfl (by kernel_rfl) trivial (Tri.fin (Ends.none (by kernel_rfl) (.inr rfl) ⟨rfl, by obtain ⟨rfl, rfl⟩ := h; rfl⟩))
theorem ly_round (a : LYA) (i p0 p1 p2 : Int) (mk : Bool) (F : Pl → Int) (m : Nat) (hP : lyP a i p0 p1 p2 mk F m) {r : Nat} (hr : r = a.len + 1 - i.toNat) : Tri repAt Tryz.prog lyZ 2 (.go lyL.1) [] (lyS a i p0 p1 p2 mk F m) (lyR a r) := by
  rcases Bool.eq_false_or_eq_true (decide (i ≤ (↑a.len : Int))) with h0 | h0
  · rcases Bool.eq_false_or_eq_true (decide (i < (↑a.len : Int))) with h1 | h1
    · have h2 : (decide (0 ≤ i ∧ i < (↑a.len : Int) ∧ a.len ≤ a.len)) = true := by (obtain ⟨i0, i1, hok, hx, hy⟩ := hP; first | exact decide_eq_true ⟨i0, of_decide_eq_true h1, Nat.le_refl _⟩ | (have h := lk_low (a.S i.toNat) a.epoch; exact decide_eq_false (by omega)) | (have h := lk_low 0 a.epoch; exact decide_eq_false (by omega)) | exact ly_put (by obtain ⟨hp, _⟩ := hx (of_decide_eq_true h0); rw [hp]; exact LYA.p_wf hok (by have := of_decide_eq_true h0; omega)) (by obtain ⟨_, _, _, hm⟩ := hx (of_decide_eq_true h0); have := hok.1; have := hok.2.1; have := of_decide_eq_true h0; omega) | exact ly_put (pl_wf (by decide) (hok.2.2.2 _ (by have := of_decide_eq_true h1; omega)) (by decide)) (by obtain ⟨_, _, _, hm⟩ := hx (of_decide_eq_true h0); have := hok.1; have := hok.2.1; have := of_decide_eq_true h0; omega))
      rcases Bool.eq_false_or_eq_true (mk) with h3 | h3
      · have h4 : (decide (lkWord false (a.S i.toNat) a.epoch ≥ 9223372036854775808)) = false := by (obtain ⟨i0, i1, hok, hx, hy⟩ := hP; first | exact decide_eq_true ⟨i0, of_decide_eq_true h1, Nat.le_refl _⟩ | (have h := lk_low (a.S i.toNat) a.epoch; exact decide_eq_false (by omega)) | (have h := lk_low 0 a.epoch; exact decide_eq_false (by omega)) | exact ly_put (by obtain ⟨hp, _⟩ := hx (of_decide_eq_true h0); rw [hp]; exact LYA.p_wf hok (by have := of_decide_eq_true h0; omega)) (by obtain ⟨_, _, _, hm⟩ := hx (of_decide_eq_true h0); have := hok.1; have := hok.2.1; have := of_decide_eq_true h0; omega) | exact ly_put (pl_wf (by decide) (hok.2.2.2 _ (by have := of_decide_eq_true h1; omega)) (by decide)) (by obtain ⟨_, _, _, hm⟩ := hx (of_decide_eq_true h0); have := hok.1; have := hok.2.1; have := of_decide_eq_true h0; omega))
        have h5 : (plWfB (p0, p1, p2) && m.ble 1000000) = true := by (obtain ⟨i0, i1, hok, hx, hy⟩ := hP; first | exact decide_eq_true ⟨i0, of_decide_eq_true h1, Nat.le_refl _⟩ | (have h := lk_low (a.S i.toNat) a.epoch; exact decide_eq_false (by omega)) | (have h := lk_low 0 a.epoch; exact decide_eq_false (by omega)) | exact ly_put (by obtain ⟨hp, _⟩ := hx (of_decide_eq_true h0); rw [hp]; exact LYA.p_wf hok (by have := of_decide_eq_true h0; omega)) (by obtain ⟨_, _, _, hm⟩ := hx (of_decide_eq_true h0); have := hok.1; have := hok.2.1; have := of_decide_eq_true h0; omega) | exact ly_put (pl_wf (by decide) (hok.2.2.2 _ (by have := of_decide_eq_true h1; omega)) (by decide)) (by obtain ⟨_, _, _, hm⟩ := hx (of_decide_eq_true h0); have := hok.1; have := hok.2.1; have := of_decide_eq_true h0; omega))
        have h6 : (plWfB (5, a.S i.toNat, 3) && (m + 1).ble 1000000) = true := by (obtain ⟨i0, i1, hok, hx, hy⟩ := hP; first | exact decide_eq_true ⟨i0, of_decide_eq_true h1, Nat.le_refl _⟩ | (have h := lk_low (a.S i.toNat) a.epoch; exact decide_eq_false (by omega)) | (have h := lk_low 0 a.epoch; exact decide_eq_false (by omega)) | exact ly_put (by obtain ⟨hp, _⟩ := hx (of_decide_eq_true h0); rw [hp]; exact LYA.p_wf hok (by have := of_decide_eq_true h0; omega)) (by obtain ⟨_, _, _, hm⟩ := hx (of_decide_eq_true h0); have := hok.1; have := hok.2.1; have := of_decide_eq_true h0; omega) | exact ly_put (pl_wf (by decide) (hok.2.2.2 _ (by have := of_decide_eq_true h1; omega)) (by decide)) (by obtain ⟨_, _, _, hm⟩ := hx (of_decide_eq_true h0); have := hok.1; have := hok.2.1; have := of_decide_eq_true h0; omega))
        have h7 : (plWfB (5, a.S i.toNat, 4) && (m + 1 + 1).ble 1000000) = true := by (obtain ⟨i0, i1, hok, hx, hy⟩ := hP; first | exact decide_eq_true ⟨i0, of_decide_eq_true h1, Nat.le_refl _⟩ | (have h := lk_low (a.S i.toNat) a.epoch; exact decide_eq_false (by omega)) | (have h := lk_low 0 a.epoch; exact decide_eq_false (by omega)) | exact ly_put (by obtain ⟨hp, _⟩ := hx (of_decide_eq_true h0); rw [hp]; exact LYA.p_wf hok (by have := of_decide_eq_true h0; omega)) (by obtain ⟨_, _, _, hm⟩ := hx (of_decide_eq_true h0); have := hok.1; have := hok.2.1; have := of_decide_eq_true h0; omega) | exact ly_put (pl_wf (by decide) (hok.2.2.2 _ (by have := of_decide_eq_true h1; omega)) (by decide)) (by obtain ⟨_, _, _, hm⟩ := hx (of_decide_eq_true h0); have := hok.1; have := hok.2.1; have := of_decide_eq_true h0; omega))
        exact Tri.pathP mixed libK_ok (n := 10000) (k := 10000) (j := 0) (cfg := lyCfg) (o := List.replicate 4 (some true) ++ [some false] ++ List.replicate 7 (some true)) (g' := .out .nor) (fs' := []) (s' := lyS (a) (IntKind.i64.wrap (i + 1)) (Int.ofNat 5) (a.S i.toNat) (IntKind.i64.wrap (7 + a.level)) (a.M i.toNat) (getL [((5, a.S i.toNat, 4), a.V i.toNat), ((5, a.S i.toNat, 3), a.K i.toNat), ((p0, p1, p2), lkWord true (a.S i.toNat) a.epoch)] F) (m + 1 + 1 + 1)) (asks := [((plWfB (5, a.S i.toNat, 4) && (m + 1 + 1).ble 1000000), true), ((decide (0 ≤ i ∧ i < (↑a.len : Int) ∧ a.len ≤ a.len)), true), ((plWfB (5, a.S i.toNat, 3) && (m + 1).ble 1000000), true), ((decide (0 ≤ i ∧ i < (↑a.len : Int) ∧ a.len ≤ a.len)), true), ((decide (0 ≤ i ∧ i < (↑a.len : Int) ∧ a.len ≤ a.len)), true), ((decide (i < (↑a.len : Int))), true), ((plWfB (p0, p1, p2) && m.ble 1000000), true), ((decide (lkWord false (a.S i.toNat) a.epoch ≥ 9223372036854775808)), false), ((mk), true), ((decide (0 ≤ i ∧ i < (↑a.len : Int) ∧ a.len ≤ a.len)), true), ((decide (i < (↑a.len : Int))), true), ((decide (i ≤ (↑a.len : Int))), true)]) rfl (by kernel_rfl) ⟨h7, h2, h6, h2, h2, h1, h5, h4, h3, h2, h1, h0, trivial⟩ (ly_next (a) (IntKind.i64.wrap (i + 1)) (Int.ofNat 5) (a.S i.toNat) (IntKind.i64.wrap (7 + a.level)) (a.M i.toNat) (getL [((5, a.S i.toNat, 4), a.V i.toNat), ((5, a.S i.toNat, 3), a.K i.toNat), ((p0, p1, p2), lkWord true (a.S i.toNat) a.epoch)] F) (m + 1 + 1 + 1) (by first | exact ly_push hP h1 h3 | exact ly_last hP h0 h1 h3) (ly_less hP h0 hr))
      · have h5 : (plWfB (p0, p1, p2) && m.ble 1000000) = true := by (obtain ⟨i0, i1, hok, hx, hy⟩ := hP; first | exact decide_eq_true ⟨i0, of_decide_eq_true h1, Nat.le_refl _⟩ | (have h := lk_low (a.S i.toNat) a.epoch; exact decide_eq_false (by omega)) | (have h := lk_low 0 a.epoch; exact decide_eq_false (by omega)) | exact ly_put (by obtain ⟨hp, _⟩ := hx (of_decide_eq_true h0); rw [hp]; exact LYA.p_wf hok (by have := of_decide_eq_true h0; omega)) (by obtain ⟨_, _, _, hm⟩ := hx (of_decide_eq_true h0); have := hok.1; have := hok.2.1; have := of_decide_eq_true h0; omega) | exact ly_put (pl_wf (by decide) (hok.2.2.2 _ (by have := of_decide_eq_true h1; omega)) (by decide)) (by obtain ⟨_, _, _, hm⟩ := hx (of_decide_eq_true h0); have := hok.1; have := hok.2.1; have := of_decide_eq_true h0; omega))
        have h6 : (plWfB (5, a.S i.toNat, 3) && (m + 1).ble 1000000) = true := by (obtain ⟨i0, i1, hok, hx, hy⟩ := hP; first | exact decide_eq_true ⟨i0, of_decide_eq_true h1, Nat.le_refl _⟩ | (have h := lk_low (a.S i.toNat) a.epoch; exact decide_eq_false (by omega)) | (have h := lk_low 0 a.epoch; exact decide_eq_false (by omega)) | exact ly_put (by obtain ⟨hp, _⟩ := hx (of_decide_eq_true h0); rw [hp]; exact LYA.p_wf hok (by have := of_decide_eq_true h0; omega)) (by obtain ⟨_, _, _, hm⟩ := hx (of_decide_eq_true h0); have := hok.1; have := hok.2.1; have := of_decide_eq_true h0; omega) | exact ly_put (pl_wf (by decide) (hok.2.2.2 _ (by have := of_decide_eq_true h1; omega)) (by decide)) (by obtain ⟨_, _, _, hm⟩ := hx (of_decide_eq_true h0); have := hok.1; have := hok.2.1; have := of_decide_eq_true h0; omega))
        have h7 : (plWfB (5, a.S i.toNat, 4) && (m + 1 + 1).ble 1000000) = true := by (obtain ⟨i0, i1, hok, hx, hy⟩ := hP; first | exact decide_eq_true ⟨i0, of_decide_eq_true h1, Nat.le_refl _⟩ | (have h := lk_low (a.S i.toNat) a.epoch; exact decide_eq_false (by omega)) | (have h := lk_low 0 a.epoch; exact decide_eq_false (by omega)) | exact ly_put (by obtain ⟨hp, _⟩ := hx (of_decide_eq_true h0); rw [hp]; exact LYA.p_wf hok (by have := of_decide_eq_true h0; omega)) (by obtain ⟨_, _, _, hm⟩ := hx (of_decide_eq_true h0); have := hok.1; have := hok.2.1; have := of_decide_eq_true h0; omega) | exact ly_put (pl_wf (by decide) (hok.2.2.2 _ (by have := of_decide_eq_true h1; omega)) (by decide)) (by obtain ⟨_, _, _, hm⟩ := hx (of_decide_eq_true h0); have := hok.1; have := hok.2.1; have := of_decide_eq_true h0; omega))
        exact Tri.pathP mixed libK_ok (n := 10000) (k := 10000) (j := 0) (cfg := lyCfg) (o := List.replicate 3 (some true) ++ [some false] ++ List.replicate 7 (some true)) (g' := .out .nor) (fs' := []) (s' := lyS (a) (IntKind.i64.wrap (i + 1)) (Int.ofNat 5) (a.S i.toNat) (IntKind.i64.wrap (7 + a.level)) (a.M i.toNat) (getL [((5, a.S i.toNat, 4), a.V i.toNat), ((5, a.S i.toNat, 3), a.K i.toNat), ((p0, p1, p2), lkWord false (a.S i.toNat) a.epoch)] F) (m + 1 + 1 + 1)) (asks := [((plWfB (5, a.S i.toNat, 4) && (m + 1 + 1).ble 1000000), true), ((decide (0 ≤ i ∧ i < (↑a.len : Int) ∧ a.len ≤ a.len)), true), ((plWfB (5, a.S i.toNat, 3) && (m + 1).ble 1000000), true), ((decide (0 ≤ i ∧ i < (↑a.len : Int) ∧ a.len ≤ a.len)), true), ((decide (0 ≤ i ∧ i < (↑a.len : Int) ∧ a.len ≤ a.len)), true), ((decide (i < (↑a.len : Int))), true), ((plWfB (p0, p1, p2) && m.ble 1000000), true), ((mk), false), ((decide (0 ≤ i ∧ i < (↑a.len : Int) ∧ a.len ≤ a.len)), true), ((decide (i < (↑a.len : Int))), true), ((decide (i ≤ (↑a.len : Int))), true)]) rfl (by kernel_rfl) ⟨h7, h2, h6, h2, h2, h1, h5, h3, h2, h1, h0, trivial⟩ (ly_next (a) (IntKind.i64.wrap (i + 1)) (Int.ofNat 5) (a.S i.toNat) (IntKind.i64.wrap (7 + a.level)) (a.M i.toNat) (getL [((5, a.S i.toNat, 4), a.V i.toNat), ((5, a.S i.toNat, 3), a.K i.toNat), ((p0, p1, p2), lkWord false (a.S i.toNat) a.epoch)] F) (m + 1 + 1 + 1) (by first | exact ly_push hP h1 h3 | exact ly_last hP h0 h1 h3) (ly_less hP h0 hr))
    · rcases Bool.eq_false_or_eq_true (mk) with h3 | h3
      · have h8 : (decide (lkWord false 0 a.epoch ≥ 9223372036854775808)) = false := by (obtain ⟨i0, i1, hok, hx, hy⟩ := hP; first | exact decide_eq_true ⟨i0, of_decide_eq_true h1, Nat.le_refl _⟩ | (have h := lk_low (a.S i.toNat) a.epoch; exact decide_eq_false (by omega)) | (have h := lk_low 0 a.epoch; exact decide_eq_false (by omega)) | exact ly_put (by obtain ⟨hp, _⟩ := hx (of_decide_eq_true h0); rw [hp]; exact LYA.p_wf hok (by have := of_decide_eq_true h0; omega)) (by obtain ⟨_, _, _, hm⟩ := hx (of_decide_eq_true h0); have := hok.1; have := hok.2.1; have := of_decide_eq_true h0; omega) | exact ly_put (pl_wf (by decide) (hok.2.2.2 _ (by have := of_decide_eq_true h1; omega)) (by decide)) (by obtain ⟨_, _, _, hm⟩ := hx (of_decide_eq_true h0); have := hok.1; have := hok.2.1; have := of_decide_eq_true h0; omega))
        have h5 : (plWfB (p0, p1, p2) && m.ble 1000000) = true := by (obtain ⟨i0, i1, hok, hx, hy⟩ := hP; first | exact decide_eq_true ⟨i0, of_decide_eq_true h1, Nat.le_refl _⟩ | (have h := lk_low (a.S i.toNat) a.epoch; exact decide_eq_false (by omega)) | (have h := lk_low 0 a.epoch; exact decide_eq_false (by omega)) | exact ly_put (by obtain ⟨hp, _⟩ := hx (of_decide_eq_true h0); rw [hp]; exact LYA.p_wf hok (by have := of_decide_eq_true h0; omega)) (by obtain ⟨_, _, _, hm⟩ := hx (of_decide_eq_true h0); have := hok.1; have := hok.2.1; have := of_decide_eq_true h0; omega) | exact ly_put (pl_wf (by decide) (hok.2.2.2 _ (by have := of_decide_eq_true h1; omega)) (by decide)) (by obtain ⟨_, _, _, hm⟩ := hx (of_decide_eq_true h0); have := hok.1; have := hok.2.1; have := of_decide_eq_true h0; omega))
        exact Tri.pathP mixed libK_ok (n := 10000) (k := 10000) (j := 0) (cfg := lyCfg) (o := [some true] ++ [some false] ++ [some true] ++ [some false] ++ [some true] ++ [some false]) (g' := .out .nor) (fs' := []) (s' := lyS (a) (IntKind.i64.wrap (i + 1)) (p0) (p1) (p2) (mk) (getL [((p0, p1, p2), lkWord true 0 a.epoch)] F) (m + 1)) (asks := [((decide (i < (↑a.len : Int))), false), ((plWfB (p0, p1, p2) && m.ble 1000000), true), ((decide (lkWord false 0 a.epoch ≥ 9223372036854775808)), false), ((mk), true), ((decide (i < (↑a.len : Int))), false), ((decide (i ≤ (↑a.len : Int))), true)]) rfl (by kernel_rfl) ⟨h1, h5, h8, h3, h1, h0, trivial⟩ (ly_next (a) (IntKind.i64.wrap (i + 1)) (p0) (p1) (p2) (mk) (getL [((p0, p1, p2), lkWord true 0 a.epoch)] F) (m + 1) (by first | exact ly_push hP h1 h3 | exact ly_last hP h0 h1 h3) (ly_less hP h0 hr))
      · have h5 : (plWfB (p0, p1, p2) && m.ble 1000000) = true := by (obtain ⟨i0, i1, hok, hx, hy⟩ := hP; first | exact decide_eq_true ⟨i0, of_decide_eq_true h1, Nat.le_refl _⟩ | (have h := lk_low (a.S i.toNat) a.epoch; exact decide_eq_false (by omega)) | (have h := lk_low 0 a.epoch; exact decide_eq_false (by omega)) | exact ly_put (by obtain ⟨hp, _⟩ := hx (of_decide_eq_true h0); rw [hp]; exact LYA.p_wf hok (by have := of_decide_eq_true h0; omega)) (by obtain ⟨_, _, _, hm⟩ := hx (of_decide_eq_true h0); have := hok.1; have := hok.2.1; have := of_decide_eq_true h0; omega) | exact ly_put (pl_wf (by decide) (hok.2.2.2 _ (by have := of_decide_eq_true h1; omega)) (by decide)) (by obtain ⟨_, _, _, hm⟩ := hx (of_decide_eq_true h0); have := hok.1; have := hok.2.1; have := of_decide_eq_true h0; omega))
        exact Tri.pathP mixed libK_ok (n := 10000) (k := 10000) (j := 0) (cfg := lyCfg) (o := [some true] ++ [some false, some false] ++ [some true] ++ [some false]) (g' := .out .nor) (fs' := []) (s' := lyS (a) (IntKind.i64.wrap (i + 1)) (p0) (p1) (p2) (mk) (getL [((p0, p1, p2), lkWord false 0 a.epoch)] F) (m + 1)) (asks := [((decide (i < (↑a.len : Int))), false), ((plWfB (p0, p1, p2) && m.ble 1000000), true), ((mk), false), ((decide (i < (↑a.len : Int))), false), ((decide (i ≤ (↑a.len : Int))), true)]) rfl (by kernel_rfl) ⟨h1, h5, h3, h1, h0, trivial⟩ (ly_next (a) (IntKind.i64.wrap (i + 1)) (p0) (p1) (p2) (mk) (getL [((p0, p1, p2), lkWord false 0 a.epoch)] F) (m + 1) (by first | exact ly_push hP h1 h3 | exact ly_last hP h0 h1 h3) (ly_less hP h0 hr))
  · exact Tri.pathP mixed libK_ok (n := 10000) (k := 10000) (j := 0) (cfg := lyCfg) (o := [some false]) (g' := .out (.out 0)) (fs' := []) (s' := lyS (a) (i) (p0) (p1) (p2) (mk) (getL [] F) (m)) (asks := [((decide (i ≤ (↑a.len : Int))), false)]) rfl (by kernel_rfl) ⟨h0, trivial⟩ (Tri.fin (ly_exit (a) (i) (p0) (p1) (p2) (mk) (getL [] F) (m) (hP.2.2.2.2 (by have := of_decide_eq_false h0; omega))))
theorem ly_loop (a : LYA) (i p0 p1 p2 : Int) (mk : Bool) (F : Pl → Int) (m : Nat) (hP : lyP a i p0 p1 p2 mk F m) : Tri repAt Tryz.prog lyZ 2 (.go (.loop lyL.1)) lyL.2 (lyS a i p0 p1 p2 mk F m) (lyQ a) := by
  refine Tri.loop (I := lyI a) (fun k s h => ?_) ⟨_, _, _, _, _, _, _, rfl, hP, rfl⟩
  obtain ⟨i, p0, p1, p2, mk, F, m, rfl, hP, hk⟩ := h
  exact ly_round a i p0 p1 p2 mk F m hP hk
theorem ly_start (a : LYA) (ha : a.ok) {c : Chunk Rep} {l : List (Pl × Int)} {g : Pl → Int} (hu : asU c = some (l, g, a.m0)) (hF : a.F0 = getL l g) : Tri repAt Tryz.prog lyZ 2 (.go (bodyOf Tryz.prog lyF)) [] ⟨argsE [.ptr 0 0, iv a.root, iv a.level, iv a.epoch, .tsl 1 a.len], [(0, c), (1, .rep (.vec [.int .i64 a.S, .int .u64 a.K, .int .u64 a.V, .bool a.M] a.len 105))], 2⟩ (lyQ a) := by
  have h0 : (plWfB (1, 0, 0) && a.m0.ble 1000000) = true := ly_put (by decide) (by have := ha.2.1; omega)
  refine Tri.view (swap_view (n := 0) (c1 := .rep (.ucells [] (getL l g) a.m0)) rfl fun B ρ own w e he hat => ⟨own, ?_, fun b hb => hb⟩) ?_
  · show UAt (getL l g) a.m0 e own w
    exact asU_at hu hat
  · rw [← hF]
    exact Tri.pathP mixed libK_ok (n := 10000) (k := 10000) (j := 0) (cfg := lyCfg) (o := [some true]) (g' := .go (.loop lyL.1)) (fs' := lyL.2) (s' := lyS a 0 4 0 a.root false (getL [((1, 0, 0), IntKind.u64.wrap a.epoch)] a.F0) (a.m0 + 1)) (asks := [((plWfB (1, 0, 0) && a.m0.ble 1000000), true)]) rfl (by kernel_rfl) ⟨h0, trivial⟩
      (ly_loop a 0 4 0 a.root false _ _ ⟨by decide, by omega, ha, fun _ => ⟨rfl, rfl, rfl, rfl⟩, fun h => by omega⟩)
/-- What Lay comes to. -/
noncomputable def lySpec : List SV → List (Nat × Chunk Rep) → Br Rep
  | [.ptr 0 0, .v (.int .i64 root), .v (.int .i64 level), .v (.int .i64 epoch), .tsl 1 len], [(0, c), (1, .rep (.vec [.int .i64 S, .int .u64 K, .int .u64 V, .bool M] len' t))] => match asU c, Nat.beq t 105 with
    | some (l, g, k), true => .need (Nat.beq len len') <| .need (propB (LYA.ok ⟨S, K, V, M, len, root, level, epoch, getL l g, k⟩)) (.leaf [] (lyHp (LYA.fin ⟨S, K, V, M, len, root, level, epoch, getL l g, k⟩) (k + 2 + 3 * len) ⟨S, K, V, M, len, root, level, epoch, getL l g, k⟩))
    | _, _ => .fail 701
  | _, _ => .fail 702
theorem ly_sub : SubOK repAt Tryz.prog lyF lySpec := by
  intro args hp
  unfold lySpec
  split
  · next root level epoch len c S K V M len' t =>
    split
    · next l g k hu hb =>
      intro hl h
      obtain rfl := Nat.eq_of_beq_eq_true hb
      obtain rfl := Nat.eq_of_beq_eq_true hl
      exact ⟨_, _, Tryz.func7, rfl, Nat.le_of_ble_eq_true (by kernel_rfl), ly_start ⟨S, K, V, M, len, root, level, epoch, getL l g, k⟩ (of_propB h) hu rfl⟩
    · trivial
  · trivial
end Go.Proofs.YtpaiejeipghehaaGreat
end
section
/- laid of the laws of layer 15: the states at its loop's head. Condition: the words fit. -/
namespace Go.Proofs.YtpaiejeipghehaaGreat
noncomputable abbrev laF : FuncId := 9
noncomputable abbrev laZ : Nat := slotsOf Tryz.prog laF
noncomputable def laL : Code × List Fr := loopOf Tryz.prog laF 0
/-- All words fit. -/
def WfG (G : Pl → Int) : Prop := ∀ p, (Lit.int .u64 (G p)).wf = true
structure LDA where
  G : Pl → Int
  k : Nat
noncomputable def LDA.L (a : LDA) : List Pl := placesOf a.G
def LDA.ok (a : LDA) : Prop := WfG a.G ∧ a.k ≤ 1000000
noncomputable def laS (a : LDA) (i c1 : Int) (H : Pl → Int) (n : Nat) : Sym Rep :=
  ⟨[(3, .ptr 1 0), (4, .tsl 2 (placesOf (getL [] a.G)).length), (0, .ptr 0 0), (5, iv i)],
   [(0, .rep (.ucells [] a.G a.k)), (1, .row [.ptr 3 0] 153), (2, .rep (.vec (colsPl (placesOf (getL [] a.G))) (placesOf (getL [] a.G)).length 51)), (3, .row [.mp 4, iv 0, iv c1, iv 0, iv 0, iv 0] 176), (4, .rep (.pmap [] H n))], 5⟩
def laCfg : Stop → List Gen × List Nat := fun _ => ([.map 0, .map 4], [3, 4, 0, 5])
def laCfg0 : Stop → List Gen × List Nat := fun _ => ([.map 0], [3, 4, 0, 5])
def laCfg2 : Stop → List Gen × List Nat := fun _ => ([], [2])
/-- The words of the first places. -/
noncomputable def LDA.part (a : LDA) (i : Nat) (q : Pl) : Int := @ite _ (q ∈ a.L.take i) (Classical.propDecidable _) (a.G q) 0
def laP (a : LDA) (i c1 : Int) (H : Pl → Int) (n : Nat) : Prop := 0 ≤ i ∧ i ≤ (a.L.length : Int) ∧ c1 = i ∧ H = a.part i.toNat ∧ n = i.toNat ∧ a.ok ∧ IsPlaces a.G a.L ∧ a.L.length ≤ a.k
def laHp (G : Pl → Int) (k c : Nat) : List (Nat × Chunk Rep) := [(0, .rep (.ucells [] G k)), (1, .row [.ptr 2 0] 153), (2, .row [.mp 3, iv 0, iv (c : Int), iv 0, iv 0, iv 0] 176), (3, .rep (.pmap [] G c))]
abbrev laQ (a : LDA) : Ex → Sym Rep → Prop := Ends Tryz.prog Tryz.f9 fun l s => l = [.ptr 1 0] ∧ s.hp = laHp a.G a.k a.L.length
theorem la_at {a : LDA} {i : Int} (i0 : 0 ≤ i) (h0 : i < (a.L.length : Int)) : a.L.getD i.toNat (0, 0, 0) ∈ a.L := getD_mem (by omega)
theorem take_succ_mem {L : List Pl} {i : Nat} (hi : i < L.length) (q : Pl) : q ∈ L.take (i + 1) ↔ q = L.getD i (0, 0, 0) ∨ q ∈ L.take i := by
  rw [List.take_add_one, List.mem_append]
  simp only [List.getD, List.getElem?_eq_getElem hi, Option.getD_some, Option.mem_toList, Option.mem_def, Option.some.injEq]
  constructor
  · rintro (h | h)
    · exact .inr h
    · exact .inl h.symm
  · rintro (h | h)
    · exact .inr h.symm
    · exact .inl h
theorem la_push {a : LDA} {i c1 : Int} {H : Pl → Int} {n : Nat} (hP : laP a i c1 H n) (h0 : decide (i < (a.L.length : Int)) = true) {v : Int} (hv : v = a.G (a.L.getD i.toNat (0, 0, 0))) :
    laP a (IntKind.i64.wrap (i + 1)) (IntKind.i64.wrap (c1 + 1)) (getL [((a.L.getD i.toNat (0, 0, 0)), v)] H) (n + 1) := by
  obtain ⟨i0, i1, hc, hH, hn, hok, hip, hl⟩ := hP
  have e0 := of_decide_eq_true h0
  have hk := hok.2
  have hi : (IntKind.i64.wrap (i + 1)).toNat = i.toNat + 1 := by rw [wrapI (by omega) (by omega)]; omega
  rw [laP, hi, wrapI (x := i + 1) (by omega) (by omega), wrapI (x := c1 + 1) (by omega) (by omega)]
  refine ⟨by omega, by omega, by omega, ?_, by omega, hok, hip, hl⟩
  funext q
  have ht := take_succ_mem (L := a.L) (i := i.toNat) (by omega) q
  by_cases e : q = a.L.getD i.toNat (0, 0, 0)
  · subst e
    simp only [getL, if_true, LDA.part, if_pos (ht.2 (.inl rfl)), hv]
  · simp only [getL, if_neg e, hH, LDA.part]
    by_cases hq : q ∈ a.L.take i.toNat
    · rw [if_pos hq, if_pos (ht.2 (.inr hq))]
    · rw [if_neg hq, if_neg fun h => (ht.1 h).elim e hq]
theorem la_less {a : LDA} {i c1 : Int} {H : Pl → Int} {n : Nat} (hP : laP a i c1 H n) (h0 : decide (i < (a.L.length : Int)) = true) {r : Nat} (hr : r = a.L.length - i.toNat) : a.L.length - (IntKind.i64.wrap (i + 1)).toNat < r := by
  obtain ⟨i0, i1, hc, hH, hn, hok, hip, hl⟩ := hP
  have e0 := of_decide_eq_true h0
  have hk := hok.2
  rw [wrapI (by omega) (by omega)]
  omega
theorem la_put {a : LDA} {p : Pl} {n : Nat} (hok : a.ok) (hip : IsPlaces a.G a.L) (hp : p ∈ a.L) (hn : n ≤ 1000000) : (plWfB p && (Lit.int .u64 (a.G p)).wf && a.G p != 0 && decide (n < maxLen)) = true := by
  have h := (hip.2 p).1 hp
  simp only [plWfB_iff.2 h.1, hok.1 p, bne_iff_ne, Bool.and_eq_true, decide_eq_true_eq, ne_eq, h.2, not_false_iff, true_and, and_true]
  unfold maxLen
  omega
theorem map_congr {w : World} {b n : Nat} {f g : Pl → Int} (h : MapAt w b f n) (he : ∀ p, PlWf p → f p = g p) : MapAt w b g n := by
  obtain ⟨D, h1, h2, h3⟩ := h
  exact ⟨D, h1, fun p hp => by rw [← he p hp]; exact h2 p hp, fun p hp => by rw [← he p hp]; exact h3 p hp⟩
theorem la_over {a : LDA} {i c1 : Int} {H : Pl → Int} {n : Nat} (hP : laP a i c1 H n) (h0 : decide (i < (a.L.length : Int)) = false) : c1 = (a.L.length : Int) ∧ n = a.L.length ∧ ∀ p, PlWf p → H p = a.G p := by
  obtain ⟨i0, i1, hc, hH, hn, hok, hip, hl⟩ := hP
  have e0 := of_decide_eq_false h0
  have hi : i.toNat = a.L.length := by omega
  refine ⟨by omega, by omega, fun p hp => ?_⟩
  rw [hH, hi]
  simp only [LDA.part, List.take_length]
  split
  · rfl
  · next h =>
    by_cases hz : a.G p = 0
    · exact hz.symm
    · exact absurd ((hip.2 p).2 ⟨hp, hz⟩) h
theorem la_fin (a : LDA) {c1 : Int} {H : Pl → Int} {n : Nat} (h : c1 = (a.L.length : Int) ∧ n = a.L.length ∧ ∀ p, PlWf p → H p = a.G p) :
    Tri repAt Tryz.prog laZ 1 (.out .ret) [] ⟨[(2, .ptr 1 0)], [(0, .rep (.ucells [] a.G a.k)), (1, .row [.ptr 2 0] 153), (2, .row [.mp 3, iv 0, iv c1, iv 0, iv 0, iv 0] 176), (3, .rep (.pmap [] H n))], 4⟩ (laQ a) := by
  obtain ⟨rfl, rfl, h⟩ := h
  exact Tri.view (swap_view (n := 3) (c1 := .rep (.pmap [] a.G a.L.length)) rfl fun B ρ own w e he hat => ⟨own, ⟨hat.1, map_congr hat.2 h⟩, fun b hb => hb⟩) (Tri.fin (Ends.of (t := 2) (by kernel_rfl) (.inl rfl) rfl ⟨rfl, rfl⟩))
end Go.Proofs.YtpaiejeipghehaaGreat
end
section
/- laid of the laws of layer 15: its runs from point to point. Condition: the words fit. -/
namespace Go.Proofs.YtpaiejeipghehaaGreat
set_option linter.unusedVariables false
set_option linter.unusedSimpArgs false
set_option maxRecDepth 100000
set_option maxHeartbeats 8000000
def laI (a : LDA) (r : Nat) (s : Sym Rep) : Prop := ∃ (i c1 : Int) (H : Pl → Int) (n : Nat), s = laS a i c1 H n ∧ laP a i c1 H n ∧ r = a.L.length - i.toNat
abbrev laR (a : LDA) (r : Nat) (x : Ex) (s : Sym Rep) : Prop := match x with
  | .nor => ∃ k', k' < r ∧ laI a k' s
  | x => Tri repAt Tryz.prog laZ 1 (.out x) laL.2 s (laQ a)
theorem la_next (a : LDA) (i c1 : Int) (H : Pl → Int) (n : Nat) {r : Nat} (hP : laP a i c1 H n) (hk : a.L.length - i.toNat < r) : Tri repAt Tryz.prog laZ 1 (.out .nor) [] (laS a i c1 H n) (laR a r) := Tri.fin ⟨_, hk, i, c1, H, n, rfl, hP, rfl⟩

theorem la_exit (a : LDA) (i c1 : Int) (H : Pl → Int) (n : Nat) (h : c1 = (a.L.length : Int) ∧ n = a.L.length ∧ ∀ p, PlWf p → H p = a.G p)  : Tri repAt Tryz.prog laZ 1 (.out (.out 0)) laL.2 (laS a i c1 H n) (laQ a) := by
  exact Tri.pathP mixed libK_ok (n := 10000) (k := 10000) (j := 0) (cfg := laCfg2) (o := []) (g' := .out .ret) (fs' := []) (s' := ⟨[(2, SV.ptr 1 0)], [(0, Chunk.rep (Rep.ucells [] a.G a.k)), (1, Chunk.row [SV.ptr 2 0] 153), (2, Chunk.row [SV.mp 3, SV.v (Value.int IntKind.i64 (Int.ofNat 0)), SV.v (Value.int IntKind.i64 c1), SV.v (Value.int IntKind.i64 (Int.ofNat 0)), SV.v (Value.int IntKind.i64 (Int.ofNat 0)), SV.v (Value.int IntKind.i64 (Int.ofNat 0))] 176), (3, Chunk.rep (Rep.pmap [] H n))], 4⟩) (asks := []) rfl (by kernel_rfl) trivial (la_fin a h)
theorem la_round (a : LDA) (i c1 : Int) (H : Pl → Int) (n : Nat) (hP : laP a i c1 H n) {r : Nat} (hr : r = a.L.length - i.toNat) : Tri repAt Tryz.prog laZ 1 (.go laL.1) [] (laS a i c1 H n) (laR a r) := by
  rcases Bool.eq_false_or_eq_true (decide (i < (↑(placesOf (getL [] a.G)).length : Int))) with h0 | h0
  · have h1 : (decide (0 ≤ i ∧ i < (↑(placesOf (getL [] a.G)).length : Int) ∧ (placesOf (getL [] a.G)).length ≤ (placesOf (getL [] a.G)).length)) = true := by (obtain ⟨i0, i1, hc, hH, hn, hok, hip, hl⟩ := hP; first | exact decide_eq_true ⟨i0, of_decide_eq_true h0, Nat.le_refl _⟩ | exact Nat.ble_eq_true_of_le hok.2 | exact beq_eq_false_iff_ne.2 ((hip.2 _).1 (la_at i0 (of_decide_eq_true h0))).2 | exact la_put hok hip (la_at i0 (of_decide_eq_true h0)) (by have := hok.2; have := of_decide_eq_true h0; unfold LDA.L at *; omega))
    have h2 : (a.k.ble 1000000) = true := by (obtain ⟨i0, i1, hc, hH, hn, hok, hip, hl⟩ := hP; first | exact decide_eq_true ⟨i0, of_decide_eq_true h0, Nat.le_refl _⟩ | exact Nat.ble_eq_true_of_le hok.2 | exact beq_eq_false_iff_ne.2 ((hip.2 _).1 (la_at i0 (of_decide_eq_true h0))).2 | exact la_put hok hip (la_at i0 (of_decide_eq_true h0)) (by have := hok.2; have := of_decide_eq_true h0; unfold LDA.L at *; omega))
    have h3 : (getL [] a.G ((fun i => ((placesOf (getL [] a.G)).getD i (0, 0, 0)).fst) i.toNat, (fun i => ((placesOf (getL [] a.G)).getD i (0, 0, 0)).snd.fst) i.toNat, (fun i => ((placesOf (getL [] a.G)).getD i (0, 0, 0)).snd.snd) i.toNat) == 0) = false := by (obtain ⟨i0, i1, hc, hH, hn, hok, hip, hl⟩ := hP; first | exact decide_eq_true ⟨i0, of_decide_eq_true h0, Nat.le_refl _⟩ | exact Nat.ble_eq_true_of_le hok.2 | exact beq_eq_false_iff_ne.2 ((hip.2 _).1 (la_at i0 (of_decide_eq_true h0))).2 | exact la_put hok hip (la_at i0 (of_decide_eq_true h0)) (by have := hok.2; have := of_decide_eq_true h0; unfold LDA.L at *; omega))
    have h4 : (plWfB ((fun i => ((placesOf (getL [] a.G)).getD i (0, 0, 0)).fst) i.toNat, (fun i => ((placesOf (getL [] a.G)).getD i (0, 0, 0)).snd.fst) i.toNat, (fun i => ((placesOf (getL [] a.G)).getD i (0, 0, 0)).snd.snd) i.toNat) && (Lit.int IntKind.u64 (getL [] a.G ((fun i => ((placesOf (getL [] a.G)).getD i (0, 0, 0)).fst) i.toNat, (fun i => ((placesOf (getL [] a.G)).getD i (0, 0, 0)).snd.fst) i.toNat, (fun i => ((placesOf (getL [] a.G)).getD i (0, 0, 0)).snd.snd) i.toNat))).wf && getL [] a.G ((fun i => ((placesOf (getL [] a.G)).getD i (0, 0, 0)).fst) i.toNat, (fun i => ((placesOf (getL [] a.G)).getD i (0, 0, 0)).snd.fst) i.toNat, (fun i => ((placesOf (getL [] a.G)).getD i (0, 0, 0)).snd.snd) i.toNat) != 0 && decide (n < maxLen)) = true := by (obtain ⟨i0, i1, hc, hH, hn, hok, hip, hl⟩ := hP; first | exact decide_eq_true ⟨i0, of_decide_eq_true h0, Nat.le_refl _⟩ | exact Nat.ble_eq_true_of_le hok.2 | exact beq_eq_false_iff_ne.2 ((hip.2 _).1 (la_at i0 (of_decide_eq_true h0))).2 | exact la_put hok hip (la_at i0 (of_decide_eq_true h0)) (by have := hok.2; have := of_decide_eq_true h0; unfold LDA.L at *; omega))
    exact Tri.pathP mixed libK_ok (n := 10000) (k := 10000) (j := 0) (cfg := laCfg) (o := List.replicate 4 (some true) ++ [none, none] ++ [some false] ++ [some true]) (g' := .out .nor) (fs' := []) (s' := laS (a) (IntKind.i64.wrap (i + 1)) (IntKind.i64.wrap (c1 + 1)) (getL [(((fun i => ((placesOf (getL [] a.G)).getD i (0, 0, 0)).fst) i.toNat, (fun i => ((placesOf (getL [] a.G)).getD i (0, 0, 0)).snd.fst) i.toNat, (fun i => ((placesOf (getL [] a.G)).getD i (0, 0, 0)).snd.snd) i.toNat), getL [] a.G ((fun i => ((placesOf (getL [] a.G)).getD i (0, 0, 0)).fst) i.toNat, (fun i => ((placesOf (getL [] a.G)).getD i (0, 0, 0)).snd.fst) i.toNat, (fun i => ((placesOf (getL [] a.G)).getD i (0, 0, 0)).snd.snd) i.toNat))] H) (n + 1)) (asks := [((plWfB ((fun i => ((placesOf (getL [] a.G)).getD i (0, 0, 0)).fst) i.toNat, (fun i => ((placesOf (getL [] a.G)).getD i (0, 0, 0)).snd.fst) i.toNat, (fun i => ((placesOf (getL [] a.G)).getD i (0, 0, 0)).snd.snd) i.toNat) && (Lit.int IntKind.u64 (getL [] a.G ((fun i => ((placesOf (getL [] a.G)).getD i (0, 0, 0)).fst) i.toNat, (fun i => ((placesOf (getL [] a.G)).getD i (0, 0, 0)).snd.fst) i.toNat, (fun i => ((placesOf (getL [] a.G)).getD i (0, 0, 0)).snd.snd) i.toNat))).wf && getL [] a.G ((fun i => ((placesOf (getL [] a.G)).getD i (0, 0, 0)).fst) i.toNat, (fun i => ((placesOf (getL [] a.G)).getD i (0, 0, 0)).snd.fst) i.toNat, (fun i => ((placesOf (getL [] a.G)).getD i (0, 0, 0)).snd.snd) i.toNat) != 0 && decide (n < maxLen)), true), ((getL [] a.G ((fun i => ((placesOf (getL [] a.G)).getD i (0, 0, 0)).fst) i.toNat, (fun i => ((placesOf (getL [] a.G)).getD i (0, 0, 0)).snd.fst) i.toNat, (fun i => ((placesOf (getL [] a.G)).getD i (0, 0, 0)).snd.snd) i.toNat) == 0), false), ((a.k.ble 1000000), true), ((decide (0 ≤ i ∧ i < (↑(placesOf (getL [] a.G)).length : Int) ∧ (placesOf (getL [] a.G)).length ≤ (placesOf (getL [] a.G)).length)), true), ((decide (0 ≤ i ∧ i < (↑(placesOf (getL [] a.G)).length : Int) ∧ (placesOf (getL [] a.G)).length ≤ (placesOf (getL [] a.G)).length)), true), ((decide (i < (↑(placesOf (getL [] a.G)).length : Int))), true)]) rfl (by kernel_rfl) ⟨h4, h3, h2, h1, h1, h0, trivial⟩ (la_next (a) (IntKind.i64.wrap (i + 1)) (IntKind.i64.wrap (c1 + 1)) (getL [(((fun i => ((placesOf (getL [] a.G)).getD i (0, 0, 0)).fst) i.toNat, (fun i => ((placesOf (getL [] a.G)).getD i (0, 0, 0)).snd.fst) i.toNat, (fun i => ((placesOf (getL [] a.G)).getD i (0, 0, 0)).snd.snd) i.toNat), getL [] a.G ((fun i => ((placesOf (getL [] a.G)).getD i (0, 0, 0)).fst) i.toNat, (fun i => ((placesOf (getL [] a.G)).getD i (0, 0, 0)).snd.fst) i.toNat, (fun i => ((placesOf (getL [] a.G)).getD i (0, 0, 0)).snd.snd) i.toNat))] H) (n + 1) (la_push hP h0 rfl) (la_less hP h0 hr))
  · exact Tri.pathP mixed libK_ok (n := 10000) (k := 10000) (j := 0) (cfg := laCfg) (o := [some false]) (g' := .out (.out 0)) (fs' := []) (s' := laS (a) (i) (c1) (getL [] H) (n)) (asks := [((decide (i < (↑(placesOf (getL [] a.G)).length : Int))), false)]) rfl (by kernel_rfl) ⟨h0, trivial⟩ (Tri.fin (la_exit (a) (i) (c1) (getL [] H) (n) (la_over hP h0)))
theorem la_loop (a : LDA) (i c1 : Int) (H : Pl → Int) (n : Nat) (hP : laP a i c1 H n) : Tri repAt Tryz.prog laZ 1 (.go (.loop laL.1)) laL.2 (laS a i c1 H n) (laQ a) := by
  refine Tri.loop (I := laI a) (fun k s h => ?_) ⟨_, _, _, _, rfl, hP, rfl⟩
  obtain ⟨i, c1, H, n, rfl, hP, hk⟩ := h
  exact la_round a i c1 H n hP hk
theorem la_start (a : LDA) (ha : a.ok) : Tri repAt Tryz.prog laZ 1 (.go (bodyOf Tryz.prog laF)) [] ⟨argsE [.ptr 0 0], [(0, .rep (.ucells [] a.G a.k))], 1⟩ (laQ a) := by
  have h0 : a.k.ble 1000000 = true := Nat.ble_eq_true_of_le ha.2
  refine Tri.know (φ := IsPlaces (getL [] a.G) (placesOf (getL [] a.G)) ∧ (placesOf (getL [] a.G)).length ≤ a.k) (fun B ρ own w hs => stand_fin (k := 0) hs rfl) (fun hf => ?_)
  exact Tri.pathP mixed libK_ok (n := 10000) (k := 10000) (j := 0) (cfg := laCfg0) (o := [some true]) (g' := .go (.loop laL.1)) (fs' := laL.2) (s' := laS a 0 0 zeroG 0) (asks := [(a.k.ble 1000000, true)]) rfl (by kernel_rfl) ⟨h0, trivial⟩
    (la_loop a 0 0 zeroG 0 ⟨by decide, by omega, rfl, by funext q; simp [LDA.part, zeroG], rfl, ha, hf.1, hf.2⟩)
/-- What laid comes to. -/
noncomputable def laSpec : List SV → List (Nat × Chunk Rep) → Br Rep
  | [.ptr 0 0], [(0, .rep (.ucells l g k))] => .need (propB (LDA.ok ⟨getL l g, k⟩)) (.leaf [.ptr 1 0] (laHp (getL l g) k (placesOf (getL l g)).length))
  | _, _ => .fail 703
theorem la_sub : SubOK repAt Tryz.prog laF laSpec := by
  intro args hp
  unfold laSpec
  split
  · next l g k =>
    intro h
    refine ⟨_, _, Tryz.func9, rfl, Nat.le_of_ble_eq_true (by kernel_rfl), ?_⟩
    exact Tri.view (swap_view (n := 0) (c1 := .rep (.ucells [] (getL l g) k)) rfl fun B ρ own w e he hat => ⟨own, hat, fun b hb => hb⟩) (la_start ⟨getL l g, k⟩ (of_propB h))
  · trivial
end Go.Proofs.YtpaiejeipghehaaGreat
end
section
/- A key of a map of places is a place's value whose numbers fit int. -/
namespace Go.Proofs.YtpaiejeipghehaaGreat
open Go.RowKit Go.Maps

set_option maxRecDepth 100000 in
theorem keyLits_int {n : Nat} {x : Value} {l : List Lit} (h : Tryz.prog.keyLits (n + 1) 3 [x] = some l) : ∃ i, x = .int .i64 i ∧ (Lit.int .i64 i).wf = true ∧ l = [.int .i64 i] := by
  unfold Program.keyLits at h
  rw [Tryz.underlying3] at h
  cases x <;> simp at h
  obtain ⟨⟨rfl, hw⟩, rfl⟩ := h
  exact ⟨_, rfl, hw, rfl⟩

set_option maxRecDepth 100000 in
theorem keyOf_inv {v : Value} {kl : Lit} (h : keyOf Tryz.prog 51 v = some kl) : ∃ p : Pl, v = kagg p ∧ PlWf p ∧ kl = litP p := by
  have hk : Tryz.prog.keyType 51 = true := by kernel_rfl
  have hI : Tryz.prog.cellsOf 3 = 1 := by kernel_rfl
  have hC : Tryz.prog.cellsOf 51 = 3 := by kernel_rfl
  obtain ⟨n, hn⟩ : ∃ n, Tryz.prog.types.size + 1 = n + 1 + 1 := ⟨Tryz.prog.types.size - 1, by have : 1 ≤ Tryz.prog.types.size := of_decide_eq_true (by kernel_rfl); omega⟩
  have h0 := h
  unfold keyOf at h
  rw [Tryz.underlying51, hn] at h
  cases v <;> simp only [hk, Value.formed, Tryz.underlying51, Bool.and_false, Bool.false_eq_true, if_false, Bool.true_and, reduceCtorEq] at h
  rename_i cs
  rw [hC] at h
  split at h
  · rename_i h3
    have h3 : cs.toList.length = 3 := by simpa using h3
    obtain ⟨l⟩ := cs
    match l, h3 with
    | [a, b, c], _ =>
      rw [Program.keyLits.eq_def] at h
      simp only [] at h
      generalize hg : Tryz.prog.keyLits (n + 1) = g at h
      simp [Tryz.underlying51, Value.cells, hC, hI] at h
      subst hg
      cases hx : Tryz.prog.keyLits (n + 1) 3 [a] with
      | none => rw [hx] at h; simp at h
      | some x =>
      cases hy : Tryz.prog.keyLits (n + 1) 3 [b] with
      | none => rw [hx, hy] at h; simp at h
      | some y =>
      cases hz : Tryz.prog.keyLits (n + 1) 3 [c] with
      | none => rw [hx, hy, hz] at h; simp at h
      | some z =>
      obtain ⟨i, rfl, hi, rfl⟩ := keyLits_int hx
      obtain ⟨j, rfl, hj, rfl⟩ := keyLits_int hy
      obtain ⟨k, rfl, hk, rfl⟩ := keyLits_int hz
      have hp : PlWf (i, j, k) := ⟨hi, hj, hk⟩
      refine ⟨(i, j, k), rfl, hp, ?_⟩
      have := keyOf_place (i, j, k) hp
      rw [show kagg (i, j, k) = .agg ⟨[.int .i64 i, .int .i64 j, .int .i64 k]⟩ from rfl, h0] at this
      injection this
  · cases h
end Go.Proofs.YtpaiejeipghehaaGreat
end
section
/- Which places of a map have come, while its keys are gone through. -/
namespace Go.Proofs.YtpaiejeipghehaaGreat
open Go.RowKit Go.Maps

def CollP (D0 : DataW Unit) (left : Lit → Bool) (ss : List Pl) : Prop := ss.Nodup ∧ (∀ x ∈ ss, PlWf x) ∧ ∀ x, PlWf x → (x ∈ ss ↔ (has D0 (litP x) = true ∧ left (litP x) = false))
theorem CollP.start (D0 : DataW Unit) : CollP D0 (has D0) [] := ⟨List.nodup_nil, (fun _ h => by cases h), fun x _ => by cases has D0 (litP x) <;> simp⟩
theorem CollP.step {D0 : DataW Unit} {left : Lit → Bool} {ss : List Pl} (h : CollP D0 left ss) {x : Pl} (hx : PlWf x) {y : DataW Unit} (hlk : left (litP x) = true) (hat : ∀ zd, D0.atKey (litP x) zd = y) : CollP D0 (fun z => left z && !z.sameKey (litP x)) (ss ++ [x]) := by
  obtain ⟨h1, h2, h3⟩ := h
  have hn : x ∉ ss := fun hm => by have := ((h3 x hx).1 hm).2; rw [hlk] at this; cases this
  have hkey := place_keyed.key (keyOf_place x hx)
  refine ⟨?_, ?_, fun z hz => ?_⟩
  · rw [List.nodup_append]
    exact ⟨h1, by simp, fun a ha b hb => by rw [List.mem_singleton] at hb; subst hb; rintro rfl; exact hn ha⟩
  · intro z hz
    rcases List.mem_append.1 hz with hz | hz
    · exact h2 z hz
    · rw [List.mem_singleton] at hz
      subst hz
      exact hx
  · rw [List.mem_append, List.mem_singleton, h3 z hz]
    by_cases e : z = x
    · subst e
      simp [WideAt.sameKey_self hkey, has_true_of_atKey hat]
    · have hne : (litP z).sameKey (litP x) = false := by
        cases hs : (litP z).sameKey (litP x)
        · rfl
        · exact absurd (litP_inj hz hx (WideAt.sameKey_eq hs)) e
      simp [e, hne]
/-- All have come. -/
theorem CollP.done {D0 : DataW Unit} {left : Lit → Bool} {ss : List Pl} (h : CollP D0 left ss) (hl : ∀ k, left k = false) : ss.Nodup ∧ (∀ x ∈ ss, PlWf x) ∧ ∀ x, PlWf x → (x ∈ ss ↔ has D0 (litP x) = true) :=
  ⟨h.1, h.2.1, fun x hx => by rw [h.2.2 x hx, hl]; simp⟩
end Go.Proofs.YtpaiejeipghehaaGreat
end
section
/- maps.Keys' iterator at maps of places. -/
namespace Go.Proofs.YtpaiejeipghehaaGreat
open Go.RowKit Go.Maps

abbrev kv (p : Pl) : Value := .agg #[.int .i64 p.1, .int .i64 p.2.1, .int .i64 p.2.2]
set_option maxRecDepth 100000 in
set_option maxHeartbeats 1000000 in
theorem keys1_in (F : Fence) (n : Nat) (h10 : F.fn 119) (hro : F.round = none) (hn : 1 ≤ n) (l Bm b nn : Nat) (D0 : DataW Unit) {R : Value → Option (DataW Unit × List MemPlace)} (J : List Pl → World → Prop)
    (hY : ∀ pre x W, J pre W → PlWf x → pre.length < Maps.size D0 → YieldAt F (n - 1) Tryz.prog l #[kv x] W fun e W' => e = .returned (.bool true) ∧ J (pre ++ [x]) W' ∧ KeepsWalks W W')
    (W : World) (hJ : AbidesFrom W.heap.size J) (hm : W.cell? ⟨Bm, 0, none⟩ = some (.map (some b))) (hown : W.ownsMap Tryz.prog 51 R b nn D0) (h0 : J [] W) :
    CallsIn F n Tryz.prog 119 #[.func (.yield l) #[] #[], .pointer (some ⟨Bm, 0, none⟩)] W fun e W' => (∃ v, e = .returned v) ∧ ∃ ss : List Pl, (ss.Nodup ∧ (∀ x ∈ ss, PlWf x) ∧ ∀ x, PlWf x → (x ∈ ss ↔ has D0 (litP x) = true)) ∧ J ss W' := by
  refine callsIn_of_wp Tryz.func119 rfl h10 ?_ hro
  simp only [Tryz.ntmps119, List.size_toArray, List.length_cons, List.length_nil, Nat.reduceAdd, Nat.reduceSub, Array.replicate_succ, Array.replicate_zero, List.push_toArray, List.append_toArray, List.nil_append, List.cons_append]
  gi_wp2_with (first
    | (gi_at_range; refine wpListIn_range_own _ rfl _ 174 rfl 51 23 place_keyed Tryz.underlying174 _ b nn _ rfl hown ?_; intro w0 hrg0 hg0 hs0)
    | gi_in)
  go_frame
  gi_loopw [7] (fun _ wr => ∃ (left : Lit → Bool) (cnt : Nat) (ss : List Pl), wr.ranges Tryz.prog 51 R b W.heap.size nn D0 left cnt ∧ ss.length + cnt ≤ Maps.size D0 ∧ CollP D0 left ss ∧ J ss wr)
    (fun _ wr => wr.rangeLeft b W.heap.size)
  case atStart =>
    exact ⟨_, _, [], hrg0, by simp, CollP.start D0, hJ [] W w0 none h0 hg0 (fun r e => by cases e)⟩
  case round =>
    obtain ⟨left, cnt, ss, hrg, hcs, hC, hJs⟩ := hrel
    gi_wp2_with (first
      | (gi_at_next; refine wpListIn_next_ranges _ rfl _ rfl 51 place_keyed R (fun p : Pl => .agg #[.int .i64 p.1, .int .i64 p.2.1, .int .i64 p.2.2]) id (fun key _ h => by obtain ⟨p, rfl, _⟩ := keyOf_inv h; exact ⟨p, rfl⟩) (fun v _ _ => ⟨v, rfl⟩) b W.heap.size nn _ _ _ rfl hrg ?_ ?_)
      | gi_in)
    · intro hc0 hl0
      gi_wp2
      go_end0
      exact ⟨⟨_, rfl⟩, ss, hC.done hl0, hJs⟩
    · intro x y z c kl yd yp w2 cnt2 hkey hlk hv hat hrg2 hlt hg2 hs2 hen
      obtain ⟨q, e0, hq, rfl⟩ := keyOf_inv hkey
      obtain rfl : q = (x, y, z) := by
        obtain ⟨q1, q2, q3⟩ := q
        simpa [kagg, eq_comm] using e0
      have hJ2 : J ss w2 := hJ ss wr w2 (some W.heap.size) hJs hg2 (fun r e => by cases e; exact ⟨Nat.le_refl _, hrg.iter_walk⟩)
      have hJ3 : J ss (w2.alloc (.cells #[.int .i64 x, .int .i64 y, .int .i64 z] 51)) := hJ ss w2 _ none hJ2 (World.grownBy_alloc _ _ _) (fun r e => by cases e)
      obtain ⟨fn, tmps, assign, body, hy, hR⟩ := hY ss (x, y, z) _ hJ3 hq (by omega)
      have hrga := hrg2.alloc (.cells #[.int .i64 x, .int .i64 y, .int .i64 z] 51)
      clear hs2 e0
      simp only [kv] at hy
      gi_wp2
      refine hR.mono ?_
      rintro e W3 ⟨rfl, hJ3, hk3⟩
      gi_wp2
      have hrg3 := hrga.of_walks hk3
      go_roundw
      case rel => exact ⟨_, cnt2, ss ++ [(x, y, z)], hrg3, by simp; omega, hC.step hq hlk hat, hJ3⟩
      case measure => rw [hrg3.left_eq, hrg.left_eq]; exact hlt
end Go.Proofs.YtpaiejeipghehaaGreat
end
section
/- maps.Keys at maps of places hands back an iterator over their keys. -/
namespace Go.Proofs.YtpaiejeipghehaaGreat
open Go.RowKit Go.Maps
set_option maxRecDepth 100000 in
set_option maxHeartbeats 1000000 in
theorem keys_in (F : Fence) (n : Nat) (h7 : F.fn 104) (hro : F.round = none) (mb : Option Nat) (w : World) :
    CallsIn F n Tryz.prog 104 #[.map mb] w fun e w' => e = .returned (.func (.func 119) #[] #[.pointer (some ⟨w.heap.size, 0, none⟩)]) ∧ w' = w.alloc (.cells #[.map mb] 174) := by
  refine callsIn_of_wp Tryz.func104 rfl h7 ?_ hro
  simp only [Tryz.ntmps104, List.size_toArray, List.length_cons, List.length_nil, Nat.reduceAdd, Nat.reduceSub, Array.replicate_succ, Array.replicate_zero, List.push_toArray, List.append_toArray, List.nil_append, List.cons_append]
  gi_wp2
  go_ret
  exact ⟨rfl, rfl⟩
theorem keys_gives (F : Fence) (n : Nat) (h10 : F.fn 119) (hro : F.round = none) (hn : 1 ≤ n) (Bm b nn : Nat) (D0 : DataW Unit) {R : Value → Option (DataW Unit × List MemPlace)} (w : World) (hBm : Bm < w.heap.size)
    (hm : w.cell? ⟨Bm, 0, none⟩ = some (.map (some b))) (hown : w.ownsMap Tryz.prog 51 R b nn D0) :
    SeqGives F n Tryz.prog 119 #[.pointer (some ⟨Bm, 0, none⟩)] kv (fun ss => ss.Nodup ∧ (∀ x ∈ ss, PlWf x) ∧ ∀ x, PlWf x → (x ∈ ss ↔ has D0 (litP x) = true)) (Maps.size D0) w := fun l J W hW hJ hY h0 => by
  have hown' : W.ownsMap Tryz.prog 51 R b nn D0 := by
    have hbl := hown.lt
    obtain ⟨es, clock, hb, Ft, hs, hD⟩ := hown
    exact ⟨es, clock, (hW.block b hbl).trans hb, Ft, hs, hD⟩
  exact keys1_in F n h10 hro hn l Bm b nn D0 J (fun pre x W h _ hl => hY pre x W h hl) W hJ ((hW.cell (p := ⟨Bm, 0, none⟩) hBm).trans hm) hown' h0
end Go.Proofs.YtpaiejeipghehaaGreat
end
section
/- slices.AppendSeq(nil, seq), slices.Collect(seq) at places (the worked walk of the kit, turned to structs; not clean yet). -/
namespace Go.Proofs.YtpaiejeipghehaaGreat
open Go.RowKit Go.Maps Go.Sort
theorem info_place : (Tryz.prog.info? 51).map (fun i => (i.zero, i.size, i.bytes)) = some (some (.agg #[.int .i64 0, .int .i64 0, .int .i64 0]), 3, 24) := by kernel_rfl
theorem kvs_one (p : Pl) : ∀ u ∈ kvs p, u.oneCell' = true := by simp [Value.oneCell']
theorem box_cells (w : World) (p : Pl) : ∀ j u, (kvs p)[j]? = some u → (w.alloc (.cells #[.int .i64 p.1, .int .i64 p.2.1, .int .i64 p.2.2] 51)).cell? ((⟨w.heap.size, 0, none⟩ : Addr).add j) = some u := by
  intro j u h
  have e : ((⟨w.heap.size, 0, none⟩ : Addr).add j) = ⟨w.heap.size, j, none⟩ := by
    by_cases hj : j = 0 <;> simp [Addr.add, hj]
  rw [e]
  exact ((Blk.new w 51 (kvs p)).cell j).trans h
def apAssign : Code := (Code.region 2 #[{ dst := some 5, op := Op.alloc 51, type := 0, pos := "iter.go:51", after := #[], guard := none }, { dst := none, op := Op.store 51 (Operand.tmp 5) (Operand.tmp 7), type := 0, pos := "iter.go:51", after := #[{ on := 0, ground := Ground.data }, { on := 0, ground := Ground.phase }], guard := none }] false)
def apBody : Code := (Code.block 1 (Code.region 3 #[{ dst := some 8, op := Op.load 113 (Operand.tmp 2), type := 113, pos := "iter.go:52", after := #[], guard := none }, { dst := some 9, op := Op.load 51 (Operand.tmp 5), type := 51, pos := "iter.go:52", after := #[], guard := none },
  { dst := some 10, op := Op.buildSlice 113 1 #[(0, Operand.tmp 9)], type := 113, pos := "iter.go:52", after := #[{ on := 1, ground := Ground.data }], guard := none },
  { dst := some 11, op := Op.call { callee := Callee.builtin Builtin.append, args := #[Operand.tmp 8, Operand.tmp 10], argTypes := #[113, 113] }, type := 113, pos := "iter.go:52", after := #[{ on := 0, ground := Ground.data }, { on := 2, ground := Ground.data }], guard := none },
  { dst := none, op := Op.store 113 (Operand.tmp 2) (Operand.tmp 11), type := 0, pos := "iter.go:52", after := #[{ on := 3, ground := Ground.data }, { on := 3, ground := Ground.chain }, { on := 0, ground := Ground.phase }, { on := 1, ground := Ground.phase }, { on := 2, ground := Ground.phase }, { on := 3, ground := Ground.phase }], guard := none }] false))
def apRec (fn : FuncId) (sv : Value) (Bs D : Nat) (st : LoopState) (pend : Option Code) : Loop :=
  { state := st, pending := pend, fn, tmps := #[.slice none 0 0, sv, .pointer (some ⟨Bs, 0, none⟩), undef, .slice none 0 0, undef, sv, undef, undef, undef, undef, undef, undef], params := #[7], assign := apAssign, body := apBody, defers := D }
end Go.Proofs.YtpaiejeipghehaaGreat
end
section
/- slices.AppendSeq(nil, seq), slices.Collect(seq) at places: the kit's worked walk turned (wip/turn_collect.py). -/
namespace Go.Proofs.YtpaiejeipghehaaGreat
open Go.RowKit Go.Maps Go.Sort
/-- BETWEEN TWO ROUNDS: the box holds a slice that owns, in a block of the call's own, what has come so far; IT IS nil JUST AS LONG AS NOTHING HAS COME; nothing that lay before the call has turned. -/
structure ApAt (w0 : World) (fn : FuncId) (sv : Value) (Bs l D : Nat) (ss : List Pl) (W : World) : Prop where
  box : ∃ v, W.heap[Bs]? = some (.cells #[v] (113) (0, 0)) ∧ W.ownsRow w0.heap.size (51) 3 v ss.length (ss.flatMap kvs) ∧ (v = .slice none 0 0 ↔ ss = [])
  L : W.heap[l]? = some (.loop (apRec fn sv Bs D .ready none))
  K : W.heap[D]? = some (.deferred (some []))
  below : Below w0.heap.size w0 W



theorem ap_abides (w0 : World) (fn : FuncId) (sv : Value) (Bs l D B : Nat) (hB : w0.heap.size ≤ B) : AbidesFrom B (ApAt w0 fn sv Bs l D) := fun s W W' row h hg hrow => by
  have hrow' : ∀ r, row = some r → ∃ o : Obj, W.heap[r]? = some o ∧ o.isWalk = true := fun r e => (hrow r e).2
  obtain ⟨v, hv, hr, hn⟩ := h.box
  exact ⟨⟨v, (grownBy_keeps hg hrow' hv rfl).trans hv, ownsRow_abides_a hr hg hrow', hn⟩, (grownBy_keeps hg hrow' h.L rfl).trans h.L, (grownBy_keeps hg hrow' h.K rfl).trans h.K,
    h.below.grown hg h.below.size (fun k e => Nat.le_trans hB (hrow k e).1)⟩









set_option maxRecDepth 100000 in
set_option maxHeartbeats 2000000 in
theorem apYield (F : Fence) (m : Nat) (w0 : World) (fn : FuncId) (hfn : F.fn fn) (sv : Value) (Bs l D : Nat) (hBl : Bs ≠ l) (hDl : D ≠ l) (hDB : D ≠ Bs) (h0B : w0.heap.size ≤ Bs) (h0l : w0.heap.size ≤ l)
    (N : Nat) (hN : N ≤ maxLen) (hNb : N * 24 ≤ 140737488355328) (ss : List Pl) (x : Pl) (W : World) (h : ApAt w0 fn sv Bs l D ss W) (hlen : ss.length < N) :
    YieldAt F m Tryz.prog l #[kv x] W fun e W' => e = .returned (.bool true) ∧ ApAt w0 fn sv Bs l D (ss ++ [x]) W' ∧ KeepsWalks W W' := by
  have hne : (113 : TypeId) ≠ 51 := by decide
  obtain ⟨i0, hi, hz0, hz1, hz2⟩ := info_parts info_place
  refine ⟨fn, #[.slice none 0 0, sv, .pointer (some ⟨Bs, 0, none⟩), undef, .slice none 0 0, undef, sv, kv x, undef, undef, undef, undef, undef], apAssign, apBody, by simpa [apRec] using run_yield (P := Tryz.prog) (args := #[kv x]) h.L rfl, roundIn_of_wpIn hfn ?_⟩
  have hA := ap_abides w0 fn sv Bs l D W.heap.size h.below.size ss W (W.alloc (.cells #[.int .i64 x.1, .int .i64 x.2.1, .int .i64 x.2.2] 51)) none h (World.grownBy_alloc _ _ _) (fun r e => by cases e)
  have hkA : KeepsWalks W (W.alloc (.cells #[.int .i64 x.1, .int .i64 x.2.1, .int .i64 x.2.2] 51)) := KeepsWalks.alloc _ _
  have hnew := Blk.new W 51 (kvs x)
  have hszA : (W.alloc (.cells #[.int .i64 x.1, .int .i64 x.2.1, .int .i64 x.2.2] 51)).heap.size = W.heap.size + 1 := by simp
  have hbl : l ≠ W.heap.size := fun e => by have := (Array.getElem?_eq_some_iff.1 h.L).1; omega
  unfold apAssign
  gi_wp2_with gi_round_op_a
  obtain ⟨WA, hWA⟩ : ∃ WA, W.alloc (.cells #[.int .i64 x.1, .int .i64 x.2.1, .int .i64 x.2.2] 51) = WA := ⟨_, rfl⟩
  have hnew : WA.heap[W.heap.size]? = some (.cells (kvs x).toArray 51 (0, 0)) := by rw [← hWA]; exact hnew
  rw [hWA] at hA hkA hszA ⊢
  obtain ⟨v, hv, hrow, _⟩ := hA.box
  have hl : l < WA.heap.size := (Array.getElem?_eq_some_iff.1 hA.L).1
  have hbr := run_beginRound (P := Tryz.prog) hA.L rfl
  obtain ⟨W2, hW2⟩ : ∃ W2, WA.putObj l (.loop { apRec fn sv Bs D .ready none with state := .busy }) = W2 := ⟨_, rfl⟩
  rw [hW2] at hbr
  have hg2 : WA.grownBy W2 (some l) := by rw [← hW2]; exact grownBy_putObj_a _ _ _
  have hk2 : KeepsWalks WA W2 := by rw [← hW2]; exact KeepsWalks.putObj _ hA.L rfl
  have hv2 : W2.heap[Bs]? = some (.cells #[v] (113) (0, 0)) := by rw [← hW2]; exact (World.putObj_heap_other hBl).trans hv
  have hK2 : W2.heap[D]? = some (.deferred (some [])) := by rw [← hW2]; exact (World.putObj_heap_other hDl).trans hA.K
  have hL2 : W2.heap[l]? = some (.loop { apRec fn sv Bs D .ready none with state := .busy }) := by rw [← hW2]; exact World.putObj_heap_same hl
  have hrow2 : W2.ownsRow w0.heap.size (51) 3 v ss.length (ss.flatMap kvs) := hrow.kept hg2 (ownsRow_ne_a hrow hA.L (fun cur e => by first | cases e | exact hne (Obj.cells.inj e).2.1))
  have hb2 : Below w0.heap.size w0 W2 := hA.below.grown hg2 hA.below.size (fun k e => by cases e; exact h0l)
  obtain ⟨hc2, hf2⟩ := cell_of_box_a hv2
  have hBlt : Bs < W2.heap.size := (Array.getElem?_eq_some_iff.1 hv2).1
  have hl2 : l < W2.heap.size := (Array.getElem?_eq_some_iff.1 hL2).1
  have hDlt : D < W2.heap.size := (Array.getElem?_eq_some_iff.1 hK2).1
  have ne_of : ∀ {j : Nat} {o : Obj}, W2.heap[j]? = some o → (∀ cur, o ≠ .cells cur (51) (0, 0)) → some j ≠ v.ownBlock := fun hj hno => by
    rcases ownsRow_ne_a hrow2 hj hno with e | e
    · rw [e]; simp
    · exact fun e' => e e'.symm
  have hbx2 : Blk W2 W.heap.size 51 (kvs x) := by unfold Blk; rw [← hW2]; exact (World.putObj_heap_other hbl.symm).trans hnew
  have hx0 := hbx2.cell 0
  have hx1 := hbx2.cell 1
  have hx2 := hbx2.cell 2
  clear hW2
  refine ⟨W2, hbr, ?_⟩
  unfold apBody
  gi_wp2_with (first
    | (gi_at_builtin; refine wpListIn_append_own _ rfl _ _ (113) rfl w0.heap.size (51) i0 (.agg #[.int .i64 0, .int .i64 0, .int .i64 0]) 3 24 Tryz.underlying113 hi hz0 hz1 hz2 rfl (by decide) _ _ _ rfl (hrow2.alloc _) ⟨W2.heap.size, 0, none⟩ 1 1 (kvs x) rfl rfl (box_cells _ x) (kvs_one x) (by omega) (by omega) (by have := hb2.size; simp; omega) ?_; intro v' w3 hown' hg3 hnil3
       have hv3 : w3.heap[Bs]? = some (.cells #[v] (113) (0, 0)) := (hg3.block Bs (by simp; omega) (ne_of hv2 (fun cur e => by first | cases e | exact hne (Obj.cells.inj e).2.1))).trans ((Below.heap_alloc _ _ Bs hBlt).trans hv2)
       obtain ⟨hc3, hf3⟩ := cell_of_box_a hv3
       obtain ⟨g', cap', cur', rfl, hbase', hgb', hr1, hr2, hr3, hr4⟩ : ∃ g' cap' cur', v' = .slice (some ⟨g', 0, none⟩) (ss.length + 1) cap' ∧ w0.heap.size ≤ g' ∧ w3.heap[g']? = some (.cells cur' (51) (0, 0)) ∧ ss.length + 1 ≤ cap' ∧ cap' ≤ maxLen ∧ cur'.size = cap' * 3 ∧ cur'.toList.take ((ss.length + 1) * 3) = ss.flatMap kvs ++ kvs x := by
         rcases hown'.2 with ⟨_, h0⟩ | h'
         · exact absurd h0 (by omega)
         · exact h'
       go_frame)
    | gi_round_op_a)
  have hg3' : (W2.alloc (.cells #[.int .i64 x.1, .int .i64 x.2.1, .int .i64 x.2.2] (51))).grownBy w3 v.ownBlock := hg3
  have hL3 : w3.heap[l]? = some (.loop { apRec fn sv Bs D .ready none with state := .busy }) := (hg3'.block l (by simp; omega) (ne_of hL2 (fun cur e => by first | cases e | exact hne (Obj.cells.inj e).2.1))).trans ((Below.heap_alloc _ _ l hl2).trans hL2)
  have hK3 : w3.heap[D]? = some (.deferred (some [])) := (hg3'.block D (by simp; omega) (ne_of hK2 (fun cur e => by first | cases e | exact hne (Obj.cells.inj e).2.1))).trans ((Below.heap_alloc _ _ D hDlt).trans hK2)
  obtain ⟨w4, hw4⟩ : ∃ w4, w3.setCell ⟨Bs, 0, none⟩ (.slice (some ⟨g', 0, none⟩) (ss.length + 1) cap') = w4 := ⟨_, rfl⟩
  rw [hw4]
  have hg4 : w3.grownBy w4 (some Bs) := by rw [← hw4]; exact grownBy_setCell0_a _ _ _
  have hv4 : w4.heap[Bs]? = some (.cells #[.slice (some ⟨g', 0, none⟩) (ss.length + 1) cap'] (113) (0, 0)) := by rw [← hw4]; exact heap_setCell_box_a _ hv3
  have hL4 : w4.heap[l]? = some (.loop { apRec fn sv Bs D .ready none with state := .busy }) := (hg4.block l (Array.getElem?_eq_some_iff.1 hL3).1 (fun e => hBl (by cases e; rfl))).trans hL3
  have hK4 : w4.heap[D]? = some (.deferred (some [])) := (hg4.block D (Array.getElem?_eq_some_iff.1 hK3).1 (fun e => hDB (by cases e; rfl))).trans hK3
  have hrow4 := hown'.kept hg4 (ownsRow_ne_a hown' hv3 (fun cur e => by first | cases e | exact hne (Obj.cells.inj e).2.1))
  have hl4 : l < w4.heap.size := (Array.getElem?_eq_some_iff.1 hL4).1
  have hb3 : Below w0.heap.size w0 w3 := (hb2.alloc hb2.size _).grown hg3' (by have := hb2.size; simp; omega) (fun k e => (hrow2.lt k e).1)
  have hb4 : Below w0.heap.size w0 w4 := hb3.grown hg4 hb3.size (fun k e => by cases e; exact h0B)
  have hk4 : KeepsWalks W w4 := hkA.trans <| ((hk2.trans (KeepsWalks.alloc _ _)).trans (KeepsWalks.of_grownBy hg3' (ownsRow_not_walk_a (hrow2.alloc _)))).trans (by rw [← hw4]; exact KeepsWalks.setCell _ _ _)
  clear hw4
  refine ⟨_, _, run_endRound none hL4, rfl, ⟨⟨_, (World.putObj_heap_other hBl).trans hv4, ?_, by simp⟩, World.putObj_heap_same hl4, (World.putObj_heap_other hDl).trans hK4, hb4.grown (grownBy_putObj_a _ _ _) hb4.size (fun k e => by cases e; exact h0l)⟩, hk4.trans (KeepsWalks.putObj _ hL4 rfl)⟩
  have := hrow4.kept (grownBy_putObj_a w4 l (.loop { { apRec fn sv Bs D .ready none with state := .busy } with state := if (none : Option Code).isNone then .ready else .done, pending := none })) (ownsRow_ne_a hrow4 hL4 (fun cur e => by first | cases e | exact hne (Obj.cells.inj e).2.1))
  simpa using this


set_option maxRecDepth 100000 in
set_option maxHeartbeats 2000000 in
/-- **slices.AppendSeq(nil, seq), AGAINST WHATEVER ITERATOR VALUE THAT 'SeqGives'**: it hands back a slice that owns, in a block of the call's own, JUST WHAT THE ITERATOR GAVE, IN THAT ORDER; nil JUST WHERE IT GAVE NOTHING (as Go: 'slices.Collect' of nothing is nil); nothing that lay before the call has turned. -/
theorem appendSeq_in (F : Fence) (n : Nat) (h11 : F.fn 126) (hro : F.round = none) (hn : 2 ≤ n) (g : Nat) (lb : Array Value) (hFg : F.fn g) (eg : ∀ args w, (callFunc g args).run Tryz.prog w = .ok (.enter g args) w)
    (S : List Pl → Prop) (N : Nat) (hN : N ≤ maxLen) (hNb : N * 24 ≤ 140737488355328) (w : World) (hseq : SeqGives F (n - 1) Tryz.prog g lb kv S N w) :
    CallsIn F n Tryz.prog 126 #[.slice none 0 0, .func (.func g) #[] lb] w fun e w' => ∃ (v : Value) (ss : List Pl), e = .returned v ∧ S ss ∧ w'.ownsRow w.heap.size (51) 3 v ss.length (ss.flatMap kvs) ∧ (v = .slice none 0 0 ↔ ss = []) ∧ Below w.heap.size w w' := by
  have h1 : 1 ≤ n := by omega
  have hne : (113 : TypeId) ≠ 51 := by decide
  refine callsIn_of_wp_marks Tryz.func126 rfl h11 ?_ hro
  simp only [Tryz.ntmps126, List.size_toArray, List.length_cons, List.length_nil, Nat.reduceAdd, Nat.reduceSub, Array.replicate_succ, Array.replicate_zero, List.push_toArray, List.append_toArray, List.nil_append, List.cons_append]
  gi_wp2
  refine wpIn_rangeFunc ?_
  intro fn hfn
  rw [hro]
  obtain ⟨W0, hW0⟩ : ∃ W0, w.alloc (.cells #[.slice none 0 0] (113)) = W0 := ⟨_, rfl⟩
  have hs0 : W0.heap.size = w.heap.size + 1 := by rw [← hW0]; simp
  have hv0 : W0.heap[w.heap.size]? = some (.cells #[.slice none 0 0] (113) (0, 0)) := by rw [← hW0]; exact World.alloc_heap_new w _
  have hb0 : Below w.heap.size w W0 := by rw [← hW0]; exact (Below.refl _ w).alloc (Nat.le_refl _) _
  rw [hW0]
  obtain ⟨W1, hW1⟩ : ∃ W1, (W0.alloc (.deferred (some []))).alloc (.loop (apRec fn (.func (.func g) #[] lb) w.heap.size W0.heap.size .ready none)) = W1 := ⟨_, rfl⟩
  have hold : ∀ k, k < W0.heap.size → W1.heap[k]? = W0.heap[k]? := fun k hk => by
    rw [← hW1]; exact (Below.heap_alloc _ _ k (by simp; omega)).trans (Below.heap_alloc _ _ k hk)
  have hb1 : Below w.heap.size w W1 := by rw [← hW1]; exact (hb0.alloc hb0.size _).alloc (by have := hb0.size; simp; omega) _
  have hs1 : W1.heap.size = W0.heap.size + 2 := by rw [← hW1]; simp
  have hM : ApAt w fn (.func (.func g) #[] lb) w.heap.size (W0.heap.size + 1) W0.heap.size [] W1 :=
    ⟨⟨_, (hold w.heap.size (by omega)).trans hv0, ⟨rfl, .inl ⟨rfl, rfl⟩⟩, by simp⟩,
     by rw [← hW1]; have := World.alloc_heap_new (W0.alloc (.deferred (some []))) (.loop (apRec fn (.func (.func g) #[] lb) w.heap.size W0.heap.size .ready none)); rwa [World.size_alloc] at this,
     by rw [← hW1]; exact (Below.heap_alloc _ _ _ (by simp)).trans (World.alloc_heap_new W0 _), hb1⟩
  refine ⟨W0.heap.size + 1, [{ target := .collected W0.heap.size, args := #[] }], W1, { target := .fn (.func g) lb, args := #[.func (.yield (W0.heap.size + 1)) #[] #[]] }, W1, g,
    #[.func (.yield (W0.heap.size + 1)) #[] #[]] ++ lb, W1, ?_, ?_, ?_, ?_, fun _ => h1, ?_⟩
  · rw [← hW1]; exact run_enterLoop_outer _ _ _ _ _
  · simp [resolve, go_sem]
  · intro f' hf'; simp [Target.leads] at hf'; subst hf'; exact hFg
  · simp [invoke, go_sem, eg]
  · refine (hseq (W0.heap.size + 1) (ApAt w fn (.func (.func g) #[] lb) w.heap.size (W0.heap.size + 1) W0.heap.size) W1 hb1 (ap_abides _ _ _ _ _ _ _ hb1.size)
      (fun pre x W hJ hl => apYield F (n - 1 - 1) w fn hfn _ w.heap.size (W0.heap.size + 1) W0.heap.size (by omega) (by omega) (by omega) (Nat.le_refl _) (by omega) N hN hNb pre x W hJ hl) hM).mono ?_
    rintro e W2 ⟨⟨v0, rfl⟩, ss, hS, h2⟩
    obtain ⟨v, hv, hrow, hnil⟩ := h2.box
    have hend := run_endLoop (P := Tryz.prog) h2.L (by simp [apRec])
    obtain ⟨W3, hW3⟩ : ∃ W3, W2.putObj (W0.heap.size + 1) (.loop { apRec fn (.func (.func g) #[] lb) w.heap.size W0.heap.size .ready none with state := .exhausted }) = W3 := ⟨_, rfl⟩
    rw [hW3] at hend
    have hg3 : W2.grownBy W3 (some (W0.heap.size + 1)) := by rw [← hW3]; exact grownBy_putObj_a _ _ _
    have hv3 : W3.heap[w.heap.size]? = some (.cells #[v] (113) (0, 0)) := by rw [← hW3]; exact (World.putObj_heap_other (by omega)).trans hv
    have hK3 : W3.heap[W0.heap.size]? = some (.deferred (some [])) := by rw [← hW3]; exact (World.putObj_heap_other (by omega)).trans h2.K
    have hrow3 := hrow.kept hg3 (ownsRow_ne_a hrow h2.L (fun cur e => by first | cases e | exact hne (Obj.cells.inj e).2.1))
    have hb3 : Below w.heap.size w W3 := h2.below.grown hg3 h2.below.size (fun k e => by cases e; omega)
    obtain ⟨hc3, hf3⟩ := cell_of_box_a hv3
    clear hW3
    refine ⟨none, W3, hend, ?_⟩
    gi_wp2
    rw [← hs0]
    refine ⟨by simp, .inl ⟨_, _, rfl, run_takeDeferred hK3, ?_⟩⟩
    exact ⟨_, results_tmp rfl _ _ _, v, ss, rfl, hS, hrow3.kept (grownBy_putObj_a _ _ _) (ownsRow_ne_a hrow3 hK3 (fun cur e => by first | cases e | exact hne (Obj.cells.inj e).2.1)), hnil, hb3.grown (grownBy_putObj_a _ _ _) hb3.size (fun k e => by cases e; omega)⟩


set_option maxHeartbeats 1000000 in
/-- **slices.Collect(seq), AGAINST WHATEVER ITERATOR VALUE.** -/
theorem collect_in (F : Fence) (n : Nat) (h8 : F.fn 117) (h11 : F.fn 126) (hro : F.round = none) (hn : 3 ≤ n) (g : Nat) (lb : Array Value) (hFg : F.fn g) (eg : ∀ args w, (callFunc g args).run Tryz.prog w = .ok (.enter g args) w)
    (S : List Pl → Prop) (N : Nat) (hN : N ≤ maxLen) (hNb : N * 24 ≤ 140737488355328) (w : World) (hseq : SeqGives F (n - 1 - 1) Tryz.prog g lb kv S N w) :
    CallsIn F n Tryz.prog 117 #[.func (.func g) #[] lb] w fun e w' => ∃ (v : Value) (ss : List Pl), e = .returned v ∧ S ss ∧ w'.ownsRow w.heap.size (51) 3 v ss.length (ss.flatMap kvs) ∧ (v = .slice none 0 0 ↔ ss = []) ∧ Below w.heap.size w w' := by
  have h1 : 1 ≤ n := by omega
  refine callsIn_of_wp Tryz.func117 rfl h8 ?_ hro
  simp only [Tryz.ntmps117, List.size_toArray, List.length_cons, List.length_nil, Nat.reduceAdd, Nat.reduceSub, Array.replicate_succ, Array.replicate_zero, List.push_toArray, List.append_toArray, List.nil_append, List.cons_append]
  gi_wp2_with fail
  refine (appendSeq_in F (n - 1) h11 hro (by omega) g lb hFg eg S N hN hNb _ hseq).mono ?_
  rintro e w' ⟨v, ss, rfl, hS, hrow, hnil, hb⟩
  gi_wp2
  go_ret
  exact ⟨v, ss, rfl, hS, hrow, hnil, hb⟩



end Go.Proofs.YtpaiejeipghehaaGreat
end
