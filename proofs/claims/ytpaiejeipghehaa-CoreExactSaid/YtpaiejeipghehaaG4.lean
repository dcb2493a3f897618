/- grow of a queue that is known: the same entries, twice the room. -/
import Derived.Test.YtpaiejeipghehaaG3
import Derived.Test.YtpaiejeipghehaaG2
import Derived.Test.YtpaiejeipghehaaG1
import Derived.Laws.CopyOwn
import Derived.ArgAppend
import Derived.Tactics
section
/- The document's Places, run from point to point. No condition. -/
namespace Go.Proofs.Ytpaiejeipghehaa
set_option linter.unusedVariables false
set_option linter.unusedSimpArgs false
set_option maxRecDepth 100000
set_option maxHeartbeats 8000000

theorem up_done {a : UB} {B0 B1 B2 : Nat → Int} {m : Nat} {i : Int} (hP : UPP a B0 B1 B2 m i) (hi : i = (a.len : Int)) : upT a [.tsl 1 m] ⟨[(2, .tsl 1 m)], upHp a B0 B1 B2 m, 3⟩ := by
  obtain ⟨i0, i1, hm, hok, L, hl, hr, hs, hc⟩ := hP
  subst hi
  exact ⟨B0, B1, B2, m, rfl, rfl, L, hl, hr, hs, by simpa using hc⟩
theorem up_exit (a : UB) (B0 B1 B2 : Nat → Int) (m : Nat) (i : Int) (hP : UPP a B0 B1 B2 m i) (hi : i = (a.len : Int))  : Tri repAt Try.prog upZ 1 (.out (.out 0)) upL.2 (upS a B0 B1 B2 m i) (upQ a) := by
  exact Tri.pathP mixed libP_ok (n := 10000) (k := 10000) (j := 0) (cfg := upCfg) (o := []) (g' := .out .ret) (fs' := []) (s' := ⟨[(2, SV.tsl 1 m)], [(0, Chunk.row [SV.tsl 2 a.len] 40), (1, Chunk.rep (Rep.vec [Col.int IntKind.i64 B0, Col.int IntKind.i64 B1, Col.int IntKind.i64 B2] m 113)), (2, Chunk.rep (Rep.vec [Col.int IntKind.i64 a.A0, Col.int IntKind.i64 a.A1, Col.int IntKind.i64 a.A2, Col.int IntKind.u64 a.W] a.len 211))], 3⟩) (asks := []) rfl (by kernel_rfl) trivial (Tri.fin (Ends.of (t := 2) (v := .tsl 1 m) (by kernel_rfl) (.inl rfl) rfl (up_done hP hi)))
theorem up_exit2 (a : UB) (B0 B1 B2 : Nat → Int) (m : Nat) (i : Int) (k : Int) (hP : UPQ a B0 B1 B2 m i k) {r : Nat} (hr : r = a.len - i.toNat) (hd : k ≤ 0 ∨ decide (ltPl (B0 k.toNat, B1 k.toNat, B2 k.toNat) (B0 (IntKind.i64.wrap (k - 1)).toNat, B1 (IntKind.i64.wrap (k - 1)).toNat, B2 (IntKind.i64.wrap (k - 1)).toNat)) = false) : Tri repAt Try.prog upZ 1 (.out (.out 2)) upM.2 (upS2 a B0 B1 B2 m i k) (upR a r) := by
  exact Tri.pathP mixed libP_ok (n := 10000) (k := 10000) (j := 0) (cfg := upCfg) (o := []) (g' := .out .nor) (fs' := []) (s' := ⟨[(3, SV.tsl 1 m), (0, SV.ptr 0 0), (4, SV.v (Value.int IntKind.i64 (IntKind.i64.wrap (i + 1))))], [(0, Chunk.row [SV.tsl 2 a.len] 40), (1, Chunk.rep (Rep.vec [Col.int IntKind.i64 B0, Col.int IntKind.i64 B1, Col.int IntKind.i64 B2] m 113)), (2, Chunk.rep (Rep.vec [Col.int IntKind.i64 a.A0, Col.int IntKind.i64 a.A1, Col.int IntKind.i64 a.A2, Col.int IntKind.u64 a.W] a.len 211))], 3⟩) (asks := []) rfl (by kernel_rfl) trivial (up_next a B0 B1 B2 m (IntKind.i64.wrap (i + 1)) (upq_end hP hd) (upq_less hP hr))
theorem up_round2 (a : UB) (B0 B1 B2 : Nat → Int) (m : Nat) (i : Int) (k : Int) (hP : UPQ a B0 B1 B2 m i k) {n r : Nat} (hn : n = a.len - i.toNat) (hr : r = k.toNat) : Tri repAt Try.prog upZ 1 (.go upM.1) [] (upS2 a B0 B1 B2 m i k) (upR2 a i n r) := by
  rcases Bool.eq_false_or_eq_true (decide (k > 0)) with h0 | h0
  · have h1 : (decide (0 ≤ k ∧ k < (↑m : Int) ∧ m ≤ m)) = true := by (obtain ⟨i0, i1, hm, ⟨hl, hone⟩, k0, k1, L1, x, L2, hL⟩ := hP; first | rfl | (simp only [decide_eq_true_eq, decide_eq_false_iff_not] at *; omega) | (have hk := of_decide_eq_true h0; rw [wrapI (x := k - 1) (by omega) (by omega)]; simp only [decide_eq_true_eq]; omega) | (simp; done))
    have h2 : (decide (0 ≤ IntKind.i64.wrap (k - 1) ∧ IntKind.i64.wrap (k - 1) < (↑m : Int) ∧ m ≤ m)) = true := by (obtain ⟨i0, i1, hm, ⟨hl, hone⟩, k0, k1, L1, x, L2, hL⟩ := hP; first | rfl | (simp only [decide_eq_true_eq, decide_eq_false_iff_not] at *; omega) | (have hk := of_decide_eq_true h0; rw [wrapI (x := k - 1) (by omega) (by omega)]; simp only [decide_eq_true_eq]; omega) | (simp; done))
    rcases Bool.eq_false_or_eq_true (decide (ltPl (B0 k.toNat, B1 k.toNat, B2 k.toNat) (B0 (IntKind.i64.wrap (k - 1)).toNat, B1 (IntKind.i64.wrap (k - 1)).toNat, B2 (IntKind.i64.wrap (k - 1)).toNat))) with h3 | h3
    · exact Tri.pathP mixed libP_ok (n := 10000) (k := 10000) (j := 0) (cfg := upCfg2) (o := List.replicate 18 (some true)) (g' := .out .nor) (fs' := []) (s' := upS2 (a) (updI (updI B0 k.toNat (B0 (IntKind.i64.wrap (k - 1)).toNat)) (IntKind.i64.wrap (k - 1)).toNat (B0 k.toNat)) (updI (updI B1 k.toNat (B1 (IntKind.i64.wrap (k - 1)).toNat)) (IntKind.i64.wrap (k - 1)).toNat (B1 k.toNat)) (updI (updI B2 k.toNat (B2 (IntKind.i64.wrap (k - 1)).toNat)) (IntKind.i64.wrap (k - 1)).toNat (B2 k.toNat)) (m) (i) (IntKind.i64.wrap (k - 1))) (asks := [((decide (0 ≤ IntKind.i64.wrap (k - 1) ∧ IntKind.i64.wrap (k - 1) < (↑m : Int) ∧ m ≤ m)), true), ((decide (0 ≤ k ∧ k < (↑m : Int) ∧ m ≤ m)), true), ((decide (0 ≤ IntKind.i64.wrap (k - 1) ∧ IntKind.i64.wrap (k - 1) < (↑m : Int) ∧ m ≤ m)), true), ((decide (0 ≤ k ∧ k < (↑m : Int) ∧ m ≤ m)), true), ((decide (ltPl (B0 k.toNat, B1 k.toNat, B2 k.toNat) (B0 (IntKind.i64.wrap (k - 1)).toNat, B1 (IntKind.i64.wrap (k - 1)).toNat, B2 (IntKind.i64.wrap (k - 1)).toNat))), true), ((decide (k > 0)), true), ((decide (k > 0)), true), ((decide (k > 0)), true), ((decide (0 ≤ IntKind.i64.wrap (k - 1) ∧ IntKind.i64.wrap (k - 1) < (↑m : Int) ∧ m ≤ m)), true), ((decide (k > 0)), true), ((decide (k > 0)), true), ((decide (k > 0)), true), ((decide (k > 0)), true), ((decide (k > 0)), true), ((decide (0 ≤ k ∧ k < (↑m : Int) ∧ m ≤ m)), true), ((decide (k > 0)), true), ((decide (k > 0)), true), ((decide (k > 0)), true)]) rfl (by kernel_rfl) ⟨h2, h1, h2, h1, h3, h0, h0, h0, h2, h0, h0, h0, h0, h0, h1, h0, h0, h0, trivial⟩ (up_next2 (a) (updI (updI B0 k.toNat (B0 (IntKind.i64.wrap (k - 1)).toNat)) (IntKind.i64.wrap (k - 1)).toNat (B0 k.toNat)) (updI (updI B1 k.toNat (B1 (IntKind.i64.wrap (k - 1)).toNat)) (IntKind.i64.wrap (k - 1)).toNat (B1 k.toNat)) (updI (updI B2 k.toNat (B2 (IntKind.i64.wrap (k - 1)).toNat)) (IntKind.i64.wrap (k - 1)).toNat (B2 k.toNat)) (m) (i) (IntKind.i64.wrap (k - 1)) (upq_step hP h0 h3) (upk_less hP h0 hr))
    · exact Tri.pathP mixed libP_ok (n := 10000) (k := 10000) (j := 0) (cfg := upCfg2) (o := List.replicate 13 (some true) ++ [some false]) (g' := .out (.out 2)) (fs' := []) (s' := upS2 (a) (B0) (B1) (B2) (m) (i) (k)) (asks := [((decide (ltPl (B0 k.toNat, B1 k.toNat, B2 k.toNat) (B0 (IntKind.i64.wrap (k - 1)).toNat, B1 (IntKind.i64.wrap (k - 1)).toNat, B2 (IntKind.i64.wrap (k - 1)).toNat))), false), ((decide (k > 0)), true), ((decide (k > 0)), true), ((decide (k > 0)), true), ((decide (0 ≤ IntKind.i64.wrap (k - 1) ∧ IntKind.i64.wrap (k - 1) < (↑m : Int) ∧ m ≤ m)), true), ((decide (k > 0)), true), ((decide (k > 0)), true), ((decide (k > 0)), true), ((decide (k > 0)), true), ((decide (k > 0)), true), ((decide (0 ≤ k ∧ k < (↑m : Int) ∧ m ≤ m)), true), ((decide (k > 0)), true), ((decide (k > 0)), true), ((decide (k > 0)), true)]) rfl (by kernel_rfl) ⟨h3, h0, h0, h0, h2, h0, h0, h0, h0, h0, h1, h0, h0, h0, trivial⟩ (Tri.fin (up_exit2 a B0 B1 B2 m i k hP hn (by first | exact .inr h3 | exact .inl (by simpa using h0))))
  · exact Tri.pathP mixed libP_ok (n := 10000) (k := 10000) (j := 0) (cfg := upCfg2) (o := List.replicate 11 (some false)) (g' := .out (.out 2)) (fs' := []) (s' := upS2 (a) (B0) (B1) (B2) (m) (i) (k)) (asks := [((decide (k > 0)), false), ((decide (k > 0)), false), ((decide (k > 0)), false), ((decide (k > 0)), false), ((decide (k > 0)), false), ((decide (k > 0)), false), ((decide (k > 0)), false), ((decide (k > 0)), false), ((decide (k > 0)), false), ((decide (k > 0)), false), ((decide (k > 0)), false)]) rfl (by kernel_rfl) ⟨h0, h0, h0, h0, h0, h0, h0, h0, h0, h0, h0, trivial⟩ (Tri.fin (up_exit2 a B0 B1 B2 m i k hP hn (by first | exact .inr h3 | exact .inl (by simpa using h0))))
theorem up_round (a : UB) (B0 B1 B2 : Nat → Int) (m : Nat) (i : Int) (hP : UPP a B0 B1 B2 m i) {r : Nat} (hr : r = a.len - i.toNat) : Tri repAt Try.prog upZ 1 (.go upL.1) [] (upS a B0 B1 B2 m i) (upR a r) := by
  rcases Bool.eq_false_or_eq_true (decide (i < (↑a.len : Int))) with h0 | h0
  · have h1 : (decide (0 ≤ i ∧ i < (↑a.len : Int) ∧ a.len ≤ a.len)) = true := by (obtain ⟨i0, i1, hm, ⟨hl, hone⟩, L, hL⟩ := hP; first | rfl | (simp only [decide_eq_true_eq, decide_eq_false_iff_not] at *; omega) | (simp; done) | (show decide (m ≤ m ∧ _ * _ ≤ 140737488351232) = true; refine Eq.trans (b := decide (m ≤ m ∧ (m + 1) * 24 ≤ 140737488351232)) (by kernel_rfl) ?_; simp only [decide_eq_true_eq]; omega))
    rcases Bool.eq_false_or_eq_true (a.W i.toNat == 0) with h2 | h2
    · exact Tri.pathP mixed libP_ok (n := 10000) (k := 10000) (j := 0) (cfg := upCfg2) (o := List.replicate 3 (some true)) (g' := .out .nor) (fs' := []) (s' := ⟨[(3, SV.tsl 1 m), (0, SV.ptr 0 0), (4, SV.v (Value.int IntKind.i64 (IntKind.i64.wrap (i + 1))))], [(0, Chunk.row [SV.tsl 2 a.len] 40), (1, Chunk.rep (Rep.vec [Col.int IntKind.i64 B0, Col.int IntKind.i64 B1, Col.int IntKind.i64 B2] m 113)), (2, Chunk.rep (Rep.vec [Col.int IntKind.i64 a.A0, Col.int IntKind.i64 a.A1, Col.int IntKind.i64 a.A2, Col.int IntKind.u64 a.W] a.len 211))], 3⟩) (asks := [((a.W i.toNat == 0), true), ((decide (0 ≤ i ∧ i < (↑a.len : Int) ∧ a.len ≤ a.len)), true), ((decide (i < (↑a.len : Int))), true)]) rfl (by kernel_rfl) ⟨h2, h1, h0, trivial⟩ (up_next a B0 B1 B2 m (IntKind.i64.wrap (i + 1)) (upp_skip hP h0 h2) (upi_less hP h0 hr))
    · have h3 : (decide (m ≤ m ∧ (m + 1) * 24 ≤ 140737488351232)) = true := by (obtain ⟨i0, i1, hm, ⟨hl, hone⟩, L, hL⟩ := hP; first | rfl | (simp only [decide_eq_true_eq, decide_eq_false_iff_not] at *; omega) | (simp; done) | (show decide (m ≤ m ∧ _ * _ ≤ 140737488351232) = true; refine Eq.trans (b := decide (m ≤ m ∧ (m + 1) * 24 ≤ 140737488351232)) (by kernel_rfl) ?_; simp only [decide_eq_true_eq]; omega))
      exact Tri.pathP mixed libP_ok (n := 10000) (k := 10000) (j := 0) (cfg := upCfg2) (o := [some true, some true] ++ [some false] ++ [some true, some true]) (g' := .go (.loop upM.1)) (fs' := upM.2) (s' := upS2 (a) (joinI B0 m fun x => a.A0 i.toNat) (joinI B1 m fun x => a.A1 i.toNat) (joinI B2 m fun x => a.A2 i.toNat) (m + 1) (i) (IntKind.i64.wrap ((↑(m + 1) : Int) - 1))) (asks := [((decide (m ≤ m ∧ (m + 1) * 24 ≤ 140737488351232)), true), ((decide (0 ≤ i ∧ i < (↑a.len : Int) ∧ a.len ≤ a.len)), true), ((a.W i.toNat == 0), false), ((decide (0 ≤ i ∧ i < (↑a.len : Int) ∧ a.len ≤ a.len)), true), ((decide (i < (↑a.len : Int))), true)]) rfl (by kernel_rfl) ⟨h3, h1, h2, h1, h0, trivial⟩ (Tri.loop (I := upJ a i) (fun k s ⟨B0, B1, B2, m, k', hs, hP, hk⟩ => by subst hs; exact up_round2 a B0 B1 B2 m i k' hP hr hk) ⟨_, _, _, _, _, rfl, upp_push hP h0 h2, rfl⟩)
  · exact Tri.pathP mixed libP_ok (n := 10000) (k := 10000) (j := 0) (cfg := upCfg2) (o := [some false]) (g' := .out (.out 0)) (fs' := []) (s' := ⟨[(3, SV.tsl 1 m), (0, SV.ptr 0 0), (4, SV.v (Value.int IntKind.i64 i))], [(0, Chunk.row [SV.tsl 2 a.len] 40), (1, Chunk.rep (Rep.vec [Col.int IntKind.i64 B0, Col.int IntKind.i64 B1, Col.int IntKind.i64 B2] m 113)), (2, Chunk.rep (Rep.vec [Col.int IntKind.i64 a.A0, Col.int IntKind.i64 a.A1, Col.int IntKind.i64 a.A2, Col.int IntKind.u64 a.W] a.len 211))], 3⟩) (asks := [((decide (i < (↑a.len : Int))), false)]) rfl (by kernel_rfl) ⟨h0, trivial⟩ (Tri.fin (up_exit a B0 B1 B2 m i hP (by obtain ⟨i0, i1, _⟩ := hP; have := of_decide_eq_false h0; omega)))
theorem up_start (a : UB) (ha : a.ok)  : Tri repAt Try.prog upZ 1 (.go (bodyOf Try.prog upF)) [] (⟨argsE [.ptr 0 0], cellsHp a.A0 a.A1 a.A2 a.W a.len, 2⟩) (upQ a) := by
  exact Tri.pathP mixed libP_ok (n := 10000) (k := 10000) (j := 0) (cfg := upCfg0) (o := []) (g' := .go (.loop upL.1)) (fs' := upL.2) (s' := upS (a) (fun i => [].getD i 0) (fun i => [].getD i 0) (fun i => [].getD i 0) (0) (Int.ofNat 0)) (asks := []) rfl (by kernel_rfl) trivial (Tri.loop (I := upI a) (fun k s ⟨B0, B1, B2, m, i, hs, hP, hk⟩ => by subst hs; exact up_round a B0 B1 B2 m i hP hk) ⟨_, _, _, _, _, rfl, ⟨by decide, by simp, by decide, ha, [], rfl, (fun j hj => absurd hj (Nat.not_lt_zero _)), List.Pairwise.nil, fun p => ⟨(fun h => by cases h), fun ⟨j, hj, _⟩ => absurd hj (Nat.not_lt_zero _)⟩⟩, rfl⟩)
end Go.Proofs.Ytpaiejeipghehaa
end
section
/- The document's Places and Copy as known calls. -/
namespace Go.Proofs.Ytpaiejeipghehaa
open Go.RowKit
section
variable {R : Type} {A : RepAt R} {P : Program} {B : Nat} {F : Nat → Prop} {st : St R} {ρ : Names} {own : Nat → List Nat} {w w' : World}
/-- Another content, and a new piece. -/
theorem Tr.setNew {n : Nat} {c c2 d : Chunk R} {e e2 : Spot} {own0 own2 : List Nat} (s : Sit A P B F st ((st.set n c).new c2) ρ own w) (hd : hget n st.hp = some d) (he : ρ n = some e) (hm : ModP (fun b => b ∈ own n) w w')
    (hc : CAt A P (ρ.put st.nx e2) B e own0 c w') (hc2 : CAt A P (ρ.put st.nx e2) B e2 own2 c2 w') (ho : ∀ b ∈ own0, b ∈ own n ∨ (w.heap.size ≤ b ∧ b < w'.heap.size)) (ho2 : ∀ b ∈ own2, b ∈ own n ∨ (w.heap.size ≤ b ∧ b < w'.heap.size)) (hdis : ∀ b ∈ own2, b ∉ own0) :
    Tr A P B F st ((st.set n c).new c2) ρ own w (ρ.put st.nx e2) (ownPut (ownPut own n own0) st.nx own2) w' := by
  have hnlt : n < st.nx := s.wf.lt hd
  have hnn : ∀ m, newN st ((st.set n c).new c2) m ↔ m = st.nx := fun m => by unfold newN St.new St.set; simp only; omega
  have hwr : n ∈ ((st.set n c).new c2).wr := mem_ins.2 (.inl rfl)
  have hF : F n := s.log n (mem_ins.2 (.inl rfl))
  have hle : ρ.le (ρ.put st.nx e2) := Names.put_le (s.fresh st.nx ((hnn _).2 rfl))
  have hlow := fun b hb => s.li.low n d hF hd b hb
  have o1 : ownPut (ownPut own n own0) st.nx own2 n = own0 := by rw [ownPut_other (Nat.ne_of_lt hnlt), ownPut_same]
  have o2 : ownPut (ownPut own n own0) st.nx own2 st.nx = own2 := ownPut_same
  have o3 : ∀ m, m ≠ n → m ≠ st.nx → ownPut (ownPut own n own0) st.nx own2 m = own m := fun m h1 h2 => by rw [ownPut_other h2, ownPut_other h1]
  have hget' : ∀ m x, hget m ((st.set n c).new c2).hp = some x → (m = st.nx ∧ x = c2) ∨ (m = n ∧ x = c) ∨ (m ≠ n ∧ m ≠ st.nx ∧ hget m st.hp = some x) := fun m x hx => by
    simp only [St.new, St.set] at hx
    rw [hget_cons] at hx
    split at hx
    · next h => injection hx with hx; exact .inl ⟨h, hx.symm⟩
    · next h =>
      rw [hget_set] at hx
      split at hx
      · next h2 => rw [hd] at hx; injection hx with hx; exact .inr (.inl ⟨h2, hx.symm⟩)
      · next h2 => exact .inr (.inr ⟨h2, h, hx⟩)
  refine ⟨hle, fun m hmm => Names.put_other fun h => hmm ((hnn m).2 h), fun m hmm hmw => o3 m (fun h => hmw (h ▸ hwr)) fun h => hmm ((hnn m).2 h), fun m hmm b hb => ?_, ?_, hm.mono (fun b _ h => ⟨n, hwr, fun hx => absurd ((hnn n).1 hx) (Nat.ne_of_lt hnlt), h⟩)⟩
  · by_cases h2 : m = st.nx
    · subst h2
      rw [o2] at hb
      rcases ho2 b hb with h | h
      · exact .inr ⟨n, hwr, fun hx => absurd ((hnn n).1 hx) (Nat.ne_of_lt hnlt), h⟩
      · exact .inl h.1
    · by_cases h1 : m = n
      · subst h1
        rw [o1] at hb
        rcases ho b hb with h | h
        · exact .inr ⟨m, hwr, fun hx => h2 ((hnn m).1 hx), h⟩
        · exact .inl h.1
      · rw [o3 m h1 h2] at hb
        exact .inr ⟨m, hmm.resolve_left (fun hx => h2 ((hnn m).1 hx)), fun hx => h2 ((hnn m).1 hx), hb⟩
  · refine s.li.step (X := fun m => m = n ∨ m = st.nx) hm hle (fun b hb => ⟨n, d, .inl rfl, hF, hd, hb⟩) (fun m x hx hX hx' => ?_) (fun m x _ hX hx => ?_) (fun m x _ hX hx b hb => ?_) (fun m k x y _ _ h1 h2 hne hx hy b hb hb' => ?_)
    · rw [not_or] at hX
      rcases hget' m x hx' with ⟨h, _⟩ | ⟨h, _⟩ | ⟨_, _, h⟩
      · exact absurd h hX.2
      · exact absurd h hX.1
      · exact ⟨hx.resolve_right (fun hq => hX.2 ((hnn m).1 hq)), h, o3 m hX.1 hX.2⟩
    · rcases hget' m x hx with ⟨rfl, rfl⟩ | ⟨rfl, rfl⟩ | ⟨h1, h2, _⟩
      · exact ⟨e2, Names.put_same, by rw [o2]; exact hc2⟩
      · exact ⟨e, by rw [Names.put_other (Nat.ne_of_lt hnlt)]; exact he, by rw [o1]; exact hc⟩
      · exact absurd hX (by simp [h1, h2])
    · rcases hX with rfl | rfl
      · rw [o1] at hb
        rcases ho b hb with h | h
        · exact ⟨Nat.lt_of_lt_of_le (hlow b h).2 hm.size, (hlow b h).1, .inr ⟨m, d, .inl rfl, hF, hd, h⟩⟩
        · exact ⟨h.2, Nat.le_trans s.base h.1, .inl h.1⟩
      · rw [o2] at hb
        rcases ho2 b hb with h | h
        · exact ⟨Nat.lt_of_lt_of_le (hlow b h).2 hm.size, (hlow b h).1, .inr ⟨n, d, .inl rfl, hF, hd, h⟩⟩
        · exact ⟨h.2, Nat.le_trans s.base h.1, .inl h.1⟩
    · rcases h1 with rfl | rfl <;> rcases h2 with rfl | rfl
      · exact hne rfl
      · rw [o1] at hb; rw [o2] at hb'; exact hdis b hb' hb
      · rw [o2] at hb; rw [o1] at hb'; exact hdis b hb hb'
      · exact hne rfl
end
theorem came_places {a : UB} {f : Pl → Int} {L : List Pl} (h : URel a.A0 a.A1 a.A2 a.W a.len f) (hs : L.Pairwise ltPl) (hc : Came a a.len L) : IsPlaces f L := by
  refine ⟨hs, fun p => ?_⟩
  rw [hc p]
  constructor
  · rintro ⟨j, h1, rfl, h3⟩
    exact ⟨h.wf j h1, by rw [show f (a.key j) = a.W j from h.val j h1]; exact h3⟩
  · rintro ⟨h1, h2⟩
    by_cases hx : ∃ j, j < a.len ∧ a.key j = p
    · obtain ⟨j, h3, rfl⟩ := hx
      exact ⟨j, h3, rfl, by rw [← show f (a.key j) = a.W j from h.val j h3]; exact h2⟩
    · exact absurd (h.off p fun k hk e => hx ⟨k, hk, e⟩) h2
theorem vec_rows {B0 B1 B2 : Nat → Int} {L : List Pl} {m : Nat} {sp : Spot} {own : List Nat} {w : World} (h : VecAt (colsF [.int .i64 B0, .int .i64 B1, .int .i64 B2]) m 113 3 sp own w) (hm : L.length = m) (hr : RowsOf B0 B1 B2 L) : VecAt (plRow L) L.length 113 3 sp own w := by
  subst hm
  have e : ∀ i, i < L.length → colsF [.int .i64 B0, .int .i64 B1, .int .i64 B2] i = plRow L i := fun i hi => by
    have := hr i hi
    simp only [Prod.ext_iff] at this
    simp only [colsF, Col.at, plRow, kvs, this.1, this.2.1, this.2.2]
  obtain ⟨h1, h2, h3, h4, h5⟩ := h
  refine ⟨h1, h2, h3, fun i hi => by rw [← e i hi]; exact h4 i hi, ?_⟩
  cases ha : sp.ad with
  | none => rw [ha] at h5; exact h5
  | some g =>
    rw [ha] at h5
    obtain ⟨g1, g2, cs, g3, g4, g5⟩ := h5
    exact ⟨g1, g2, cs, g3, g4, fun i hi j hj => by rw [← e i hi]; exact g5 i hi j hj⟩
set_option maxRecDepth 100000 in
set_option maxHeartbeats 4000000 in
theorem ucells_places {f : Pl → Int} {n : Nat} {e : Spot} {own : List Nat} {w : World} (h : UAt f n e own w) (hn : n ≤ 1000000) :
    Calls Try.prog 104 #[.pointer (some ⟨e.b, e.off, none⟩)] w fun x w' => ∃ (sp : Spot) (own' own2 : List Nat), x = .returned (.slice sp.ad (placesOf f).length sp.cap) ∧ VecAt (plRow (placesOf f)) (placesOf f).length 113 3 sp own2 w' ∧
      UAt f n e own' w' ∧ ModP (fun b => b ∈ own) w w' ∧ (∀ b ∈ own', b ∈ own ∨ (w.heap.size ≤ b ∧ b < w'.heap.size)) ∧ (∀ b ∈ own2, b ∈ own ∨ (w.heap.size ≤ b ∧ b < w'.heap.size)) ∧ ∀ b ∈ own2, b ∉ own' := by
  obtain ⟨A0, A1, A2, W, len, sp, own1, rfl, h1, h2, h3, h4, h5⟩ := h
  have hst := cells_stand h1 h2 h3 (argsE [.ptr 0 0])
  refine (Tri.calls (pin := 1) Try.func104 (c := bodyOf Try.prog upF) (by kernel_rfl) (args := [.ptr 0 0]) (Nat.le_of_ble_eq_true (by kernel_rfl)) (up_start ⟨A0, A1, A2, W, len⟩ ⟨Nat.le_trans h5 hn, fun i j hi hj he => h4.one i j hi hj he⟩) hst (vals := [.pointer (some ⟨e.b, e.off, none⟩)]) rfl).mono ?_
  rintro x w' ⟨y, l, s', ρ', own', rfl, hy, ⟨B0, B1, B2, m, rfl, hhp, L, hL, hr, hs1, hc1⟩, hs, hw, hpp⟩
  have hip := came_places (a := ⟨A0, A1, A2, W, len⟩) h4 hs1 hc1
  rw [placesOf_eq hip]
  obtain ⟨e0, g0, o0, cs, vs, q1, q2, q3, q4, q5⟩ := hs.li.at_ 0 (.row [.tsl 2 len] tRC) trivial (by rw [hhp]; rfl)
  obtain ⟨sp1, g1, v1⟩ := hs.li.at_ 1 (.rep (.vec [.int .i64 B0, .int .i64 B1, .int .i64 B2] m 113)) trivial (by rw [hhp]; rfl)
  obtain ⟨sp2, g2, v2⟩ := hs.li.at_ 2 (.rep (.vec (oneCols A0 A1 A2 W) len tOne)) trivial (by rw [hhp]; rfl)
  have he : some e = some e0 := (hpp 0 (by decide)).symm.trans g0
  injection he with he
  subst he
  simp only [denL, den, g2, Option.map_some, Option.some.injEq] at q2
  subst q2
  rw [cells1, Nat.mul_one] at q4 q5
  simp only [oneOf, den, g1, Option.map_some, Option.some.injEq] at hy
  subst hy
  have hown : ∀ m d, hget m (cellsHp A0 A1 A2 W len) = some d → ∀ b ∈ cellsO e.b own1 m, b ∈ e.b :: own1 := fun m d hd b hb => by
    rcases cellsHp_get hd with ⟨rfl, _⟩ | ⟨rfl, _⟩
    · simp only [cellsO, List.mem_singleton] at hb; simp [hb]
    · exact List.mem_cons_of_mem _ hb
  have came : ∀ k c, hget k s'.hp = some c → ∀ b ∈ own' k, b ∈ e.b :: own1 ∨ (w.heap.size ≤ b ∧ b < w'.heap.size) := fun k c hk b hb => by
    rcases hw.pool k c hk b hb with h | ⟨m, d, hd, hm⟩
    · exact .inr ⟨h, (hs.li.low k c trivial hk b hb).2⟩
    · exact .inl (hown m d hd b hm)
  have k0 : hget 0 s'.hp = some (.row [.tsl 2 len] tRC) := by rw [hhp]; rfl
  have k1 : hget 1 s'.hp = some (.rep (.vec [.int .i64 B0, .int .i64 B1, .int .i64 B2] m 113)) := by rw [hhp]; rfl
  have k2 : hget 2 s'.hp = some (.rep (.vec (oneCols A0 A1 A2 W) len tOne)) := by rw [hhp]; rfl
  refine ⟨sp1, e.b :: own' 2, own' 1, by rw [hL], vec_rows v1 hL hr, ⟨A0, A1, A2, W, len, sp2, own' 2, rfl, fun hx => ?_, ⟨cs, q1, q3 0 (by simp), q4, q5⟩, v2, h4, h5⟩, hw.mod.mono fun b _ ⟨m, d, hd, hb⟩ => hown m d hd b hb, fun b hb => ?_, fun b hb => came 1 _ k1 b hb, fun b hb hb' => ?_⟩
  · exact hs.li.dis 0 2 _ _ trivial trivial (by decide) k0 k2 e.b (by rw [o0]; simp) hx
  · rcases List.mem_cons.1 hb with rfl | hb
    · exact .inl (by simp)
    · exact came 2 _ k2 b hb
  · rcases List.mem_cons.1 hb' with rfl | hb'
    · exact hs.li.dis 0 1 _ _ trivial trivial (by decide) k0 k1 e.b (by rw [o0]; simp) hb
    · exact hs.li.dis 1 2 _ _ trivial trivial (by decide) k1 k2 b hb hb'
noncomputable def placesUX : List SV → M Rep SV
  | [.ptr n 0] => (getC n).bind fun c => (M.opt 370 (asU c)).bind fun | (l, g, k) => (need 371 (Nat.ble k 1000000)).bind fun _ => (setC n (.rep (.ucells l g k))).bind fun _ =>
    (newC (.rep (.vec (colsPl (placesOf (getL l g))) (placesOf (getL l g)).length 113))).bind fun k2 => .ret (.tsl k2 (placesOf (getL l g)).length)
  | _ => .fail 372
theorem placesU_s {args : List SV} {st st' : St Rep} {s : SV} (h : placesUX args st = .ok s st') : CallS repAt Try.prog 104 args st st' s := by
  unfold placesUX at h
  split at h
  · next n =>
    obtain ⟨c, st1, h3, h4⟩ := bind_ok.1 h
    obtain ⟨hc, rfl⟩ := getC_ok.1 h3
    obtain ⟨⟨l, g, k⟩, _, h5, h6⟩ := bind_ok.1 h4
    obtain ⟨hu, rfl⟩ := opt_ok.1 h5
    obtain ⟨_, st2, h9, h10⟩ := bind_ok.1 h6
    obtain ⟨q2, hq⟩ := need_ok h9
    obtain ⟨_, st3, h11, h12⟩ := bind_ok.1 h10
    obtain ⟨_, rfl⟩ := setC_ok.1 h11
    obtain ⟨k2, st4, h13, h14⟩ := bind_ok.1 h12
    obtain ⟨rfl, rfl⟩ := newC_ok.1 h13
    obtain ⟨rfl, rfl⟩ := ret_ok.1 h14
    have q := Quiet.get.trans q2
    have hc2 : hget n st2.hp = some c := by rw [q.hp]; exact hc
    refine ⟨q.fn.trans ((Fn.set st2 n (.rep (.ucells l g k)) _ hc2).trans (Fn.new _ _)), fun B F ρ own w vals si hv => ?_⟩
    have s1 := si.of_quiet q
    obtain ⟨e, he, hat⟩ := s1.li.at_ n _ (s1.log n (mem_ins.2 (.inl rfl))) hc2
    simp only [denL, den, he, Option.map_some, Option.some.injEq, Nat.add_zero] at hv
    subst hv
    refine (ucells_places (asU_at hu hat) (Nat.le_of_ble_eq_true (hq si.ask))).mono ?_
    rintro x w' ⟨sp, own', own2, rfl, hvec, hu', hm, ho, ho2, hd⟩
    have ht := Tr.setNew (A := repAt) (P := Try.prog) (B := B) (F := F) (own := own) (e2 := sp) (c := .rep (.ucells l g k)) (c2 := .rep (.vec (colsPl (placesOf (getL l g))) (placesOf (getL l g)).length 113)) s1 hc2 he hm (show Rep.At B (.ucells l g k) e own' w' from hu') (show Rep.At B (.vec (colsPl (placesOf (getL l g))) (placesOf (getL l g)).length 113) sp own2 w' from hvec) ho ho2 hd
    exact ⟨_, _, _, rfl, by simp [den, Names.put_same, St.set], Tr.of_quiet q ht⟩
  · exact (fail_ok.1 h).elim
/-- The document's calls on Cells. -/
noncomputable def primUP (f : FuncId) (args : List SV) : Option (M Rep SV) := match Nat.beq f 104 with
  | true => some (placesUX args)
  | false => primU f args
theorem primUP_ok : ∀ f args m, primUP f args = some m → ∀ st s st', m st = .ok s st' → CallS repAt Try.prog f args st st' s := by
  intro f args m hm st s st' h
  unfold primUP at hm
  split at hm
  · next hb =>
    obtain rfl := Nat.eq_of_beq_eq_true hb
    cases hm
    exact placesU_s h
  · exact primU_ok f args m hm st s st' h
end Go.Proofs.Ytpaiejeipghehaa
end
section
/- What memory tells of a Cells: its places are finitely many. No condition. -/
namespace Go.Proofs.Ytpaiejeipghehaa
open Go.RowKit
theorem Tri.know {A : RepAt Rep} {P : Program} {sz pin : Nat} {g : Goer} {fs : List Fr} {s : Sym Rep} {Q : Ex → Sym Rep → Prop} {φ : Prop} (h : ∀ B ρ own w, Stand A P B s ρ own w → φ) (k : φ → Tri A P sz pin g fs s Q) : Tri A P sz pin g fs s Q :=
  fun B ρ own w a hs he hz K hk => k (h B ρ own w hs) B ρ own w a hs he hz K hk
theorem nodup_map {α β : Type} {f : α → β} : ∀ {l : List α}, l.Nodup → (∀ x ∈ l, ∀ y ∈ l, f x = f y → x = y) → (l.map f).Nodup
  | [], _, _ => List.nodup_nil
  | a :: l, h, hf => by
    rw [List.nodup_cons] at h
    rw [List.map_cons, List.nodup_cons]
    refine ⟨fun hm => ?_, nodup_map h.2 fun x hx y hy => hf x (List.mem_cons_of_mem _ hx) y (List.mem_cons_of_mem _ hy)⟩
    obtain ⟨y, hy, he⟩ := List.mem_map.1 hm
    have := hf y (List.mem_cons_of_mem _ hy) a (by simp) he
    subst this
    exact h.1 hy
theorem urel_fin {A0 A1 A2 W : Nat → Int} {len : Nat} {f : Pl → Int} (h : URel A0 A1 A2 W len f) : IsPlaces f (placesOf f) ∧ (placesOf f).length ≤ len := by
  have hnd : (((List.range len).filter fun k => decide (W k ≠ 0)).map fun k => ((A0 k, A1 k, A2 k) : Pl)).Nodup := nodup_map (List.Pairwise.filter _ List.nodup_range) fun x hx y hy e => by
    have hx := List.mem_range.1 (List.mem_filter.1 hx).1
    have hy := List.mem_range.1 (List.mem_filter.1 hy).1
    exact h.one x y hx hy e
  have hip := places_ex (f := f) hnd fun p => by
    rw [List.mem_map]
    constructor
    · rintro ⟨k, hk, rfl⟩
      obtain ⟨h1, h2⟩ := List.mem_filter.1 hk
      have h1 := List.mem_range.1 h1
      refine ⟨h.wf k h1, ?_⟩
      rw [h.val k h1]
      simpa using h2
    · rintro ⟨_, h2⟩
      by_cases hx : ∃ k, k < len ∧ ((A0 k, A1 k, A2 k) : Pl) = p
      · obtain ⟨k, h3, rfl⟩ := hx
        rw [h.val k h3] at h2
        exact ⟨k, List.mem_filter.2 ⟨List.mem_range.2 h3, by simpa using h2⟩, rfl⟩
      · exact absurd (h.off p fun k hk e => hx ⟨k, hk, e⟩) h2
  refine ⟨hip.1, ?_⟩
  rw [hip.2, List.length_map]
  exact Nat.le_trans (List.length_filter_le _ _) (by simp)
theorem uat_fin {f : Pl → Int} {n : Nat} {e : Spot} {own : List Nat} {w : World} (h : UAt f n e own w) : IsPlaces f (placesOf f) ∧ (placesOf f).length ≤ n := by
  obtain ⟨A0, A1, A2, W, len, sp, own1, _, _, _, _, h4, h5⟩ := h
  have := urel_fin h4
  exact ⟨this.1, Nat.le_trans this.2 h5⟩
/-- What is known where a Cells stands. -/
theorem stand_fin {P : Program} {B k n : Nat} {s : Sym Rep} {ρ : Names} {own : Nat → List Nat} {w : World} {l : List (Pl × Int)} {g : Pl → Int} (hs : Stand repAt P B s ρ own w) (hk : hget k s.hp = some (.rep (.ucells l g n))) : IsPlaces (getL l g) (placesOf (getL l g)) ∧ (placesOf (getL l g)).length ≤ n := by
  obtain ⟨e, _, hat⟩ := hs.li.at_ k _ trivial hk
  exact uat_fin hat
theorem getD_mem {L : List Pl} {k : Nat} (h : k < L.length) : L.getD k (0, 0, 0) ∈ L := by
  simp [List.getD, List.getElem?_eq_getElem h]
theorem place_wf {f : Pl → Int} {L : List Pl} (h : IsPlaces f L) {k : Nat} (hk : k < L.length) : plWfB ((L.getD k (0, 0, 0)).1, (L.getD k (0, 0, 0)).2.1, (L.getD k (0, 0, 0)).2.2) = true := plWfB_iff.2 ((h.2 _).1 (getD_mem hk)).1
end Go.Proofs.Ytpaiejeipghehaa
end
section
/- A number put into a field of a word, in numbers. No condition. -/
namespace Go.Proofs.Ytpaiejeipghehaa

/-- A field as the program puts it: what was there struck, the number laid in. -/
def putP (w x : Int) (sh k : Int) : Int := IntKind.u64.wrap ↑(BitVec.ofInt IntKind.u64.bits (IntKind.u64.wrap ↑(BitVec.ofInt IntKind.u64.bits w &&& ~~~BitVec.ofInt IntKind.u64.bits
    (IntKind.u64.wrap (Int.fdiv 18446744073709551615 (2 ^ min (IntKind.u64.wrap (IntKind.i64.wrap k)).toNat IntKind.u64.bits) * 2 ^ min (IntKind.u64.wrap sh).toNat IntKind.u64.bits))).toNat) |||
  BitVec.ofInt IntKind.u64.bits (IntKind.u64.wrap (x * 2 ^ min (IntKind.u64.wrap sh).toNat IntKind.u64.bits))).toNat
theorem strike (w m sh : Nat) (hw : w < 2 ^ sh) (hsh : sh < 64) : (BitVec.ofNat 64 w &&& ~~~BitVec.ofNat 64 (m * 2 ^ sh)).toNat = w := by
  have hw64 : w < 2 ^ 64 := Nat.lt_of_lt_of_le hw (Nat.pow_le_pow_right (by omega) (by omega))
  have e : BitVec.ofNat 64 w &&& ~~~BitVec.ofNat 64 (m * 2 ^ sh) = BitVec.ofNat 64 w := by
    apply BitVec.eq_of_getLsbD_eq
    intro i hi
    simp only [BitVec.getLsbD_and, BitVec.getLsbD_not, BitVec.getLsbD_ofNat, Nat.testBit_mul_two_pow, hi, decide_true, Bool.true_and]
    by_cases h : sh ≤ i
    · have : w.testBit i = false := Nat.testBit_lt_two_pow (Nat.lt_of_lt_of_le hw (Nat.pow_le_pow_right (by omega) h))
      simp [this]
    · simp [h]
  rw [e, BitVec.toNat_ofNat, Nat.mod_eq_of_lt hw64]
theorem lay (w x sh k : Nat) (hw : w < 2 ^ sh) (hx : x < 2 ^ k) (hk : sh + k ≤ 64) : (BitVec.ofNat 64 w ||| BitVec.ofNat 64 (x * 2 ^ sh)).toNat = w + x * 2 ^ sh := by
  have hw64 : w < 2 ^ 64 := Nat.lt_of_lt_of_le hw (Nat.pow_le_pow_right (by omega) (by omega))
  have hx64 : x * 2 ^ sh < 2 ^ 64 := by
    have h1 : x * 2 ^ sh < 2 ^ k * 2 ^ sh := Nat.mul_lt_mul_of_pos_right hx (Nat.two_pow_pos _)
    rw [← Nat.pow_add] at h1
    exact Nat.lt_of_lt_of_le h1 (Nat.pow_le_pow_right (by omega) (by omega))
  rw [BitVec.toNat_or, BitVec.toNat_ofNat, BitVec.toNat_ofNat, Nat.mod_eq_of_lt hw64, Nat.mod_eq_of_lt hx64, Nat.or_comm, Nat.mul_comm, ← Nat.two_pow_add_eq_or_of_lt hw]
  omega
theorem putP_eq {w x : Int} (sh k : Nat) (hw0 : 0 ≤ w) (hw : w < 2 ^ sh) (hx0 : 0 ≤ x) (hx : x < 2 ^ k) (hk0 : 0 < k) (hk : sh + k ≤ 64) : putP w x sh (64 - k : Nat) = w + x * 2 ^ sh := by
  obtain ⟨w, rfl⟩ := Int.eq_ofNat_of_zero_le hw0
  obtain ⟨x, rfl⟩ := Int.eq_ofNat_of_zero_le hx0
  have hw' : w < 2 ^ sh := by exact_mod_cast hw
  have hx' : x < 2 ^ k := by exact_mod_cast hx
  have hw64 : w < 2 ^ 64 := Nat.lt_of_lt_of_le hw' (Nat.pow_le_pow_right (by omega) (by omega))
  have hx64 : x * 2 ^ sh < 2 ^ 64 := by
    have h1 : x * 2 ^ sh < 2 ^ k * 2 ^ sh := Nat.mul_lt_mul_of_pos_right hx' (Nat.two_pow_pos _)
    rw [← Nat.pow_add] at h1
    exact Nat.lt_of_lt_of_le h1 (Nat.pow_le_pow_right (by omega) (by omega))
  have hm64 : (2 ^ k - 1) * 2 ^ sh < 2 ^ 64 := by
    have h1 : (2 ^ k - 1) * 2 ^ sh < 2 ^ k * 2 ^ sh := Nat.mul_lt_mul_of_pos_right (by have := Nat.two_pow_pos k; omega) (Nat.two_pow_pos _)
    rw [← Nat.pow_add] at h1
    exact Nat.lt_of_lt_of_le h1 (Nat.pow_le_pow_right (by omega) (by omega))
  unfold putP
  rw [wrapU (x := (sh : Int)) (by omega) (by omega), wrapI (x := ((64 - k : Nat) : Int)) (by omega) (by omega), wrapU (x := ((64 - k : Nat) : Int)) (by omega) (by omega)]
  simp only [Int.toNat_natCast]
  have e1 : min sh IntKind.u64.bits = sh := Nat.min_eq_left (by simp [IntKind.bits]; omega)
  have e2 : min (64 - k) IntKind.u64.bits = 64 - k := Nat.min_eq_left (by simp [IntKind.bits])
  have e4 : Int.fdiv 18446744073709551615 (2 ^ (64 - k)) = ((2 ^ k - 1 : Nat) : Int) := by
    have h1 := fdiv_nat 18446744073709551615 (2 ^ (64 - k))
    have h2 : 18446744073709551615 / 2 ^ (64 - k) = 2 ^ k - 1 := by
      have h3 : 2 ^ 64 = 2 ^ k * 2 ^ (64 - k) := by rw [← Nat.pow_add]; congr 1; omega
      have h4 : 0 < 2 ^ (64 - k) := Nat.two_pow_pos _
      have h5 : 0 < 2 ^ k := Nat.two_pow_pos _
      have h6 : 18446744073709551615 = (2 ^ k - 1) * 2 ^ (64 - k) + (2 ^ (64 - k) - 1) := by
        rw [Nat.sub_mul, Nat.one_mul, ← h3]
        have : 2 ^ (64 - k) ≤ 2 ^ 64 := Nat.pow_le_pow_right (by omega) (by omega)
        omega
      rw [h6, Nat.mul_comm, Nat.mul_add_div h4, Nat.div_eq_of_lt (by omega)]
      omega
    rw [← h2]
    simpa using h1
  rw [e1, e2, e4]
  have c1 : ((2 ^ k - 1 : Nat) : Int) * 2 ^ sh = (((2 ^ k - 1) * 2 ^ sh : Nat) : Int) := by simp
  have c2 : (x : Int) * 2 ^ sh = ((x * 2 ^ sh : Nat) : Int) := by simp
  rw [c1, c2, wrapU (x := (((2 ^ k - 1) * 2 ^ sh : Nat) : Int)) (by omega) (by omega), wrapU (x := ((x * 2 ^ sh : Nat) : Int)) (by omega) (by omega)]
  show IntKind.u64.wrap ↑(BitVec.ofInt 64 (IntKind.u64.wrap ↑(BitVec.ofInt 64 (w : Int) &&& ~~~BitVec.ofInt 64 (((2 ^ k - 1) * 2 ^ sh : Nat) : Int)).toNat) ||| BitVec.ofInt 64 ((x * 2 ^ sh : Nat) : Int)).toNat = _
  rw [ofInt_nat w, ofInt_nat ((2 ^ k - 1) * 2 ^ sh), strike w (2 ^ k - 1) sh hw' (by omega), wrapU (x := (w : Int)) (by omega) (by omega), ofInt_nat w, ofInt_nat (x * 2 ^ sh), lay w x sh k hw' hx' hk]
  have : w + x * 2 ^ sh < 2 ^ 64 := by
    have h1 : x * 2 ^ sh + 2 ^ sh ≤ 2 ^ k * 2 ^ sh := by
      rw [← Nat.succ_mul]
      exact Nat.mul_le_mul_right _ hx'
    rw [← Nat.pow_add, Nat.add_comm k sh] at h1
    have := Nat.pow_le_pow_right (n := 2) (by omega) hk
    omega
  rw [wrapU (by omega) (by omega)]
  simp
end Go.Proofs.Ytpaiejeipghehaa
end
section
/- Links of words: what the program's functions answer, in numbers. No condition. -/
namespace Go.Proofs.Ytpaiejeipghehaa
set_option maxRecDepth 100000
set_option linter.unusedSimpArgs false

def lkSlot (w : Int) : Int := IntKind.i64.wrap (fieldP w 40 (64 - 23))
def lkVer (w : Int) : Int := IntKind.i64.wrap (fieldP w 0 (64 - 40))
def lkMark (w : Int) : Bool := w.fdiv (2 ^ min (Int.toNat 63) IntKind.u64.bits) == 1
def lkOK (s v : Int) : Prop := (0 ≤ s ∧ s ≤ 8388607) ∧ 0 ≤ v ∧ v ≤ 1099511627775
def lkRaw (m s v : Int) : Int := putP (putP (putP 0 v 0 (64 - 40)) s 40 (64 - 23)) m 63 (64 - 1)
theorem lkSlot_eq {w : Int} (h0 : 0 ≤ w) : lkSlot w = w / 1099511627776 % 8388608 := by
  have e := fieldP_eq h0 40 23 (by omega) (by omega)
  have e' : fieldP w 40 (64 - 23) = w / 1099511627776 % 8388608 := e
  rw [lkSlot, e', wrapI (by omega) (by omega)]
theorem lkVer_eq {w : Int} (h0 : 0 ≤ w) : lkVer w = w % 1099511627776 := by
  have e := fieldP_eq h0 0 40 (by omega) (by omega)
  have e' : fieldP w 0 (64 - 40) = w / 1 % 1099511627776 := e
  rw [lkVer, e', Int.ediv_one, wrapI (by omega) (by omega)]
theorem lkMark_eq {w : Int} (h0 : 0 ≤ w) (h1 : w < 18446744073709551616) : lkMark w = decide (9223372036854775808 ≤ w) := by
  have e : (2 ^ min (Int.toNat 63) IntKind.u64.bits : Int) = 9223372036854775808 := by rfl
  rw [lkMark, e, Int.fdiv_eq_ediv_of_nonneg _ (by omega), Bool.eq_iff_iff, beq_iff_eq, decide_eq_true_eq]
  omega
theorem lkRaw_eq {m s v : Int} (hm : m = 0 ∨ m = 1) (h : lkOK s v) : lkRaw m s v = v + s * 1099511627776 + m * 9223372036854775808 := by
  obtain ⟨⟨h1, h2⟩, h3, h4⟩ := h
  have e1 : putP 0 v 0 (64 - 40) = 0 + v * 2 ^ 0 := putP_eq (w := 0) (x := v) 0 40 (by omega) (by omega) h3 (by omega) (by omega) (by omega)
  have e2 : putP v s 40 (64 - 23) = v + s * 2 ^ 40 := putP_eq (w := v) (x := s) 40 23 h3 (by omega) h1 (by omega) (by omega) (by omega)
  have e3 : putP (v + s * 2 ^ 40) m 63 (64 - 1) = v + s * 2 ^ 40 + m * 2 ^ 63 := putP_eq (w := v + s * 2 ^ 40) (x := m) 63 1 (by omega) (by omega) (by omega) (by omega) (by omega) (by omega)
  rw [lkRaw, e1, show (0 : Int) + v * 2 ^ 0 = v by omega, e2, e3]
  omega
end Go.Proofs.Ytpaiejeipghehaa
end
section
/- Links of words: contracts of the program's functions, and of the document's. No condition. -/
namespace Go.Proofs.Ytpaiejeipghehaa
set_option maxRecDepth 100000
set_option maxHeartbeats 4000000
set_option linter.unusedSimpArgs false
set_option linter.unusedVariables false
/-- A link's word. -/
def lkWord (m : Bool) (s v : Int) : Int := if (0 ≤ s ∧ s ≤ 8388607) ∧ 0 ≤ v ∧ v ≤ 1099511627775 then v + s * 1099511627776 + (if m then 9223372036854775808 else 0) else 0
def lkMarked (w s v : Int) : Int := if lkMark w = true then w else lkWord true s v
theorem to_good (s v : Int) : Good (fun o => run0 72 [.v (.int .i64 s), .v (.int .i64 v)] (St.none o)) (fun x => x = .int .u64 (lkWord false s v)) := by
  rcases Bool.eq_false_or_eq_true (decide (s ≥ 0)) with h0 | h0
  · rcases Bool.eq_false_or_eq_true (decide (s ≤ 8388607)) with h1 | h1
    · rcases Bool.eq_false_or_eq_true (decide (v ≥ 0)) with h2 | h2
      · rcases Bool.eq_false_or_eq_true (decide (v ≤ 1099511627775)) with h3 | h3
        · have h4 : (decide (IntKind.u64.wrap v > Int.fdiv 18446744073709551615 (2 ^ min (IntKind.u64.wrap (IntKind.i64.wrap (64 - 40))).toNat IntKind.u64.bits))) = false := by ((have f40 : Int.fdiv 18446744073709551615 (2 ^ min (IntKind.u64.wrap (IntKind.i64.wrap (64 - 40))).toNat IntKind.u64.bits) = 1099511627775 := by rfl); (have f23 : Int.fdiv 18446744073709551615 (2 ^ min (IntKind.u64.wrap (IntKind.i64.wrap (64 - 23))).toNat IntKind.u64.bits) = 8388607 := by rfl); simp only [decide_eq_true_eq, decide_eq_false_iff_not, f40, f23] at *; rw [wrapU (by omega) (by omega)]; omega)
          have h5 : (decide (IntKind.u64.wrap s > Int.fdiv 18446744073709551615 (2 ^ min (IntKind.u64.wrap (IntKind.i64.wrap (64 - 23))).toNat IntKind.u64.bits))) = false := by ((have f40 : Int.fdiv 18446744073709551615 (2 ^ min (IntKind.u64.wrap (IntKind.i64.wrap (64 - 40))).toNat IntKind.u64.bits) = 1099511627775 := by rfl); (have f23 : Int.fdiv 18446744073709551615 (2 ^ min (IntKind.u64.wrap (IntKind.i64.wrap (64 - 23))).toNat IntKind.u64.bits) = 8388607 := by rfl); simp only [decide_eq_true_eq, decide_eq_false_iff_not, f40, f23] at *; rw [wrapU (by omega) (by omega)]; omega)
          exact ⟨List.replicate 12 (some true) ++ [some false] ++ List.replicate 165 (none) ++ [some false] ++ List.replicate 56 (none) ++ [some false], [((decide (IntKind.u64.wrap s > Int.fdiv 18446744073709551615 (2 ^ min (IntKind.u64.wrap (IntKind.i64.wrap (64 - 23))).toNat IntKind.u64.bits))), false), ((decide (IntKind.u64.wrap v > Int.fdiv 18446744073709551615 (2 ^ min (IntKind.u64.wrap (IntKind.i64.wrap (64 - 40))).toNat IntKind.u64.bits))), false), (!(decide (v ≤ 1099511627775)), false), ((decide (v ≥ 0)), true), ((decide (v ≥ 0)), true), ((decide (v ≥ 0)), true), ((decide (v ≥ 0)), true), ((decide (s ≤ 8388607)), true), ((decide (s ≤ 8388607)), true), ((decide (s ≤ 8388607)), true), ((decide (s ≤ 8388607)), true), ((decide (s ≥ 0)), true), ((decide (s ≥ 0)), true), ((decide (s ≥ 0)), true), ((decide (s ≥ 0)), true)], Value.int IntKind.u64 (IntKind.u64.wrap (↑(BitVec.ofInt IntKind.u64.bits (IntKind.u64.wrap (↑(BitVec.ofInt IntKind.u64.bits (IntKind.u64.wrap (↑(BitVec.ofInt IntKind.u64.bits (IntKind.u64.wrap (↑(BitVec.ofInt IntKind.u64.bits (IntKind.u64.wrap (↑(BitVec.ofInt IntKind.u64.bits (IntKind.u64.wrap (↑(BitVec.ofInt IntKind.u64.bits 0 &&& ~~~BitVec.ofInt IntKind.u64.bits (IntKind.u64.wrap (Int.fdiv 18446744073709551615 (2 ^ min (IntKind.u64.wrap (IntKind.i64.wrap (64 - 40))).toNat IntKind.u64.bits) * 2 ^ min (IntKind.u64.wrap 0).toNat IntKind.u64.bits))).toNat : Int)) ||| BitVec.ofInt IntKind.u64.bits (IntKind.u64.wrap (IntKind.u64.wrap v * 2 ^ min (IntKind.u64.wrap 0).toNat IntKind.u64.bits))).toNat : Int)) &&& ~~~BitVec.ofInt IntKind.u64.bits (IntKind.u64.wrap (Int.fdiv 18446744073709551615 (2 ^ min (IntKind.u64.wrap (IntKind.i64.wrap (64 - 23))).toNat IntKind.u64.bits) * 2 ^ min (IntKind.u64.wrap 40).toNat IntKind.u64.bits))).toNat : Int)) ||| BitVec.ofInt IntKind.u64.bits (IntKind.u64.wrap (IntKind.u64.wrap s * 2 ^ min (IntKind.u64.wrap 40).toNat IntKind.u64.bits))).toNat : Int)) &&& ~~~BitVec.ofInt IntKind.u64.bits (IntKind.u64.wrap (Int.fdiv 18446744073709551615 (2 ^ min (IntKind.u64.wrap (IntKind.i64.wrap (64 - 1))).toNat IntKind.u64.bits) * 2 ^ min (IntKind.u64.wrap 63).toNat IntKind.u64.bits))).toNat : Int)) ||| BitVec.ofInt IntKind.u64.bits (IntKind.u64.wrap (0 * 2 ^ min (IntKind.u64.wrap 63).toNat IntKind.u64.bits))).toNat : Int)), by kernel_rfl, ⟨h5, h4, (by rw [h3]; rfl), h2, h2, h2, h2, h1, h1, h1, h1, h0, h0, h0, h0, trivial⟩, (by simp only [decide_eq_true_eq, decide_eq_false_iff_not] at *; first | (rw [lkWord, if_neg (by omega)]; rfl) | (rw [lkWord, if_pos ⟨⟨by omega, by omega⟩, by omega, by omega⟩]; show Value.int _ (lkRaw 0 (IntKind.u64.wrap s) (IntKind.u64.wrap v)) = _; rw [wrapU (x := s) (by omega) (by omega), wrapU (x := v) (by omega) (by omega), lkRaw_eq (.inl rfl) ⟨⟨by omega, by omega⟩, by omega, by omega⟩]; simp))⟩
        · exact ⟨List.replicate 13 (some true), [(!(decide (v ≤ 1099511627775)), true), ((decide (v ≥ 0)), true), ((decide (v ≥ 0)), true), ((decide (v ≥ 0)), true), ((decide (v ≥ 0)), true), ((decide (s ≤ 8388607)), true), ((decide (s ≤ 8388607)), true), ((decide (s ≤ 8388607)), true), ((decide (s ≤ 8388607)), true), ((decide (s ≥ 0)), true), ((decide (s ≥ 0)), true), ((decide (s ≥ 0)), true), ((decide (s ≥ 0)), true)], Value.int IntKind.u64 (Int.ofNat 0), by kernel_rfl, ⟨(by rw [h3]; rfl), h2, h2, h2, h2, h1, h1, h1, h1, h0, h0, h0, h0, trivial⟩, (by simp only [decide_eq_true_eq, decide_eq_false_iff_not] at *; first | (rw [lkWord, if_neg (by omega)]; rfl) | (rw [lkWord, if_pos ⟨⟨by omega, by omega⟩, by omega, by omega⟩]; show Value.int _ (lkRaw 0 (IntKind.u64.wrap s) (IntKind.u64.wrap v)) = _; rw [wrapU (x := s) (by omega) (by omega), wrapU (x := v) (by omega) (by omega), lkRaw_eq (.inl rfl) ⟨⟨by omega, by omega⟩, by omega, by omega⟩]; simp))⟩
      · exact ⟨List.replicate 8 (some true) ++ List.replicate 4 (some false), [((decide (v ≥ 0)), false), ((decide (v ≥ 0)), false), ((decide (v ≥ 0)), false), ((decide (v ≥ 0)), false), ((decide (s ≤ 8388607)), true), ((decide (s ≤ 8388607)), true), ((decide (s ≤ 8388607)), true), ((decide (s ≤ 8388607)), true), ((decide (s ≥ 0)), true), ((decide (s ≥ 0)), true), ((decide (s ≥ 0)), true), ((decide (s ≥ 0)), true)], Value.int IntKind.u64 (Int.ofNat 0), by kernel_rfl, ⟨h2, h2, h2, h2, h1, h1, h1, h1, h0, h0, h0, h0, trivial⟩, (by simp only [decide_eq_true_eq, decide_eq_false_iff_not] at *; first | (rw [lkWord, if_neg (by omega)]; rfl) | (rw [lkWord, if_pos ⟨⟨by omega, by omega⟩, by omega, by omega⟩]; show Value.int _ (lkRaw 0 (IntKind.u64.wrap s) (IntKind.u64.wrap v)) = _; rw [wrapU (x := s) (by omega) (by omega), wrapU (x := v) (by omega) (by omega), lkRaw_eq (.inl rfl) ⟨⟨by omega, by omega⟩, by omega, by omega⟩]; simp))⟩
    · exact ⟨List.replicate 4 (some true) ++ List.replicate 4 (some false), [((decide (s ≤ 8388607)), false), ((decide (s ≤ 8388607)), false), ((decide (s ≤ 8388607)), false), ((decide (s ≤ 8388607)), false), ((decide (s ≥ 0)), true), ((decide (s ≥ 0)), true), ((decide (s ≥ 0)), true), ((decide (s ≥ 0)), true)], Value.int IntKind.u64 (Int.ofNat 0), by kernel_rfl, ⟨h1, h1, h1, h1, h0, h0, h0, h0, trivial⟩, (by simp only [decide_eq_true_eq, decide_eq_false_iff_not] at *; first | (rw [lkWord, if_neg (by omega)]; rfl) | (rw [lkWord, if_pos ⟨⟨by omega, by omega⟩, by omega, by omega⟩]; show Value.int _ (lkRaw 0 (IntKind.u64.wrap s) (IntKind.u64.wrap v)) = _; rw [wrapU (x := s) (by omega) (by omega), wrapU (x := v) (by omega) (by omega), lkRaw_eq (.inl rfl) ⟨⟨by omega, by omega⟩, by omega, by omega⟩]; simp))⟩
  · exact ⟨List.replicate 4 (some false), [((decide (s ≥ 0)), false), ((decide (s ≥ 0)), false), ((decide (s ≥ 0)), false), ((decide (s ≥ 0)), false)], Value.int IntKind.u64 (Int.ofNat 0), by kernel_rfl, ⟨h0, h0, h0, h0, trivial⟩, (by simp only [decide_eq_true_eq, decide_eq_false_iff_not] at *; first | (rw [lkWord, if_neg (by omega)]; rfl) | (rw [lkWord, if_pos ⟨⟨by omega, by omega⟩, by omega, by omega⟩]; show Value.int _ (lkRaw 0 (IntKind.u64.wrap s) (IntKind.u64.wrap v)) = _; rw [wrapU (x := s) (by omega) (by omega), wrapU (x := v) (by omega) (by omega), lkRaw_eq (.inl rfl) ⟨⟨by omega, by omega⟩, by omega, by omega⟩]; simp))⟩
theorem marked_good (w s v : Int) : Good (fun o => run0 124 [.v (.int .u64 w), .v (.int .i64 s), .v (.int .i64 v)] (St.none o)) (fun x => x = .int .u64 (lkMarked w s v)) := by
  rcases Bool.eq_false_or_eq_true (w.fdiv (2 ^ min (Int.toNat 63) IntKind.u64.bits) == 1) with h0 | h0
  · exact ⟨[some true], [((w.fdiv (2 ^ min (Int.toNat 63) IntKind.u64.bits) == 1), true)], Value.int IntKind.u64 w, by kernel_rfl, ⟨h0, trivial⟩, (by have e0 : lkMark w = _ := h0; simp only [decide_eq_true_eq, decide_eq_false_iff_not] at *; rw [lkMarked, e0]; first | rfl | (rw [if_neg (by decide), lkWord, if_neg (by omega)]; rfl) | (rw [if_neg (by decide), lkWord, if_pos ⟨⟨by omega, by omega⟩, by omega, by omega⟩]; show Value.int _ (lkRaw 1 (IntKind.u64.wrap s) (IntKind.u64.wrap v)) = _; rw [wrapU (x := s) (by omega) (by omega), wrapU (x := v) (by omega) (by omega), lkRaw_eq (.inr rfl) ⟨⟨by omega, by omega⟩, by omega, by omega⟩]; simp))⟩
  · rcases Bool.eq_false_or_eq_true (decide (s ≥ 0)) with h1 | h1
    · rcases Bool.eq_false_or_eq_true (decide (s ≤ 8388607)) with h2 | h2
      · rcases Bool.eq_false_or_eq_true (decide (v ≥ 0)) with h3 | h3
        · rcases Bool.eq_false_or_eq_true (decide (v ≤ 1099511627775)) with h4 | h4
          · have h5 : (decide (IntKind.u64.wrap v > Int.fdiv 18446744073709551615 (2 ^ min (IntKind.u64.wrap (IntKind.i64.wrap (64 - 40))).toNat IntKind.u64.bits))) = false := by ((have f40 : Int.fdiv 18446744073709551615 (2 ^ min (IntKind.u64.wrap (IntKind.i64.wrap (64 - 40))).toNat IntKind.u64.bits) = 1099511627775 := by rfl); (have f23 : Int.fdiv 18446744073709551615 (2 ^ min (IntKind.u64.wrap (IntKind.i64.wrap (64 - 23))).toNat IntKind.u64.bits) = 8388607 := by rfl); simp only [decide_eq_true_eq, decide_eq_false_iff_not, f40, f23] at *; rw [wrapU (by omega) (by omega)]; omega)
            have h6 : (decide (IntKind.u64.wrap s > Int.fdiv 18446744073709551615 (2 ^ min (IntKind.u64.wrap (IntKind.i64.wrap (64 - 23))).toNat IntKind.u64.bits))) = false := by ((have f40 : Int.fdiv 18446744073709551615 (2 ^ min (IntKind.u64.wrap (IntKind.i64.wrap (64 - 40))).toNat IntKind.u64.bits) = 1099511627775 := by rfl); (have f23 : Int.fdiv 18446744073709551615 (2 ^ min (IntKind.u64.wrap (IntKind.i64.wrap (64 - 23))).toNat IntKind.u64.bits) = 8388607 := by rfl); simp only [decide_eq_true_eq, decide_eq_false_iff_not, f40, f23] at *; rw [wrapU (by omega) (by omega)]; omega)
            exact ⟨[some false] ++ List.replicate 12 (some true) ++ [some false] ++ List.replicate 165 (none) ++ [some false] ++ List.replicate 56 (none) ++ [some false], [((decide (IntKind.u64.wrap s > Int.fdiv 18446744073709551615 (2 ^ min (IntKind.u64.wrap (IntKind.i64.wrap (64 - 23))).toNat IntKind.u64.bits))), false), ((decide (IntKind.u64.wrap v > Int.fdiv 18446744073709551615 (2 ^ min (IntKind.u64.wrap (IntKind.i64.wrap (64 - 40))).toNat IntKind.u64.bits))), false), (!(decide (v ≤ 1099511627775)), false), ((decide (v ≥ 0)), true), ((decide (v ≥ 0)), true), ((decide (v ≥ 0)), true), ((decide (v ≥ 0)), true), ((decide (s ≤ 8388607)), true), ((decide (s ≤ 8388607)), true), ((decide (s ≤ 8388607)), true), ((decide (s ≤ 8388607)), true), ((decide (s ≥ 0)), true), ((decide (s ≥ 0)), true), ((decide (s ≥ 0)), true), ((decide (s ≥ 0)), true), ((w.fdiv (2 ^ min (Int.toNat 63) IntKind.u64.bits) == 1), false)], Value.int IntKind.u64 (IntKind.u64.wrap (↑(BitVec.ofInt IntKind.u64.bits (IntKind.u64.wrap (↑(BitVec.ofInt IntKind.u64.bits (IntKind.u64.wrap (↑(BitVec.ofInt IntKind.u64.bits (IntKind.u64.wrap (↑(BitVec.ofInt IntKind.u64.bits (IntKind.u64.wrap (↑(BitVec.ofInt IntKind.u64.bits (IntKind.u64.wrap (↑(BitVec.ofInt IntKind.u64.bits 0 &&& ~~~BitVec.ofInt IntKind.u64.bits (IntKind.u64.wrap (Int.fdiv 18446744073709551615 (2 ^ min (IntKind.u64.wrap (IntKind.i64.wrap (64 - 40))).toNat IntKind.u64.bits) * 2 ^ min (IntKind.u64.wrap 0).toNat IntKind.u64.bits))).toNat : Int)) ||| BitVec.ofInt IntKind.u64.bits (IntKind.u64.wrap (IntKind.u64.wrap v * 2 ^ min (IntKind.u64.wrap 0).toNat IntKind.u64.bits))).toNat : Int)) &&& ~~~BitVec.ofInt IntKind.u64.bits (IntKind.u64.wrap (Int.fdiv 18446744073709551615 (2 ^ min (IntKind.u64.wrap (IntKind.i64.wrap (64 - 23))).toNat IntKind.u64.bits) * 2 ^ min (IntKind.u64.wrap 40).toNat IntKind.u64.bits))).toNat : Int)) ||| BitVec.ofInt IntKind.u64.bits (IntKind.u64.wrap (IntKind.u64.wrap s * 2 ^ min (IntKind.u64.wrap 40).toNat IntKind.u64.bits))).toNat : Int)) &&& ~~~BitVec.ofInt IntKind.u64.bits (IntKind.u64.wrap (Int.fdiv 18446744073709551615 (2 ^ min (IntKind.u64.wrap (IntKind.i64.wrap (64 - 1))).toNat IntKind.u64.bits) * 2 ^ min (IntKind.u64.wrap 63).toNat IntKind.u64.bits))).toNat : Int)) ||| BitVec.ofInt IntKind.u64.bits (IntKind.u64.wrap (1 * 2 ^ min (IntKind.u64.wrap 63).toNat IntKind.u64.bits))).toNat : Int)), by kernel_rfl, ⟨h6, h5, (by rw [h4]; rfl), h3, h3, h3, h3, h2, h2, h2, h2, h1, h1, h1, h1, h0, trivial⟩, (by have e0 : lkMark w = _ := h0; simp only [decide_eq_true_eq, decide_eq_false_iff_not] at *; rw [lkMarked, e0]; first | rfl | (rw [if_neg (by decide), lkWord, if_neg (by omega)]; rfl) | (rw [if_neg (by decide), lkWord, if_pos ⟨⟨by omega, by omega⟩, by omega, by omega⟩]; show Value.int _ (lkRaw 1 (IntKind.u64.wrap s) (IntKind.u64.wrap v)) = _; rw [wrapU (x := s) (by omega) (by omega), wrapU (x := v) (by omega) (by omega), lkRaw_eq (.inr rfl) ⟨⟨by omega, by omega⟩, by omega, by omega⟩]; simp))⟩
          · exact ⟨[some false] ++ List.replicate 13 (some true), [(!(decide (v ≤ 1099511627775)), true), ((decide (v ≥ 0)), true), ((decide (v ≥ 0)), true), ((decide (v ≥ 0)), true), ((decide (v ≥ 0)), true), ((decide (s ≤ 8388607)), true), ((decide (s ≤ 8388607)), true), ((decide (s ≤ 8388607)), true), ((decide (s ≤ 8388607)), true), ((decide (s ≥ 0)), true), ((decide (s ≥ 0)), true), ((decide (s ≥ 0)), true), ((decide (s ≥ 0)), true), ((w.fdiv (2 ^ min (Int.toNat 63) IntKind.u64.bits) == 1), false)], Value.int IntKind.u64 (Int.ofNat 0), by kernel_rfl, ⟨(by rw [h4]; rfl), h3, h3, h3, h3, h2, h2, h2, h2, h1, h1, h1, h1, h0, trivial⟩, (by have e0 : lkMark w = _ := h0; simp only [decide_eq_true_eq, decide_eq_false_iff_not] at *; rw [lkMarked, e0]; first | rfl | (rw [if_neg (by decide), lkWord, if_neg (by omega)]; rfl) | (rw [if_neg (by decide), lkWord, if_pos ⟨⟨by omega, by omega⟩, by omega, by omega⟩]; show Value.int _ (lkRaw 1 (IntKind.u64.wrap s) (IntKind.u64.wrap v)) = _; rw [wrapU (x := s) (by omega) (by omega), wrapU (x := v) (by omega) (by omega), lkRaw_eq (.inr rfl) ⟨⟨by omega, by omega⟩, by omega, by omega⟩]; simp))⟩
        · exact ⟨[some false] ++ List.replicate 8 (some true) ++ List.replicate 4 (some false), [((decide (v ≥ 0)), false), ((decide (v ≥ 0)), false), ((decide (v ≥ 0)), false), ((decide (v ≥ 0)), false), ((decide (s ≤ 8388607)), true), ((decide (s ≤ 8388607)), true), ((decide (s ≤ 8388607)), true), ((decide (s ≤ 8388607)), true), ((decide (s ≥ 0)), true), ((decide (s ≥ 0)), true), ((decide (s ≥ 0)), true), ((decide (s ≥ 0)), true), ((w.fdiv (2 ^ min (Int.toNat 63) IntKind.u64.bits) == 1), false)], Value.int IntKind.u64 (Int.ofNat 0), by kernel_rfl, ⟨h3, h3, h3, h3, h2, h2, h2, h2, h1, h1, h1, h1, h0, trivial⟩, (by have e0 : lkMark w = _ := h0; simp only [decide_eq_true_eq, decide_eq_false_iff_not] at *; rw [lkMarked, e0]; first | rfl | (rw [if_neg (by decide), lkWord, if_neg (by omega)]; rfl) | (rw [if_neg (by decide), lkWord, if_pos ⟨⟨by omega, by omega⟩, by omega, by omega⟩]; show Value.int _ (lkRaw 1 (IntKind.u64.wrap s) (IntKind.u64.wrap v)) = _; rw [wrapU (x := s) (by omega) (by omega), wrapU (x := v) (by omega) (by omega), lkRaw_eq (.inr rfl) ⟨⟨by omega, by omega⟩, by omega, by omega⟩]; simp))⟩
      · exact ⟨[some false] ++ List.replicate 4 (some true) ++ List.replicate 4 (some false), [((decide (s ≤ 8388607)), false), ((decide (s ≤ 8388607)), false), ((decide (s ≤ 8388607)), false), ((decide (s ≤ 8388607)), false), ((decide (s ≥ 0)), true), ((decide (s ≥ 0)), true), ((decide (s ≥ 0)), true), ((decide (s ≥ 0)), true), ((w.fdiv (2 ^ min (Int.toNat 63) IntKind.u64.bits) == 1), false)], Value.int IntKind.u64 (Int.ofNat 0), by kernel_rfl, ⟨h2, h2, h2, h2, h1, h1, h1, h1, h0, trivial⟩, (by have e0 : lkMark w = _ := h0; simp only [decide_eq_true_eq, decide_eq_false_iff_not] at *; rw [lkMarked, e0]; first | rfl | (rw [if_neg (by decide), lkWord, if_neg (by omega)]; rfl) | (rw [if_neg (by decide), lkWord, if_pos ⟨⟨by omega, by omega⟩, by omega, by omega⟩]; show Value.int _ (lkRaw 1 (IntKind.u64.wrap s) (IntKind.u64.wrap v)) = _; rw [wrapU (x := s) (by omega) (by omega), wrapU (x := v) (by omega) (by omega), lkRaw_eq (.inr rfl) ⟨⟨by omega, by omega⟩, by omega, by omega⟩]; simp))⟩
    · exact ⟨List.replicate 5 (some false), [((decide (s ≥ 0)), false), ((decide (s ≥ 0)), false), ((decide (s ≥ 0)), false), ((decide (s ≥ 0)), false), ((w.fdiv (2 ^ min (Int.toNat 63) IntKind.u64.bits) == 1), false)], Value.int IntKind.u64 (Int.ofNat 0), by kernel_rfl, ⟨h1, h1, h1, h1, h0, trivial⟩, (by have e0 : lkMark w = _ := h0; simp only [decide_eq_true_eq, decide_eq_false_iff_not] at *; rw [lkMarked, e0]; first | rfl | (rw [if_neg (by decide), lkWord, if_neg (by omega)]; rfl) | (rw [if_neg (by decide), lkWord, if_pos ⟨⟨by omega, by omega⟩, by omega, by omega⟩]; show Value.int _ (lkRaw 1 (IntKind.u64.wrap s) (IntKind.u64.wrap v)) = _; rw [wrapU (x := s) (by omega) (by omega), wrapU (x := v) (by omega) (by omega), lkRaw_eq (.inr rfl) ⟨⟨by omega, by omega⟩, by omega, by omega⟩]; simp))⟩
theorem rword_good (m : Bool) (s v : Int) : Good (fun o => run0 121 [.agg [.v (.bool m), .v (.int .i64 s), .v (.int .i64 v)]] (St.none o)) (fun x => x = .int .u64 (lkWord m s v)) := by
  rcases Bool.eq_false_or_eq_true (decide (s ≥ 0)) with h0 | h0
  · rcases Bool.eq_false_or_eq_true (decide (s < 8388608)) with h1 | h1
    · rcases Bool.eq_false_or_eq_true (decide (v ≥ 0)) with h2 | h2
      · rcases Bool.eq_false_or_eq_true (decide (v < 1099511627776)) with h3 | h3
        · rcases Bool.eq_false_or_eq_true (m) with h4 | h4
          · exact ⟨List.replicate 12 (some true) ++ [some false] ++ [some true], [((m), true), (!(decide (v < 1099511627776)), false), ((decide (v ≥ 0)), true), ((decide (v ≥ 0)), true), ((decide (v ≥ 0)), true), ((decide (v ≥ 0)), true), ((decide (s < 8388608)), true), ((decide (s < 8388608)), true), ((decide (s < 8388608)), true), ((decide (s < 8388608)), true), ((decide (s ≥ 0)), true), ((decide (s ≥ 0)), true), ((decide (s ≥ 0)), true), ((decide (s ≥ 0)), true)], Value.int IntKind.u64 (IntKind.u64.wrap (IntKind.u64.wrap (IntKind.u64.wrap (IntKind.u64.wrap s * 1099511627776) + IntKind.u64.wrap v) + 9223372036854775808)), by kernel_rfl, ⟨h4, (by rw [h3]; rfl), h2, h2, h2, h2, h1, h1, h1, h1, h0, h0, h0, h0, trivial⟩, (by simp only [decide_eq_true_eq, decide_eq_false_iff_not] at *; first | (rw [lkWord, if_neg (by omega)]; rfl) | (rw [lkWord, if_pos ⟨⟨by omega, by omega⟩, by omega, by omega⟩, wrapU (x := s) (by omega) (by omega), wrapU (x := v) (by omega) (by omega), wrapU (x := s * 1099511627776) (by omega) (by omega), wrapU (x := s * 1099511627776 + v) (by omega) (by omega), h4]; simp; first | done | omega | (rw [wrapU (by omega) (by omega)]; omega)))⟩
          · exact ⟨List.replicate 12 (some true) ++ [some false, some false], [((m), false), (!(decide (v < 1099511627776)), false), ((decide (v ≥ 0)), true), ((decide (v ≥ 0)), true), ((decide (v ≥ 0)), true), ((decide (v ≥ 0)), true), ((decide (s < 8388608)), true), ((decide (s < 8388608)), true), ((decide (s < 8388608)), true), ((decide (s < 8388608)), true), ((decide (s ≥ 0)), true), ((decide (s ≥ 0)), true), ((decide (s ≥ 0)), true), ((decide (s ≥ 0)), true)], Value.int IntKind.u64 (IntKind.u64.wrap (IntKind.u64.wrap (IntKind.u64.wrap s * 1099511627776) + IntKind.u64.wrap v)), by kernel_rfl, ⟨h4, (by rw [h3]; rfl), h2, h2, h2, h2, h1, h1, h1, h1, h0, h0, h0, h0, trivial⟩, (by simp only [decide_eq_true_eq, decide_eq_false_iff_not] at *; first | (rw [lkWord, if_neg (by omega)]; rfl) | (rw [lkWord, if_pos ⟨⟨by omega, by omega⟩, by omega, by omega⟩, wrapU (x := s) (by omega) (by omega), wrapU (x := v) (by omega) (by omega), wrapU (x := s * 1099511627776) (by omega) (by omega), wrapU (x := s * 1099511627776 + v) (by omega) (by omega), h4]; simp; first | done | omega | (rw [wrapU (by omega) (by omega)]; omega)))⟩
        · exact ⟨List.replicate 13 (some true), [(!(decide (v < 1099511627776)), true), ((decide (v ≥ 0)), true), ((decide (v ≥ 0)), true), ((decide (v ≥ 0)), true), ((decide (v ≥ 0)), true), ((decide (s < 8388608)), true), ((decide (s < 8388608)), true), ((decide (s < 8388608)), true), ((decide (s < 8388608)), true), ((decide (s ≥ 0)), true), ((decide (s ≥ 0)), true), ((decide (s ≥ 0)), true), ((decide (s ≥ 0)), true)], Value.int IntKind.u64 (Int.ofNat 0), by kernel_rfl, ⟨(by rw [h3]; rfl), h2, h2, h2, h2, h1, h1, h1, h1, h0, h0, h0, h0, trivial⟩, (by simp only [decide_eq_true_eq, decide_eq_false_iff_not] at *; first | (rw [lkWord, if_neg (by omega)]; rfl) | (rw [lkWord, if_pos ⟨⟨by omega, by omega⟩, by omega, by omega⟩, wrapU (x := s) (by omega) (by omega), wrapU (x := v) (by omega) (by omega), wrapU (x := s * 1099511627776) (by omega) (by omega), wrapU (x := s * 1099511627776 + v) (by omega) (by omega), h4]; simp; first | done | omega | (rw [wrapU (by omega) (by omega)]; omega)))⟩
      · exact ⟨List.replicate 8 (some true) ++ List.replicate 4 (some false), [((decide (v ≥ 0)), false), ((decide (v ≥ 0)), false), ((decide (v ≥ 0)), false), ((decide (v ≥ 0)), false), ((decide (s < 8388608)), true), ((decide (s < 8388608)), true), ((decide (s < 8388608)), true), ((decide (s < 8388608)), true), ((decide (s ≥ 0)), true), ((decide (s ≥ 0)), true), ((decide (s ≥ 0)), true), ((decide (s ≥ 0)), true)], Value.int IntKind.u64 (Int.ofNat 0), by kernel_rfl, ⟨h2, h2, h2, h2, h1, h1, h1, h1, h0, h0, h0, h0, trivial⟩, (by simp only [decide_eq_true_eq, decide_eq_false_iff_not] at *; first | (rw [lkWord, if_neg (by omega)]; rfl) | (rw [lkWord, if_pos ⟨⟨by omega, by omega⟩, by omega, by omega⟩, wrapU (x := s) (by omega) (by omega), wrapU (x := v) (by omega) (by omega), wrapU (x := s * 1099511627776) (by omega) (by omega), wrapU (x := s * 1099511627776 + v) (by omega) (by omega), h4]; simp; first | done | omega | (rw [wrapU (by omega) (by omega)]; omega)))⟩
    · exact ⟨List.replicate 4 (some true) ++ List.replicate 4 (some false), [((decide (s < 8388608)), false), ((decide (s < 8388608)), false), ((decide (s < 8388608)), false), ((decide (s < 8388608)), false), ((decide (s ≥ 0)), true), ((decide (s ≥ 0)), true), ((decide (s ≥ 0)), true), ((decide (s ≥ 0)), true)], Value.int IntKind.u64 (Int.ofNat 0), by kernel_rfl, ⟨h1, h1, h1, h1, h0, h0, h0, h0, trivial⟩, (by simp only [decide_eq_true_eq, decide_eq_false_iff_not] at *; first | (rw [lkWord, if_neg (by omega)]; rfl) | (rw [lkWord, if_pos ⟨⟨by omega, by omega⟩, by omega, by omega⟩, wrapU (x := s) (by omega) (by omega), wrapU (x := v) (by omega) (by omega), wrapU (x := s * 1099511627776) (by omega) (by omega), wrapU (x := s * 1099511627776 + v) (by omega) (by omega), h4]; simp; first | done | omega | (rw [wrapU (by omega) (by omega)]; omega)))⟩
  · exact ⟨List.replicate 4 (some false), [((decide (s ≥ 0)), false), ((decide (s ≥ 0)), false), ((decide (s ≥ 0)), false), ((decide (s ≥ 0)), false)], Value.int IntKind.u64 (Int.ofNat 0), by kernel_rfl, ⟨h0, h0, h0, h0, trivial⟩, (by simp only [decide_eq_true_eq, decide_eq_false_iff_not] at *; first | (rw [lkWord, if_neg (by omega)]; rfl) | (rw [lkWord, if_pos ⟨⟨by omega, by omega⟩, by omega, by omega⟩, wrapU (x := s) (by omega) (by omega), wrapU (x := v) (by omega) (by omega), wrapU (x := s * 1099511627776) (by omega) (by omega), wrapU (x := s * 1099511627776 + v) (by omega) (by omega), h4]; simp; first | done | omega | (rw [wrapU (by omega) (by omega)]; omega)))⟩

theorem to_tab : TabOK Try.prog (Tab.one 72 (kI2 fun s v => .int .u64 (lkWord false s v))) := TabOK.i2 fun s v w => good_calls (to_good s v) rfl w
theorem marked_tab : TabOK Try.prog (Tab.one 124 (kUII fun w s v => .int .u64 (lkMarked w s v))) := TabOK.one fun args s hs ρ vals w hv => by
  unfold kUII at hs
  split at hs <;> cases hs
  simp only [denL, den, Option.some.injEq] at hv
  subst hv
  exact (good_calls (marked_good _ _ _) rfl w).mono fun e w' ⟨he, hm⟩ => ⟨_, he, rfl, hm⟩
theorem rword_tab : TabOK Try.prog (Tab.one 121 (kLink fun m s v => .int .u64 (lkWord m s v))) := TabOK.one fun args s hs ρ vals w hv => by
  unfold kLink at hs
  split at hs <;> cases hs
  simp only [denL, den, Option.map_some, Option.some.injEq] at hv
  subst hv
  exact (good_calls (rword_good _ _ _) rfl w).mono fun e w' ⟨he, hm⟩ => ⟨_, he, rfl, hm⟩
theorem isMarked_tab : TabOK Try.prog (Tab.one 123 (kU1 fun w => .bool (lkMark w))) := TabOK.u1 fun a w => good_calls (args := [.v (.int .u64 a)]) ⟨[], [], _, by kernel_rfl, trivial, rfl⟩ rfl w
theorem slot_tab : TabOK Try.prog (Tab.one 48 (kU1 fun w => .int .i64 (lkSlot w))) := TabOK.u1 fun a w => good_calls (args := [.v (.int .u64 a)]) ⟨[], [], .int .i64 (lkSlot a), by kernel_rfl, trivial, rfl⟩ rfl w
noncomputable def tabL0 : Tab := (Tab.one 72 (kI2 fun s v => .int .u64 (lkWord false s v))).or ((Tab.one 121 (kLink fun m s v => .int .u64 (lkWord m s v))).or ((Tab.one 123 (kU1 fun w => .bool (lkMark w))).or (Tab.one 48 (kU1 fun w => .int .i64 (lkSlot w)))))
theorem tabL0_ok : TabOK Try.prog tabL0 := to_tab.or (rword_tab.or (isMarked_tab.or slot_tab))
noncomputable def tabL1 : Tab := tabL0.or (Tab.one 124 (kUII fun w s v => .int .u64 (lkMarked w s v)))
theorem tabL1_ok : TabOK Try.prog tabL1 := tabL0_ok.or marked_tab
noncomputable def tabL : Tab := tabL1
theorem tabL_ok : TabOK Try.prog tabL := tabL1_ok
/-- The executor with these, and a law's awake. -/
noncomputable def libL (f : FuncId) : Lib Rep := lib0.with ((Tab.one f kTrue).or tabL)
theorem libL_ok {f : FuncId} (h : ∀ w, Calls Try.prog f #[] w fun e w' => e = .returned (.bool true) ∧ Mod [] w w') : LibOK repAt Try.prog (libL f) := Lib.with_ok lib0_ok ((TabOK.true h).or tabL_ok)
end Go.Proofs.Ytpaiejeipghehaa
end
section
/- Links of words: what is laid in is read. No condition. -/
namespace Go.Proofs.Ytpaiejeipghehaa
theorem lkWord_pos {m : Bool} {s v : Int} (h : lkOK s v) : lkWord m s v = v + s * 1099511627776 + (if m then 9223372036854775808 else 0) := if_pos h
theorem lkWord_lt {m : Bool} {s v : Int} : 0 ≤ lkWord m s v ∧ lkWord m s v < 18446744073709551616 := by
  unfold lkWord
  split
  · cases m <;> simp <;> omega
  · omega
theorem lkSlot_word {m : Bool} {s v : Int} (h : lkOK s v) : lkSlot (lkWord m s v) = s := by
  rw [lkSlot_eq lkWord_lt.1, lkWord_pos h]
  obtain ⟨h1, h2⟩ := h
  cases m <;> simp <;> omega
theorem lkVer_word {m : Bool} {s v : Int} (h : lkOK s v) : lkVer (lkWord m s v) = v := by
  rw [lkVer_eq lkWord_lt.1, lkWord_pos h]
  obtain ⟨h1, h2⟩ := h
  cases m <;> simp <;> omega
theorem lkMark_word {m : Bool} {s v : Int} (h : lkOK s v) : lkMark (lkWord m s v) = m := by
  rw [lkMark_eq lkWord_lt.1 lkWord_lt.2, lkWord_pos h]
  obtain ⟨h1, h2⟩ := h
  cases m <;> simp <;> omega
theorem low40 (a : Int) : IntKind.u64.wrap (↑(BitVec.ofInt IntKind.u64.bits (IntKind.u64.wrap a) &&& BitVec.ofInt IntKind.u64.bits 1099511627775).toNat : Int) = IntKind.u64.wrap a % 1099511627776 := by
  have hw := wrapU_pos a
  obtain ⟨n, hn⟩ := Int.eq_ofNat_of_zero_le hw.1
  rw [hn]
  have e : (BitVec.ofInt IntKind.u64.bits (n : Int) &&& BitVec.ofInt IntKind.u64.bits 1099511627775).toNat = n % 1099511627776 := by
    show (BitVec.ofInt 64 _ &&& BitVec.ofInt 64 ((2 ^ 40 - 1 : Nat) : Int)).toNat = _
    rw [ofInt_nat, ofInt_nat, and_mask n 40 (by omega)]
  rw [e, wrapU (by omega) (by omega)]
  simp
theorem low23 (b : Int) : IntKind.i64.wrap ((IntKind.u64.wrap b).tmod 8388608) = IntKind.u64.wrap b % 8388608 := by
  have hw := wrapU_pos b
  rw [Int.tmod_eq_emod_of_nonneg hw.1, wrapI (by omega) (by omega)]
end Go.Proofs.Ytpaiejeipghehaa
end
section
/- The executor with links, and the document's Cells, known. No condition. -/
namespace Go.Proofs.Ytpaiejeipghehaa
noncomputable abbrev libK : Lib Rep := (lib0.with tabL).more primUP
theorem libK_ok : LibOK repAt Try.prog libK := Lib.more_ok (Lib.with_ok lib0_ok tabL_ok) primUP_ok
end Go.Proofs.Ytpaiejeipghehaa
end
section
/- Calls whose answers are known where a test holds; the document's Slot and Marked. Condition: the words fit. -/
namespace Go.Proofs.Ytpaiejeipghehaa
section
variable {R : Type} {A : RepAt R} {P : Program}
def condX (c : Bool) (s : SV) : M R SV := (need 620 c).bind fun _ => .ret s
theorem cond_s {f : FuncId} {args : List SV} {c : Bool} {s0 : SV} (h : c = true → ∀ (ρ : Names) vals (w : World), denL ρ args = some vals → Calls P f vals.toArray w fun e w' => ∃ x, e = .returned x ∧ den ρ s0 = some x ∧ Mod [] w w') {st st' : St R} {s : SV} (hx : condX c s0 st = .ok s st') : CallS A P f args st st' s := by
  obtain ⟨_, st1, h1, h2⟩ := bind_ok.1 hx
  obtain ⟨q, hq⟩ := need_ok h1
  obtain ⟨rfl, rfl⟩ := ret_ok.1 h2
  refine ⟨q.fn, fun B F ρ own w vals si hv => (h (hq si.ask) ρ vals w hv).mono fun e w' ⟨x, k1, k2, k3⟩ => ⟨x, ρ, own, k1, k2, Tr.of_quiet q (Tr.idle (si.of_quiet q) k3)⟩⟩
/-- A word in, a value out, where the word fits. -/
def primW (f : FuncId) (k : Int → SV) (more : FuncId → List SV → Option (M R SV)) : FuncId → List SV → Option (M R SV) := fun g args => match Nat.beq g f with
  | true => match args with
    | [.v (.int .u64 w)] => some (condX (Lit.int .u64 w).wf (k w))
    | _ => more g args
  | false => more g args
theorem primW_ok {f : FuncId} {k : Int → SV} {more : FuncId → List SV → Option (M R SV)} (hs : ∀ w, (Lit.int .u64 w).wf = true → ∀ (ρ : Names) (W : World), Calls P f #[.int .u64 w] W fun e w' => ∃ x, e = .returned x ∧ den ρ (k w) = some x ∧ Mod [] W w') (hm : ∀ f args m, more f args = some m → ∀ st s st', m st = .ok s st' → CallS A P f args st st' s) :
    ∀ g args m, primW f k more g args = some m → ∀ st s st', m st = .ok s st' → CallS A P g args st st' s := by
  intro g args m h st s st' hx
  unfold primW at h
  split at h
  · next hb =>
    obtain rfl := Nat.eq_of_beq_eq_true hb
    split at h
    · next w =>
      injection h with h
      subst h
      refine cond_s (fun hw ρ vals W hv => ?_) hx
      simp only [denL, den, Option.some.injEq] at hv
      subst hv
      exact hs w hw ρ W
    · exact hm _ _ _ h st s st' hx
  · exact hm _ _ _ h st s st' hx
end
theorem word_pos {w : Int} (h : (Lit.int .u64 w).wf = true) : 0 ≤ w ∧ w < 18446744073709551616 := by
  simp [Lit.wf, IntKind.min, IntKind.max, IntKind.signed, IntKind.bits] at h
  omega
theorem refSlot {w : Int} (h : (Lit.int .u64 w).wf = true) : IntKind.i64.wrap ((IntKind.u64.wrap (w.tdiv 1099511627776)).tmod 8388608) = lkSlot w := by
  have hw := word_pos h
  rw [lkSlot_eq hw.1, Int.tdiv_eq_ediv_of_nonneg hw.1, wrapU (x := w / 1099511627776) (by omega) (by omega), Int.tmod_eq_emod_of_nonneg (by omega), wrapI (by omega) (by omega)]
theorem refMark {w : Int} (h : (Lit.int .u64 w).wf = true) : decide (w ≥ 9223372036854775808) = lkMark w := by
  have hw := word_pos h
  rw [lkMark_eq hw.1 hw.2]
theorem markR {w : Int} (h : (Lit.int .u64 w).wf = true) (ρ : Names) (W : World) : Calls Try.prog 122 #[.int .u64 w] W fun e w' => ∃ x, e = .returned x ∧ den ρ (.v (.bool (lkMark w))) = some x ∧ Mod [] W w' := by
  refine (good_calls (args := [.v (.int .u64 w)]) (x := .bool (decide (w ≥ 9223372036854775808))) ⟨[], [], _, by kernel_rfl, trivial, rfl⟩ rfl W).mono fun e w' ⟨he, hm⟩ => ⟨_, he, ?_, hm⟩
  rw [refMark h]
  rfl
noncomputable abbrev primR13 : FuncId → List SV → Option (M Rep SV) := primW 122 (fun w => .v (.bool (lkMark w))) primUP
theorem primR13_ok : ∀ f args m, primR13 f args = some m → ∀ st s st', m st = .ok s st' → CallS repAt Try.prog f args st st' s := primW_ok (fun w h ρ W => markR h ρ W) primUP_ok
end Go.Proofs.Ytpaiejeipghehaa
end
section
/- Runs cut at a region of the text too: a run from point to point goes up to a region of a given number, or to a loop. Condition: the program follows the looser reading of Go's order. -/
namespace Go.Proofs.Ytpaiejeipghehaa

section
variable {R : Type} (P : Program)
/-- As stepC, but ahead of region tgt it stops. -/
def stepR (lib : Lib R) (n sz tgt : Nat) : Nat → Nat → Goer → List Fr → Env → M R (Goer × List Fr × Env)
  | 0, _, _, _, _ => .fail 190
  | k + 1, j, .go c, fs, e => match c with
    | .seq a b => stepR lib n sz tgt k j (.go a) (.sq b :: fs) e
    | .block id c => stepR lib n sz tgt k j (.go c) (.bk id :: fs) e
    | .cond x a b => (M.opt 191 (evX e x)).bind fun
      | .v (.bool t) => (askB t).bind fun
        | true => stepR lib n sz tgt k j (.go a) fs e
        | false => stepR lib n sz tgt k j (.go b) fs e
      | _ => .fail 192
    | .loop c => match j with
      | 0 => .ret (.go (.loop c), fs, e)
      | j' + 1 => (runX P lib n sz (.loop c) e).bind fun r => stepR lib n sz tgt k j' (.out r.1) fs r.2
    | .region id ops d => match Nat.beq id tgt with
      | true => .ret (.go (.region id ops d), fs, e)
      | false => (runX P lib n sz (.region id ops d) e).bind fun r => stepR lib n sz tgt k j (.out r.1) fs r.2
    | c => (runX P lib n sz c e).bind fun r => stepR lib n sz tgt k j (.out r.1) fs r.2
  | k + 1, j, .out x, fs, e => match fs with
    | [] => .ret (.out x, [], e)
    | .sq b :: fs => match x with
      | .nor => stepR lib n sz tgt k j (.go b) fs e
      | x => stepR lib n sz tgt k j (.out x) fs e
    | .bk id :: fs => match x with
      | .out i => match Nat.beq i id with
        | true => stepR lib n sz tgt k j (.out .nor) fs e
        | false => stepR lib n sz tgt k j (.out (.out i)) fs e
      | x => stepR lib n sz tgt k j (.out x) fs e
variable {P} {A : RepAt R} {lib : Lib R} {n sz tgt : Nat} {st st1 st' : St R}

def StepR (A : RepAt R) (P : Program) (sz : Nat) (g : Goer) (fs : List Fr) (e : Env) (st st' : St R) (r : Goer × List Fr × Env) : Prop := Fn st st' ∧ ∀ B F ρ own w a, Sit A P B F st st' ρ own w → EnvR ρ e a → a.tmps.size = sz →
  ∀ (Q : Exit → Act → World → Prop), (∀ a' ρ' own' w', Tr A P B F st st' ρ own w ρ' own' w' → EnvR ρ' r.2.2 a' → a'.tmps.size = sz → a'.defers = a.defers → goWp P r.1 r.2.1 Q a' w') → goWp P g fs Q a w

theorem StepR.run {c : Code} {fs : List Fr} {e e1 : Env} {x : Ex} {r : Goer × List Fr × Env} (h1 : CodeS A P sz (fun Q a w => c.wp P Q a w) e st st1 (x, e1)) (h2 : StepR A P sz (.out x) fs e1 st1 st' r) : StepR A P sz (.go c) fs e st st' r := by
  refine ⟨h1.1.trans h2.1, fun B F ρ own w a si he hz Q hk => ?_⟩
  refine h1.2 B F ρ own w a (si.head h1.1 h2.1) he hz _ (fun a1 ρ1 own1 w1 t1 he1 hz1 hd1 => ?_)
  exact h2.2 B _ ρ1 own1 w1 a1 (si.next h1.1 h2.1 t1) he1 hz1 Q (fun a' ρ' own' w' t2 he2 hz2 hd2 => hk a' ρ' own' w' (t1.trans t2 h1.1 h2.1 (h1.1.wf si.wf)) he2 hz2 (hd2.trans hd1))
theorem StepR.here {g : Goer} {fs : List Fr} {e : Env} : StepR A P sz g fs e st st (g, fs, e) :=
  ⟨Fn.refl _, fun _ _ ρ own w a si he hz _ hk => hk a ρ own w (si.quiet (Quiet.refl _)) he hz rfl⟩

theorem stepR_s (hm : P.follows .mixedOrders = true) (hp : LibOK A P lib) : ∀ {k j : Nat} {g : Goer} {fs : List Fr} {e : Env} {st st' : St R} {r : Goer × List Fr × Env}, stepR P lib n sz tgt k j g fs e st = .ok r st' → StepR A P sz g fs e st st' r
  | 0, _, _, _, _, _, _, _, h => (fail_ok.1 h).elim
  | k + 1, j, .go c, fs, e, st, st', r, h => by
    have hr := (run_s hm hp n).1
    have plain : ∀ {c : Code} {j' : Nat}, (runX P lib n sz c e).bind (fun r => stepR P lib n sz tgt k j' (.out r.1) fs r.2) st = .ok r st' → StepR A P sz (.go c) fs e st st' r := by
      intro c j' h
      obtain ⟨⟨x, e1⟩, st1, h1, h2⟩ := bind_ok.1 h
      exact StepR.run (hr _ _ _ _ _ _ h1) (stepR_s hm hp h2)
    unfold stepR at h
    split at h
    · next a b =>
      obtain ⟨hf, hs⟩ := stepR_s hm hp h
      exact ⟨hf, fun B F ρ own w a si he hz Q hk => wp_seq (hs B F ρ own w a si he hz Q hk)⟩
    · next id c =>
      obtain ⟨hf, hs⟩ := stepR_s hm hp h
      exact ⟨hf, fun B F ρ own w a si he hz Q hk => wp_block (hs B F ρ own w a si he hz Q hk)⟩
    · next x a b =>
      obtain ⟨s, _, h1, h2⟩ := bind_ok.1 h
      obtain ⟨hs, rfl⟩ := opt_ok.1 h1
      split at h2
      · next t =>
        obtain ⟨o, st1, h3, h4⟩ := bind_ok.1 h2
        obtain ⟨q, hq⟩ := ask_ok h3
        have key : ∀ {z : Code}, stepR P lib n sz tgt k j (.go z) fs e st1 = .ok r st' → ((∀ p ∈ st'.ask, p.1 = p.2) → (if t = true then a else b) = z) → StepR A P sz (.go (.cond x a b)) fs e st st' r := by
          intro z hz hsel
          have g := stepR_s hm hp hz
          refine ⟨q.fn.trans g.1, fun B F ρ own w a' si he hsz Q hk => ?_⟩
          have ev := he.ev _ _ hs
          simp only [den, Option.some.injEq] at ev
          refine wp_cond ev.symm ?_
          rw [hsel si.ask]
          exact g.2 B F ρ own w a' (si.of_quiet q) he hsz Q (fun a' ρ' own' w' t' => hk a' ρ' own' w' (Tr.of_quiet q t'))
        cases o with
        | true =>
          refine key h4 (fun ha => ?_)
          rw [hq (fun p hx => ha p ((stepR_s hm hp h4).1.ask p hx)), if_pos rfl]
        | false =>
          refine key h4 (fun ha => ?_)
          rw [hq (fun p hx => ha p ((stepR_s hm hp h4).1.ask p hx))]
          rfl
      · exact (fail_ok.1 h2).elim
    · next c =>
      cases j with
      | zero =>
        obtain ⟨rfl, rfl⟩ := ret_ok.1 h
        exact StepR.here
      | succ j => exact plain h
    · next id ops d =>
      cases hb : Nat.beq id tgt with
      | true =>
        rw [hb] at h
        obtain ⟨rfl, rfl⟩ := ret_ok.1 h
        exact StepR.here
      | false =>
        rw [hb] at h
        exact plain h
    · exact plain h
  | k + 1, j, .out x, fs, e, st, st', r, h => by
    unfold stepR at h
    split at h
    · obtain ⟨rfl, rfl⟩ := ret_ok.1 h
      exact StepR.here
    · next b fs =>
      split at h
      · obtain ⟨hf, hs⟩ := stepR_s hm hp h
        exact ⟨hf, fun B F ρ own w a si he hz Q hk => hs B F ρ own w a si he hz Q hk⟩
      · next hx =>
        obtain ⟨hf, hs⟩ := stepR_s hm hp h
        refine ⟨hf, fun B F ρ own w a si he hz Q hk => ?_⟩
        have := hs B F ρ own w a si he hz Q hk
        cases x with
        | nor => exact absurd rfl hx
        | ret => exact this
        | out i => exact this
    · next id fs =>
      cases x with
      | out i =>
        simp only at h
        cases hb : Nat.beq i id with
        | true =>
          rw [hb] at h
          have hid := Nat.eq_of_beq_eq_true hb
          subst hid
          obtain ⟨hf, hs⟩ := stepR_s hm hp h
          refine ⟨hf, fun B F ρ own w a si he hz Q hk => ?_⟩
          have := hs B F ρ own w a si he hz Q hk
          simpa [goWp, wpF, Exit.inBlock, Ex.exit] using this
        | false =>
          rw [hb] at h
          have hid := Nat.ne_of_beq_eq_false hb
          obtain ⟨hf, hs⟩ := stepR_s hm hp h
          refine ⟨hf, fun B F ρ own w a si he hz Q hk => ?_⟩
          have := hs B F ρ own w a si he hz Q hk
          simpa [goWp, wpF, Exit.inBlock, Ex.exit, hid] using this
      | nor =>
        obtain ⟨hf, hs⟩ := stepR_s hm hp h
        exact ⟨hf, fun B F ρ own w a si he hz Q hk => hs B F ρ own w a si he hz Q hk⟩
      | ret =>
        obtain ⟨hf, hs⟩ := stepR_s hm hp h
        exact ⟨hf, fun B F ρ own w a si he hz Q hk => hs B F ρ own w a si he hz Q hk⟩

variable {pin : Nat} {g g' : Goer} {fs fs' : List Fr} {s s' : Sym R} {Q : Ex → Sym R → Prop}
theorem Tri.runR (hm : P.follows .mixedOrders = true) (hl : LibOK A P lib) {k j : Nat} {o : List (Option Bool)} {r : Goer × List Fr × Env} {st' : St R} (h : stepR P lib n sz tgt k j g fs s.e ⟨s.hp, s.nx, [], [], [], o⟩ = .ok r st') (ha : ∀ p ∈ st'.ask, p.1 = p.2) (hpin : pin ≤ s.nx)
    (ht : Tri A P sz pin r.1 r.2.1 ⟨r.2.2, st'.hp, st'.nx⟩ Q) : Tri A P sz pin g fs s Q := by
  obtain ⟨hf, hs⟩ := stepR_s hm hl h
  intro B ρ own w a hst he hz K hk
  have hwf : Wf (⟨s.hp, s.nx, [], [], [], o⟩ : St R) := ⟨(fun n hn => by cases hn), hst.top⟩
  have hwf' := hf.wf hwf
  refine hs B (fun _ => True) ρ own w a ⟨fun _ _ => trivial, hwf, fun n hn => hst.fresh n hn.1, hst.li, ha, hst.base⟩ he hz K (fun a1 ρ1 own1 w1 t1 he1 hz1 hd1 => ?_)
  have old : ∀ m, m ∈ st'.wr → ¬ newN (⟨s.hp, s.nx, [], [], [], o⟩ : St R) st' m → ∃ c, hget m s.hp = some c := fun m hm hn => by
    rcases hf.al m hm with h1 | h1 | h1
    · cases h1
    · exact absurd ⟨h1, (hwf'.wr m hm).2⟩ hn
    · exact h1
  have way : Way s.hp own w st'.hp own1 w1 := by
    refine ⟨t1.mod.mono fun b _ ⟨m, h1, h2, h3⟩ => ?_, fun n c hc b hb => ?_⟩
    · obtain ⟨c, hc⟩ := old m h1 h2
      exact ⟨m, c, hc, h3⟩
    · by_cases h1 : newN (⟨s.hp, s.nx, [], [], [], o⟩ : St R) st' n ∨ n ∈ st'.wr
      · rcases t1.pool n h1 b hb with h2 | ⟨m, h2, h3, h4⟩
        · exact .inl h2
        · obtain ⟨d, hd⟩ := old m h2 h3
          exact .inr ⟨m, d, hd, h4⟩
      · rw [not_or] at h1
        rw [t1.same n h1.1 h1.2] at hb
        have hlt := hwf'.lt hc
        have h2 : n < s.nx := by
          rcases Nat.lt_or_ge n s.nx with h | h
          · exact h
          · exact absurd ⟨h, hlt⟩ h1.1
        exact .inr ⟨n, c, (hf.hp n h1.2 h2).symm.trans hc, hb⟩
  refine ht B ρ1 own1 w1 a1 ⟨t1.li.sub fun _ _ => .inl trivial, hwf'.top, fun n hn => ?_, Nat.le_trans hst.base t1.mod.size⟩ he1 hz1 K (fun x s2 ρ2 own2 w2 a2 hq h2 he2 hz2 hd2 hw2 hp2 => hk x s2 ρ2 own2 w2 a2 hq h2 he2 hz2 (hd2.trans hd1) (way.trans hw2) (fun n hn => ?_))
  · simp only at hn
    rw [t1.out n (fun h => by have := h.2; omega)]
    exact hst.fresh n (Nat.le_trans hf.nx hn)
  · rw [hp2 n hn, t1.out n (fun h => by have h1 := h.1; simp only at h1; omega)]
/-- The regions of a text, each with what stands round it. -/
def cutsC : Code → List Fr → List (Nat × Code × List Fr)
  | .seq a b, fs => cutsC a (.sq b :: fs) ++ cutsC b fs
  | .block id c, fs => cutsC c (.bk id :: fs)
  | .cond _ a b, fs => cutsC a fs ++ cutsC b fs
  | .region id ops d, fs => [(id, .region id ops d, fs)]
  | _, _ => []
def cutAt (tgt : Nat) : List (Nat × Code × List Fr) → Code × List Fr
  | [] => (.skip, [])
  | (id, c, fs) :: r => match Nat.beq id tgt with
    | true => (c, fs)
    | false => cutAt tgt r
/-- Region tgt within a text. -/
def cutIn (c : Code) (tgt : Nat) : Code × List Fr := cutAt tgt (cutsC c [])
end
section
variable {P : Program}
/-- Kinds of ends, for a choice of what is seen how. -/
def pathR (P : Program) (lib : Lib Rep) (tgt n sz k j : Nat) (cfg : Goer → List Gen × List Nat) (g : Goer) (fs : List Fr) (s : Sym Rep) (o : List (Option Bool)) : Option (Goer × List Fr × Sym Rep × List (Bool × Bool)) := match stepR P lib n sz tgt k j g fs s.e ⟨s.hp, s.nx, [], [], [], o⟩ with
  | .ok (g', fs', e) st => match normX P (cfg g').1 [] (cfg g').2 ⟨e, st.hp, st.nx⟩ with
    | some s' => some (g', fs', s', st.ask)
    | none => none
  | .no _ _ => none
theorem Tri.pathR {lib : Lib Rep} {tgt n sz k j : Nat} {g g' : Goer} {fs fs' : List Fr} {s s' : Sym Rep} {Q : Ex → Sym Rep → Prop} (hm : P.follows .mixedOrders = true) (hl : LibOK repAt P lib) {cfg : Goer → List Gen × List Nat} {o : List (Option Bool)} {asks : List (Bool × Bool)} (h : pathR P lib tgt n sz k j cfg g fs s o = some (g', fs', s', asks)) (ha : AllAsk asks)
    (ht : Tri repAt P sz 0 g' fs' s' Q) : Tri repAt P sz 0 g fs s Q := by
  unfold Go.Proofs.Ytpaiejeipghehaa.pathR at h
  split at h
  · next g1 fs1 e1 st hr =>
    split at h
    · next s1 hs =>
      simp only [Option.some.injEq, Prod.mk.injEq] at h
      obtain ⟨rfl, rfl, rfl, rfl⟩ := h
      exact Tri.runR hm hl hr ha.all (Nat.zero_le _) (Tri.view (norm_view hs) ht)
    · cases h
  · cases h
end
end Go.Proofs.Ytpaiejeipghehaa
end
section
/- Head and Pop of a queue that is known. Conditions: the queue is not nil. -/
namespace Go.Proofs.Ytpaiejeipghehaa
open Go.RowKit

theorem QAt.cells {w : World} {q rb L f t : Nat} {xs : List Ent} (h : QAt w q rb L f t xs) : w.cell? ⟨q, 0, none⟩ = some (.slice (some ⟨rb, 0, none⟩) L L) ∧ w.cell? ⟨q, 1, none⟩ = some (.int .u64 f) ∧ w.cell? ⟨q, 2, none⟩ = some (.int .u64 t) ∧ w.frozen? ⟨q, 0, none⟩ = false ∧ w.frozen? ⟨q, 1, none⟩ = false ∧ w.frozen? ⟨q, 2, none⟩ = false :=
  ⟨h.blk.cell 0, h.blk.cell 1, h.blk.cell 2, h.blk.frozen 0, h.blk.frozen 1, h.blk.frozen 2⟩
theorem QAt.elem {w : World} {q rb L f t : Nat} {xs : List Ent} (h : QAt w q rb L f t xs) (i : Nat) (e : Ent) (hi : xs[i]? = some e) :
    w.cell? ⟨rb, ((f + i) % L) * 3, none⟩ = some (.int .i64 e.1) ∧ w.cell? ⟨rb, ((f + i) % L) * 3 + 1, none⟩ = some (.int .i64 e.2.1) ∧ w.cell? ⟨rb, ((f + i) % L) * 3 + 2, none⟩ = some (.int .i64 e.2.2) := by
  obtain ⟨R, hl, hb, hr⟩ := h.ring
  have hlt : i < xs.length := by
    rcases Nat.lt_or_ge i xs.length with h1 | h1
    · exact h1
    · rw [List.getElem?_eq_none h1] at hi; cases hi
  have h1 := hr i hlt
  rw [hi] at h1
  refine ⟨?_, ?_, ?_⟩
  · have := flat_get ent_len R ((f + i) % L) 0 (by omega)
    rw [hb.cell, ← Nat.add_zero ((f + i) % L * 3), this, h1]; rfl
  · rw [hb.cell, flat_get ent_len R ((f + i) % L) 1 (by omega), h1]; rfl
  · rw [hb.cell, flat_get ent_len R ((f + i) % L) 2 (by omega), h1]; rfl
theorem QAt.mod {S : List Nat} {w w' : World} {q rb L f t : Nat} {xs : List Ent} (h : QAt w q rb L f t xs) (hm : Mod S w w') (h1 : q ∉ S) (h2 : rb ∉ S) : QAt w' q rb L f t xs := by
  obtain ⟨R, hl, hb, hr⟩ := h.ring
  exact ⟨h.blk.mod hm h1, ⟨R, hl, hb.mod hm h2, hr⟩, h.pow, h.pos, h.big, h.len, h.fits, h.bound⟩

theorem len_any {w : World} {q rb L f t : Nat} {xs : List Ent} (h : QAt w q rb L f t xs) :
    Calls Try.prog 87 #[.pointer (some ⟨q, 0, none⟩)] w fun e w' => e = .returned (.int .i64 xs.length) ∧ ∃ n, w' = w.drewN n := by
  obtain ⟨c0, c1, c2, _⟩ := h.cells
  have e : (xs.length : Int) = (t : Int) - f := by have := h.len; omega
  rw [e]
  exact len_cells q f t w (by have := h.len; omega) h.bound c1 c2

theorem at_any {w : World} {q rb L f t n : Nat} {xs : List Ent} (h : QAt w q rb L f t xs) (hn : n < 1099511627776) {m : Int} (hm : m = n) :
    Calls Try.prog 88 #[.pointer (some ⟨q, 0, none⟩), .int .u64 m] w fun e w' => e = .returned (.pointer (some ⟨rb, (n % L) * 3, none⟩)) ∧ ∃ n, w' = w.drewN n := by
  obtain ⟨c0, c1, c2, _⟩ := h.cells
  obtain ⟨k, rfl⟩ := h.pow
  subst hm
  exact at_cells q rb k n w h.big hn c0

theorem head_none {w : World} {q rb L f t : Nat} (h : QAt w q rb L f t []) :
    Calls Try.prog 69 #[.pointer (some ⟨q, 0, none⟩)] w fun e w' => e = .returned (.tuple #[.agg #[.int .i64 0, .int .i64 0, .int .i64 0], .bool false]) ∧ Mod [] w w' := by
  have hz := h.blk.lt
  have H := fun o => len_any (h.mod (Mod.alloc (Mod.refl [] w) o) (by simp) (by simp))
  clear h
  go_enter Try.func69, Try.ntmps69
  go_wp2_with (go_at_call 87; refine (H _).mono ?_; rintro e w' ⟨rfl, n, rfl⟩)
  go_returns
  exact ⟨rfl, by (repeat (first | exact Mod.refl _ _ | (with_reducible assumption) | (refine Mod.drewN ?_ _) | (refine Mod.drew ?_) | (refine Mod.alloc ?_ _) | (refine Mod.setCell ?_ ?_ _; rotate_left; focus (first | omega | (simp; done) | (simp; omega)))))⟩

theorem head_some {w : World} {q rb L f t : Nat} {x : Ent} {xs : List Ent} (h : QAt w q rb L f t (x :: xs)) :
    Calls Try.prog 69 #[.pointer (some ⟨q, 0, none⟩)] w fun e w' => e = .returned (.tuple #[.agg #[.int .i64 x.1, .int .i64 x.2.1, .int .i64 x.2.2], .bool true]) ∧ Mod [] w w' := by
  have hz := h.blk.lt
  have H := fun o => len_any (h.mod (Mod.alloc (Mod.refl [] w) o) (by simp) (by simp))
  have H2 := fun o n => at_any (n := f) (h.mod ((Mod.alloc (Mod.refl [] w) o).drewN n) (by simp) (by simp)) (by have := h.len; have := h.bound; omega) rfl
  obtain ⟨c0, c1, c2, _⟩ := h.cells
  obtain ⟨e0, e1, e2⟩ := h.elem 0 x rfl
  have hrb : rb < w.heap.size := by obtain ⟨R, _, hb, _⟩ := h.ring; exact hb.lt
  have hne : ((((x :: xs).length : Nat) : Int) == 0) = false := by simp; omega
  generalize ((x :: xs).length : Int) = len at *
  simp only [Nat.add_zero] at e0 e1 e2
  clear h
  go_enter Try.func69, Try.ntmps69
  go_wp2_with (first | (go_at_call 87; refine (H _).mono ?_; rintro e w' ⟨rfl, n, rfl⟩) | (go_at_call 88; refine (H2 _ _).mono ?_; rintro e w' ⟨rfl, m, rfl⟩))
  go_returns
  exact ⟨rfl, by (repeat (first | exact Mod.refl _ _ | (with_reducible assumption) | (refine Mod.drewN ?_ _) | (refine Mod.drew ?_) | (refine Mod.alloc ?_ _) | (refine Mod.setCell ?_ ?_ _; rotate_left; focus (first | omega | (simp; done) | (simp; omega)))))⟩
end Go.Proofs.Ytpaiejeipghehaa
end
section
/- Pop and Room of a queue that is known; methods of a nil queue. Conditions: none but that the queue is known. -/
namespace Go.Proofs.Ytpaiejeipghehaa
open Go.RowKit

theorem QAt.rlt {w : World} {q rb L f t : Nat} {xs : List Ent} (h : QAt w q rb L f t xs) : rb < w.heap.size := by
  obtain ⟨R, _, hb, _⟩ := h.ring
  exact hb.lt
theorem QAt.ne_ {w : World} {q rb L f t : Nat} {xs : List Ent} (h : QAt w q rb L f t xs) : q ≠ rb := by
  obtain ⟨R, _, hb, _⟩ := h.ring
  exact h.blk.ne_ hb (by decide)
theorem QAt.popped {w : World} {q rb L f t : Nat} {x : Ent} {xs : List Ent} (h : QAt w q rb L f t (x :: xs)) : QAt (w.setCell ⟨q, 1, none⟩ (.int .u64 ((f : Int) + 1))) q rb L (f + 1) t xs := by
  obtain ⟨R, hl, hb, hr⟩ := h.ring
  have hlen := h.len
  have hfits := h.fits
  simp only [List.length_cons] at hlen hfits
  refine ⟨by simpa using h.blk.set_ 1 (.int .u64 ((f : Int) + 1)), ⟨R, hl, hb.far h.ne_.symm _, fun i hi => ?_⟩, h.pow, h.pos, h.big, by omega, by omega, h.bound⟩
  have := hr (i + 1) (by simp; omega)
  rw [show f + 1 + i = f + (i + 1) from by omega, this]
  simp

theorem len_nil (w : World) : Calls Try.prog 87 #[.pointer none] w fun e w' => e = .returned (.int .i64 0) ∧ w = w' := by
  go_enter Try.func87, Try.ntmps87
  go_wp2
  go_ret
  exact ⟨rfl, rfl⟩
theorem head_nil (w : World) : Calls Try.prog 69 #[.pointer none] w fun e w' => e = .returned (.tuple #[.agg #[.int .i64 0, .int .i64 0, .int .i64 0], .bool false]) ∧ Mod [] w w' := by
  go_enter Try.func69, Try.ntmps69
  go_wp2_with (go_at_call 87; refine (len_nil _).mono ?_; rintro e w' ⟨rfl, rfl⟩)
  go_returns
  exact ⟨rfl, by (repeat (first | exact Mod.refl _ _ | (with_reducible assumption) | (refine Mod.drewN ?_ _) | (refine Mod.drew ?_) | (refine Mod.alloc ?_ _) | (refine Mod.setCell ?_ ?_ _; rotate_left; focus (first | omega | (simp; done) | (simp; omega)))))⟩
end Go.Proofs.Ytpaiejeipghehaa
end
section
/- Laws on slices of structs that a call made itself: copy out of such a slice into a row. No condition. -/
namespace Go.Proofs.Ytpaiejeipghehaa
open Go.RowKit

section
variable {P : Program}
theorem run_copy_owned (w : World) (dT sT ty elem : TypeId) (g dLen dCap : Nat) (v : Value) (n sz base : Nat) (e : TypeId) (xs cur : List Value) (t : TypeId)
    (hown : w.ownsRow base e sz v n xs) (hu : P.underlying dT = some (.slice elem)) (hs : (P.info? elem).map (·.size) = some sz)
    (hg : Blk w g t cur) (hn : n ≤ dLen) (hfit : xs.length ≤ cur.length) (h1 : ∀ u ∈ xs, u.oneCell' = true) :
    ∃ w', (Builtin.copy_ #[dT, sT] ty #[.slice (some ⟨g, 0, none⟩) dLen dCap, v]).run P w = .ok (goInt n) w' ∧ Blk w' g t (xs ++ cur.drop xs.length) ∧ w.grownBy w' (some g) := by
  cases hq : P.info? elem with
  | none => simp [hq] at hs
  | some i =>
    have hi : i.size = sz := by simpa [hq] using hs
    rcases hown.2 with ⟨rfl, rfl⟩ | ⟨g', cap, cur', rfl, _, hg', hnc, _, hsz, htake⟩
    · have hx : xs = [] := List.eq_nil_of_length_eq_zero (by simpa using hown.1)
      subst hx
      refine ⟨w, ?_, by simpa using hg, World.grownBy.refl _ _⟩
      simp [Builtin.copy_, run_underlying hu, Builtin.lenOf, Builtin.firstCells, sizeOf, typeInfo, hq, storeCells]
    · have hl := run_loadCells_list (P := P) w ⟨g', 0, none⟩ xs (hown.cells (g := g') rfl)
      have hst := run_storeCells_at P g 0 t xs 0 cur.toArray w hg (by simpa using hfit) h1
      refine ⟨_, ?_, setRow_heap w g _ _ t _ hg, ?_⟩
      · have hmin : Nat.min n dLen = n := Nat.min_eq_left hn
        have hlen := hown.1
        simp [Builtin.copy_, run_underlying hu, Builtin.lenOf, Builtin.firstCells, sizeOf, typeInfo, hq, hi, hmin, ← hlen, hl, hst]
      · exact ⟨rfl, rfl, rfl, by simp, fun k _ hk => setRow_other w g k _ (fun e => hk (by rw [e]))⟩

theorem wpList_copy_owned {w : World} {ops : Array Oper} {rest : List Oper} {o : Oper} {a : Act} {Q : Exit → Act → World → Prop} (hgd : o.guard = none) (d s : Operand) (dT sT : TypeId)
    (ho : o.op = .call { callee := .builtin .copy, args := #[d, s], argTypes := #[dT, sT] }) (elem : TypeId) (hu : P.underlying dT = some (.slice elem)) (sz : Nat) (hs : (P.info? elem).map (·.size) = some sz)
    (g dLen dCap : Nat) (v : Value) (hd : a.eval d = .slice (some ⟨g, 0, none⟩) dLen dCap) (hv : a.eval s = v) (n base : Nat) (e : TypeId) (xs cur : List Value) (t : TypeId)
    (hown : w.ownsRow base e sz v n xs) (hg : Blk w g t cur) (hn : n ≤ dLen) (hfit : xs.length ≤ cur.length) (h1 : ∀ u ∈ xs, u.oneCell' = true)
    (h : ∀ w', Blk w' g t (xs ++ cur.drop xs.length) → w.grownBy w' (some g) → wpList P ops Q rest (a.put o.dst (goInt n)) w') : wpList P ops Q (o :: rest) a w := by
  refine wpList_plain hgd fun K hK => ?_
  obtain ⟨w', hrun, hb, hgr⟩ := run_copy_owned (P := P) w dT sT o.type elem g dLen dCap v n sz base e xs cur t hown hu hs hg hn hfit h1
  unfold Oper.wp
  simp [execOp, ho, resolve, invoke, builtin, hd, hv, hrun, Result.andThen]
  exact hK _ _ (h w' hb hgr)
end

theorem Blk.of_own {w : World} {base e sz g n : Nat} {xs : List Value} (h : w.ownsRow base e sz (.slice (some ⟨g, 0, none⟩) n n) n xs) : Blk w g e xs ∧ base ≤ g := by
  rcases h.2 with ⟨h0, _⟩ | ⟨g', cap, cur, hv, hb, hg, _, _, hs, ht⟩
  · cases h0
  · injection hv with h1 _ h3
    injection h1 with h1
    injection h1 with h1
    subst h1
    subst h3
    refine ⟨?_, hb⟩
    unfold Blk
    rw [hg, ← ht, ← hs, ← Array.length_toList, List.take_length]

theorem made_flat {α : Type} {enc : α → List Value} {sz : Nat} (h : ∀ a, (enc a).length = sz) (hp : 0 < sz) (z : Array Value) (x : α) (hz : z.toList = enc x) (n : Nat) :
    (madeCells z (n * sz)).toList = flat enc (List.replicate n x) := by
  have hzs : z.size = sz := by rw [← Array.length_toList, hz, h]
  have hl := flat_length h (List.replicate n x)
  rw [List.length_replicate] at hl
  apply List.ext_getElem?
  intro k
  rcases Nat.lt_or_ge k (n * sz) with hk | hk
  · have hj := Nat.mod_lt k hp
    have hi : k / sz < n := Nat.div_lt_of_lt_mul (by rw [Nat.mul_comm]; exact hk)
    have hf := flat_get h (List.replicate n x) (k / sz) (k % sz) hj
    rw [Nat.div_add_mod' k sz] at hf
    rw [hf]
    have hjz : k % sz < z.size := by omega
    simp only [madeCells, hzs, Array.toList_map, Array.toList_range, List.getElem?_map, List.getElem?_range hk, Option.map_some, List.getElem?_replicate, if_pos hi, Option.bind_some, ← hz, Array.getElem?_toList]
    rw [Array.getElem?_eq_getElem hjz, getElem!_pos z (k % sz) hjz]
  · rw [List.getElem?_eq_none (by simpa [madeCells] using hk), List.getElem?_eq_none (by omega)]

theorem Blk.new' {g : Nat} (w : World) (t : TypeId) (cs : List Value) (h : g = w.heap.size) : Blk (w.alloc (.cells cs.toArray t)) g t cs := by
  subst h
  exact Blk.new w t cs

theorem own_form {w : World} {base e sz n : Nat} {v : Value} {xs : List Value} (h : w.ownsRow base e sz v n xs) : ∃ A c, v = .slice A n c := by
  rcases h.2 with ⟨rfl, rfl⟩ | ⟨g, cap, cur, rfl, _⟩
  · exact ⟨none, 0, rfl⟩
  · exact ⟨_, _, rfl⟩

/-- A slice value of address A reads as these cells, from place o of block b on. -/
def Rd (w : World) (b o : Nat) (A : Option Addr) (cells : List Value) : Prop := ∀ j u, cells[j]? = some u → A = some ⟨b, o, none⟩ ∧ w.cell? ⟨b, o + j, none⟩ = some u
theorem Rd.mod {S : List Nat} {w w' : World} {b o : Nat} {A : Option Addr} {cs : List Value} (h : Rd w b o A cs) (hm : Mod S w w') (hb : cs ≠ [] → b ∉ S) : Rd w' b o A cs := fun j u hj =>
  ⟨(h j u hj).1, (hm.cell (p := ⟨b, o + j, none⟩) (World.block_lt_of_cell? w _ (h j u hj).2) (hb (fun e => by subst e; cases hj))).trans (h j u hj).2⟩
theorem Rd.lt {w : World} {b o : Nat} {A : Option Addr} {cs : List Value} (h : Rd w b o A cs) (hn : cs ≠ []) : b < w.heap.size := by
  obtain ⟨x, l, rfl⟩ := List.exists_cons_of_ne_nil hn
  exact World.block_lt_of_cell? w _ (h 0 x rfl).2

theorem Rd.of_own {w : World} {base e sz n c : Nat} {A : Option Addr} {cs : List Value} (h : w.ownsRow base e sz (.slice A n c) n cs) : ∃ b, Rd w b 0 A cs ∧ (cs ≠ [] → base ≤ b) := by
  rcases h.2 with ⟨h0, hn⟩ | ⟨g, cap, cur, hv, hb, hg, r⟩
  · refine ⟨0, fun j u hj => ?_, fun hne => ?_⟩
    · have hx : cs = [] := List.eq_nil_of_length_eq_zero (by rw [h.1, hn]; simp)
      subst hx
      cases hj
    · exact absurd (List.eq_nil_of_length_eq_zero (by rw [h.1, hn]; simp)) hne
  · injection hv with hA
    subst hA
    refine ⟨g, fun j u hj => ⟨rfl, ?_⟩, fun _ => hb⟩
    have := h.cells (g := g) rfl j u hj
    rw [← this]
    unfold Addr.add
    split <;> simp_all

section
variable {P : Program}
/-- append onto a row of the call's own, from a row that is known whole (nil let in). -/
theorem run_append_owned (w : World) (t ty base e : TypeId) (i : TypeInfo) (z : Value) (size bytes : Nat) (ht : P.underlying t = some (.slice e)) (hi : P.info? e = some i) (hz : i.zero = some z)
    (hsize : i.size = size) (hby : i.bytes = bytes) (hzs : z.cells.size = size) (hsz : 0 < size)
    (v : Value) (n : Nat) (xs : List Value) (hown : w.ownsRow base e size v n xs)
    (s : Value) (m base' e' : Nat) (ys : List Value) (hs : w.ownsRow base' e' size s m ys) (h1 : ∀ u ∈ ys, u.oneCell' = true)
    (h63 : n + m ≤ maxLen) (hbytes : (n + m) * bytes ≤ 140737488355328) (hbase : base ≤ w.heap.size) :
    ∃ A c w', (Builtin.append_ #[t, t] ty #[v, s]).run P w = .ok (.slice A (n + m) c) w' ∧ w'.ownsRow base e size (.slice A (n + m) c) (n + m) (xs ++ ys) ∧ w.grownBy w' v.ownBlock ∧
      ((Value.slice A (n + m) c).ownBlock = v.ownBlock ∨ (Value.slice A (n + m) c).ownBlock = some w.heap.size) := by
  rcases hs.2 with ⟨rfl, rfl⟩ | ⟨g, cap, cur, rfl, _, _, _⟩
  · have hx : ys = [] := List.eq_nil_of_length_eq_zero (by simpa using hs.1)
    subst hx
    obtain ⟨A, c, rfl⟩ := own_form hown
    exact ⟨A, c, w, run_append_owned_none (P := P) w base t ty e i size ht hi _ n xs hown, by simpa using hown, World.grownBy.refl _ _, .inl rfl⟩
  · obtain ⟨v', w', hrun, h2, h3, _, h5⟩ := run_append_own_at (P := P) w base t ty e i z size bytes ht hi hz hsize hby hzs hsz v n xs hown ⟨g, 0, none⟩ m cap ys hs.1 (hs.cells rfl) h1 h63 hbytes hbase
    obtain ⟨A, c, rfl⟩ := own_form h2
    exact ⟨A, c, w', hrun, h2, h3, h5⟩

theorem wp_append_owned {w : World} {o : Oper} {a : Act} {K : Act → World → Prop} {Q : Exit → Act → World → Prop} (s x : Operand) (t : TypeId)
    (ho : o.op = .call { callee := .builtin .append, args := #[s, x], argTypes := #[t, t] })
    (base e : TypeId) (i : TypeInfo) (z : Value) (size bytes : Nat) (ht : P.underlying t = some (.slice e)) (hi : P.info? e = some i) (hz : i.zero = some z)
    (hsize : i.size = size) (hby : i.bytes = bytes) (hzs : z.cells.size = size) (hsz : 0 < size)
    (v : Value) (n : Nat) (xs : List Value) (hv : a.eval s = v) (hown : w.ownsRow base e size v n xs)
    (y : Value) (m base' e' : Nat) (ys : List Value) (hy : a.eval x = y) (hs : w.ownsRow base' e' size y m ys) (h1 : ∀ u ∈ ys, u.oneCell' = true)
    (h63 : n + m ≤ maxLen) (hbytes : (n + m) * bytes ≤ 140737488355328) (hbase : base ≤ w.heap.size)
    (h : ∀ A c w', w'.ownsRow base e size (.slice A (n + m) c) (n + m) (xs ++ ys) → w.grownBy w' v.ownBlock → ((Value.slice A (n + m) c).ownBlock = v.ownBlock ∨ (Value.slice A (n + m) c).ownBlock = some w.heap.size) → K (a.put o.dst (.slice A (n + m) c)) w') : o.wp P a w K Q := by
  obtain ⟨A, c, w', hr, h2, h3, h4⟩ := run_append_owned (P := P) w t o.type base e i z size bytes ht hi hz hsize hby hzs hsz v n xs hown y m base' e' ys hs h1 h63 hbytes hbase
  unfold Oper.wp execOp
  simp only [ho, resolve, invoke, builtin, Sem.run_bind, Sem.run_pure, Result.andThen_ok, List.map_toArray, List.map_cons, List.map_nil, hv, hy, hr]
  exact h A c w' h2 h3 h4

theorem wpList_append_owned {w : World} {ops : Array Oper} {rest : List Oper} {o : Oper} {a : Act} {Q : Exit → Act → World → Prop} (hgd : o.guard = none) (s x : Operand) (t : TypeId)
    (ho : o.op = .call { callee := .builtin .append, args := #[s, x], argTypes := #[t, t] })
    (base e : TypeId) (i : TypeInfo) (z : Value) (size bytes : Nat) (ht : P.underlying t = some (.slice e)) (hi : P.info? e = some i) (hz : i.zero = some z)
    (hsize : i.size = size) (hby : i.bytes = bytes) (hzs : z.cells.size = size) (hsz : 0 < size)
    (v : Value) (n : Nat) (xs : List Value) (hv : a.eval s = v) (hown : w.ownsRow base e size v n xs)
    (y : Value) (m base' e' : Nat) (ys : List Value) (hy : a.eval x = y) (hs : w.ownsRow base' e' size y m ys) (h1 : ∀ u ∈ ys, u.oneCell' = true)
    (h63 : n + m ≤ maxLen) (hbytes : (n + m) * bytes ≤ 140737488355328) (hbase : base ≤ w.heap.size)
    (h : ∀ A c w', w'.ownsRow base e size (.slice A (n + m) c) (n + m) (xs ++ ys) → w.grownBy w' v.ownBlock → ((Value.slice A (n + m) c).ownBlock = v.ownBlock ∨ (Value.slice A (n + m) c).ownBlock = some w.heap.size) → wpList P ops Q rest (a.put o.dst (.slice A (n + m) c)) w') : wpList P ops Q (o :: rest) a w :=
  wpList_plain hgd fun _ hK => wp_append_owned s x t ho base e i z size bytes ht hi hz hsize hby hzs hsz v n xs hv hown y m base' e' ys hy hs h1 h63 hbytes hbase fun A c w' h2 h3 h4 => hK _ _ (h A c w' h2 h3 h4)

theorem step_append_owned {w : World} {ops : Array Oper} {o : Oper} {a : Act} {K : Act → World → Prop} {Q : Exit → Act → World → Prop} {E : Prop} (hgd : o.guard = none) (s x : Operand) (t : TypeId)
    (ho : o.op = .call { callee := .builtin .append, args := #[s, x], argTypes := #[t, t] })
    (base e : TypeId) (i : TypeInfo) (z : Value) (size bytes : Nat) (ht : P.underlying t = some (.slice e)) (hi : P.info? e = some i) (hz : i.zero = some z)
    (hsize : i.size = size) (hby : i.bytes = bytes) (hzs : z.cells.size = size) (hsz : 0 < size)
    (v : Value) (n : Nat) (xs : List Value) (hv : a.eval s = v) (hown : w.ownsRow base e size v n xs)
    (y : Value) (m base' e' : Nat) (ys : List Value) (hy : a.eval x = y) (hs : w.ownsRow base' e' size y m ys) (h1 : ∀ u ∈ ys, u.oneCell' = true)
    (h63 : n + m ≤ maxLen) (hbytes : (n + m) * bytes ≤ 140737488355328) (hbase : base ≤ w.heap.size)
    (h : ∀ A c w', w'.ownsRow base e size (.slice A (n + m) c) (n + m) (xs ++ ys) → w.grownBy w' v.ownBlock → ((Value.slice A (n + m) c).ownBlock = v.ownBlock ∨ (Value.slice A (n + m) c).ownBlock = some w.heap.size) → K (a.put o.dst (.slice A (n + m) c)) w') :
    if Region.wanted o (yielded ops a.tmps) = true then Oper.wp P o a w K Q else E := by
  have hw : Region.wanted o (yielded ops a.tmps) = true := by simp [Region.wanted, hgd]
  rw [if_pos hw]
  exact wp_append_owned s x t ho base e i z size bytes ht hi hz hsize hby hzs hsz v n xs hv hown y m base' e' ys hy hs h1 h63 hbytes hbase h

theorem ownsRow_base {w : World} {base base' e sz n : Nat} {v : Value} {xs : List Value} (h : w.ownsRow base e sz v n xs) (hb : base' ≤ base) : w.ownsRow base' e sz v n xs := by
  refine ⟨h.1, ?_⟩
  rcases h.2 with h0 | ⟨g, cap, cur, hv, hg, r⟩
  · exact .inl h0
  · exact .inr ⟨g, cap, cur, hv, Nat.le_trans hb hg, r⟩

/-- append([]T{}, s...): a copy. -/
theorem run_append_clone (w : World) (t ty base e : TypeId) (i : TypeInfo) (z : Value) (size bytes : Nat) (ht : P.underlying t = some (.slice e)) (hi : P.info? e = some i) (hz : i.zero = some z)
    (hsize : i.size = size) (hby : i.bytes = bytes) (hzs : z.cells.size = size) (hsz : 0 < size)
    (g : Nat) (hown : w.ownsRow base e size (.slice (some ⟨g, 0, none⟩) 0 0) 0 [])
    (s : Value) (m base' e' : Nat) (ys : List Value) (hs : w.ownsRow base' e' size s m ys) (h1 : ∀ u ∈ ys, u.oneCell' = true)
    (h63 : m ≤ maxLen) (hbytes : m * bytes ≤ 140737488355328) (hbase : base ≤ w.heap.size) :
    ∃ A c w', (Builtin.append_ #[t, t] ty #[.slice (some ⟨g, 0, none⟩) 0 0, s]).run P w = .ok (.slice A m c) w' ∧ w'.ownsRow base e size (.slice A m c) m ys ∧ w.grownBy w' none := by
  rcases hs.2 with ⟨rfl, rfl⟩ | ⟨g', cap, cur, rfl, _, _, _⟩
  · have hx : ys = [] := List.eq_nil_of_length_eq_zero (by simpa using hs.1)
    subst hx
    exact ⟨_, _, w, run_append_owned_none (P := P) w base t ty e i size ht hi _ 0 [] hown, hown, World.grownBy.refl _ _⟩
  · rcases Nat.eq_zero_or_pos m with hm | hm
    · subst hm
      have hx : ys = [] := List.eq_nil_of_length_eq_zero (by simpa using hs.1)
      subst hx
      obtain ⟨hb, _⟩ := Blk.of_own hown
      have hr := run_append_room (P := P) w t ty e i ht hi g 0 0 #[] hb ⟨g', 0, none⟩ 0 cap [] (by simp) (by simp) (by simp) (by omega) (by simp)
      refine ⟨_, _, w, ?_, hown, World.grownBy.refl _ _⟩
      rw [hr]
      simp [setRow_self w g #[] e (0, 0) hb]
    · obtain ⟨v', w', hrun, h2, h3⟩ := run_append_arg_grows (P := P) w t ty e i z size bytes ht hi hz hsize hby hzs hsz ⟨g, 0, none⟩ 0 0 [] (by simp) (by simp) ⟨g', 0, none⟩ m cap ys hs.1 (hs.cells rfl) (by omega) (by omega) (by rw [Nat.zero_add]; exact hbytes)
      rw [Nat.zero_add] at h2
      obtain ⟨A, c, rfl⟩ := own_form h2
      exact ⟨A, c, w', hrun, ownsRow_base (by simpa using h2) hbase, h3⟩

theorem wpList_append_clone {w : World} {ops : Array Oper} {rest : List Oper} {o : Oper} {a : Act} {Q : Exit → Act → World → Prop} (hgd : o.guard = none) (s x : Operand) (t : TypeId)
    (ho : o.op = .call { callee := .builtin .append, args := #[s, x], argTypes := #[t, t] })
    (base e : TypeId) (i : TypeInfo) (z : Value) (size bytes : Nat) (ht : P.underlying t = some (.slice e)) (hi : P.info? e = some i) (hz : i.zero = some z)
    (hsize : i.size = size) (hby : i.bytes = bytes) (hzs : z.cells.size = size) (hsz : 0 < size)
    (g : Nat) (hv : a.eval s = .slice (some ⟨g, 0, none⟩) 0 0) (hown : w.ownsRow base e size (.slice (some ⟨g, 0, none⟩) 0 0) 0 [])
    (y : Value) (m base' e' : Nat) (ys : List Value) (hy : a.eval x = y) (hs : w.ownsRow base' e' size y m ys) (h1 : ∀ u ∈ ys, u.oneCell' = true)
    (h63 : m ≤ maxLen) (hbytes : m * bytes ≤ 140737488355328) (hbase : base ≤ w.heap.size)
    (h : ∀ A c w', w'.ownsRow base e size (.slice A m c) m ys → w.grownBy w' none → wpList P ops Q rest (a.put o.dst (.slice A m c)) w') : wpList P ops Q (o :: rest) a w := by
  refine wpList_plain hgd fun K hK => ?_
  obtain ⟨A, c, w', hr, h2, h3⟩ := run_append_clone (P := P) w t o.type base e i z size bytes ht hi hz hsize hby hzs hsz g hown y m base' e' ys hs h1 h63 hbytes hbase
  unfold Oper.wp execOp
  simp only [ho, resolve, invoke, builtin, Sem.run_bind, Sem.run_pure, Result.andThen_ok, List.map_toArray, List.map_cons, List.map_nil, hv, hy, hr]
  exact hK _ _ (h A c w' h2 h3)

/-- The same from a slice of which it is known how it reads. -/
theorem run_append_clone_rd (w : World) (t ty base e : TypeId) (i : TypeInfo) (z : Value) (size bytes : Nat) (ht : P.underlying t = some (.slice e)) (hi : P.info? e = some i) (hz : i.zero = some z)
    (hsize : i.size = size) (hby : i.bytes = bytes) (hzs : z.cells.size = size) (hsz : 0 < size)
    (g : Nat) (hown : w.ownsRow base e size (.slice (some ⟨g, 0, none⟩) 0 0) 0 [])
    (A : Option Addr) (m c b o : Nat) (ys : List Value) (hA : A = none → c = 0) (hr : Rd w b o A ys) (hl : ys.length = m * size) (h1 : ∀ u ∈ ys, u.oneCell' = true)
    (h63 : m ≤ maxLen) (hbytes : m * bytes ≤ 140737488355328) (hbase : base ≤ w.heap.size) :
    ∃ A' c' w', (Builtin.append_ #[t, t] ty #[.slice (some ⟨g, 0, none⟩) 0 0, .slice A m c]).run P w = .ok (.slice A' m c') w' ∧ w'.ownsRow base e size (.slice A' m c') m ys ∧ w.grownBy w' none := by
  rcases Nat.eq_zero_or_pos m with hm | hm
  · subst hm
    have hx : ys = [] := List.eq_nil_of_length_eq_zero (by simpa using hl)
    subst hx
    rcases A with _ | ad
    · obtain rfl := hA rfl
      exact ⟨_, _, w, run_append_owned_none (P := P) w base t ty e i size ht hi _ 0 [] hown, hown, World.grownBy.refl _ _⟩
    · obtain ⟨hb, _⟩ := Blk.of_own hown
      have hr := run_append_room (P := P) w t ty e i ht hi g 0 0 #[] hb ad 0 c [] (by simp) (by simp) (by simp) (by omega) (by simp)
      refine ⟨_, _, w, ?_, hown, World.grownBy.refl _ _⟩
      rw [hr]
      simp [setRow_self w g #[] e (0, 0) hb]
  · have hne : ys ≠ [] := by
      intro e0
      subst e0
      have := Nat.mul_pos hm hsz
      simp at hl
      omega
    obtain ⟨x, l, hx⟩ := List.exists_cons_of_ne_nil hne
    obtain ⟨rfl, _⟩ := hr 0 x (by rw [hx]; rfl)
    obtain ⟨v', w', hrun, h2, h3⟩ := run_append_arg_grows (P := P) w t ty e i z size bytes ht hi hz hsize hby hzs hsz ⟨g, 0, none⟩ 0 0 [] (by simp) (by simp) ⟨b, o, none⟩ m c ys hl
      (fun j u hj => by have := (hr j u hj).2; rw [← this]; unfold Addr.add; split <;> simp_all) (by omega) (by omega) (by rw [Nat.zero_add]; exact hbytes)
    rw [Nat.zero_add] at h2
    obtain ⟨A', c', rfl⟩ := own_form h2
    exact ⟨A', c', w', hrun, ownsRow_base (by simpa using h2) hbase, h3⟩

theorem wpList_append_clone_rd {w : World} {ops : Array Oper} {rest : List Oper} {o : Oper} {a : Act} {Q : Exit → Act → World → Prop} (hgd : o.guard = none) (s x : Operand) (t : TypeId)
    (ho : o.op = .call { callee := .builtin .append, args := #[s, x], argTypes := #[t, t] })
    (base e : TypeId) (i : TypeInfo) (z : Value) (size bytes : Nat) (ht : P.underlying t = some (.slice e)) (hi : P.info? e = some i) (hz : i.zero = some z)
    (hsize : i.size = size) (hby : i.bytes = bytes) (hzs : z.cells.size = size) (hsz : 0 < size)
    (g : Nat) (hv : a.eval s = .slice (some ⟨g, 0, none⟩) 0 0) (hown : w.ownsRow base e size (.slice (some ⟨g, 0, none⟩) 0 0) 0 [])
    (A : Option Addr) (m c b off : Nat) (ys : List Value) (hy : a.eval x = .slice A m c) (hA : A = none → c = 0) (hr : Rd w b off A ys) (hl : ys.length = m * size) (h1 : ∀ u ∈ ys, u.oneCell' = true)
    (h63 : m ≤ maxLen) (hbytes : m * bytes ≤ 140737488355328) (hbase : base ≤ w.heap.size)
    (h : ∀ A c w', w'.ownsRow base e size (.slice A m c) m ys → w.grownBy w' none → wpList P ops Q rest (a.put o.dst (.slice A m c)) w') : wpList P ops Q (o :: rest) a w := by
  refine wpList_plain hgd fun K hK => ?_
  obtain ⟨A', c', w', hrun, h2, h3⟩ := run_append_clone_rd (P := P) w t o.type base e i z size bytes ht hi hz hsize hby hzs hsz g hown A m c b off ys hA hr hl h1 h63 hbytes hbase
  unfold Oper.wp execOp
  simp only [ho, resolve, invoke, builtin, Sem.run_bind, Sem.run_pure, Result.andThen_ok, List.map_toArray, List.map_cons, List.map_nil, hv, hy, hrun]
  exact hK _ _ (h A' c' w' h2 h3)
end
end Go.Proofs.Ytpaiejeipghehaa
end
section
/- List of a queue that is known: new memory that holds its entries in order. -/
namespace Go.Proofs.Ytpaiejeipghehaa
open Go.RowKit

theorem infoEntry : (Try.prog.info? 62).map (fun i => (i.zero, i.size, i.bytes)) = some (some (.agg #[.int .i64 0, .int .i64 0, .int .i64 0]), 3, 24) := by kernel_rfl

theorem ent_one (x : Ent) : ∀ u ∈ ent x, u.oneCell' = true := by
  intro u hu
  simp [ent] at hu
  rcases hu with rfl | rfl | rfl <;> rfl

theorem list_nil (w : World) : Calls Try.prog 17 #[.pointer none] w fun e w' => e = .returned (.slice none 0 0) ∧ w = w' := by
  go_enter Try.func17, Try.ntmps17
  go_wp2_with (go_at_call 87; refine (len_nil _).mono ?_; rintro e w' ⟨rfl, rfl⟩)
  go_rounds 1
  go_ret
  exact ⟨rfl, rfl⟩

set_option maxHeartbeats 1600000 in
theorem list_any {w : World} {q rb L f t : Nat} {xs : List Ent} (h : QAt w q rb L f t xs) :
    Calls Try.prog 17 #[.pointer (some ⟨q, 0, none⟩)] w fun e w' => ∃ A c, e = .returned (.slice A xs.length c) ∧ Mod [] w w' ∧ w'.ownsRow w.heap.size 62 3 (.slice A xs.length c) xs.length (flat ent xs) := by
  obtain ⟨i0, hi, hz0, hz1, hz2⟩ := info_parts infoEntry
  have H := len_any h
  have hB : xs.length < 1099511627776 := by have := h.fits; have := h.big; omega
  have hT : f + xs.length < 1099511627776 := by have := h.len; have := h.bound; omega
  obtain ⟨n, hn⟩ : ∃ n, n = xs.length := ⟨_, rfl⟩
  rw [← hn] at H hB hT
  have HN := hide hn
  clear hn
  go_enter Try.func17, Try.ntmps17
  go_wp2_with (go_at_call 87; refine H.mono ?_; rintro e w' ⟨rfl, d, rfl⟩)
  go_loopw [3, 7] (fun v i wr => ∃ k : Nat, k ≤ n ∧ i = .int .i64 k ∧ wr.ownsRow w.heap.size 62 3 v k (flat ent (xs.take k)) ∧ Mod [] w wr) (fun _ i _ => n - (intOf i).toNat)
  case atStart => exact ⟨0, Nat.zero_le _, rfl, World.ownsRow_nil _ _ _ _, (Mod.refl _ _).drewN _⟩
  case round =>
    obtain ⟨k, hk, rfl, hown, hm⟩ := hrel
    have h' := h.mod hm (by simp) (by simp)
    by_cases hlt : k < n
    · obtain ⟨x, hx⟩ : ∃ x, xs[k]? = some x := ⟨_, List.getElem?_eq_getElem (by rw [← HN.out]; exact hlt)⟩
      obtain ⟨e0, e1, e2⟩ := h'.elem k x hx
      have H2 := at_any (n := f + k) h' (by omega) (m := (f : Int) + k) (by omega)
      obtain ⟨c0, c1, c2, _⟩ := h'.cells
      have hrl := h'.rlt
      have hq := h'.blk.lt
      have HX := hide hx
      clear hx h h'
      generalize (f + k) % L = r at *
      go_wp2_with fail
      refine H2.mono ?_
      rintro e w' ⟨rfl, m, rfl⟩
      go_wp2_with (at_builtin; refine wpList_append_lies _ rfl _ _ 52 rfl w.heap.size 62 i0 _ 3 24 Try.underlying52 hi hz0 hz1 hz2 rfl (by decide) _ k (flat ent (xs.take k)) rfl (World.ownsRow.alloc (w := wr.drewN m) hown _) ⟨wr.heap.size, 0, none⟩ 1 1 (ent x) (by rfl) rfl (World.news_of_block (heap_alloc_new _ _)) (ent_one x) (by decide) (by unfold maxLen; omega) (by omega) (by have := hm.size; simp; omega) (wr.heap.size + 1) (by simp) ?_)
      intro g cap w1 hown1 hgrow hat hlt1
      rw [flat_snoc HX.out] at hown1
      have hm1 := ((hm.drewN m).alloc _).grown hgrow (fun k hk => .inr (hown.lt k hk).1)
      clear hgrow hat hown hm H2
      go_wp2
      go_roundw
      case rel => exact ⟨k + 1, by omega, by go_num, hown1, hm1⟩
      case measure => simp [intOf]; omega
    · go_wp2
      go_ret
      have e : k = n := by omega
      subst e
      rw [HN.out, List.take_length] at hown
      obtain ⟨A, c, rfl⟩ := own_form hown
      exact ⟨A, c, rfl, hm, hown⟩
end Go.Proofs.Ytpaiejeipghehaa
end
section
/- grow of a queue that is known: the same entries, twice the room. -/
namespace Go.Proofs.Ytpaiejeipghehaa
open Go.RowKit

theorem flat_ent_one (xs : List Ent) : ∀ u ∈ flat ent xs, u.oneCell' = true := by
  intro u hu
  simp only [flat, List.mem_flatten, List.mem_map] at hu
  obtain ⟨l, ⟨x, _, rfl⟩, hl⟩ := hu
  exact ent_one x u hl

set_option maxHeartbeats 1600000 in
theorem made_ent (n : Nat) : (madeCells (Value.agg #[.int .i64 0, .int .i64 0, .int .i64 0]).cells (n * 3)).toList = flat ent (List.replicate n (0, 0, 0)) := made_flat (sz := 3) ent_len (by decide) #[.int .i64 0, .int .i64 0, .int .i64 0] (0, 0, 0) rfl n

set_option maxRecDepth 100000 in
theorem grow_any {w : World} {q rb L f t : Nat} {xs : List Ent} (h : QAt w q rb L f t xs) (hL : 2 * L < 1099511627776) :
    Calls Try.prog 142 #[.pointer (some ⟨q, 0, none⟩)] w fun e w' => e = .returned (.tuple #[]) ∧ Mod [q] w w' ∧ ∃ rb', w.heap.size ≤ rb' ∧ QAt w' q rb' (2 * L) 0 xs.length xs := by
  obtain ⟨i0, hi, hz0, hz1, hz2⟩ := info_parts infoEntry
  have H := list_any h
  have hB : xs.length < 1099511627776 := by have := h.fits; have := h.big; omega
  obtain ⟨n, hn⟩ : ∃ n, n = xs.length := ⟨_, rfl⟩
  rw [← hn] at H hB
  have HN := hide hn
  clear hn
  go_enter Try.func142, Try.ntmps142
  go_wp2_with fail
  refine H.mono ?_
  rintro e w1 ⟨A, c, rfl, hm, hown⟩
  have h' := h.mod hm (by simp) (by simp)
  obtain ⟨c0, c1, c2, f0, f1, f2⟩ := h'.cells
  have hq := h'.blk.lt
  have hbig := h.big
  clear H
  have hnL : n ≤ 2 * L := by have := h.fits; rw [HN.out]; omega
  have hfl := flat_length ent_len xs
  have hrl := flat_length ent_len (List.replicate (2 * L) (((0, 0, 0) : Ent)))
  rw [List.length_replicate] at hrl
  have hle : (flat ent xs).length ≤ (flat ent (List.replicate (2 * L) (((0, 0, 0) : Ent)))).length := by rw [hfl, hrl, ← HN.out]; omega
  clear hfl hrl
  have HLE := hide hle
  clear hle
  go_wp2_with (first
    | (at_make; refine wpList_make_full _ rfl _ _ 52 rfl w1.heap.size 62 i0 _ 3 Try.underlying52 hi hz0 hz1 .i64 .i64 ((L : Int) * 2) ((L : Int) * 2) (2 * L) rfl rfl (by omega) (by omega) (by rw [hz2]; omega) (by unfold maxLen; omega) (Nat.le_refl _) ?_; intro w2 hown2 hgr2; have hb2 := (Blk.of_own hown2).1; rw [made_ent] at hb2; have hown' := hown.kept hgr2 (Classical.em _); clear hown2)
    | (with_reducible refine wpList_copy_owned rfl (.tmp 13) (.tmp 14) _ _ rfl 62 Try.underlying52 3 (by rw [hi]; simp [hz1]) w1.heap.size (2 * L) (2 * L) (.slice A n c) rfl rfl n w.heap.size 62 (flat ent xs) _ 62 hown' hb2 hnL HLE.out (flat_ent_one xs) ?_; intro w3 hb3 hgr3; have hm3 := ((Mod.refl [] w1).grown hgr2 (by simp)).grown hgr3 (fun g hg => by cases hg; exact .inr (Nat.le_refl _)); clear hown'; have h3 := h'.mod hm3 (by simp) (by simp); obtain ⟨d0, d1, d2, g0, g1, g2⟩ := h3.cells; have hq3 := h3.blk.lt))
  go_returns
  refine ⟨rfl, ?_, w1.heap.size, hm.size, ?_⟩
  · have h1 := (hm.trans hm3 (by simp)).mono (T := [q]) (by simp)
    (repeat (first | exact Mod.refl _ _ | (with_reducible assumption) | (refine Mod.drewN ?_ _) | (refine Mod.drew ?_) | (refine Mod.alloc ?_ _) | (refine Mod.setCell ?_ ?_ _; rotate_left; focus (first | omega | (simp; done) | (simp; omega)))))
  · have hne : w1.heap.size ≠ q := by omega
    have hfit := h.fits
    have hpos := h.pos
    obtain ⟨k, hk⟩ := h.pow
    rw [flat_length ent_len, flat_drop ent_len, ← flat_append] at hb3
    refine ⟨by have := ((h3.blk.set_ 0 (.slice (some ⟨w1.heap.size, 0, none⟩) (2 * L) (2 * L))).set_ 1 (.int .u64 0)).set_ 2 (.int .u64 n); simpa [HN.out] using this, ⟨_, ?_, ((hb3.far hne _).far hne _).far hne _, fun i hi => ?_⟩, ⟨k + 1, by rw [hk, Nat.pow_succ, Nat.mul_comm]⟩, by omega, by omega, by omega, by omega, by rw [← HN.out]; omega⟩
    · simp; omega
    · rw [Nat.zero_add, Nat.mod_eq_of_lt (by omega), List.getElem?_append_left hi]
end Go.Proofs.Ytpaiejeipghehaa
end
