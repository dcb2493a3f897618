/- CellExact, called with whatever, returns true, and its arguments read behind it as they did. No condition. -/
import Derived.Test.YtdjogfofedbohaaG4
import Derived.Test.YtdjogfofedbohaaProg
import Derived.Test.YtdjogfofedbohaaG1
import Derived.ProofKit
import Derived.Deep.Slices
import Derived.Deep.Strs
import Derived.ChangeArms
import Derived.Carry
import Derived.Below
import Derived.WalkKit
import Derived.OpenShut
import Derived.ChangeOld
import Derived.Test.YtdjogfofedbohaaG3
import Derived.Test.YtdjogfofedbohaaRows
section
/- places of the laws as a known call. -/
namespace Go.Proofs.Ytdjogfofedbohaa
open Go.RowKit
theorem rows_iff {a : PRA} : (a.ln = a.lm ∧ ∀ k, k < a.ln → a.at k) ↔ sameRows a.as a.bs a.ln a.lm = true := by
  unfold sameRows
  rw [@decide_eq_true_iff _ (Classical.propDecidable _)]
  constructor
  · rintro ⟨h1, h2⟩
    refine ⟨h1, fun i hi => ?_⟩
    obtain ⟨e1, e2, e3⟩ := h2 i hi
    simp only [PRA.as, PRA.bs, colsF, Col.at, e1, e2, e3]
  · rintro ⟨h1, h2⟩
    refine ⟨h1, fun i hi => ?_⟩
    have := h2 i hi
    simp only [PRA.as, PRA.bs, colsF, Col.at, List.cons.injEq, Value.int.injEq, true_and, and_true] at this
    exact ⟨this.1, this.2.1, this.2.2⟩
theorem hpR_get {a : PRA} {n : Nat} {c : Chunk Rep} (h : hget n a.hp = some c) : (n = 0 ∧ c = .rep (.vec a.as a.len 34)) ∨ (n = 1 ∧ c = .rep (.vec a.bs a.len' 34)) := by
  unfold PRA.hp at h
  rw [hget_cons] at h
  split at h
  · next e => injection h with h; exact .inl ⟨e, h.symm⟩
  · rw [hget_cons] at h
    split at h
    · next e => injection h with h; exact .inr ⟨e, h.symm⟩
    · cases h
def twoO (o1 o2 : List Nat) : Nat → List Nat := fun n => match n with
  | 0 => o1
  | 1 => o2
  | _ => []
set_option maxRecDepth 100000 in
set_option maxHeartbeats 4000000 in
theorem places_two (a : PRA) (ha : a.ok) {sp1 sp2 : Spot} {o1 o2 : List Nat} {w : World} (h1 : VecAt (colsF a.as) a.len 34 3 sp1 o1 w) (h2 : VecAt (colsF a.bs) a.len' 34 3 sp2 o2 w) (hd : ∀ b ∈ o1, b ∉ o2) :
    Calls Try.prog 19 #[.slice sp1.ad a.ln sp1.cap, .slice sp2.ad a.lm sp2.cap] w fun x w' => x = .returned (.bool (sameRows a.as a.bs a.ln a.lm)) ∧ ∃ o1' o2', VecAt (colsF a.as) a.len 34 3 sp1 o1' w' ∧ VecAt (colsF a.bs) a.len' 34 3 sp2 o2' w' ∧
      ModP (fun b => b ∈ o1 ∨ b ∈ o2) w w' ∧ (∀ b ∈ o1', (b ∈ o1 ∨ b ∈ o2) ∨ (w.heap.size ≤ b ∧ b < w'.heap.size)) ∧ (∀ b ∈ o2', (b ∈ o1 ∨ b ∈ o2) ∨ (w.heap.size ≤ b ∧ b < w'.heap.size)) ∧ ∀ b ∈ o2', b ∉ o1' := by
  have hst : Stand repAt Try.prog 0 ⟨argsE [.tsl 0 a.ln, .tsl 1 a.lm], a.hp, 2⟩ (cellsN sp1 sp2) (twoO o1 o2) w := by
    refine ⟨⟨fun n c _ hc => ?_, fun n m c d _ _ hne hc hd' b hb hb' => ?_, fun n c _ hc b hb => ?_⟩, fun n hn => ?_, fun n hn => ?_, Nat.zero_le _⟩
    · rcases hpR_get hc with ⟨rfl, rfl⟩ | ⟨rfl, rfl⟩
      · exact ⟨sp1, rfl, h1⟩
      · exact ⟨sp2, rfl, h2⟩
    · rcases hpR_get hc with ⟨rfl, _⟩ | ⟨rfl, _⟩ <;> rcases hpR_get hd' with ⟨rfl, _⟩ | ⟨rfl, _⟩
      · exact hne rfl
      · exact hd b hb hb'
      · exact hd b hb' hb
      · exact hne rfl
    · rcases hpR_get hc with ⟨rfl, rfl⟩ | ⟨rfl, rfl⟩
      · exact ⟨Nat.zero_le _, vec_lt h1 b hb⟩
      · exact ⟨Nat.zero_le _, vec_lt h2 b hb⟩
    · match n, hn with
      | n + 2, _ => rfl
    · match n, hn with
      | n + 2, _ => rfl
  refine (Tri.calls (pin := 2) Try.func19 (c := bodyOf Try.prog prF) (by kernel_rfl) (args := [.tsl 0 a.ln, .tsl 1 a.lm]) (Nat.le_of_ble_eq_true (by kernel_rfl)) (pr_start a ha) hst (vals := [.slice sp1.ad a.ln sp1.cap, .slice sp2.ad a.lm sp2.cap]) rfl).mono ?_
  rintro x w' ⟨y, l, s', ρ', own', rfl, hy, ⟨z, rfl, hhp, hz⟩, hs, hw, hpp⟩
  simp only [oneOf, den, Option.some.injEq] at hy
  subst hy
  have hx : z = sameRows a.as a.bs a.ln a.lm := Bool.eq_iff_iff.2 (hz.trans rows_iff)
  have k0 : hget 0 s'.hp = some (.rep (.vec a.as a.len 34)) := by rw [hhp]; rfl
  have k1 : hget 1 s'.hp = some (.rep (.vec a.bs a.len' 34)) := by rw [hhp]; rfl
  obtain ⟨e0, g0, v0⟩ := hs.li.at_ 0 _ trivial k0
  obtain ⟨e1, g1, v1⟩ := hs.li.at_ 1 _ trivial k1
  have he0 : some sp1 = some e0 := (hpp 0 (by decide)).symm.trans g0
  have he1 : some sp2 = some e1 := (hpp 1 (by decide)).symm.trans g1
  injection he0 with he0
  injection he1 with he1
  subst he0
  subst he1
  have hown : ∀ m d, hget m a.hp = some d → ∀ b ∈ twoO o1 o2 m, b ∈ o1 ∨ b ∈ o2 := fun m d hd' b hb => by
    rcases hpR_get hd' with ⟨rfl, _⟩ | ⟨rfl, _⟩
    · exact .inl hb
    · exact .inr hb
  have came : ∀ k c, hget k s'.hp = some c → ∀ b ∈ own' k, (b ∈ o1 ∨ b ∈ o2) ∨ (w.heap.size ≤ b ∧ b < w'.heap.size) := fun k c hk b hb => by
    rcases hw.pool k c hk b hb with h | ⟨m, d, hd', hm⟩
    · exact .inr ⟨h, (hs.li.low k c trivial hk b hb).2⟩
    · exact .inl (hown m d hd' b hm)
  exact ⟨by rw [hx], own' 0, own' 1, v0, v1, hw.mod.mono fun b _ ⟨m, d, hd', hb⟩ => hown m d hd' b hb, came 0 _ k0, came 1 _ k1, fun b hb hb' => hs.li.dis 0 1 _ _ trivial trivial (by decide) k0 k1 b hb' hb⟩
noncomputable def rowsX : List SV → M Rep SV
  | [.tsl n ln, .tsl m lm] => (want 380 (!Nat.beq n m)).bind fun _ => (getC n).bind fun
    | .rep (.vec [.int .i64 A0, .int .i64 A1, .int .i64 A2] len t) => (getC m).bind fun
      | .rep (.vec [.int .i64 B0, .int .i64 B1, .int .i64 B2] len' t') => (want 381 (Nat.beq t 34 && Nat.beq t' 34)).bind fun _ => (need 382 (decide (ln ≤ len ∧ lm ≤ len' ∧ ln ≤ 1000000))).bind fun _ =>
        (setC n (.rep (.vec [.int .i64 A0, .int .i64 A1, .int .i64 A2] len t))).bind fun _ => (setC m (.rep (.vec [.int .i64 B0, .int .i64 B1, .int .i64 B2] len' t'))).bind fun _ =>
        .ret (.v (.bool (sameRows [.int .i64 A0, .int .i64 A1, .int .i64 A2] [.int .i64 B0, .int .i64 B1, .int .i64 B2] ln lm)))
      | _ => .fail 383
    | _ => .fail 384
  | _ => .fail 385
theorem rows_s {args : List SV} {st st' : St Rep} {s : SV} (h : rowsX args st = .ok s st') : CallS repAt Try.prog 19 args st st' s := by
  unfold rowsX at h
  split at h
  · next n ln m lm =>
    obtain ⟨_, st0, h1, h2⟩ := bind_ok.1 h
    obtain ⟨hnm, rfl⟩ := want_ok.1 h1
    obtain ⟨c, st1, h3, h4⟩ := bind_ok.1 h2
    obtain ⟨hc, rfl⟩ := getC_ok.1 h3
    split at h4
    · next A0 A1 A2 len t =>
      obtain ⟨c2, st2, h5, h6⟩ := bind_ok.1 h4
      obtain ⟨hc2, rfl⟩ := getC_ok.1 h5
      split at h6
      · next B0 B1 B2 len' t' =>
        obtain ⟨_, st3, h7, h8⟩ := bind_ok.1 h6
        obtain ⟨ht, rfl⟩ := want_ok.1 h7
        obtain ⟨_, st4, h9, h10⟩ := bind_ok.1 h8
        obtain ⟨q2, hq⟩ := need_ok h9
        obtain ⟨_, st5, h11, h12⟩ := bind_ok.1 h10
        obtain ⟨_, rfl⟩ := setC_ok.1 h11
        obtain ⟨_, st6, h13, h14⟩ := bind_ok.1 h12
        obtain ⟨⟨d6, hd6⟩, rfl⟩ := setC_ok.1 h13
        obtain ⟨rfl, rfl⟩ := ret_ok.1 h14
        simp only [Bool.and_eq_true] at ht
        obtain rfl := Nat.eq_of_beq_eq_true ht.1
        obtain rfl := Nat.eq_of_beq_eq_true ht.2
        have hne : n ≠ m := fun e => by subst e; simp at hnm
        have q : Quiet st st4 := (Quiet.get.trans (Quiet.get (n := m) (st := { st with fr := insN n st.fr }))).trans q2
        have g1 : hget n st4.hp = some (.rep (.vec [.int .i64 A0, .int .i64 A1, .int .i64 A2] len 34)) := by rw [q.hp]; exact hc
        have g2 : hget m st4.hp = some (.rep (.vec [.int .i64 B0, .int .i64 B1, .int .i64 B2] len' 34)) := by rw [q.hp]; exact hc2
        have f1 := Fn.set st4 n (Chunk.rep (Rep.vec [.int .i64 A0, .int .i64 A1, .int .i64 A2] len 34)) _ g1
        have f2 := Fn.set (st4.set n (Chunk.rep (Rep.vec [.int .i64 A0, .int .i64 A1, .int .i64 A2] len 34))) m (Chunk.rep (Rep.vec [.int .i64 B0, .int .i64 B1, .int .i64 B2] len' 34)) d6 hd6
        refine ⟨q.fn.trans (f1.trans f2), fun B F ρ own w vals si hv => ?_⟩
        have s1 := si.of_quiet q
        obtain ⟨e, he, hat⟩ := s1.li.at_ n _ (s1.log n (mem_ins.2 (.inr (mem_ins.2 (.inl rfl))))) g1
        obtain ⟨e2, he2, hat2⟩ := s1.li.at_ m _ (s1.log m (mem_ins.2 (.inl rfl))) g2
        simp only [denL, den, he, he2, Option.map_some, Option.some.injEq] at hv
        subst hv
        have hok := of_decide_eq_true (hq si.ask)
        refine (places_two ⟨A0, A1, A2, B0, B1, B2, ln, lm, len, len'⟩ hok hat hat2 (s1.li.dis n m _ _ (s1.log n (mem_ins.2 (.inr (mem_ins.2 (.inl rfl))))) (s1.log m (mem_ins.2 (.inl rfl))) hne g1 g2)).mono ?_
        rintro x w' ⟨rfl, o1, o2, hv1, hv2, hm, ho, ho2, hd⟩
        have ht := Tr.set2 (A := repAt) (P := Try.prog) (B := B) (F := F) (own := own) (c := .rep (.vec [.int .i64 A0, .int .i64 A1, .int .i64 A2] len 34)) (d := .rep (.vec [.int .i64 B0, .int .i64 B1, .int .i64 B2] len' 34)) s1 hne g1 g2 he he2 hm hv1 hv2 ho ho2 hd
        exact ⟨_, _, _, rfl, rfl, Tr.of_quiet q ht⟩
      · exact (fail_ok.1 h6).elim
    · exact (fail_ok.1 h4).elim
  · exact (fail_ok.1 h).elim
noncomputable def primR (f : FuncId) (args : List SV) : Option (M Rep SV) := match Nat.beq f 19 with
  | true => some (rowsX args)
  | false => none
theorem primR_ok : ∀ f args m, primR f args = some m → ∀ st s st', m st = .ok s st' → CallS repAt Try.prog f args st st' s := by
  intro f args m hm st s st' h
  unfold primR at hm
  split at hm
  · next hb =>
    obtain rfl := Nat.eq_of_beq_eq_true hb
    cases hm
    exact rows_s h
  · cases hm
noncomputable abbrev libCE : Lib Rep := (libU 10).more primR
theorem libCE_ok : LibOK repAt Try.prog libCE := Lib.more_ok (libU_ok awake04) primR_ok
end Go.Proofs.Ytdjogfofedbohaa
end
section
/- CellExact: the states at its loop's head. No condition. -/
namespace Go.Proofs.Ytdjogfofedbohaa
noncomputable abbrev cxF : FuncId := 3
noncomputable abbrev cxZ : Nat := slotsOf Try.prog cxF
noncomputable def cxL : Code × List Fr := loopOf Try.prog cxF 0
abbrev cxQ : Ex → Sym Rep → Prop := Ends Try.prog Try.f3 fun l _ => l = [.v (.bool true)]
structure CXA where
  K : Nat → Int
  P0 : Nat → Int
  P1 : Nat → Int
  P2 : Nat → Int
  A : Nat → Int
  B : Nat → Int
  len : Nat
def CXA.cols (a : CXA) : List Col := [.int .i64 a.K, .int .i64 a.P0, .int .i64 a.P1, .int .i64 a.P2, .int .u64 a.A, .int .u64 a.B]
def CXA.ok (a : CXA) : Prop := ∀ j, j < a.len → plWfB (a.P0 j, a.P1 j, a.P2 j) = true ∧ (Lit.int .u64 (a.A j)).wf = true ∧ (Lit.int .u64 (a.B j)).wf = true
def cxS (a : CXA) (i c0 c1 c2 c3 c4 : Int) (G U : Pl → Int) (n m : Nat) : Sym Rep :=
  ⟨[(4, .ptr 0 0), (3, .ptr 1 0), (5, .ptr 2 0), (0, .tsl 3 a.len), (6, iv i)],
   [(0, .rep (.ucells [] U m)), (1, .row [.mp 4, iv c0, iv c1, iv c2, iv c3, iv c4] 112), (2, .row [iv c0, iv c1, iv c2, iv c3, iv c4] 32),
    (3, .rep (.tab [.int .i64 a.K, .int .i64 a.P0, .int .i64 a.P1, .int .i64 a.P2, .int .u64 a.A, .int .u64 a.B] a.len)), (4, .rep (.pmap [] G n))], 5⟩
def cxCfg : Stop → List Gen × List Nat
  | .fin .ret _ => ([], [2])
  | _ => ([.map 0, .map 4], [4, 3, 5, 0, 6])
def cxP (a : CXA) (i _c0 _c1 _c2 _c3 _c4 : Int) (G U : Pl → Int) (n m : Nat) : Prop := 0 ≤ i ∧ i ≤ 200 ∧ (n : Int) ≤ 1 + i ∧ (m : Int) ≤ 1 + i ∧ U = G ∧ a.ok
theorem ble_put {p : Pl} {m : Nat} (hp : plWfB p = true) (hm : m ≤ 1000000) : (plWfB p && m.ble 1000000) = true := by
  rw [hp, Nat.ble_eq_true_of_le hm]
  rfl
theorem samePl_one {G : Pl → Int} {p : Pl} {v : Int} (hp : PlWf p) : samePl G (getL [(p, v)] G) = (G p == v) := by
  rw [Bool.eq_iff_iff, samePl_iff, beq_iff_eq]
  constructor
  · intro h
    have := h p hp
    rwa [getL_same] at this
  · rintro h q _
    by_cases e : q = p
    · subst e; rw [getL_same]; exact h
    · rw [getL_other e]; rfl
end Go.Proofs.Ytdjogfofedbohaa
end
section
/- CellExact: its runs from point to point. No condition. -/
namespace Go.Proofs.Ytdjogfofedbohaa
set_option linter.unusedVariables false
set_option linter.unusedSimpArgs false
set_option maxRecDepth 100000
set_option maxHeartbeats 8000000
def cxI (a : CXA) (r : Nat) (s : Sym Rep) : Prop := ∃ (i c0 c1 c2 c3 c4 : Int) (G U : Pl → Int) (n m : Nat), s = cxS a i c0 c1 c2 c3 c4 G U n m ∧ cxP a i c0 c1 c2 c3 c4 G U n m ∧ r = 200 - i.toNat
abbrev cxR (a : CXA) (r : Nat) (x : Ex) (s : Sym Rep) : Prop := match x with
  | .nor => ∃ k', k' < r ∧ cxI a k' s
  | x => Tri repAt Try.prog cxZ 0 (.out x) cxL.2 s cxQ
theorem cx_next (a : CXA) (i c0 c1 c2 c3 c4 : Int) (G U : Pl → Int) (n m : Nat) {r : Nat} (hP : cxP a i c0 c1 c2 c3 c4 G U n m) (hk : 200 - i.toNat < r) : Tri repAt Try.prog cxZ 0 (.out .nor) [] (cxS a i c0 c1 c2 c3 c4 G U n m) (cxR a r) := Tri.fin ⟨_, hk, i, c0, c1, c2, c3, c4, G, U, n, m, rfl, hP, rfl⟩

theorem cx_exit (a : CXA) (i c0 c1 c2 c3 c4 : Int) (G : Pl → Int) (n m : Nat) (hn : n ≤ 1000) (hm : m ≤ 1000) (hl : (placesOf (getL [] G)).length ≤ 1000000)  : Tri repAt Try.prog cxZ 0 (.out (.out 0)) cxL.2 (cxS a i c0 c1 c2 c3 c4 G G n m) (cxQ) := by
  have h0 : (n.ble 1000000) = true := by (first | assumption | rfl | (exact Nat.ble_eq_true_of_le (by omega)) | (exact decide_eq_true ⟨Nat.le_refl _, Nat.le_refl _, hl⟩) | (simp; done))
  have h1 : (m.ble 1000000) = true := by (first | assumption | rfl | (exact Nat.ble_eq_true_of_le (by omega)) | (exact decide_eq_true ⟨Nat.le_refl _, Nat.le_refl _, hl⟩) | (simp; done))
  have h2 : (decide ((placesOf (getL [] G)).length ≤ (placesOf (getL [] G)).length ∧ (placesOf (getL [] G)).length ≤ (placesOf (getL [] G)).length ∧ (placesOf (getL [] G)).length ≤ 1000000)) = true := by (first | assumption | rfl | (exact Nat.ble_eq_true_of_le (by omega)) | (exact decide_eq_true ⟨Nat.le_refl _, Nat.le_refl _, hl⟩) | (simp; done))
  exact Tri.pathG mixed libCE_ok (n := 10000) (k := 10000) (j := 0) (cfg := cxCfg) (o := List.replicate 3 (some true)) (g' := .out .ret) (fs' := []) (s' := ⟨[(2, SV.v (Value.bool (sameRows [Col.int IntKind.i64 fun i => ((placesOf (getL [] G)).getD i (0, 0, 0)).fst, Col.int IntKind.i64 fun i => ((placesOf (getL [] G)).getD i (0, 0, 0)).snd.fst, Col.int IntKind.i64 fun i => ((placesOf (getL [] G)).getD i (0, 0, 0)).snd.snd] [Col.int IntKind.i64 fun i => ((placesOf (getL [] G)).getD i (0, 0, 0)).fst, Col.int IntKind.i64 fun i => ((placesOf (getL [] G)).getD i (0, 0, 0)).snd.fst, Col.int IntKind.i64 fun i => ((placesOf (getL [] G)).getD i (0, 0, 0)).snd.snd] (placesOf (getL [] G)).length (placesOf (getL [] G)).length)))], [], 0⟩) (asks := [((decide ((placesOf (getL [] G)).length ≤ (placesOf (getL [] G)).length ∧ (placesOf (getL [] G)).length ≤ (placesOf (getL [] G)).length ∧ (placesOf (getL [] G)).length ≤ 1000000)), true), ((m.ble 1000000), true), ((n.ble 1000000), true)]) (by kernel_rfl) ⟨h2, h1, h0, trivial⟩ (Tri.fin (Ends.one (t := 2) (by kernel_rfl) (.inl rfl) (by rw [sameRows_self]; rfl)))
theorem cx_turn (a : CXA) (i c0 c1 c2 c3 c4 : Int) (G : Pl → Int) (n m : Nat) (k0 : decide (i < (a.len : Int)) = true) (k1 : decide (i < 200) = true) (k2 : decide (0 ≤ i ∧ i < (a.len : Int) ∧ a.len ≤ a.len) = true) (kw : plWfB (a.P0 i.toNat, a.P1 i.toNat, a.P2 i.toNat) = true) (kva : (Lit.int .u64 (a.A i.toNat)).wf = true) (kvb : (Lit.int .u64 (a.B i.toNat)).wf = true) (kp : ∀ z, (Lit.int .u64 z).wf = true → (z == 0) = false → (plWfB (a.P0 i.toNat, a.P1 i.toNat, a.P2 i.toNat) && (Lit.int IntKind.u64 z).wf && z != 0 && decide (n < maxLen)) = true) (km : (plWfB (a.P0 i.toNat, a.P1 i.toNat, a.P2 i.toNat) && m.ble 1000000) = true) (kb : m.ble 1000000 = true) (kb1 : (m + 1).ble 1000000 = true) (k7 : (plWfB (-1, 0, 0) && (Lit.int IntKind.u64 77).wf && 77 != 0 && decide (n < maxLen)) = true) (k8 : samePl (getL [] G) (getL [((-1, 0, 0), 77)] G) = (getL [] G (-1, 0, 0) == 77)) (hP : cxP a i c0 c1 c2 c3 c4 G G n m) {r : Nat} (hr : r = 200 - i.toNat) : Tri repAt Try.prog cxZ 0 (.go cxL.1) [] (cxS a i c0 c1 c2 c3 c4 G G n m) (cxR a r) := by
  have h0 : (decide (i < (↑a.len : Int))) = true := by (first | assumption | rfl | (exact kp _ kva (by assumption)) | (exact kp _ kvb (by assumption)) | (exact kp _ (wrap_wf _) (by assumption)) | (simp only [getL_same, beq_self_eq_true, bne_self_eq_false, Bool.and_self, Bool.not_true, Bool.not_false, Bool.and_true, Bool.true_and]; done) | (rw [k8]; simp; done) | (simp only [getL_same, beq_iff_eq, bne_iff_ne, ne_eq, bne_eq_false_iff_eq, beq_eq_false_iff_ne] at *; first | assumption | (symm; assumption) | omega))
  have h1 : (decide (i < 200)) = true := by (first | assumption | rfl | (exact kp _ kva (by assumption)) | (exact kp _ kvb (by assumption)) | (exact kp _ (wrap_wf _) (by assumption)) | (simp only [getL_same, beq_self_eq_true, bne_self_eq_false, Bool.and_self, Bool.not_true, Bool.not_false, Bool.and_true, Bool.true_and]; done) | (rw [k8]; simp; done) | (simp only [getL_same, beq_iff_eq, bne_iff_ne, ne_eq, bne_eq_false_iff_eq, beq_eq_false_iff_ne] at *; first | assumption | (symm; assumption) | omega))
  have h2 : (decide (0 ≤ i ∧ i < (↑a.len : Int) ∧ a.len ≤ a.len)) = true := by (first | assumption | rfl | (exact kp _ kva (by assumption)) | (exact kp _ kvb (by assumption)) | (exact kp _ (wrap_wf _) (by assumption)) | (simp only [getL_same, beq_self_eq_true, bne_self_eq_false, Bool.and_self, Bool.not_true, Bool.not_false, Bool.and_true, Bool.true_and]; done) | (rw [k8]; simp; done) | (simp only [getL_same, beq_iff_eq, bne_iff_ne, ne_eq, bne_eq_false_iff_eq, beq_eq_false_iff_ne] at *; first | assumption | (symm; assumption) | omega))
  rcases Bool.eq_false_or_eq_true (a.K i.toNat == 6) with h3 | h3
  · have h15 : (plWfB (-1, 0, 0) && (Lit.int IntKind.u64 77).wf && 77 != 0 && decide (n < maxLen)) = true := by (first | assumption | rfl | (exact kp _ kva (by assumption)) | (exact kp _ kvb (by assumption)) | (exact kp _ (wrap_wf _) (by assumption)) | (simp only [getL_same, beq_self_eq_true, bne_self_eq_false, Bool.and_self, Bool.not_true, Bool.not_false, Bool.and_true, Bool.true_and]; done) | (rw [k8]; simp; done) | (simp only [getL_same, beq_iff_eq, bne_iff_ne, ne_eq, bne_eq_false_iff_eq, beq_eq_false_iff_ne] at *; first | assumption | (symm; assumption) | omega))
    have h4 : (m.ble 1000000) = true := by (first | assumption | rfl | (exact kp _ kva (by assumption)) | (exact kp _ kvb (by assumption)) | (exact kp _ (wrap_wf _) (by assumption)) | (simp only [getL_same, beq_self_eq_true, bne_self_eq_false, Bool.and_self, Bool.not_true, Bool.not_false, Bool.and_true, Bool.true_and]; done) | (rw [k8]; simp; done) | (simp only [getL_same, beq_iff_eq, bne_iff_ne, ne_eq, bne_eq_false_iff_eq, beq_eq_false_iff_ne] at *; first | assumption | (symm; assumption) | omega))
    have h21 : (samePl (getL [] G) (getL [((-1, 0, 0), 77)] G) == (getL [] G (-1, 0, 0) == 77)) = true := by (first | assumption | rfl | (exact kp _ kva (by assumption)) | (exact kp _ kvb (by assumption)) | (exact kp _ (wrap_wf _) (by assumption)) | (simp only [getL_same, beq_self_eq_true, bne_self_eq_false, Bool.and_self, Bool.not_true, Bool.not_false, Bool.and_true, Bool.true_and]; done) | (rw [k8]; simp; done) | (simp only [getL_same, beq_iff_eq, bne_iff_ne, ne_eq, bne_eq_false_iff_eq, beq_eq_false_iff_ne] at *; first | assumption | (symm; assumption) | omega))
    exact Tri.pathG mixed libCE_ok (n := 10000) (k := 10000) (j := 0) (cfg := cxCfg) (o := List.replicate 6 (some true) ++ List.replicate 3 (none) ++ [some true] ++ List.replicate 4 (none) ++ [some true] ++ [some false] ++ [some true]) (g' := .out .nor) (fs' := []) (s' := cxS (a) (IntKind.i64.wrap (i + 1)) (Int.ofNat 0) (Int.ofNat 0) (Int.ofNat 0) (Int.ofNat 0) (Int.ofNat 0) (getL [] G) (getL [] G) (n) (m)) (asks := [((m.ble 1000000), true), (!(samePl (getL [] G) (getL [((-1, 0, 0), 77)] G) == (getL [] G (-1, 0, 0) == 77)), false), ((m.ble 1000000), true), ((plWfB (-1, 0, 0) && (Lit.int IntKind.u64 77).wf && 77 != 0 && decide (n < maxLen)), true), ((a.K i.toNat == 6), true), ((decide (0 ≤ i ∧ i < (↑a.len : Int) ∧ a.len ≤ a.len)), true), ((decide (i < 200)), true), ((decide (i < (↑a.len : Int))), true), ((decide (i < (↑a.len : Int))), true), ((decide (i < (↑a.len : Int))), true)]) (by kernel_rfl) ⟨h4, (by rw [h21]; rfl), h4, h15, h3, h2, h1, h0, h0, h0, trivial⟩ (cx_next (a) (IntKind.i64.wrap (i + 1)) (Int.ofNat 0) (Int.ofNat 0) (Int.ofNat 0) (Int.ofNat 0) (Int.ofNat 0) (getL [] G) (getL [] G) (n) (m) (by (obtain ⟨i0, i1, hn, hm, hU, hok⟩ := hP; have hlt : i < 200 := of_decide_eq_true k1; have hw : IntKind.i64.wrap (i + 1) = i + 1 := wrapI (by omega) (by omega); unfold cxP; rw [hw]; exact ⟨by omega, by omega, by omega, by omega, by first | rfl | (funext q; simp_all [getL]), hok⟩)) (by (obtain ⟨i0, i1, hn, hm, hU, hok⟩ := hP; have hlt : i < 200 := of_decide_eq_true k1; rw [wrapI (by omega) (by omega)]; omega)))
  · have h4 : (m.ble 1000000) = true := by (first | assumption | rfl | (exact kp _ kva (by assumption)) | (exact kp _ kvb (by assumption)) | (exact kp _ (wrap_wf _) (by assumption)) | (simp only [getL_same, beq_self_eq_true, bne_self_eq_false, Bool.and_self, Bool.not_true, Bool.not_false, Bool.and_true, Bool.true_and]; done) | (rw [k8]; simp; done) | (simp only [getL_same, beq_iff_eq, bne_iff_ne, ne_eq, bne_eq_false_iff_eq, beq_eq_false_iff_ne] at *; first | assumption | (symm; assumption) | omega))
    rcases Bool.eq_false_or_eq_true (a.K i.toNat == 1) with h5 | h5
    · have h10 : (plWfB (a.P0 i.toNat, a.P1 i.toNat, a.P2 i.toNat)) = true := by (first | assumption | rfl | (exact kp _ kva (by assumption)) | (exact kp _ kvb (by assumption)) | (exact kp _ (wrap_wf _) (by assumption)) | (simp only [getL_same, beq_self_eq_true, bne_self_eq_false, Bool.and_self, Bool.not_true, Bool.not_false, Bool.and_true, Bool.true_and]; done) | (rw [k8]; simp; done) | (simp only [getL_same, beq_iff_eq, bne_iff_ne, ne_eq, bne_eq_false_iff_eq, beq_eq_false_iff_ne] at *; first | assumption | (symm; assumption) | omega))
      have h11 : (getL [] G (a.P0 i.toNat, a.P1 i.toNat, a.P2 i.toNat) == getL [] G (a.P0 i.toNat, a.P1 i.toNat, a.P2 i.toNat)) = true := by (first | assumption | rfl | (exact kp _ kva (by assumption)) | (exact kp _ kvb (by assumption)) | (exact kp _ (wrap_wf _) (by assumption)) | (simp only [getL_same, beq_self_eq_true, bne_self_eq_false, Bool.and_self, Bool.not_true, Bool.not_false, Bool.and_true, Bool.true_and]; done) | (rw [k8]; simp; done) | (simp only [getL_same, beq_iff_eq, bne_iff_ne, ne_eq, bne_eq_false_iff_eq, beq_eq_false_iff_ne] at *; first | assumption | (symm; assumption) | omega))
      have h19 : (IntKind.i64.wrap (c0 + 1) == IntKind.i64.wrap (c0 + 1) && (c1 == c1 && (c2 == c2 && (c3 == c3 && (c4 == c4 && true))))) = true := by (first | assumption | rfl | (exact kp _ kva (by assumption)) | (exact kp _ kvb (by assumption)) | (exact kp _ (wrap_wf _) (by assumption)) | (simp only [getL_same, beq_self_eq_true, bne_self_eq_false, Bool.and_self, Bool.not_true, Bool.not_false, Bool.and_true, Bool.true_and]; done) | (rw [k8]; simp; done) | (simp only [getL_same, beq_iff_eq, bne_iff_ne, ne_eq, bne_eq_false_iff_eq, beq_eq_false_iff_ne] at *; first | assumption | (symm; assumption) | omega))
      exact Tri.pathG mixed libCE_ok (n := 10000) (k := 10000) (j := 0) (cfg := cxCfg) (o := List.replicate 5 (some true) ++ [some false] ++ List.replicate 3 (some true) ++ [none] ++ [some true] ++ [some false, some false] ++ [none] ++ List.replicate 6 (some false)) (g' := .out .nor) (fs' := []) (s' := cxS (a) (IntKind.i64.wrap (i + 1)) (IntKind.i64.wrap (c0 + 1)) (c1) (c2) (c3) (c4) (getL [] G) (getL [] G) (n) (m)) (asks := [(!(IntKind.i64.wrap (c0 + 1) == IntKind.i64.wrap (c0 + 1) && (c1 == c1 && (c2 == c2 && (c3 == c3 && (c4 == c4 && true))))), false), (!(getL [] G (a.P0 i.toNat, a.P1 i.toNat, a.P2 i.toNat) == getL [] G (a.P0 i.toNat, a.P1 i.toNat, a.P2 i.toNat)), false), (!(getL [] G (a.P0 i.toNat, a.P1 i.toNat, a.P2 i.toNat) == getL [] G (a.P0 i.toNat, a.P1 i.toNat, a.P2 i.toNat)), false), (!(getL [] G (a.P0 i.toNat, a.P1 i.toNat, a.P2 i.toNat) == getL [] G (a.P0 i.toNat, a.P1 i.toNat, a.P2 i.toNat)), false), (!(getL [] G (a.P0 i.toNat, a.P1 i.toNat, a.P2 i.toNat) == getL [] G (a.P0 i.toNat, a.P1 i.toNat, a.P2 i.toNat)), false), (!(getL [] G (a.P0 i.toNat, a.P1 i.toNat, a.P2 i.toNat) == getL [] G (a.P0 i.toNat, a.P1 i.toNat, a.P2 i.toNat)), false), (!(getL [] G (a.P0 i.toNat, a.P1 i.toNat, a.P2 i.toNat) == getL [] G (a.P0 i.toNat, a.P1 i.toNat, a.P2 i.toNat)), false), (!(getL [] G (a.P0 i.toNat, a.P1 i.toNat, a.P2 i.toNat) == getL [] G (a.P0 i.toNat, a.P1 i.toNat, a.P2 i.toNat)), false), ((plWfB (a.P0 i.toNat, a.P1 i.toNat, a.P2 i.toNat)), true), ((a.K i.toNat == 1), true), ((m.ble 1000000), true), ((decide (0 ≤ i ∧ i < (↑a.len : Int) ∧ a.len ≤ a.len)), true), ((a.K i.toNat == 6), false), ((decide (0 ≤ i ∧ i < (↑a.len : Int) ∧ a.len ≤ a.len)), true), ((decide (i < 200)), true), ((decide (i < (↑a.len : Int))), true), ((decide (i < (↑a.len : Int))), true), ((decide (i < (↑a.len : Int))), true)]) (by kernel_rfl) ⟨(by rw [h19]; rfl), (by rw [h11]; rfl), (by rw [h11]; rfl), (by rw [h11]; rfl), (by rw [h11]; rfl), (by rw [h11]; rfl), (by rw [h11]; rfl), (by rw [h11]; rfl), h10, h5, h4, h2, h3, h2, h1, h0, h0, h0, trivial⟩ (cx_next (a) (IntKind.i64.wrap (i + 1)) (IntKind.i64.wrap (c0 + 1)) (c1) (c2) (c3) (c4) (getL [] G) (getL [] G) (n) (m) (by (obtain ⟨i0, i1, hn, hm, hU, hok⟩ := hP; have hlt : i < 200 := of_decide_eq_true k1; have hw : IntKind.i64.wrap (i + 1) = i + 1 := wrapI (by omega) (by omega); unfold cxP; rw [hw]; exact ⟨by omega, by omega, by omega, by omega, by first | rfl | (funext q; simp_all [getL]), hok⟩)) (by (obtain ⟨i0, i1, hn, hm, hU, hok⟩ := hP; have hlt : i < 200 := of_decide_eq_true k1; rw [wrapI (by omega) (by omega)]; omega)))
    · rcases Bool.eq_false_or_eq_true (a.K i.toNat == 2) with h6 | h6
      · rcases Bool.eq_false_or_eq_true (a.A i.toNat == 0) with h13 | h13
        · have h10 : (plWfB (a.P0 i.toNat, a.P1 i.toNat, a.P2 i.toNat)) = true := by (first | assumption | rfl | (exact kp _ kva (by assumption)) | (exact kp _ kvb (by assumption)) | (exact kp _ (wrap_wf _) (by assumption)) | (simp only [getL_same, beq_self_eq_true, bne_self_eq_false, Bool.and_self, Bool.not_true, Bool.not_false, Bool.and_true, Bool.true_and]; done) | (rw [k8]; simp; done) | (simp only [getL_same, beq_iff_eq, bne_iff_ne, ne_eq, bne_eq_false_iff_eq, beq_eq_false_iff_ne] at *; first | assumption | (symm; assumption) | omega))
          have h14 : (plWfB (a.P0 i.toNat, a.P1 i.toNat, a.P2 i.toNat) && m.ble 1000000) = true := by (first | assumption | rfl | (exact kp _ kva (by assumption)) | (exact kp _ kvb (by assumption)) | (exact kp _ (wrap_wf _) (by assumption)) | (simp only [getL_same, beq_self_eq_true, bne_self_eq_false, Bool.and_self, Bool.not_true, Bool.not_false, Bool.and_true, Bool.true_and]; done) | (rw [k8]; simp; done) | (simp only [getL_same, beq_iff_eq, bne_iff_ne, ne_eq, bne_eq_false_iff_eq, beq_eq_false_iff_ne] at *; first | assumption | (symm; assumption) | omega))
          have h20 : (c0 == c0 && (IntKind.i64.wrap (c1 + 1) == IntKind.i64.wrap (c1 + 1) && (c2 == c2 && (c3 == c3 && (c4 == c4 && true))))) = true := by (first | assumption | rfl | (exact kp _ kva (by assumption)) | (exact kp _ kvb (by assumption)) | (exact kp _ (wrap_wf _) (by assumption)) | (simp only [getL_same, beq_self_eq_true, bne_self_eq_false, Bool.and_self, Bool.not_true, Bool.not_false, Bool.and_true, Bool.true_and]; done) | (rw [k8]; simp; done) | (simp only [getL_same, beq_iff_eq, bne_iff_ne, ne_eq, bne_eq_false_iff_eq, beq_eq_false_iff_ne] at *; first | assumption | (symm; assumption) | omega))
          exact Tri.pathG mixed libCE_ok (n := 10000) (k := 10000) (j := 0) (cfg := cxCfg) (o := List.replicate 5 (some true) ++ [some false] ++ [some true, some true] ++ [some false] ++ [some true] ++ [none] ++ List.replicate 3 (some true) ++ List.replicate 8 (none) ++ [some false]) (g' := .out .nor) (fs' := []) (s' := cxS (a) (IntKind.i64.wrap (i + 1)) (c0) (IntKind.i64.wrap (c1 + 1)) (c2) (c3) (c4) (getL [((a.P0 i.toNat, a.P1 i.toNat, a.P2 i.toNat), 0)] G) (getL [((a.P0 i.toNat, a.P1 i.toNat, a.P2 i.toNat), a.A i.toNat)] G) (n) (m + 1)) (asks := [(!(c0 == c0 && (IntKind.i64.wrap (c1 + 1) == IntKind.i64.wrap (c1 + 1) && (c2 == c2 && (c3 == c3 && (c4 == c4 && true))))), false), ((plWfB (a.P0 i.toNat, a.P1 i.toNat, a.P2 i.toNat) && m.ble 1000000), true), ((plWfB (a.P0 i.toNat, a.P1 i.toNat, a.P2 i.toNat)), true), ((a.A i.toNat == 0), true), ((a.K i.toNat == 2), true), ((a.K i.toNat == 1), false), ((m.ble 1000000), true), ((decide (0 ≤ i ∧ i < (↑a.len : Int) ∧ a.len ≤ a.len)), true), ((a.K i.toNat == 6), false), ((decide (0 ≤ i ∧ i < (↑a.len : Int) ∧ a.len ≤ a.len)), true), ((decide (i < 200)), true), ((decide (i < (↑a.len : Int))), true), ((decide (i < (↑a.len : Int))), true), ((decide (i < (↑a.len : Int))), true)]) (by kernel_rfl) ⟨(by rw [h20]; rfl), h14, h10, h13, h6, h5, h4, h2, h3, h2, h1, h0, h0, h0, trivial⟩ (cx_next (a) (IntKind.i64.wrap (i + 1)) (c0) (IntKind.i64.wrap (c1 + 1)) (c2) (c3) (c4) (getL [((a.P0 i.toNat, a.P1 i.toNat, a.P2 i.toNat), 0)] G) (getL [((a.P0 i.toNat, a.P1 i.toNat, a.P2 i.toNat), a.A i.toNat)] G) (n) (m + 1) (by (obtain ⟨i0, i1, hn, hm, hU, hok⟩ := hP; have hlt : i < 200 := of_decide_eq_true k1; have hw : IntKind.i64.wrap (i + 1) = i + 1 := wrapI (by omega) (by omega); unfold cxP; rw [hw]; exact ⟨by omega, by omega, by omega, by omega, by first | rfl | (funext q; simp_all [getL]), hok⟩)) (by (obtain ⟨i0, i1, hn, hm, hU, hok⟩ := hP; have hlt : i < 200 := of_decide_eq_true k1; rw [wrapI (by omega) (by omega)]; omega)))
        · have h22 : (plWfB (a.P0 i.toNat, a.P1 i.toNat, a.P2 i.toNat) && (Lit.int IntKind.u64 (a.A i.toNat)).wf && a.A i.toNat != 0 && decide (n < maxLen)) = true := by (first | assumption | rfl | (exact kp _ kva (by assumption)) | (exact kp _ kvb (by assumption)) | (exact kp _ (wrap_wf _) (by assumption)) | (simp only [getL_same, beq_self_eq_true, bne_self_eq_false, Bool.and_self, Bool.not_true, Bool.not_false, Bool.and_true, Bool.true_and]; done) | (rw [k8]; simp; done) | (simp only [getL_same, beq_iff_eq, bne_iff_ne, ne_eq, bne_eq_false_iff_eq, beq_eq_false_iff_ne] at *; first | assumption | (symm; assumption) | omega))
          have h14 : (plWfB (a.P0 i.toNat, a.P1 i.toNat, a.P2 i.toNat) && m.ble 1000000) = true := by (first | assumption | rfl | (exact kp _ kva (by assumption)) | (exact kp _ kvb (by assumption)) | (exact kp _ (wrap_wf _) (by assumption)) | (simp only [getL_same, beq_self_eq_true, bne_self_eq_false, Bool.and_self, Bool.not_true, Bool.not_false, Bool.and_true, Bool.true_and]; done) | (rw [k8]; simp; done) | (simp only [getL_same, beq_iff_eq, bne_iff_ne, ne_eq, bne_eq_false_iff_eq, beq_eq_false_iff_ne] at *; first | assumption | (symm; assumption) | omega))
          have h20 : (c0 == c0 && (IntKind.i64.wrap (c1 + 1) == IntKind.i64.wrap (c1 + 1) && (c2 == c2 && (c3 == c3 && (c4 == c4 && true))))) = true := by (first | assumption | rfl | (exact kp _ kva (by assumption)) | (exact kp _ kvb (by assumption)) | (exact kp _ (wrap_wf _) (by assumption)) | (simp only [getL_same, beq_self_eq_true, bne_self_eq_false, Bool.and_self, Bool.not_true, Bool.not_false, Bool.and_true, Bool.true_and]; done) | (rw [k8]; simp; done) | (simp only [getL_same, beq_iff_eq, bne_iff_ne, ne_eq, bne_eq_false_iff_eq, beq_eq_false_iff_ne] at *; first | assumption | (symm; assumption) | omega))
          exact Tri.pathG mixed libCE_ok (n := 10000) (k := 10000) (j := 0) (cfg := cxCfg) (o := List.replicate 5 (some true) ++ [some false] ++ [some true, some true] ++ [some false] ++ [some true] ++ [none] ++ [some false] ++ [some true, some true] ++ List.replicate 8 (none) ++ [some false]) (g' := .out .nor) (fs' := []) (s' := cxS (a) (IntKind.i64.wrap (i + 1)) (c0) (IntKind.i64.wrap (c1 + 1)) (c2) (c3) (c4) (getL [((a.P0 i.toNat, a.P1 i.toNat, a.P2 i.toNat), a.A i.toNat)] G) (getL [((a.P0 i.toNat, a.P1 i.toNat, a.P2 i.toNat), a.A i.toNat)] G) (n + 1) (m + 1)) (asks := [(!(c0 == c0 && (IntKind.i64.wrap (c1 + 1) == IntKind.i64.wrap (c1 + 1) && (c2 == c2 && (c3 == c3 && (c4 == c4 && true))))), false), ((plWfB (a.P0 i.toNat, a.P1 i.toNat, a.P2 i.toNat) && m.ble 1000000), true), ((plWfB (a.P0 i.toNat, a.P1 i.toNat, a.P2 i.toNat) && (Lit.int IntKind.u64 (a.A i.toNat)).wf && a.A i.toNat != 0 && decide (n < maxLen)), true), ((a.A i.toNat == 0), false), ((a.K i.toNat == 2), true), ((a.K i.toNat == 1), false), ((m.ble 1000000), true), ((decide (0 ≤ i ∧ i < (↑a.len : Int) ∧ a.len ≤ a.len)), true), ((a.K i.toNat == 6), false), ((decide (0 ≤ i ∧ i < (↑a.len : Int) ∧ a.len ≤ a.len)), true), ((decide (i < 200)), true), ((decide (i < (↑a.len : Int))), true), ((decide (i < (↑a.len : Int))), true), ((decide (i < (↑a.len : Int))), true)]) (by kernel_rfl) ⟨(by rw [h20]; rfl), h14, h22, h13, h6, h5, h4, h2, h3, h2, h1, h0, h0, h0, trivial⟩ (cx_next (a) (IntKind.i64.wrap (i + 1)) (c0) (IntKind.i64.wrap (c1 + 1)) (c2) (c3) (c4) (getL [((a.P0 i.toNat, a.P1 i.toNat, a.P2 i.toNat), a.A i.toNat)] G) (getL [((a.P0 i.toNat, a.P1 i.toNat, a.P2 i.toNat), a.A i.toNat)] G) (n + 1) (m + 1) (by (obtain ⟨i0, i1, hn, hm, hU, hok⟩ := hP; have hlt : i < 200 := of_decide_eq_true k1; have hw : IntKind.i64.wrap (i + 1) = i + 1 := wrapI (by omega) (by omega); unfold cxP; rw [hw]; exact ⟨by omega, by omega, by omega, by omega, by first | rfl | (funext q; simp_all [getL]), hok⟩)) (by (obtain ⟨i0, i1, hn, hm, hU, hok⟩ := hP; have hlt : i < 200 := of_decide_eq_true k1; rw [wrapI (by omega) (by omega)]; omega)))
      · rcases Bool.eq_false_or_eq_true (a.K i.toNat == 3) with h7 | h7
        · have h8 : (a.K i.toNat == 4) = false := by (first | assumption | rfl | (exact kp _ kva (by assumption)) | (exact kp _ kvb (by assumption)) | (exact kp _ (wrap_wf _) (by assumption)) | (simp only [getL_same, beq_self_eq_true, bne_self_eq_false, Bool.and_self, Bool.not_true, Bool.not_false, Bool.and_true, Bool.true_and]; done) | (rw [k8]; simp; done) | (simp only [getL_same, beq_iff_eq, bne_iff_ne, ne_eq, bne_eq_false_iff_eq, beq_eq_false_iff_ne] at *; first | assumption | (symm; assumption) | omega))
          rcases Bool.eq_false_or_eq_true (a.A i.toNat != getL [] G (a.P0 i.toNat, a.P1 i.toNat, a.P2 i.toNat)) with h9 | h9
          · have h10 : (plWfB (a.P0 i.toNat, a.P1 i.toNat, a.P2 i.toNat)) = true := by (first | assumption | rfl | (exact kp _ kva (by assumption)) | (exact kp _ kvb (by assumption)) | (exact kp _ (wrap_wf _) (by assumption)) | (simp only [getL_same, beq_self_eq_true, bne_self_eq_false, Bool.and_self, Bool.not_true, Bool.not_false, Bool.and_true, Bool.true_and]; done) | (rw [k8]; simp; done) | (simp only [getL_same, beq_iff_eq, bne_iff_ne, ne_eq, bne_eq_false_iff_eq, beq_eq_false_iff_ne] at *; first | assumption | (symm; assumption) | omega))
            have h16 : (getL [] G (a.P0 i.toNat, a.P1 i.toNat, a.P2 i.toNat) != a.A i.toNat) = true := by (first | assumption | rfl | (exact kp _ kva (by assumption)) | (exact kp _ kvb (by assumption)) | (exact kp _ (wrap_wf _) (by assumption)) | (simp only [getL_same, beq_self_eq_true, bne_self_eq_false, Bool.and_self, Bool.not_true, Bool.not_false, Bool.and_true, Bool.true_and]; done) | (rw [k8]; simp; done) | (simp only [getL_same, beq_iff_eq, bne_iff_ne, ne_eq, bne_eq_false_iff_eq, beq_eq_false_iff_ne] at *; first | assumption | (symm; assumption) | omega))
            have h26 : (c0 == c0 && (c1 == c1 && (IntKind.i64.wrap (c2 + 1) == IntKind.i64.wrap (c2 + 1) && (IntKind.i64.wrap (c3 + 1) == IntKind.i64.wrap (c3 + 1) && (c4 == c4 && true))))) = true := by (first | assumption | rfl | (exact kp _ kva (by assumption)) | (exact kp _ kvb (by assumption)) | (exact kp _ (wrap_wf _) (by assumption)) | (simp only [getL_same, beq_self_eq_true, bne_self_eq_false, Bool.and_self, Bool.not_true, Bool.not_false, Bool.and_true, Bool.true_and]; done) | (rw [k8]; simp; done) | (simp only [getL_same, beq_iff_eq, bne_iff_ne, ne_eq, bne_eq_false_iff_eq, beq_eq_false_iff_ne] at *; first | assumption | (symm; assumption) | omega))
            exact Tri.pathG mixed libCE_ok (n := 10000) (k := 10000) (j := 0) (cfg := cxCfg) (o := List.replicate 5 (some true) ++ [some false] ++ [some true, some true] ++ [some false, some false] ++ [some true, some true] ++ [some false] ++ [some true] ++ [none] ++ List.replicate 4 (some true) ++ List.replicate 8 (none) ++ [some false]) (g' := .out .nor) (fs' := []) (s' := cxS (a) (IntKind.i64.wrap (i + 1)) (c0) (c1) (IntKind.i64.wrap (c2 + 1)) (IntKind.i64.wrap (c3 + 1)) (c4) (getL [] G) (getL [] G) (n) (m)) (asks := [(!(c0 == c0 && (c1 == c1 && (IntKind.i64.wrap (c2 + 1) == IntKind.i64.wrap (c2 + 1) && (IntKind.i64.wrap (c3 + 1) == IntKind.i64.wrap (c3 + 1) && (c4 == c4 && true))))), false), ((getL [] G (a.P0 i.toNat, a.P1 i.toNat, a.P2 i.toNat) != a.A i.toNat), true), ((m.ble 1000000), true), ((getL [] G (a.P0 i.toNat, a.P1 i.toNat, a.P2 i.toNat) != a.A i.toNat), true), ((plWfB (a.P0 i.toNat, a.P1 i.toNat, a.P2 i.toNat)), true), ((a.A i.toNat != getL [] G (a.P0 i.toNat, a.P1 i.toNat, a.P2 i.toNat)), true), ((a.K i.toNat == 4), false), ((a.K i.toNat == 3), true), ((a.K i.toNat == 3), true), ((a.K i.toNat == 2), false), ((a.K i.toNat == 1), false), ((m.ble 1000000), true), ((decide (0 ≤ i ∧ i < (↑a.len : Int) ∧ a.len ≤ a.len)), true), ((a.K i.toNat == 6), false), ((decide (0 ≤ i ∧ i < (↑a.len : Int) ∧ a.len ≤ a.len)), true), ((decide (i < 200)), true), ((decide (i < (↑a.len : Int))), true), ((decide (i < (↑a.len : Int))), true), ((decide (i < (↑a.len : Int))), true)]) (by kernel_rfl) ⟨(by rw [h26]; rfl), h16, h4, h16, h10, h9, h8, h7, h7, h6, h5, h4, h2, h3, h2, h1, h0, h0, h0, trivial⟩ (cx_next (a) (IntKind.i64.wrap (i + 1)) (c0) (c1) (IntKind.i64.wrap (c2 + 1)) (IntKind.i64.wrap (c3 + 1)) (c4) (getL [] G) (getL [] G) (n) (m) (by (obtain ⟨i0, i1, hn, hm, hU, hok⟩ := hP; have hlt : i < 200 := of_decide_eq_true k1; have hw : IntKind.i64.wrap (i + 1) = i + 1 := wrapI (by omega) (by omega); unfold cxP; rw [hw]; exact ⟨by omega, by omega, by omega, by omega, by first | rfl | (funext q; simp_all [getL]), hok⟩)) (by (obtain ⟨i0, i1, hn, hm, hU, hok⟩ := hP; have hlt : i < 200 := of_decide_eq_true k1; rw [wrapI (by omega) (by omega)]; omega)))
          · have h10 : (plWfB (a.P0 i.toNat, a.P1 i.toNat, a.P2 i.toNat)) = true := by (first | assumption | rfl | (exact kp _ kva (by assumption)) | (exact kp _ kvb (by assumption)) | (exact kp _ (wrap_wf _) (by assumption)) | (simp only [getL_same, beq_self_eq_true, bne_self_eq_false, Bool.and_self, Bool.not_true, Bool.not_false, Bool.and_true, Bool.true_and]; done) | (rw [k8]; simp; done) | (simp only [getL_same, beq_iff_eq, bne_iff_ne, ne_eq, bne_eq_false_iff_eq, beq_eq_false_iff_ne] at *; first | assumption | (symm; assumption) | omega))
            have h16 : (getL [] G (a.P0 i.toNat, a.P1 i.toNat, a.P2 i.toNat) != a.A i.toNat) = false := by (first | assumption | rfl | (exact kp _ kva (by assumption)) | (exact kp _ kvb (by assumption)) | (exact kp _ (wrap_wf _) (by assumption)) | (simp only [getL_same, beq_self_eq_true, bne_self_eq_false, Bool.and_self, Bool.not_true, Bool.not_false, Bool.and_true, Bool.true_and]; done) | (rw [k8]; simp; done) | (simp only [getL_same, beq_iff_eq, bne_iff_ne, ne_eq, bne_eq_false_iff_eq, beq_eq_false_iff_ne] at *; first | assumption | (symm; assumption) | omega))
            rcases Bool.eq_false_or_eq_true (a.B i.toNat == 0) with h17 | h17
            · have h14 : (plWfB (a.P0 i.toNat, a.P1 i.toNat, a.P2 i.toNat) && m.ble 1000000) = true := by (first | assumption | rfl | (exact kp _ kva (by assumption)) | (exact kp _ kvb (by assumption)) | (exact kp _ (wrap_wf _) (by assumption)) | (simp only [getL_same, beq_self_eq_true, bne_self_eq_false, Bool.and_self, Bool.not_true, Bool.not_false, Bool.and_true, Bool.true_and]; done) | (rw [k8]; simp; done) | (simp only [getL_same, beq_iff_eq, bne_iff_ne, ne_eq, bne_eq_false_iff_eq, beq_eq_false_iff_ne] at *; first | assumption | (symm; assumption) | omega))
              have h23 : (c0 == c0 && (c1 == c1 && (IntKind.i64.wrap (c2 + 1) == IntKind.i64.wrap (c2 + 1) && (c3 == c3 && (c4 == c4 && true))))) = true := by (first | assumption | rfl | (exact kp _ kva (by assumption)) | (exact kp _ kvb (by assumption)) | (exact kp _ (wrap_wf _) (by assumption)) | (simp only [getL_same, beq_self_eq_true, bne_self_eq_false, Bool.and_self, Bool.not_true, Bool.not_false, Bool.and_true, Bool.true_and]; done) | (rw [k8]; simp; done) | (simp only [getL_same, beq_iff_eq, bne_iff_ne, ne_eq, bne_eq_false_iff_eq, beq_eq_false_iff_ne] at *; first | assumption | (symm; assumption) | omega))
              exact Tri.pathG mixed libCE_ok (n := 10000) (k := 10000) (j := 0) (cfg := cxCfg) (o := List.replicate 5 (some true) ++ [some false] ++ [some true, some true] ++ [some false, some false] ++ [some true, some true] ++ [some false, some false] ++ [none] ++ [some true] ++ [some false] ++ List.replicate 3 (some true) ++ [some false] ++ [some true] ++ List.replicate 8 (none) ++ [some false]) (g' := .out .nor) (fs' := []) (s' := cxS (a) (IntKind.i64.wrap (i + 1)) (c0) (c1) (IntKind.i64.wrap (c2 + 1)) (c3) (c4) (getL [((a.P0 i.toNat, a.P1 i.toNat, a.P2 i.toNat), 0)] G) (getL [((a.P0 i.toNat, a.P1 i.toNat, a.P2 i.toNat), a.B i.toNat)] G) (n) (m + 1)) (asks := [(!(c0 == c0 && (c1 == c1 && (IntKind.i64.wrap (c2 + 1) == IntKind.i64.wrap (c2 + 1) && (c3 == c3 && (c4 == c4 && true))))), false), ((plWfB (a.P0 i.toNat, a.P1 i.toNat, a.P2 i.toNat) && m.ble 1000000), true), ((getL [] G (a.P0 i.toNat, a.P1 i.toNat, a.P2 i.toNat) != a.A i.toNat), false), ((m.ble 1000000), true), ((plWfB (a.P0 i.toNat, a.P1 i.toNat, a.P2 i.toNat)), true), ((a.B i.toNat == 0), true), ((getL [] G (a.P0 i.toNat, a.P1 i.toNat, a.P2 i.toNat) != a.A i.toNat), false), ((plWfB (a.P0 i.toNat, a.P1 i.toNat, a.P2 i.toNat)), true), ((a.A i.toNat != getL [] G (a.P0 i.toNat, a.P1 i.toNat, a.P2 i.toNat)), false), ((a.K i.toNat == 4), false), ((a.K i.toNat == 3), true), ((a.K i.toNat == 3), true), ((a.K i.toNat == 2), false), ((a.K i.toNat == 1), false), ((m.ble 1000000), true), ((decide (0 ≤ i ∧ i < (↑a.len : Int) ∧ a.len ≤ a.len)), true), ((a.K i.toNat == 6), false), ((decide (0 ≤ i ∧ i < (↑a.len : Int) ∧ a.len ≤ a.len)), true), ((decide (i < 200)), true), ((decide (i < (↑a.len : Int))), true), ((decide (i < (↑a.len : Int))), true), ((decide (i < (↑a.len : Int))), true)]) (by kernel_rfl) ⟨(by rw [h23]; rfl), h14, h16, h4, h10, h17, h16, h10, h9, h8, h7, h7, h6, h5, h4, h2, h3, h2, h1, h0, h0, h0, trivial⟩ (cx_next (a) (IntKind.i64.wrap (i + 1)) (c0) (c1) (IntKind.i64.wrap (c2 + 1)) (c3) (c4) (getL [((a.P0 i.toNat, a.P1 i.toNat, a.P2 i.toNat), 0)] G) (getL [((a.P0 i.toNat, a.P1 i.toNat, a.P2 i.toNat), a.B i.toNat)] G) (n) (m + 1) (by (obtain ⟨i0, i1, hn, hm, hU, hok⟩ := hP; have hlt : i < 200 := of_decide_eq_true k1; have hw : IntKind.i64.wrap (i + 1) = i + 1 := wrapI (by omega) (by omega); unfold cxP; rw [hw]; exact ⟨by omega, by omega, by omega, by omega, by first | rfl | (funext q; simp_all [getL]), hok⟩)) (by (obtain ⟨i0, i1, hn, hm, hU, hok⟩ := hP; have hlt : i < 200 := of_decide_eq_true k1; rw [wrapI (by omega) (by omega)]; omega)))
            · have h18 : (plWfB (a.P0 i.toNat, a.P1 i.toNat, a.P2 i.toNat) && (Lit.int IntKind.u64 (a.B i.toNat)).wf && a.B i.toNat != 0 && decide (n < maxLen)) = true := by (first | assumption | rfl | (exact kp _ kva (by assumption)) | (exact kp _ kvb (by assumption)) | (exact kp _ (wrap_wf _) (by assumption)) | (simp only [getL_same, beq_self_eq_true, bne_self_eq_false, Bool.and_self, Bool.not_true, Bool.not_false, Bool.and_true, Bool.true_and]; done) | (rw [k8]; simp; done) | (simp only [getL_same, beq_iff_eq, bne_iff_ne, ne_eq, bne_eq_false_iff_eq, beq_eq_false_iff_ne] at *; first | assumption | (symm; assumption) | omega))
              have h14 : (plWfB (a.P0 i.toNat, a.P1 i.toNat, a.P2 i.toNat) && m.ble 1000000) = true := by (first | assumption | rfl | (exact kp _ kva (by assumption)) | (exact kp _ kvb (by assumption)) | (exact kp _ (wrap_wf _) (by assumption)) | (simp only [getL_same, beq_self_eq_true, bne_self_eq_false, Bool.and_self, Bool.not_true, Bool.not_false, Bool.and_true, Bool.true_and]; done) | (rw [k8]; simp; done) | (simp only [getL_same, beq_iff_eq, bne_iff_ne, ne_eq, bne_eq_false_iff_eq, beq_eq_false_iff_ne] at *; first | assumption | (symm; assumption) | omega))
              have h23 : (c0 == c0 && (c1 == c1 && (IntKind.i64.wrap (c2 + 1) == IntKind.i64.wrap (c2 + 1) && (c3 == c3 && (c4 == c4 && true))))) = true := by (first | assumption | rfl | (exact kp _ kva (by assumption)) | (exact kp _ kvb (by assumption)) | (exact kp _ (wrap_wf _) (by assumption)) | (simp only [getL_same, beq_self_eq_true, bne_self_eq_false, Bool.and_self, Bool.not_true, Bool.not_false, Bool.and_true, Bool.true_and]; done) | (rw [k8]; simp; done) | (simp only [getL_same, beq_iff_eq, bne_iff_ne, ne_eq, bne_eq_false_iff_eq, beq_eq_false_iff_ne] at *; first | assumption | (symm; assumption) | omega))
              exact Tri.pathG mixed libCE_ok (n := 10000) (k := 10000) (j := 0) (cfg := cxCfg) (o := List.replicate 5 (some true) ++ [some false] ++ [some true, some true] ++ [some false, some false] ++ [some true, some true] ++ [some false, some false] ++ [none] ++ [some true] ++ [some false, some false] ++ [some true, some true] ++ [some false] ++ [some true] ++ List.replicate 8 (none) ++ [some false]) (g' := .out .nor) (fs' := []) (s' := cxS (a) (IntKind.i64.wrap (i + 1)) (c0) (c1) (IntKind.i64.wrap (c2 + 1)) (c3) (c4) (getL [((a.P0 i.toNat, a.P1 i.toNat, a.P2 i.toNat), a.B i.toNat)] G) (getL [((a.P0 i.toNat, a.P1 i.toNat, a.P2 i.toNat), a.B i.toNat)] G) (n + 1) (m + 1)) (asks := [(!(c0 == c0 && (c1 == c1 && (IntKind.i64.wrap (c2 + 1) == IntKind.i64.wrap (c2 + 1) && (c3 == c3 && (c4 == c4 && true))))), false), ((plWfB (a.P0 i.toNat, a.P1 i.toNat, a.P2 i.toNat) && m.ble 1000000), true), ((getL [] G (a.P0 i.toNat, a.P1 i.toNat, a.P2 i.toNat) != a.A i.toNat), false), ((m.ble 1000000), true), ((plWfB (a.P0 i.toNat, a.P1 i.toNat, a.P2 i.toNat) && (Lit.int IntKind.u64 (a.B i.toNat)).wf && a.B i.toNat != 0 && decide (n < maxLen)), true), ((a.B i.toNat == 0), false), ((getL [] G (a.P0 i.toNat, a.P1 i.toNat, a.P2 i.toNat) != a.A i.toNat), false), ((plWfB (a.P0 i.toNat, a.P1 i.toNat, a.P2 i.toNat)), true), ((a.A i.toNat != getL [] G (a.P0 i.toNat, a.P1 i.toNat, a.P2 i.toNat)), false), ((a.K i.toNat == 4), false), ((a.K i.toNat == 3), true), ((a.K i.toNat == 3), true), ((a.K i.toNat == 2), false), ((a.K i.toNat == 1), false), ((m.ble 1000000), true), ((decide (0 ≤ i ∧ i < (↑a.len : Int) ∧ a.len ≤ a.len)), true), ((a.K i.toNat == 6), false), ((decide (0 ≤ i ∧ i < (↑a.len : Int) ∧ a.len ≤ a.len)), true), ((decide (i < 200)), true), ((decide (i < (↑a.len : Int))), true), ((decide (i < (↑a.len : Int))), true), ((decide (i < (↑a.len : Int))), true)]) (by kernel_rfl) ⟨(by rw [h23]; rfl), h14, h16, h4, h18, h17, h16, h10, h9, h8, h7, h7, h6, h5, h4, h2, h3, h2, h1, h0, h0, h0, trivial⟩ (cx_next (a) (IntKind.i64.wrap (i + 1)) (c0) (c1) (IntKind.i64.wrap (c2 + 1)) (c3) (c4) (getL [((a.P0 i.toNat, a.P1 i.toNat, a.P2 i.toNat), a.B i.toNat)] G) (getL [((a.P0 i.toNat, a.P1 i.toNat, a.P2 i.toNat), a.B i.toNat)] G) (n + 1) (m + 1) (by (obtain ⟨i0, i1, hn, hm, hU, hok⟩ := hP; have hlt : i < 200 := of_decide_eq_true k1; have hw : IntKind.i64.wrap (i + 1) = i + 1 := wrapI (by omega) (by omega); unfold cxP; rw [hw]; exact ⟨by omega, by omega, by omega, by omega, by first | rfl | (funext q; simp_all [getL]), hok⟩)) (by (obtain ⟨i0, i1, hn, hm, hU, hok⟩ := hP; have hlt : i < 200 := of_decide_eq_true k1; rw [wrapI (by omega) (by omega)]; omega)))
        · rcases Bool.eq_false_or_eq_true (a.K i.toNat == 4) with h8 | h8
          · have h12 : (getL [] G (a.P0 i.toNat, a.P1 i.toNat, a.P2 i.toNat) != getL [] G (a.P0 i.toNat, a.P1 i.toNat, a.P2 i.toNat)) = false := by (first | assumption | rfl | (exact kp _ kva (by assumption)) | (exact kp _ kvb (by assumption)) | (exact kp _ (wrap_wf _) (by assumption)) | (simp only [getL_same, beq_self_eq_true, bne_self_eq_false, Bool.and_self, Bool.not_true, Bool.not_false, Bool.and_true, Bool.true_and]; done) | (rw [k8]; simp; done) | (simp only [getL_same, beq_iff_eq, bne_iff_ne, ne_eq, bne_eq_false_iff_eq, beq_eq_false_iff_ne] at *; first | assumption | (symm; assumption) | omega))
            have h10 : (plWfB (a.P0 i.toNat, a.P1 i.toNat, a.P2 i.toNat)) = true := by (first | assumption | rfl | (exact kp _ kva (by assumption)) | (exact kp _ kvb (by assumption)) | (exact kp _ (wrap_wf _) (by assumption)) | (simp only [getL_same, beq_self_eq_true, bne_self_eq_false, Bool.and_self, Bool.not_true, Bool.not_false, Bool.and_true, Bool.true_and]; done) | (rw [k8]; simp; done) | (simp only [getL_same, beq_iff_eq, bne_iff_ne, ne_eq, bne_eq_false_iff_eq, beq_eq_false_iff_ne] at *; first | assumption | (symm; assumption) | omega))
            rcases Bool.eq_false_or_eq_true (a.B i.toNat == 0) with h17 | h17
            · have h14 : (plWfB (a.P0 i.toNat, a.P1 i.toNat, a.P2 i.toNat) && m.ble 1000000) = true := by (first | assumption | rfl | (exact kp _ kva (by assumption)) | (exact kp _ kvb (by assumption)) | (exact kp _ (wrap_wf _) (by assumption)) | (simp only [getL_same, beq_self_eq_true, bne_self_eq_false, Bool.and_self, Bool.not_true, Bool.not_false, Bool.and_true, Bool.true_and]; done) | (rw [k8]; simp; done) | (simp only [getL_same, beq_iff_eq, bne_iff_ne, ne_eq, bne_eq_false_iff_eq, beq_eq_false_iff_ne] at *; first | assumption | (symm; assumption) | omega))
              have h23 : (c0 == c0 && (c1 == c1 && (IntKind.i64.wrap (c2 + 1) == IntKind.i64.wrap (c2 + 1) && (c3 == c3 && (c4 == c4 && true))))) = true := by (first | assumption | rfl | (exact kp _ kva (by assumption)) | (exact kp _ kvb (by assumption)) | (exact kp _ (wrap_wf _) (by assumption)) | (simp only [getL_same, beq_self_eq_true, bne_self_eq_false, Bool.and_self, Bool.not_true, Bool.not_false, Bool.and_true, Bool.true_and]; done) | (rw [k8]; simp; done) | (simp only [getL_same, beq_iff_eq, bne_iff_ne, ne_eq, bne_eq_false_iff_eq, beq_eq_false_iff_ne] at *; first | assumption | (symm; assumption) | omega))
              exact Tri.pathG mixed libCE_ok (n := 10000) (k := 10000) (j := 0) (cfg := cxCfg) (o := List.replicate 5 (some true) ++ [some false] ++ [some true, some true] ++ List.replicate 3 (some false) ++ [some true, some true] ++ [some false] ++ [none] ++ [some true] ++ [some false] ++ List.replicate 3 (some true) ++ [some false] ++ [some true] ++ List.replicate 8 (none) ++ [some false]) (g' := .out .nor) (fs' := []) (s' := cxS (a) (IntKind.i64.wrap (i + 1)) (c0) (c1) (IntKind.i64.wrap (c2 + 1)) (c3) (c4) (getL [((a.P0 i.toNat, a.P1 i.toNat, a.P2 i.toNat), 0)] G) (getL [((a.P0 i.toNat, a.P1 i.toNat, a.P2 i.toNat), a.B i.toNat)] G) (n) (m + 1)) (asks := [(!(c0 == c0 && (c1 == c1 && (IntKind.i64.wrap (c2 + 1) == IntKind.i64.wrap (c2 + 1) && (c3 == c3 && (c4 == c4 && true))))), false), ((plWfB (a.P0 i.toNat, a.P1 i.toNat, a.P2 i.toNat) && m.ble 1000000), true), ((getL [] G (a.P0 i.toNat, a.P1 i.toNat, a.P2 i.toNat) != getL [] G (a.P0 i.toNat, a.P1 i.toNat, a.P2 i.toNat)), false), ((m.ble 1000000), true), ((plWfB (a.P0 i.toNat, a.P1 i.toNat, a.P2 i.toNat)), true), ((a.B i.toNat == 0), true), ((getL [] G (a.P0 i.toNat, a.P1 i.toNat, a.P2 i.toNat) != getL [] G (a.P0 i.toNat, a.P1 i.toNat, a.P2 i.toNat)), false), ((plWfB (a.P0 i.toNat, a.P1 i.toNat, a.P2 i.toNat)), true), ((getL [] G (a.P0 i.toNat, a.P1 i.toNat, a.P2 i.toNat) != getL [] G (a.P0 i.toNat, a.P1 i.toNat, a.P2 i.toNat)), false), ((a.K i.toNat == 4), true), ((a.K i.toNat == 4), true), ((a.K i.toNat == 3), false), ((a.K i.toNat == 2), false), ((a.K i.toNat == 1), false), ((m.ble 1000000), true), ((decide (0 ≤ i ∧ i < (↑a.len : Int) ∧ a.len ≤ a.len)), true), ((a.K i.toNat == 6), false), ((decide (0 ≤ i ∧ i < (↑a.len : Int) ∧ a.len ≤ a.len)), true), ((decide (i < 200)), true), ((decide (i < (↑a.len : Int))), true), ((decide (i < (↑a.len : Int))), true), ((decide (i < (↑a.len : Int))), true)]) (by kernel_rfl) ⟨(by rw [h23]; rfl), h14, h12, h4, h10, h17, h12, h10, h12, h8, h8, h7, h6, h5, h4, h2, h3, h2, h1, h0, h0, h0, trivial⟩ (cx_next (a) (IntKind.i64.wrap (i + 1)) (c0) (c1) (IntKind.i64.wrap (c2 + 1)) (c3) (c4) (getL [((a.P0 i.toNat, a.P1 i.toNat, a.P2 i.toNat), 0)] G) (getL [((a.P0 i.toNat, a.P1 i.toNat, a.P2 i.toNat), a.B i.toNat)] G) (n) (m + 1) (by (obtain ⟨i0, i1, hn, hm, hU, hok⟩ := hP; have hlt : i < 200 := of_decide_eq_true k1; have hw : IntKind.i64.wrap (i + 1) = i + 1 := wrapI (by omega) (by omega); unfold cxP; rw [hw]; exact ⟨by omega, by omega, by omega, by omega, by first | rfl | (funext q; simp_all [getL]), hok⟩)) (by (obtain ⟨i0, i1, hn, hm, hU, hok⟩ := hP; have hlt : i < 200 := of_decide_eq_true k1; rw [wrapI (by omega) (by omega)]; omega)))
            · have h18 : (plWfB (a.P0 i.toNat, a.P1 i.toNat, a.P2 i.toNat) && (Lit.int IntKind.u64 (a.B i.toNat)).wf && a.B i.toNat != 0 && decide (n < maxLen)) = true := by (first | assumption | rfl | (exact kp _ kva (by assumption)) | (exact kp _ kvb (by assumption)) | (exact kp _ (wrap_wf _) (by assumption)) | (simp only [getL_same, beq_self_eq_true, bne_self_eq_false, Bool.and_self, Bool.not_true, Bool.not_false, Bool.and_true, Bool.true_and]; done) | (rw [k8]; simp; done) | (simp only [getL_same, beq_iff_eq, bne_iff_ne, ne_eq, bne_eq_false_iff_eq, beq_eq_false_iff_ne] at *; first | assumption | (symm; assumption) | omega))
              have h14 : (plWfB (a.P0 i.toNat, a.P1 i.toNat, a.P2 i.toNat) && m.ble 1000000) = true := by (first | assumption | rfl | (exact kp _ kva (by assumption)) | (exact kp _ kvb (by assumption)) | (exact kp _ (wrap_wf _) (by assumption)) | (simp only [getL_same, beq_self_eq_true, bne_self_eq_false, Bool.and_self, Bool.not_true, Bool.not_false, Bool.and_true, Bool.true_and]; done) | (rw [k8]; simp; done) | (simp only [getL_same, beq_iff_eq, bne_iff_ne, ne_eq, bne_eq_false_iff_eq, beq_eq_false_iff_ne] at *; first | assumption | (symm; assumption) | omega))
              have h23 : (c0 == c0 && (c1 == c1 && (IntKind.i64.wrap (c2 + 1) == IntKind.i64.wrap (c2 + 1) && (c3 == c3 && (c4 == c4 && true))))) = true := by (first | assumption | rfl | (exact kp _ kva (by assumption)) | (exact kp _ kvb (by assumption)) | (exact kp _ (wrap_wf _) (by assumption)) | (simp only [getL_same, beq_self_eq_true, bne_self_eq_false, Bool.and_self, Bool.not_true, Bool.not_false, Bool.and_true, Bool.true_and]; done) | (rw [k8]; simp; done) | (simp only [getL_same, beq_iff_eq, bne_iff_ne, ne_eq, bne_eq_false_iff_eq, beq_eq_false_iff_ne] at *; first | assumption | (symm; assumption) | omega))
              exact Tri.pathG mixed libCE_ok (n := 10000) (k := 10000) (j := 0) (cfg := cxCfg) (o := List.replicate 5 (some true) ++ [some false] ++ [some true, some true] ++ List.replicate 3 (some false) ++ [some true, some true] ++ [some false] ++ [none] ++ [some true] ++ [some false, some false] ++ [some true, some true] ++ [some false] ++ [some true] ++ List.replicate 8 (none) ++ [some false]) (g' := .out .nor) (fs' := []) (s' := cxS (a) (IntKind.i64.wrap (i + 1)) (c0) (c1) (IntKind.i64.wrap (c2 + 1)) (c3) (c4) (getL [((a.P0 i.toNat, a.P1 i.toNat, a.P2 i.toNat), a.B i.toNat)] G) (getL [((a.P0 i.toNat, a.P1 i.toNat, a.P2 i.toNat), a.B i.toNat)] G) (n + 1) (m + 1)) (asks := [(!(c0 == c0 && (c1 == c1 && (IntKind.i64.wrap (c2 + 1) == IntKind.i64.wrap (c2 + 1) && (c3 == c3 && (c4 == c4 && true))))), false), ((plWfB (a.P0 i.toNat, a.P1 i.toNat, a.P2 i.toNat) && m.ble 1000000), true), ((getL [] G (a.P0 i.toNat, a.P1 i.toNat, a.P2 i.toNat) != getL [] G (a.P0 i.toNat, a.P1 i.toNat, a.P2 i.toNat)), false), ((m.ble 1000000), true), ((plWfB (a.P0 i.toNat, a.P1 i.toNat, a.P2 i.toNat) && (Lit.int IntKind.u64 (a.B i.toNat)).wf && a.B i.toNat != 0 && decide (n < maxLen)), true), ((a.B i.toNat == 0), false), ((getL [] G (a.P0 i.toNat, a.P1 i.toNat, a.P2 i.toNat) != getL [] G (a.P0 i.toNat, a.P1 i.toNat, a.P2 i.toNat)), false), ((plWfB (a.P0 i.toNat, a.P1 i.toNat, a.P2 i.toNat)), true), ((getL [] G (a.P0 i.toNat, a.P1 i.toNat, a.P2 i.toNat) != getL [] G (a.P0 i.toNat, a.P1 i.toNat, a.P2 i.toNat)), false), ((a.K i.toNat == 4), true), ((a.K i.toNat == 4), true), ((a.K i.toNat == 3), false), ((a.K i.toNat == 2), false), ((a.K i.toNat == 1), false), ((m.ble 1000000), true), ((decide (0 ≤ i ∧ i < (↑a.len : Int) ∧ a.len ≤ a.len)), true), ((a.K i.toNat == 6), false), ((decide (0 ≤ i ∧ i < (↑a.len : Int) ∧ a.len ≤ a.len)), true), ((decide (i < 200)), true), ((decide (i < (↑a.len : Int))), true), ((decide (i < (↑a.len : Int))), true), ((decide (i < (↑a.len : Int))), true)]) (by kernel_rfl) ⟨(by rw [h23]; rfl), h14, h12, h4, h18, h17, h12, h10, h12, h8, h8, h7, h6, h5, h4, h2, h3, h2, h1, h0, h0, h0, trivial⟩ (cx_next (a) (IntKind.i64.wrap (i + 1)) (c0) (c1) (IntKind.i64.wrap (c2 + 1)) (c3) (c4) (getL [((a.P0 i.toNat, a.P1 i.toNat, a.P2 i.toNat), a.B i.toNat)] G) (getL [((a.P0 i.toNat, a.P1 i.toNat, a.P2 i.toNat), a.B i.toNat)] G) (n + 1) (m + 1) (by (obtain ⟨i0, i1, hn, hm, hU, hok⟩ := hP; have hlt : i < 200 := of_decide_eq_true k1; have hw : IntKind.i64.wrap (i + 1) = i + 1 := wrapI (by omega) (by omega); unfold cxP; rw [hw]; exact ⟨by omega, by omega, by omega, by omega, by first | rfl | (funext q; simp_all [getL]), hok⟩)) (by (obtain ⟨i0, i1, hn, hm, hU, hok⟩ := hP; have hlt : i < 200 := of_decide_eq_true k1; rw [wrapI (by omega) (by omega)]; omega)))
          · rcases Bool.eq_false_or_eq_true (a.K i.toNat == 5) with h24 | h24
            · have h14 : (plWfB (a.P0 i.toNat, a.P1 i.toNat, a.P2 i.toNat) && m.ble 1000000) = true := by (first | assumption | rfl | (exact kp _ kva (by assumption)) | (exact kp _ kvb (by assumption)) | (exact kp _ (wrap_wf _) (by assumption)) | (simp only [getL_same, beq_self_eq_true, bne_self_eq_false, Bool.and_self, Bool.not_true, Bool.not_false, Bool.and_true, Bool.true_and]; done) | (rw [k8]; simp; done) | (simp only [getL_same, beq_iff_eq, bne_iff_ne, ne_eq, bne_eq_false_iff_eq, beq_eq_false_iff_ne] at *; first | assumption | (symm; assumption) | omega))
              have h10 : (plWfB (a.P0 i.toNat, a.P1 i.toNat, a.P2 i.toNat)) = true := by (first | assumption | rfl | (exact kp _ kva (by assumption)) | (exact kp _ kvb (by assumption)) | (exact kp _ (wrap_wf _) (by assumption)) | (simp only [getL_same, beq_self_eq_true, bne_self_eq_false, Bool.and_self, Bool.not_true, Bool.not_false, Bool.and_true, Bool.true_and]; done) | (rw [k8]; simp; done) | (simp only [getL_same, beq_iff_eq, bne_iff_ne, ne_eq, bne_eq_false_iff_eq, beq_eq_false_iff_ne] at *; first | assumption | (symm; assumption) | omega))
              rcases Bool.eq_false_or_eq_true (IntKind.u64.wrap (getL [] G (a.P0 i.toNat, a.P1 i.toNat, a.P2 i.toNat) + a.A i.toNat) == 0) with h25 | h25
              · have h11 : (getL [] G (a.P0 i.toNat, a.P1 i.toNat, a.P2 i.toNat) == getL [] G (a.P0 i.toNat, a.P1 i.toNat, a.P2 i.toNat)) = true := by (first | assumption | rfl | (exact kp _ kva (by assumption)) | (exact kp _ kvb (by assumption)) | (exact kp _ (wrap_wf _) (by assumption)) | (simp only [getL_same, beq_self_eq_true, bne_self_eq_false, Bool.and_self, Bool.not_true, Bool.not_false, Bool.and_true, Bool.true_and]; done) | (rw [k8]; simp; done) | (simp only [getL_same, beq_iff_eq, bne_iff_ne, ne_eq, bne_eq_false_iff_eq, beq_eq_false_iff_ne] at *; first | assumption | (symm; assumption) | omega))
                have h28 : (c0 == c0 && (c1 == c1 && (c2 == c2 && (c3 == c3 && (IntKind.i64.wrap (c4 + 1) == IntKind.i64.wrap (c4 + 1) && true))))) = true := by (first | assumption | rfl | (exact kp _ kva (by assumption)) | (exact kp _ kvb (by assumption)) | (exact kp _ (wrap_wf _) (by assumption)) | (simp only [getL_same, beq_self_eq_true, bne_self_eq_false, Bool.and_self, Bool.not_true, Bool.not_false, Bool.and_true, Bool.true_and]; done) | (rw [k8]; simp; done) | (simp only [getL_same, beq_iff_eq, bne_iff_ne, ne_eq, bne_eq_false_iff_eq, beq_eq_false_iff_ne] at *; first | assumption | (symm; assumption) | omega))
                exact Tri.pathG mixed libCE_ok (n := 10000) (k := 10000) (j := 0) (cfg := cxCfg) (o := List.replicate 5 (some true) ++ [some false] ++ [some true, some true] ++ List.replicate 4 (some false) ++ [some true, some true] ++ [none] ++ List.replicate 3 (some true) ++ [some false, some false] ++ [none] ++ List.replicate 6 (some false)) (g' := .out .nor) (fs' := []) (s' := cxS (a) (IntKind.i64.wrap (i + 1)) (c0) (c1) (c2) (c3) (IntKind.i64.wrap (c4 + 1)) (getL [((a.P0 i.toNat, a.P1 i.toNat, a.P2 i.toNat), 0)] G) (getL [((a.P0 i.toNat, a.P1 i.toNat, a.P2 i.toNat), IntKind.u64.wrap (getL [] G (a.P0 i.toNat, a.P1 i.toNat, a.P2 i.toNat) + a.A i.toNat))] G) (n) (m + 1)) (asks := [(!(c0 == c0 && (c1 == c1 && (c2 == c2 && (c3 == c3 && (IntKind.i64.wrap (c4 + 1) == IntKind.i64.wrap (c4 + 1) && true))))), false), (!(getL [] G (a.P0 i.toNat, a.P1 i.toNat, a.P2 i.toNat) == getL [] G (a.P0 i.toNat, a.P1 i.toNat, a.P2 i.toNat)), false), (!(getL [] G (a.P0 i.toNat, a.P1 i.toNat, a.P2 i.toNat) == getL [] G (a.P0 i.toNat, a.P1 i.toNat, a.P2 i.toNat)), false), (!(getL [] G (a.P0 i.toNat, a.P1 i.toNat, a.P2 i.toNat) == getL [] G (a.P0 i.toNat, a.P1 i.toNat, a.P2 i.toNat)), false), (!(getL [] G (a.P0 i.toNat, a.P1 i.toNat, a.P2 i.toNat) == getL [] G (a.P0 i.toNat, a.P1 i.toNat, a.P2 i.toNat)), false), (!(getL [] G (a.P0 i.toNat, a.P1 i.toNat, a.P2 i.toNat) == getL [] G (a.P0 i.toNat, a.P1 i.toNat, a.P2 i.toNat)), false), (!(getL [] G (a.P0 i.toNat, a.P1 i.toNat, a.P2 i.toNat) == getL [] G (a.P0 i.toNat, a.P1 i.toNat, a.P2 i.toNat)), false), (!(getL [] G (a.P0 i.toNat, a.P1 i.toNat, a.P2 i.toNat) == getL [] G (a.P0 i.toNat, a.P1 i.toNat, a.P2 i.toNat)), false), ((plWfB (a.P0 i.toNat, a.P1 i.toNat, a.P2 i.toNat)), true), ((IntKind.u64.wrap (getL [] G (a.P0 i.toNat, a.P1 i.toNat, a.P2 i.toNat) + a.A i.toNat) == 0), true), ((plWfB (a.P0 i.toNat, a.P1 i.toNat, a.P2 i.toNat)), true), ((plWfB (a.P0 i.toNat, a.P1 i.toNat, a.P2 i.toNat) && m.ble 1000000), true), ((a.K i.toNat == 5), true), ((a.K i.toNat == 4), false), ((a.K i.toNat == 3), false), ((a.K i.toNat == 2), false), ((a.K i.toNat == 1), false), ((m.ble 1000000), true), ((decide (0 ≤ i ∧ i < (↑a.len : Int) ∧ a.len ≤ a.len)), true), ((a.K i.toNat == 6), false), ((decide (0 ≤ i ∧ i < (↑a.len : Int) ∧ a.len ≤ a.len)), true), ((decide (i < 200)), true), ((decide (i < (↑a.len : Int))), true), ((decide (i < (↑a.len : Int))), true), ((decide (i < (↑a.len : Int))), true)]) (by kernel_rfl) ⟨(by rw [h28]; rfl), (by rw [h11]; rfl), (by rw [h11]; rfl), (by rw [h11]; rfl), (by rw [h11]; rfl), (by rw [h11]; rfl), (by rw [h11]; rfl), (by rw [h11]; rfl), h10, h25, h10, h14, h24, h8, h7, h6, h5, h4, h2, h3, h2, h1, h0, h0, h0, trivial⟩ (cx_next (a) (IntKind.i64.wrap (i + 1)) (c0) (c1) (c2) (c3) (IntKind.i64.wrap (c4 + 1)) (getL [((a.P0 i.toNat, a.P1 i.toNat, a.P2 i.toNat), 0)] G) (getL [((a.P0 i.toNat, a.P1 i.toNat, a.P2 i.toNat), IntKind.u64.wrap (getL [] G (a.P0 i.toNat, a.P1 i.toNat, a.P2 i.toNat) + a.A i.toNat))] G) (n) (m + 1) (by (obtain ⟨i0, i1, hn, hm, hU, hok⟩ := hP; have hlt : i < 200 := of_decide_eq_true k1; have hw : IntKind.i64.wrap (i + 1) = i + 1 := wrapI (by omega) (by omega); unfold cxP; rw [hw]; exact ⟨by omega, by omega, by omega, by omega, by first | rfl | (funext q; simp_all [getL]), hok⟩)) (by (obtain ⟨i0, i1, hn, hm, hU, hok⟩ := hP; have hlt : i < 200 := of_decide_eq_true k1; rw [wrapI (by omega) (by omega)]; omega)))
              · have h27 : (plWfB (a.P0 i.toNat, a.P1 i.toNat, a.P2 i.toNat) && (Lit.int IntKind.u64 (IntKind.u64.wrap (getL [] G (a.P0 i.toNat, a.P1 i.toNat, a.P2 i.toNat) + a.A i.toNat))).wf && IntKind.u64.wrap (getL [] G (a.P0 i.toNat, a.P1 i.toNat, a.P2 i.toNat) + a.A i.toNat) != 0 && decide (n < maxLen)) = true := by (first | assumption | rfl | (exact kp _ kva (by assumption)) | (exact kp _ kvb (by assumption)) | (exact kp _ (wrap_wf _) (by assumption)) | (simp only [getL_same, beq_self_eq_true, bne_self_eq_false, Bool.and_self, Bool.not_true, Bool.not_false, Bool.and_true, Bool.true_and]; done) | (rw [k8]; simp; done) | (simp only [getL_same, beq_iff_eq, bne_iff_ne, ne_eq, bne_eq_false_iff_eq, beq_eq_false_iff_ne] at *; first | assumption | (symm; assumption) | omega))
                have h11 : (getL [] G (a.P0 i.toNat, a.P1 i.toNat, a.P2 i.toNat) == getL [] G (a.P0 i.toNat, a.P1 i.toNat, a.P2 i.toNat)) = true := by (first | assumption | rfl | (exact kp _ kva (by assumption)) | (exact kp _ kvb (by assumption)) | (exact kp _ (wrap_wf _) (by assumption)) | (simp only [getL_same, beq_self_eq_true, bne_self_eq_false, Bool.and_self, Bool.not_true, Bool.not_false, Bool.and_true, Bool.true_and]; done) | (rw [k8]; simp; done) | (simp only [getL_same, beq_iff_eq, bne_iff_ne, ne_eq, bne_eq_false_iff_eq, beq_eq_false_iff_ne] at *; first | assumption | (symm; assumption) | omega))
                have h28 : (c0 == c0 && (c1 == c1 && (c2 == c2 && (c3 == c3 && (IntKind.i64.wrap (c4 + 1) == IntKind.i64.wrap (c4 + 1) && true))))) = true := by (first | assumption | rfl | (exact kp _ kva (by assumption)) | (exact kp _ kvb (by assumption)) | (exact kp _ (wrap_wf _) (by assumption)) | (simp only [getL_same, beq_self_eq_true, bne_self_eq_false, Bool.and_self, Bool.not_true, Bool.not_false, Bool.and_true, Bool.true_and]; done) | (rw [k8]; simp; done) | (simp only [getL_same, beq_iff_eq, bne_iff_ne, ne_eq, bne_eq_false_iff_eq, beq_eq_false_iff_ne] at *; first | assumption | (symm; assumption) | omega))
                exact Tri.pathG mixed libCE_ok (n := 10000) (k := 10000) (j := 0) (cfg := cxCfg) (o := List.replicate 5 (some true) ++ [some false] ++ [some true, some true] ++ List.replicate 4 (some false) ++ [some true, some true] ++ [none] ++ [some true] ++ [some false] ++ [some true] ++ [some false, some false] ++ [none] ++ List.replicate 6 (some false)) (g' := .out .nor) (fs' := []) (s' := cxS (a) (IntKind.i64.wrap (i + 1)) (c0) (c1) (c2) (c3) (IntKind.i64.wrap (c4 + 1)) (getL [((a.P0 i.toNat, a.P1 i.toNat, a.P2 i.toNat), IntKind.u64.wrap (getL [] G (a.P0 i.toNat, a.P1 i.toNat, a.P2 i.toNat) + a.A i.toNat))] G) (getL [((a.P0 i.toNat, a.P1 i.toNat, a.P2 i.toNat), IntKind.u64.wrap (getL [] G (a.P0 i.toNat, a.P1 i.toNat, a.P2 i.toNat) + a.A i.toNat))] G) (n + 1) (m + 1)) (asks := [(!(c0 == c0 && (c1 == c1 && (c2 == c2 && (c3 == c3 && (IntKind.i64.wrap (c4 + 1) == IntKind.i64.wrap (c4 + 1) && true))))), false), (!(getL [] G (a.P0 i.toNat, a.P1 i.toNat, a.P2 i.toNat) == getL [] G (a.P0 i.toNat, a.P1 i.toNat, a.P2 i.toNat)), false), (!(getL [] G (a.P0 i.toNat, a.P1 i.toNat, a.P2 i.toNat) == getL [] G (a.P0 i.toNat, a.P1 i.toNat, a.P2 i.toNat)), false), (!(getL [] G (a.P0 i.toNat, a.P1 i.toNat, a.P2 i.toNat) == getL [] G (a.P0 i.toNat, a.P1 i.toNat, a.P2 i.toNat)), false), (!(getL [] G (a.P0 i.toNat, a.P1 i.toNat, a.P2 i.toNat) == getL [] G (a.P0 i.toNat, a.P1 i.toNat, a.P2 i.toNat)), false), (!(getL [] G (a.P0 i.toNat, a.P1 i.toNat, a.P2 i.toNat) == getL [] G (a.P0 i.toNat, a.P1 i.toNat, a.P2 i.toNat)), false), (!(getL [] G (a.P0 i.toNat, a.P1 i.toNat, a.P2 i.toNat) == getL [] G (a.P0 i.toNat, a.P1 i.toNat, a.P2 i.toNat)), false), (!(getL [] G (a.P0 i.toNat, a.P1 i.toNat, a.P2 i.toNat) == getL [] G (a.P0 i.toNat, a.P1 i.toNat, a.P2 i.toNat)), false), ((plWfB (a.P0 i.toNat, a.P1 i.toNat, a.P2 i.toNat) && (Lit.int IntKind.u64 (IntKind.u64.wrap (getL [] G (a.P0 i.toNat, a.P1 i.toNat, a.P2 i.toNat) + a.A i.toNat))).wf && IntKind.u64.wrap (getL [] G (a.P0 i.toNat, a.P1 i.toNat, a.P2 i.toNat) + a.A i.toNat) != 0 && decide (n < maxLen)), true), ((IntKind.u64.wrap (getL [] G (a.P0 i.toNat, a.P1 i.toNat, a.P2 i.toNat) + a.A i.toNat) == 0), false), ((plWfB (a.P0 i.toNat, a.P1 i.toNat, a.P2 i.toNat)), true), ((plWfB (a.P0 i.toNat, a.P1 i.toNat, a.P2 i.toNat) && m.ble 1000000), true), ((a.K i.toNat == 5), true), ((a.K i.toNat == 4), false), ((a.K i.toNat == 3), false), ((a.K i.toNat == 2), false), ((a.K i.toNat == 1), false), ((m.ble 1000000), true), ((decide (0 ≤ i ∧ i < (↑a.len : Int) ∧ a.len ≤ a.len)), true), ((a.K i.toNat == 6), false), ((decide (0 ≤ i ∧ i < (↑a.len : Int) ∧ a.len ≤ a.len)), true), ((decide (i < 200)), true), ((decide (i < (↑a.len : Int))), true), ((decide (i < (↑a.len : Int))), true), ((decide (i < (↑a.len : Int))), true)]) (by kernel_rfl) ⟨(by rw [h28]; rfl), (by rw [h11]; rfl), (by rw [h11]; rfl), (by rw [h11]; rfl), (by rw [h11]; rfl), (by rw [h11]; rfl), (by rw [h11]; rfl), (by rw [h11]; rfl), h27, h25, h10, h14, h24, h8, h7, h6, h5, h4, h2, h3, h2, h1, h0, h0, h0, trivial⟩ (cx_next (a) (IntKind.i64.wrap (i + 1)) (c0) (c1) (c2) (c3) (IntKind.i64.wrap (c4 + 1)) (getL [((a.P0 i.toNat, a.P1 i.toNat, a.P2 i.toNat), IntKind.u64.wrap (getL [] G (a.P0 i.toNat, a.P1 i.toNat, a.P2 i.toNat) + a.A i.toNat))] G) (getL [((a.P0 i.toNat, a.P1 i.toNat, a.P2 i.toNat), IntKind.u64.wrap (getL [] G (a.P0 i.toNat, a.P1 i.toNat, a.P2 i.toNat) + a.A i.toNat))] G) (n + 1) (m + 1) (by (obtain ⟨i0, i1, hn, hm, hU, hok⟩ := hP; have hlt : i < 200 := of_decide_eq_true k1; have hw : IntKind.i64.wrap (i + 1) = i + 1 := wrapI (by omega) (by omega); unfold cxP; rw [hw]; exact ⟨by omega, by omega, by omega, by omega, by first | rfl | (funext q; simp_all [getL]), hok⟩)) (by (obtain ⟨i0, i1, hn, hm, hU, hok⟩ := hP; have hlt : i < 200 := of_decide_eq_true k1; rw [wrapI (by omega) (by omega)]; omega)))
            · have h10 : (plWfB (a.P0 i.toNat, a.P1 i.toNat, a.P2 i.toNat)) = true := by (first | assumption | rfl | (exact kp _ kva (by assumption)) | (exact kp _ kvb (by assumption)) | (exact kp _ (wrap_wf _) (by assumption)) | (simp only [getL_same, beq_self_eq_true, bne_self_eq_false, Bool.and_self, Bool.not_true, Bool.not_false, Bool.and_true, Bool.true_and]; done) | (rw [k8]; simp; done) | (simp only [getL_same, beq_iff_eq, bne_iff_ne, ne_eq, bne_eq_false_iff_eq, beq_eq_false_iff_ne] at *; first | assumption | (symm; assumption) | omega))
              have h11 : (getL [] G (a.P0 i.toNat, a.P1 i.toNat, a.P2 i.toNat) == getL [] G (a.P0 i.toNat, a.P1 i.toNat, a.P2 i.toNat)) = true := by (first | assumption | rfl | (exact kp _ kva (by assumption)) | (exact kp _ kvb (by assumption)) | (exact kp _ (wrap_wf _) (by assumption)) | (simp only [getL_same, beq_self_eq_true, bne_self_eq_false, Bool.and_self, Bool.not_true, Bool.not_false, Bool.and_true, Bool.true_and]; done) | (rw [k8]; simp; done) | (simp only [getL_same, beq_iff_eq, bne_iff_ne, ne_eq, bne_eq_false_iff_eq, beq_eq_false_iff_ne] at *; first | assumption | (symm; assumption) | omega))
              have h29 : (c0 == c0 && (c1 == c1 && (c2 == c2 && (c3 == c3 && (c4 == c4 && true))))) = true := by (first | assumption | rfl | (exact kp _ kva (by assumption)) | (exact kp _ kvb (by assumption)) | (exact kp _ (wrap_wf _) (by assumption)) | (simp only [getL_same, beq_self_eq_true, bne_self_eq_false, Bool.and_self, Bool.not_true, Bool.not_false, Bool.and_true, Bool.true_and]; done) | (rw [k8]; simp; done) | (simp only [getL_same, beq_iff_eq, bne_iff_ne, ne_eq, bne_eq_false_iff_eq, beq_eq_false_iff_ne] at *; first | assumption | (symm; assumption) | omega))
              exact Tri.pathG mixed libCE_ok (n := 10000) (k := 10000) (j := 0) (cfg := cxCfg) (o := List.replicate 5 (some true) ++ [some false] ++ [some true, some true] ++ List.replicate 5 (some false) ++ [none] ++ [some true] ++ [some false, some false] ++ [none] ++ List.replicate 6 (some false)) (g' := .out .nor) (fs' := []) (s' := cxS (a) (IntKind.i64.wrap (i + 1)) (c0) (c1) (c2) (c3) (c4) (getL [] G) (getL [] G) (n) (m)) (asks := [(!(c0 == c0 && (c1 == c1 && (c2 == c2 && (c3 == c3 && (c4 == c4 && true))))), false), (!(getL [] G (a.P0 i.toNat, a.P1 i.toNat, a.P2 i.toNat) == getL [] G (a.P0 i.toNat, a.P1 i.toNat, a.P2 i.toNat)), false), (!(getL [] G (a.P0 i.toNat, a.P1 i.toNat, a.P2 i.toNat) == getL [] G (a.P0 i.toNat, a.P1 i.toNat, a.P2 i.toNat)), false), (!(getL [] G (a.P0 i.toNat, a.P1 i.toNat, a.P2 i.toNat) == getL [] G (a.P0 i.toNat, a.P1 i.toNat, a.P2 i.toNat)), false), (!(getL [] G (a.P0 i.toNat, a.P1 i.toNat, a.P2 i.toNat) == getL [] G (a.P0 i.toNat, a.P1 i.toNat, a.P2 i.toNat)), false), (!(getL [] G (a.P0 i.toNat, a.P1 i.toNat, a.P2 i.toNat) == getL [] G (a.P0 i.toNat, a.P1 i.toNat, a.P2 i.toNat)), false), (!(getL [] G (a.P0 i.toNat, a.P1 i.toNat, a.P2 i.toNat) == getL [] G (a.P0 i.toNat, a.P1 i.toNat, a.P2 i.toNat)), false), (!(getL [] G (a.P0 i.toNat, a.P1 i.toNat, a.P2 i.toNat) == getL [] G (a.P0 i.toNat, a.P1 i.toNat, a.P2 i.toNat)), false), ((plWfB (a.P0 i.toNat, a.P1 i.toNat, a.P2 i.toNat)), true), ((a.K i.toNat == 5), false), ((a.K i.toNat == 4), false), ((a.K i.toNat == 3), false), ((a.K i.toNat == 2), false), ((a.K i.toNat == 1), false), ((m.ble 1000000), true), ((decide (0 ≤ i ∧ i < (↑a.len : Int) ∧ a.len ≤ a.len)), true), ((a.K i.toNat == 6), false), ((decide (0 ≤ i ∧ i < (↑a.len : Int) ∧ a.len ≤ a.len)), true), ((decide (i < 200)), true), ((decide (i < (↑a.len : Int))), true), ((decide (i < (↑a.len : Int))), true), ((decide (i < (↑a.len : Int))), true)]) (by kernel_rfl) ⟨(by rw [h29]; rfl), (by rw [h11]; rfl), (by rw [h11]; rfl), (by rw [h11]; rfl), (by rw [h11]; rfl), (by rw [h11]; rfl), (by rw [h11]; rfl), (by rw [h11]; rfl), h10, h24, h8, h7, h6, h5, h4, h2, h3, h2, h1, h0, h0, h0, trivial⟩ (cx_next (a) (IntKind.i64.wrap (i + 1)) (c0) (c1) (c2) (c3) (c4) (getL [] G) (getL [] G) (n) (m) (by (obtain ⟨i0, i1, hn, hm, hU, hok⟩ := hP; have hlt : i < 200 := of_decide_eq_true k1; have hw : IntKind.i64.wrap (i + 1) = i + 1 := wrapI (by omega) (by omega); unfold cxP; rw [hw]; exact ⟨by omega, by omega, by omega, by omega, by first | rfl | (funext q; simp_all [getL]), hok⟩)) (by (obtain ⟨i0, i1, hn, hm, hU, hok⟩ := hP; have hlt : i < 200 := of_decide_eq_true k1; rw [wrapI (by omega) (by omega)]; omega)))
theorem cx_exit' (a : CXA) (i c0 c1 c2 c3 c4 : Int) (G : Pl → Int) (n m : Nat) (hP : cxP a i c0 c1 c2 c3 c4 G G n m) : Tri repAt Try.prog cxZ 0 (.out (.out 0)) cxL.2 (cxS a i c0 c1 c2 c3 c4 G G n m) cxQ := by
  obtain ⟨i0, i1, hn, hm, _⟩ := hP
  exact Tri.know (φ := IsPlaces (getL [] G) (placesOf (getL [] G)) ∧ (placesOf (getL [] G)).length ≤ m) (fun B ρ own w hs => stand_fin (k := 0) hs rfl) (fun hf => cx_exit a i c0 c1 c2 c3 c4 G n m (by omega) (by omega) (by omega))
theorem cx_over (a : CXA) (i c0 c1 c2 c3 c4 : Int) (G : Pl → Int) (n m : Nat) (k : (decide (i < (a.len : Int)) && decide (i < 200)) = false) (hP : cxP a i c0 c1 c2 c3 c4 G G n m) {r : Nat} : Tri repAt Try.prog cxZ 0 (.go cxL.1) [] (cxS a i c0 c1 c2 c3 c4 G G n m) (cxR a r) := by
  rcases Bool.eq_false_or_eq_true (decide (i < (↑a.len : Int))) with h0 | h0
  · have h1 : (decide (i < 200)) = false := by (simp_all; done)
    exact Tri.pathG mixed libCE_ok (n := 10000) (k := 10000) (j := 0) (cfg := cxCfg) (o := List.replicate 3 (some true) ++ [some false]) (g' := .out (.out 0)) (fs' := []) (s' := cxS (a) (i) (c0) (c1) (c2) (c3) (c4) (getL [] G) (getL [] G) (n) (m)) (asks := [((decide (i < 200)), false), ((decide (i < (↑a.len : Int))), true), ((decide (i < (↑a.len : Int))), true), ((decide (i < (↑a.len : Int))), true)]) (by kernel_rfl) ⟨h1, h0, h0, h0, trivial⟩ (Tri.fin (cx_exit' a i c0 c1 c2 c3 c4 G n m hP))
  · exact Tri.pathG mixed libCE_ok (n := 10000) (k := 10000) (j := 0) (cfg := cxCfg) (o := List.replicate 3 (some false)) (g' := .out (.out 0)) (fs' := []) (s' := cxS (a) (i) (c0) (c1) (c2) (c3) (c4) (getL [] G) (getL [] G) (n) (m)) (asks := [((decide (i < (↑a.len : Int))), false), ((decide (i < (↑a.len : Int))), false), ((decide (i < (↑a.len : Int))), false)]) (by kernel_rfl) ⟨h0, h0, h0, trivial⟩ (Tri.fin (cx_exit' a i c0 c1 c2 c3 c4 G n m hP))
theorem cx_round (a : CXA) (i c0 c1 c2 c3 c4 : Int) (G U : Pl → Int) (n m : Nat) (hP : cxP a i c0 c1 c2 c3 c4 G U n m) {r : Nat} (hr : r = 200 - i.toNat) : Tri repAt Try.prog cxZ 0 (.go cxL.1) [] (cxS a i c0 c1 c2 c3 c4 G U n m) (cxR a r) := by
  obtain ⟨i0, i1, hn, hm, hU, hok⟩ := hP
  subst hU
  have hP : cxP a i c0 c1 c2 c3 c4 U U n m := ⟨i0, i1, hn, hm, rfl, hok⟩
  cases hk : (decide (i < (a.len : Int)) && decide (i < 200)) with
  | false => exact cx_over a i c0 c1 c2 c3 c4 U n m hk hP
  | true =>
    simp only [Bool.and_eq_true, decide_eq_true_eq] at hk
    have hj := hok i.toNat (by omega)
    exact cx_turn a i c0 c1 c2 c3 c4 U n m (decide_eq_true hk.1) (decide_eq_true hk.2) (decide_eq_true ⟨i0, hk.1, Nat.le_refl _⟩) hj.1 hj.2.1 hj.2.2 (fun z hz h0 => wb_put hj.1 hz h0 (by omega)) (ble_put hj.1 (by omega)) (Nat.ble_eq_true_of_le (by omega)) (Nat.ble_eq_true_of_le (by omega)) (wb_put (by decide) (by decide) (by decide) (by omega)) (samePl_one (plWfB_iff.1 (by decide))) hP hr
theorem cx_loop (a : CXA) (i c0 c1 c2 c3 c4 : Int) (G U : Pl → Int) (n m : Nat) (hP : cxP a i c0 c1 c2 c3 c4 G U n m) : Tri repAt Try.prog cxZ 0 (.go (.loop cxL.1)) cxL.2 (cxS a i c0 c1 c2 c3 c4 G U n m) cxQ := by
  refine Tri.loop (I := cxI a) (fun k s h => ?_) ⟨_, _, _, _, _, _, _, _, _, _, rfl, hP, rfl⟩
  obtain ⟨i, c0, c1, c2, c3, c4, G, U, n, m, rfl, hP, hk⟩ := h
  exact cx_round a i c0 c1 c2 c3 c4 G U n m hP hk
theorem cx_start (a : CXA) (ha : a.ok)  : Tri repAt Try.prog cxZ 0 (.go (bodyOf Try.prog cxF)) [] (⟨argsE [.tsl 0 a.len], [(0, .rep (.tab a.cols a.len))], 1⟩) (cxQ) := by
  exact Tri.pathG mixed libCE_ok (n := 10000) (k := 10000) (j := 0) (cfg := cxCfg) (o := []) (g' := .go (.loop cxL.1)) (fs' := cxL.2) (s' := cxS (a) (Int.ofNat 0) (Int.ofNat 0) (Int.ofNat 0) (Int.ofNat 0) (Int.ofNat 0) (Int.ofNat 0) (getL [] zeroG) (zeroG) (0) (0)) (asks := []) (by kernel_rfl) trivial (cx_loop (a) (Int.ofNat 0) (Int.ofNat 0) (Int.ofNat 0) (Int.ofNat 0) (Int.ofNat 0) (Int.ofNat 0) (getL [] zeroG) (zeroG) (0) (0) ⟨by decide, by decide, by decide, by decide, rfl, ha⟩)
end Go.Proofs.Ytdjogfofedbohaa
end
section
/- How the arguments of these rows stand in memory: a slice of structs of three cells, and of entries and deeds. No condition. -/
namespace Go.Proofs.Ytdjogfofedbohaa
open Go.RowKit Go.WideShapes Go.ChangeShapes Go.Deep

theorem exists_list {α : Type} {n : Nat} {R : Nat → α → Prop} (h : ∀ i, i < n → ∃ a, R i a) : ∃ l : List α, l.length = n ∧ ∀ i a, l[i]? = some a → R i a := by
  induction n with
  | zero => exact ⟨[], rfl, fun i a h => by simp at h⟩
  | succ n ih =>
    obtain ⟨l, hl, hg⟩ := ih (fun i hi => h i (by omega))
    obtain ⟨a, ha⟩ := h n (by omega)
    refine ⟨l ++ [a], by simp [hl], fun i b hb => ?_⟩
    rcases Nat.lt_or_ge i n with h1 | h1
    · exact hg i b (by rwa [List.getElem?_append_left (by omega)] at hb)
    · rw [List.getElem?_append_right (by omega)] at hb
      have h2 : i - l.length < 1 := by
        have := (List.getElem?_eq_some_iff.1 hb).1
        simpa using this
      have h3 : i = n := by omega
      subst h3
      rw [hl, Nat.sub_self] at hb
      simp at hb
      exact hb ▸ ha

section
variable {H : Type} {enc : TypeId × Value → H} {P : Program} {w : World} {base : Nat} {spare : Nat → Bool} {held : Bool}

/-- A slice whose elements are of a known form: where it lies, and what it holds. -/
theorem rd_slice {α : Type} {cells : α → List Value} {C : Nat} (hcl : ∀ a, (cells a).length = C) (hC0 : 0 < C) {t e : TypeId} {fuel : Nat} {cs : List Value} {x : DataW H × List MemPlace} (G : α → Prop)
    (ht : P.underlying t = some (.slice e)) (hC : P.cellsOf e = C) (one : ∀ n cs d, DataW.trod enc P w base spare held n e cs = some d → ∃ a : α, cs = cells a ∧ G a)
    (h : DataW.trod enc P w base spare held fuel t cs = some x) :
    ∃ (A : Option Addr) (cap b o : Nat) (xs : List α), cs = [.slice A xs.length cap] ∧ xs.length ≤ maxLen ∧ Rd w b o A (flat cells xs) ∧ ∀ a ∈ xs, G a := by
  rcases open_slice ht h with ⟨rfl, _⟩ | ⟨a, len, cap, m, n, D, Pl, rfl, _, hl, hm, hmm, _, hi⟩
  · exact ⟨none, 0, 0, 0, [], rfl, Nat.zero_le _, (fun j u hj => by simp [flat] at hj), fun a ha => by cases ha⟩
  · have hle : len ≤ m := by rw [hmm]; split <;> omega
    obtain ⟨xs, hxl, hx⟩ := exists_list (n := len) (R := fun i y => w.cells? base (a.add (i * C)) C = some (cells y) ∧ G y) (fun i hil => by
      obtain ⟨cs', h1, h2⟩ := hi i (by omega)
      obtain ⟨y, rfl, hg⟩ := one _ _ _ h2
      rw [hC] at h1
      exact ⟨y, h1, hg⟩)
    obtain ⟨ab, ao, asp⟩ := a
    have hspot : xs ≠ [] → asp = none := fun hne => by
      obtain ⟨y, l, rfl⟩ := List.exists_cons_of_ne_nil hne
      have h1 := (World.cells?_some (hx 0 y rfl).1).2.2 0 hC0
      obtain ⟨u, hu⟩ : ∃ u, (cells y)[0]? = some u := ⟨_, List.getElem?_eq_getElem (by rw [hcl]; exact hC0)⟩
      rw [hu, Nat.zero_mul] at h1
      exact World.cell?_spot (a := ⟨ab, ao, asp⟩) (by simpa [Addr.add] using h1)
    have hcell : ∀ i y j, xs[i]? = some y → j < C → w.cell? ⟨ab, ao + (i * C + j), none⟩ = (cells y)[j]? := fun i y j hy hj => by
      have h1 := (World.cells?_some (hx i y hy).1).2.2 j hj
      obtain rfl := hspot (fun e => by rw [e] at hy; simp at hy)
      rw [← h1]
      congr 1
      by_cases h2 : i * C = 0 <;> by_cases h3 : j = 0 <;> simp [Addr.add, h2, h3, Nat.add_assoc]
    refine ⟨some ⟨ab, ao, asp⟩, cap, ab, ao, xs, by rw [hxl], by omega, fun j u hj => ?_, fun y hy => ?_⟩
    · have hjl : j < (flat cells xs).length := (List.getElem?_eq_some_iff.1 hj).1
      rw [flat_length hcl] at hjl
      have hd : j / C < xs.length := Nat.div_lt_of_lt_mul (by rwa [Nat.mul_comm] at hjl)
      have hr : j % C < C := Nat.mod_lt _ hC0
      have hjj : j = j / C * C + j % C := by rw [Nat.mul_comm]; exact (Nat.div_add_mod j C).symm
      obtain ⟨y, hy⟩ : ∃ y, xs[j / C]? = some y := ⟨_, List.getElem?_eq_getElem hd⟩
      have hc := hcell _ y _ hy hr
      have hf := flat_get hcl xs (j / C) (j % C) hr
      rw [← hjj, hj, hy] at hf
      rw [← hjj] at hc
      obtain rfl := hspot (fun e => by rw [e] at hy; simp at hy)
      refine ⟨rfl, ?_⟩
      rw [hc]
      simpa using hf.symm
    · obtain ⟨i, hil, he⟩ := List.getElem_of_mem hy
      exact (hx i y (by rw [← he]; exact List.getElem?_eq_getElem hil)).2

/-- The outer form of a slice, its cells known. -/
theorem slice_of_cells {r : Reach} {b0 : Nat} {t e : TypeId} {v : Value} {A : Option Addr} {n c : Nat} (ht : P.underlying t = some (.slice e)) (hval : Value.okWide P w r b0 t v) (hc : v.cells.toList = [.slice A n c]) : v = .slice A n c := by
  obtain ⟨A', n', c', rfl⟩ := okWide_slice ht hval
  simpa [Value.cells] using hc
end
end Go.Proofs.Ytdjogfofedbohaa
end
section
/- Arguments without pointers: their cells by kind. No condition. -/
namespace Go.Proofs.Ytdjogfofedbohaa
open Go.ChangeShapes Go.WideShapes Go.ChangeAt Go.RowKit Go.Deep

inductive Leaf where
  | int (k : IntKind)
  | bool
  | str
def LeafOK : Leaf → Value → Prop
  | .int k, v => ∃ z : Int, v = .int k z ∧ (Lit.int k z).wf = true
  | .bool, v => ∃ b : Bool, v = .bool b
  | .str, v => ∃ s : ByteArray, v = .string s ∧ s.size ≤ maxLen
def leavesF (P : Program) (g : TypeId → Option (List Leaf)) : List Field → Nat → Option (List Leaf)
  | [], _ => some []
  | f :: fs, off => match Nat.beq f.offset off, g f.type with
    | true, some l => match Nat.beq l.length (P.cellsOf f.type) with
      | true => (leavesF P g fs (off + l.length)).map fun r => l ++ r
      | false => none
    | _, _ => none
def leaves (P : Program) : Nat → TypeId → Option (List Leaf)
  | 0, _ => none
  | d + 1, t => match P.underlying t with
    | some .bool => some [.bool]
    | some (.int k) => some [.int k]
    | some .string => some [.str]
    | some (.struct fs) => match leavesF P (leaves P d) fs.toList 0 with
      | some l => match Nat.beq l.length (P.cellsOf t) with
        | true => some l
        | false => none
      | none => none
    | _ => none

theorem Two.append {α β : Type} {R : α → β → Prop} : ∀ {a b : List α} {c d : List β}, Two R a c → Two R b d → Two R (a ++ b) (c ++ d)
  | _, _, _, _, .nil, h => h
  | _, _, _, _, .cons h t, k => .cons h (t.append k)
theorem Two.length {α β : Type} {R : α → β → Prop} : ∀ {a : List α} {b : List β}, Two R a b → a.length = b.length
  | _, _, .nil => rfl
  | _, _, .cons _ t => by simp [t.length]

section
variable {H : Type} {enc : TypeId × Value → H} {P : Program} {w : World} {base : Nat} {spare : Nat → Bool} {held : Bool}
theorem leavesF_trod {g : TypeId → Option (List Leaf)} {m : Nat} {cs : List Value} (hg : ∀ t ls n cs x, g t = some ls → DataW.trod enc P w base spare held n t cs = some x → Two LeafOK ls cs) :
    ∀ {fs : List Field} {off : Nat} {ls : List Leaf}, leavesF P g fs off = some ls → (∀ f ∈ fs, ∃ x, DataW.trod enc P w base spare held m f.type ((cs.drop f.offset).take (P.cellsOf f.type)) = some x) → Two LeafOK ls ((cs.drop off).take ls.length)
  | [], off, ls, h, _ => by
    simp only [leavesF, Option.some.injEq] at h
    subst h
    simpa using Two.nil
  | f :: fs, off, ls, h, hx => by
    simp only [leavesF] at h
    split at h <;> try cases h
    next l ho hl =>
    split at h <;> try cases h
    next hlen =>
    simp only [Option.map_eq_some_iff] at h
    obtain ⟨r, hr, rfl⟩ := h
    have ho := Nat.eq_of_beq_eq_true ho
    have hlen := Nat.eq_of_beq_eq_true hlen
    obtain ⟨x, h1⟩ := hx f (List.mem_cons_self ..)
    have h2 := hg _ _ _ _ _ hl h1
    have h3 := leavesF_trod hg hr (fun f hf => hx f (List.mem_cons_of_mem _ hf))
    rw [← hlen, ho] at h2
    rw [List.length_append, List.take_add, List.drop_drop]
    exact h2.append h3
theorem leaves_trod : ∀ {d : Nat} {t : TypeId} {ls : List Leaf} {n : Nat} {cs : List Value} {x : DataW H × List MemPlace}, leaves P d t = some ls → DataW.trod enc P w base spare held n t cs = some x → Two LeafOK ls cs
  | 0, _, _, _, _, _, h, _ => by simp [leaves] at h
  | d + 1, t, ls, n, cs, x, h, hx => by
    simp only [leaves] at h
    split at h
    · next hu =>
      injection h with h
      subst h
      obtain ⟨b, rfl, _⟩ := DataW.trod_bool hu hx
      exact .cons ⟨b, rfl⟩ .nil
    · next k hu =>
      injection h with h
      subst h
      obtain ⟨z, rfl, _, hw⟩ := DataW.trod_int hu hx
      exact .cons ⟨z, rfl, hw⟩ .nil
    · next hu =>
      injection h with h
      subst h
      obtain ⟨s, rfl, _, hs⟩ := DataW.trod_string hu hx
      exact .cons ⟨s, rfl, hs⟩ .nil
    · next fs hu =>
      split at h <;> try cases h
      next l hl =>
      split at h <;> cases h
      next hlen =>
      have hlen := Nat.eq_of_beq_eq_true hlen
      obtain ⟨xs, m, _, _, hcl, hxl, hf⟩ := DataW.trod_struct hu hx
      have h3 := leavesF_trod (enc := enc) (w := w) (base := base) (spare := spare) (held := held) (cs := cs) (m := m) (fun t ls n cs x h1 h2 => leaves_trod h1 h2) hl (fun f hfm => by
        obtain ⟨i, hi, he⟩ := List.getElem_of_mem hfm
        have hfi : fs[i]? = some f := by
          rw [← Array.getElem?_toList, ← he]
          exact List.getElem?_eq_getElem hi
        have hix : i < xs.length := by rw [hxl]; simpa using hi
        exact ⟨xs[i], by have := hf i f hfi; rw [List.getElem?_eq_getElem hix] at this; exact this⟩)
      rw [List.drop_zero, hlen, ← hcl, List.take_length] at h3
      exact h3
    · cases h
end
end Go.Proofs.Ytdjogfofedbohaa
end
section
/- Slices among the arguments: as rows of open number. No condition. -/
namespace Go.Proofs.Ytdjogfofedbohaa
open Go.ChangeShapes Go.WideShapes Go.ChangeAt Go.RowKit Go.Deep

def colOfLeaf (l : Leaf) (g : Nat → Value) : Col := match l with
  | .int k => .int k fun i => match g i with
    | .int _ z => z
    | _ => 0
  | .bool => .bool fun i => match g i with
    | .bool b => b
    | _ => false
  | .str => .str fun i => match g i with
    | .string s => s
    | _ => ByteArray.empty
def colsOfLeaves : List Leaf → (Nat → List Value) → List Col
  | [], _ => []
  | l :: r, f => colOfLeaf l (fun i => (f i).headD undef) :: colsOfLeaves r fun i => (f i).tail
/-- A column of n cells of a kind. -/
def ColOK (n : Nat) : Leaf → Col → Prop
  | .int k, c => ∃ W : Nat → Int, c = .int k W ∧ ∀ i, i < n → (Lit.int k (W i)).wf = true
  | .bool, c => ∃ W : Nat → Bool, c = .bool W
  | .str, c => ∃ W : Nat → ByteArray, c = .str W ∧ ∀ i, i < n → (W i).size ≤ maxLen
theorem colsOfLeaves_length : ∀ {ls : List Leaf} {f : Nat → List Value}, (colsOfLeaves ls f).length = ls.length
  | [], _ => rfl
  | _ :: r, f => by simp [colsOfLeaves, colsOfLeaves_length (ls := r)]
theorem colsOfLeaves_at : ∀ {ls : List Leaf} {f : Nat → List Value} {i : Nat}, Two LeafOK ls (f i) → colsF (colsOfLeaves ls f) i = f i
  | [], f, i, h => by
    cases hf : f i with
    | nil => rfl
    | cons a l => rw [hf] at h; cases h
  | l :: r, f, i, h => by
    cases hf : f i with
    | nil => rw [hf] at h; cases h
    | cons a t =>
      rw [hf] at h
      cases h with
      | cons h1 h2 =>
        have ih := colsOfLeaves_at (ls := r) (f := fun i => (f i).tail) (i := i) (by simp only [hf, List.tail_cons]; exact h2)
        simp only [colsOfLeaves, colsF, ih, hf, List.tail_cons]
        congr 1
        cases l with
        | int k => obtain ⟨z, rfl, _⟩ := h1; simp [colOfLeaf, Col.at, hf]
        | bool => obtain ⟨b, rfl⟩ := h1; simp [colOfLeaf, Col.at, hf]
        | str => obtain ⟨s, rfl, _⟩ := h1; simp [colOfLeaf, Col.at, hf]
theorem colsOfLeaves_ok {n : Nat} : ∀ {ls : List Leaf} {f : Nat → List Value}, (∀ i, i < n → Two LeafOK ls (f i)) → Two (ColOK n) ls (colsOfLeaves ls f)
  | [], _, _ => .nil
  | l :: r, f, h => by
    have hd : ∀ i, i < n → ∃ a t, f i = a :: t ∧ LeafOK l a ∧ Two LeafOK r t := fun i hi => by
      have := h i hi
      cases hf : f i with
      | nil => rw [hf] at this; cases this
      | cons a t =>
        rw [hf] at this
        cases this with
        | cons h1 h2 => exact ⟨a, t, rfl, h1, h2⟩
    refine .cons ?_ (colsOfLeaves_ok fun i hi => ?_)
    · cases l with
      | int k =>
        refine ⟨_, rfl, fun i hi => ?_⟩
        obtain ⟨a, t, h1, ⟨z, rfl, hz⟩, _⟩ := hd i hi
        simpa [h1] using hz
      | bool => exact ⟨_, rfl⟩
      | str =>
        refine ⟨_, rfl, fun i hi => ?_⟩
        obtain ⟨a, t, h1, ⟨z, rfl, hz⟩, _⟩ := hd i hi
        simpa [h1] using hz
    · obtain ⟨a, t, h1, _, h2⟩ := hd i hi
      simpa [h1] using h2
theorem leaf_one {l : Leaf} {v : Value} (h : LeafOK l v) : v.oneCell' = true := by
  cases l with
  | int k => obtain ⟨z, rfl, _⟩ := h; rfl
  | bool => obtain ⟨b, rfl⟩ := h; rfl
  | str => obtain ⟨s, rfl, _⟩ := h; rfl
theorem leaves_one : ∀ {ls : List Leaf} {vs : List Value}, Two LeafOK ls vs → ∀ v ∈ vs, v.oneCell' = true
  | _, _, .nil, v, h => by cases h
  | _, _, .cons h t, v, hv => by
    rcases List.mem_cons.1 hv with rfl | hv
    · exact leaf_one h
    · exact leaves_one t v hv

section
variable {H : Type} {enc : TypeId × Value → H} {P : Program} {w : World} {base : Nat} {spare : Nat → Bool} {held : Bool}
/-- A slice of elements without pointers, as an argument. -/
theorem tab_slice {d : Nat} {t e : TypeId} {ls : List Leaf} {fuel : Nat} {cs : List Value} {x : DataW H × List MemPlace} (ht : P.underlying t = some (.slice e)) (hl : leaves P d e = some ls) (hC : P.cellsOf e = ls.length) (h0 : 0 < ls.length)
    (h : DataW.trod enc P w base spare held fuel t cs = some x) : ∃ (cols : List Col) (n : Nat) (sp : Spot), cs = [.slice sp.ad n sp.cap] ∧ n ≤ maxLen ∧ Two (ColOK n) ls cols ∧ cols.length = ls.length ∧ TabAt w.heap.size (colsF cols) n cols.length sp [] w := by
  obtain ⟨A, cap, b, o, xs, hcs, hn, hr, _⟩ := rd_slice (α := { r : List Value // Two LeafOK ls r }) (cells := fun a => a.1) (C := ls.length) (fun a => a.2.length.symm) h0 (fun _ => True) ht hC (fun n cs d hd => ⟨⟨cs, leaves_trod hl hd⟩, rfl, trivial⟩) h
  have hf : ∀ i, i < xs.length → ∃ a : { r : List Value // Two LeafOK ls r }, xs[i]? = some a := fun i hi => ⟨_, List.getElem?_eq_getElem hi⟩
  have hT : ∀ i, i < xs.length → Two LeafOK ls (match xs[i]? with | some a => a.1 | none => []) := fun i hi => by
    obtain ⟨a, ha⟩ := hf i hi
    rw [ha]
    exact a.2
  refine ⟨colsOfLeaves ls fun i => match xs[i]? with | some a => a.1 | none => [], xs.length, ⟨b, cap, o, ls.length, xs.length, A⟩, hcs, hn, colsOfLeaves_ok hT, colsOfLeaves_length, ?_⟩
  have hcell : ∀ i, i < xs.length → ∀ j, j < ls.length → ∃ v, (colsF (colsOfLeaves ls fun i => match xs[i]? with | some a => a.1 | none => []) i)[j]? = some v ∧ A = some ⟨b, o, none⟩ ∧ w.cell? ⟨b, o + (i * ls.length + j), none⟩ = some v := fun i hi j hj => by
    rw [colsOfLeaves_at (hT i hi)]
    obtain ⟨a, ha⟩ := hf i hi
    rw [ha]
    have hlen : a.1.length = ls.length := a.2.length.symm
    obtain ⟨v, hv⟩ : ∃ v, a.1[j]? = some v := ⟨_, List.getElem?_eq_getElem (by omega)⟩
    have hfl := flat_get (enc := fun a : { r : List Value // Two LeafOK ls r } => a.1) (fun a => a.2.length.symm) xs i j hj
    rw [ha] at hfl
    have := hr (i * ls.length + j) v (by rw [hfl]; exact hv)
    exact ⟨v, hv, this⟩
  rw [colsOfLeaves_length]
  refine ⟨rfl, rfl, rfl, fun hl0 => ?_, fun i hi => ⟨⟨?_, ?_⟩, fun j hj => ?_⟩⟩
  · obtain ⟨v, _, h1, h2⟩ := hcell 0 hl0 0 h0
    exact ⟨h1, World.block_lt_of_cell? w _ h2, World.block_lt_of_cell? w _ h2⟩
  · rw [colsF_length, colsOfLeaves_length]
  · rw [colsOfLeaves_at (hT i hi)]
    exact leaves_one (hT i hi)
  · obtain ⟨v, h1, _, h2⟩ := hcell i hi j hj
    rw [h1]
    show w.cell? ⟨b, o + i * ls.length + j, none⟩ = _
    rw [Nat.add_assoc]
    exact h2
end

/-- Tables as pieces, and where they lie. -/
def tabsHp : List (List Col × Nat × Spot) → Nat → List (Nat × Chunk Rep)
  | [], _ => []
  | a :: r, i => (i, .rep (.tab a.1 a.2.1)) :: tabsHp r (i + 1)
def tabsN (l : List (List Col × Nat × Spot)) : Names := fun m => (l[m]?).map fun a => a.2.2
theorem tabsHp_get : ∀ {l : List (List Col × Nat × Spot)} {i m : Nat} {c : Chunk Rep}, hget m (tabsHp l i) = some c → i ≤ m ∧ ∃ a, l[m - i]? = some a ∧ c = .rep (.tab a.1 a.2.1)
  | [], _, _, _, h => by cases h
  | a :: r, i, m, c, h => by
    simp only [tabsHp, hget_cons] at h
    split at h
    · next e =>
      subst e
      injection h with h
      exact ⟨Nat.le_refl _, a, by simp, h.symm⟩
    · obtain ⟨h1, b, h2, h3⟩ := tabsHp_get h
      refine ⟨by omega, b, ?_, h3⟩
      rw [show m - i = (m - (i + 1)) + 1 by omega, List.getElem?_cons_succ]
      exact h2
theorem stand_args {P : Program} {w : World} {l : List (List Col × Nat × Spot)} (h : ∀ a ∈ l, TabAt w.heap.size (colsF a.1) a.2.1 a.1.length a.2.2 [] w) (e : Env) : Stand repAt P w.heap.size ⟨e, tabsHp l 0, l.length⟩ (tabsN l) (fun _ => []) w := by
  refine ⟨⟨fun n c _ hc => ?_, (fun n m c d _ _ _ _ _ b hb => by cases hb), (fun n c _ _ b hb => by cases hb)⟩, fun n hn => ?_, fun n hn => ?_, Nat.le_refl _⟩
  · obtain ⟨_, a, h1, rfl⟩ := tabsHp_get hc
    rw [Nat.sub_zero] at h1
    exact ⟨a.2.2, by simp [tabsN, h1], h a (List.mem_of_getElem? h1)⟩
  · cases hx : hget n (tabsHp l 0) with
    | none => rfl
    | some c =>
      obtain ⟨_, a, h1, _⟩ := tabsHp_get hx
      rw [Nat.sub_zero] at h1
      have := lt_of_some h1
      simp only at hn
      omega
  · simp only [tabsN]
    rw [List.getElem?_eq_none hn]
    rfl
end Go.Proofs.Ytdjogfofedbohaa
end
section
/- CellExact returns true, whatever its arguments. No condition. -/
namespace Go.Proofs.Ytdjogfofedbohaa
set_option maxRecDepth 100000
set_option maxHeartbeats 8000000
set_option linter.unusedVariables false
theorem cellExact_walk {k0 : List Col} {L0 : Nat} {s0 : Spot} {w : World} (h0 : Two (ColOK L0) [.int .i64, .int .i64, .int .i64, .int .i64, .int .u64, .int .u64] k0) (t0 : TabAt w.heap.size (colsF k0) L0 k0.length s0 [] w) (w' : World) (hw : w' = w) : Calls Try.prog 3 #[.slice s0.ad L0 s0.cap] w' fun e w1 => e = .returned (.bool true) ∧ Mod [] w' w1 := by
  subst hw
  obtain ⟨_, _, rfl, ⟨K, rfl, g_K⟩, q0_0⟩ := two_uncons h0
  obtain ⟨_, _, rfl, ⟨P0, rfl, g_P0⟩, q0_1⟩ := two_uncons q0_0
  obtain ⟨_, _, rfl, ⟨P1, rfl, g_P1⟩, q0_2⟩ := two_uncons q0_1
  obtain ⟨_, _, rfl, ⟨P2, rfl, g_P2⟩, q0_3⟩ := two_uncons q0_2
  obtain ⟨_, _, rfl, ⟨A, rfl, g_A⟩, q0_4⟩ := two_uncons q0_3
  obtain ⟨_, _, rfl, ⟨B, rfl, g_B⟩, q0_5⟩ := two_uncons q0_4
  obtain rfl := two_nil q0_5
  have hok : _ := (fun j hj => ⟨plWfB_iff.2 ⟨g_P0 j hj, g_P1 j hj, g_P2 j hj⟩, g_A j hj, g_B j hj⟩ : CXA.ok ⟨K, P0, P1, P2, A, B, L0⟩)
  have hst := stand_args (P := Try.prog) (w := w') (l := [([.int .i64 K, .int .i64 P0, .int .i64 P1, .int .i64 P2, .int .u64 A, .int .u64 B], L0, s0)]) (fun a ha => by
    simp only [List.mem_cons, List.not_mem_nil, or_false] at ha
    subst ha
    exact t0) (argsE [.tsl 0 L0])
  exact Tri.law (args := [.tsl 0 L0]) Try.func3 (c := bodyOf Try.prog cxF) (by kernel_rfl) (by kernel_rfl) (cx_start ⟨K, P0, P1, P2, A, B, L0⟩ hok) hst rfl
end Go.Proofs.Ytdjogfofedbohaa
end
section
/- CellExact, called with whatever, returns true, and its arguments read behind it as they did. No condition. -/
namespace Go.Proofs.Ytdjogfofedbohaa
open Go.ChangeShapes Go.WideShapes Go.ChangeAt Go.RowKit Go.Deep
set_option linter.unusedVariables false

set_option maxRecDepth 100000 in
theorem cellExact_lifted (os : Os) (started : os.Started) (H : Type) (enc : TypeId × Value → H) :
    ReturnsInHanded {} Try.checked os 3 .any (Rows.cellExactSpec.pre6 enc Try.prog Try.f3 Rows.cellExactRow.domain false) (Rows.cellExactSpec.post enc Try.prog Try.f3 false true false false) := by
  refine returnsInHanded_of_change (C := Try.checked) own_ started (by kernel_rfl) Try.func3
    (ChangeSpec.witness6 (enc := enc) (C := Try.checked) false ⟨#[], #[.slice none 0 0], []⟩ 8 (by kernel_rfl) (by kernel_rfl) (by kernel_rfl) (by kernel_rfl)) ?_
  intro W base args ds gs before hval0 hW hcnd _
  have hval : ∀ (j : Nat) t v, Try.f3.params[j]? = some t → args[j]? = some v → Value.okWide Try.prog W .any base t v := hval0
  have hW' := hW
  obtain ⟨p, q, hA0, hV, rfl, hfz, hnd⟩ := hW
  have hA : DataW.TrodAll enc Try.prog W 0 (fun _ => true) true Try.f3.params.toList args.toList ds p := hA0
  rw [Try.params3] at hA hval
  obtain ⟨v0, d0, rfl, rfl, h0⟩ := trodAll_one hA
  obtain ⟨rfl, rfl⟩ := trodVars_none hV
  have k0 := h0
  have lt0 : ∀ x ∈ p, x.block < W.heap.size := by obtain ⟨m, hm⟩ := k0; exact DataW.trod_lt m _ _ _ hm
  obtain ⟨f0, hf0⟩ := h0
  obtain ⟨c0, n0, s0, e0, _, l0, _, t0⟩ := tab_slice (d := 9) (t := 22) (e := 37) (ls := [.int .i64, .int .i64, .int .i64, .int .i64, .int .u64, .int .u64]) Try.underlying22 (by kernel_rfl) (by kernel_rfl) (by decide) hf0
  obtain rfl := slice_of_cells Try.underlying22 (hval 0 _ v0 rfl rfl) e0
  clear hA0 hval0
  refine (cellExact_walk l0 t0 W rfl).mono fun e W' ⟨he, hm⟩ => ?_
  subst he
  have bel := hm.below
  exact ⟨_, rfl, _, _, _, [], _, [], hW', trodAll_mk1 (shut_bool Try.underlying4 _), (trodAll_mk1 (Below.trod laid_ (by kernel_rfl) (of_decide_eq_true (by kernel_rfl)) k0 bel lt0)), rfl, bel.frame _, fun h => by cases h⟩

theorem cellExact_holds : Rows.CellExactSaid :=
  OpenClaim.holds_of_wide 3 Try.f3 rfl rfl rfl rfl rfl rfl rfl ⟨rfl, rfl, rfl, rfl, rfl⟩ rfl rfl rfl rfl rfl (by kernel_rfl) Try.func3 (by kernel_rfl)
    (of_decide_eq_true (by kernel_rfl)) (by unfold Func.isWrapper; first | (rw [if_pos (by decide +kernel)]; kernel_rfl) | (rw [if_neg (by decide +kernel)]; exact ⟨rfl, rfl⟩))
    (fun os started H enc _ => cellExact_lifted os started H enc)
end Go.Proofs.Ytdjogfofedbohaa
end
