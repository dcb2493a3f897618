/- CellNil: the states at its loops' heads. No condition. -/
import Derived.Test.YtdjogfofedbohaaG4
section
/- places of the laws as a known call. -/
namespace Go.Proofs.Ytdjogfofedbohaa
open Go.RowKit
theorem rows_iff {a : PRA} : (a.ln = a.lm ∧ ∀ k, k < a.ln → a.at k) ↔ sameRows a.as a.bs a.ln a.lm = true := by
  unfold sameRows
  rw [@decide_eq_true_iff _ (Classical.propDecidable _)]
  constructor
  · rintro ⟨h1, h2⟩
    refine ⟨h1, fun i hi => ?_⟩
    obtain ⟨e1, e2, e3⟩ := h2 i hi
    simp only [PRA.as, PRA.bs, colsF, Col.at, e1, e2, e3]
  · rintro ⟨h1, h2⟩
    refine ⟨h1, fun i hi => ?_⟩
    have := h2 i hi
    simp only [PRA.as, PRA.bs, colsF, Col.at, List.cons.injEq, Value.int.injEq, true_and, and_true] at this
    exact ⟨this.1, this.2.1, this.2.2⟩
theorem hpR_get {a : PRA} {n : Nat} {c : Chunk Rep} (h : hget n a.hp = some c) : (n = 0 ∧ c = .rep (.vec a.as a.len 34)) ∨ (n = 1 ∧ c = .rep (.vec a.bs a.len' 34)) := by
  unfold PRA.hp at h
  rw [hget_cons] at h
  split at h
  · next e => injection h with h; exact .inl ⟨e, h.symm⟩
  · rw [hget_cons] at h
    split at h
    · next e => injection h with h; exact .inr ⟨e, h.symm⟩
    · cases h
def twoO (o1 o2 : List Nat) : Nat → List Nat := fun n => match n with
  | 0 => o1
  | 1 => o2
  | _ => []
set_option maxRecDepth 100000 in
set_option maxHeartbeats 4000000 in
theorem places_two (a : PRA) (ha : a.ok) {sp1 sp2 : Spot} {o1 o2 : List Nat} {w : World} (h1 : VecAt (colsF a.as) a.len 34 3 sp1 o1 w) (h2 : VecAt (colsF a.bs) a.len' 34 3 sp2 o2 w) (hd : ∀ b ∈ o1, b ∉ o2) :
    Calls Try.prog 19 #[.slice sp1.ad a.ln sp1.cap, .slice sp2.ad a.lm sp2.cap] w fun x w' => x = .returned (.bool (sameRows a.as a.bs a.ln a.lm)) ∧ ∃ o1' o2', VecAt (colsF a.as) a.len 34 3 sp1 o1' w' ∧ VecAt (colsF a.bs) a.len' 34 3 sp2 o2' w' ∧
      ModP (fun b => b ∈ o1 ∨ b ∈ o2) w w' ∧ (∀ b ∈ o1', (b ∈ o1 ∨ b ∈ o2) ∨ (w.heap.size ≤ b ∧ b < w'.heap.size)) ∧ (∀ b ∈ o2', (b ∈ o1 ∨ b ∈ o2) ∨ (w.heap.size ≤ b ∧ b < w'.heap.size)) ∧ ∀ b ∈ o2', b ∉ o1' := by
  have hst : Stand repAt Try.prog 0 ⟨argsE [.tsl 0 a.ln, .tsl 1 a.lm], a.hp, 2⟩ (cellsN sp1 sp2) (twoO o1 o2) w := by
    refine ⟨⟨fun n c _ hc => ?_, fun n m c d _ _ hne hc hd' b hb hb' => ?_, fun n c _ hc b hb => ?_⟩, fun n hn => ?_, fun n hn => ?_, Nat.zero_le _⟩
    · rcases hpR_get hc with ⟨rfl, rfl⟩ | ⟨rfl, rfl⟩
      · exact ⟨sp1, rfl, h1⟩
      · exact ⟨sp2, rfl, h2⟩
    · rcases hpR_get hc with ⟨rfl, _⟩ | ⟨rfl, _⟩ <;> rcases hpR_get hd' with ⟨rfl, _⟩ | ⟨rfl, _⟩
      · exact hne rfl
      · exact hd b hb hb'
      · exact hd b hb' hb
      · exact hne rfl
    · rcases hpR_get hc with ⟨rfl, rfl⟩ | ⟨rfl, rfl⟩
      · exact ⟨Nat.zero_le _, vec_lt h1 b hb⟩
      · exact ⟨Nat.zero_le _, vec_lt h2 b hb⟩
    · match n, hn with
      | n + 2, _ => rfl
    · match n, hn with
      | n + 2, _ => rfl
  refine (Tri.calls (pin := 2) Try.func19 (c := bodyOf Try.prog prF) (by kernel_rfl) (args := [.tsl 0 a.ln, .tsl 1 a.lm]) (Nat.le_of_ble_eq_true (by kernel_rfl)) (pr_start a ha) hst (vals := [.slice sp1.ad a.ln sp1.cap, .slice sp2.ad a.lm sp2.cap]) rfl).mono ?_
  rintro x w' ⟨y, l, s', ρ', own', rfl, hy, ⟨z, rfl, hhp, hz⟩, hs, hw, hpp⟩
  simp only [oneOf, den, Option.some.injEq] at hy
  subst hy
  have hx : z = sameRows a.as a.bs a.ln a.lm := Bool.eq_iff_iff.2 (hz.trans rows_iff)
  have k0 : hget 0 s'.hp = some (.rep (.vec a.as a.len 34)) := by rw [hhp]; rfl
  have k1 : hget 1 s'.hp = some (.rep (.vec a.bs a.len' 34)) := by rw [hhp]; rfl
  obtain ⟨e0, g0, v0⟩ := hs.li.at_ 0 _ trivial k0
  obtain ⟨e1, g1, v1⟩ := hs.li.at_ 1 _ trivial k1
  have he0 : some sp1 = some e0 := (hpp 0 (by decide)).symm.trans g0
  have he1 : some sp2 = some e1 := (hpp 1 (by decide)).symm.trans g1
  injection he0 with he0
  injection he1 with he1
  subst he0
  subst he1
  have hown : ∀ m d, hget m a.hp = some d → ∀ b ∈ twoO o1 o2 m, b ∈ o1 ∨ b ∈ o2 := fun m d hd' b hb => by
    rcases hpR_get hd' with ⟨rfl, _⟩ | ⟨rfl, _⟩
    · exact .inl hb
    · exact .inr hb
  have came : ∀ k c, hget k s'.hp = some c → ∀ b ∈ own' k, (b ∈ o1 ∨ b ∈ o2) ∨ (w.heap.size ≤ b ∧ b < w'.heap.size) := fun k c hk b hb => by
    rcases hw.pool k c hk b hb with h | ⟨m, d, hd', hm⟩
    · exact .inr ⟨h, (hs.li.low k c trivial hk b hb).2⟩
    · exact .inl (hown m d hd' b hm)
  exact ⟨by rw [hx], own' 0, own' 1, v0, v1, hw.mod.mono fun b _ ⟨m, d, hd', hb⟩ => hown m d hd' b hb, came 0 _ k0, came 1 _ k1, fun b hb hb' => hs.li.dis 0 1 _ _ trivial trivial (by decide) k0 k1 b hb' hb⟩
noncomputable def rowsX : List SV → M Rep SV
  | [.tsl n ln, .tsl m lm] => (want 380 (!Nat.beq n m)).bind fun _ => (getC n).bind fun
    | .rep (.vec [.int .i64 A0, .int .i64 A1, .int .i64 A2] len t) => (getC m).bind fun
      | .rep (.vec [.int .i64 B0, .int .i64 B1, .int .i64 B2] len' t') => (want 381 (Nat.beq t 34 && Nat.beq t' 34)).bind fun _ => (need 382 (decide (ln ≤ len ∧ lm ≤ len' ∧ ln ≤ 1000000))).bind fun _ =>
        (setC n (.rep (.vec [.int .i64 A0, .int .i64 A1, .int .i64 A2] len t))).bind fun _ => (setC m (.rep (.vec [.int .i64 B0, .int .i64 B1, .int .i64 B2] len' t'))).bind fun _ =>
        .ret (.v (.bool (sameRows [.int .i64 A0, .int .i64 A1, .int .i64 A2] [.int .i64 B0, .int .i64 B1, .int .i64 B2] ln lm)))
      | _ => .fail 383
    | _ => .fail 384
  | _ => .fail 385
theorem rows_s {args : List SV} {st st' : St Rep} {s : SV} (h : rowsX args st = .ok s st') : CallS repAt Try.prog 19 args st st' s := by
  unfold rowsX at h
  split at h
  · next n ln m lm =>
    obtain ⟨_, st0, h1, h2⟩ := bind_ok.1 h
    obtain ⟨hnm, rfl⟩ := want_ok.1 h1
    obtain ⟨c, st1, h3, h4⟩ := bind_ok.1 h2
    obtain ⟨hc, rfl⟩ := getC_ok.1 h3
    split at h4
    · next A0 A1 A2 len t =>
      obtain ⟨c2, st2, h5, h6⟩ := bind_ok.1 h4
      obtain ⟨hc2, rfl⟩ := getC_ok.1 h5
      split at h6
      · next B0 B1 B2 len' t' =>
        obtain ⟨_, st3, h7, h8⟩ := bind_ok.1 h6
        obtain ⟨ht, rfl⟩ := want_ok.1 h7
        obtain ⟨_, st4, h9, h10⟩ := bind_ok.1 h8
        obtain ⟨q2, hq⟩ := need_ok h9
        obtain ⟨_, st5, h11, h12⟩ := bind_ok.1 h10
        obtain ⟨_, rfl⟩ := setC_ok.1 h11
        obtain ⟨_, st6, h13, h14⟩ := bind_ok.1 h12
        obtain ⟨⟨d6, hd6⟩, rfl⟩ := setC_ok.1 h13
        obtain ⟨rfl, rfl⟩ := ret_ok.1 h14
        simp only [Bool.and_eq_true] at ht
        obtain rfl := Nat.eq_of_beq_eq_true ht.1
        obtain rfl := Nat.eq_of_beq_eq_true ht.2
        have hne : n ≠ m := fun e => by subst e; simp at hnm
        have q : Quiet st st4 := (Quiet.get.trans (Quiet.get (n := m) (st := { st with fr := insN n st.fr }))).trans q2
        have g1 : hget n st4.hp = some (.rep (.vec [.int .i64 A0, .int .i64 A1, .int .i64 A2] len 34)) := by rw [q.hp]; exact hc
        have g2 : hget m st4.hp = some (.rep (.vec [.int .i64 B0, .int .i64 B1, .int .i64 B2] len' 34)) := by rw [q.hp]; exact hc2
        have f1 := Fn.set st4 n (Chunk.rep (Rep.vec [.int .i64 A0, .int .i64 A1, .int .i64 A2] len 34)) _ g1
        have f2 := Fn.set (st4.set n (Chunk.rep (Rep.vec [.int .i64 A0, .int .i64 A1, .int .i64 A2] len 34))) m (Chunk.rep (Rep.vec [.int .i64 B0, .int .i64 B1, .int .i64 B2] len' 34)) d6 hd6
        refine ⟨q.fn.trans (f1.trans f2), fun B F ρ own w vals si hv => ?_⟩
        have s1 := si.of_quiet q
        obtain ⟨e, he, hat⟩ := s1.li.at_ n _ (s1.log n (mem_ins.2 (.inr (mem_ins.2 (.inl rfl))))) g1
        obtain ⟨e2, he2, hat2⟩ := s1.li.at_ m _ (s1.log m (mem_ins.2 (.inl rfl))) g2
        simp only [denL, den, he, he2, Option.map_some, Option.some.injEq] at hv
        subst hv
        have hok := of_decide_eq_true (hq si.ask)
        refine (places_two ⟨A0, A1, A2, B0, B1, B2, ln, lm, len, len'⟩ hok hat hat2 (s1.li.dis n m _ _ (s1.log n (mem_ins.2 (.inr (mem_ins.2 (.inl rfl))))) (s1.log m (mem_ins.2 (.inl rfl))) hne g1 g2)).mono ?_
        rintro x w' ⟨rfl, o1, o2, hv1, hv2, hm, ho, ho2, hd⟩
        have ht := Tr.set2 (A := repAt) (P := Try.prog) (B := B) (F := F) (own := own) (c := .rep (.vec [.int .i64 A0, .int .i64 A1, .int .i64 A2] len 34)) (d := .rep (.vec [.int .i64 B0, .int .i64 B1, .int .i64 B2] len' 34)) s1 hne g1 g2 he he2 hm hv1 hv2 ho ho2 hd
        exact ⟨_, _, _, rfl, rfl, Tr.of_quiet q ht⟩
      · exact (fail_ok.1 h6).elim
    · exact (fail_ok.1 h4).elim
  · exact (fail_ok.1 h).elim
noncomputable def primR (f : FuncId) (args : List SV) : Option (M Rep SV) := match Nat.beq f 19 with
  | true => some (rowsX args)
  | false => none
theorem primR_ok : ∀ f args m, primR f args = some m → ∀ st s st', m st = .ok s st' → CallS repAt Try.prog f args st st' s := by
  intro f args m hm st s st' h
  unfold primR at hm
  split at hm
  · next hb =>
    obtain rfl := Nat.eq_of_beq_eq_true hb
    cases hm
    exact rows_s h
  · cases hm
noncomputable abbrev libCE : Lib Rep := (libU 10).more primR
theorem libCE_ok : LibOK repAt Try.prog libCE := Lib.more_ok (libU_ok awake04) primR_ok
end Go.Proofs.Ytdjogfofedbohaa
end
section
/- CellExact: the states at its loop's head. No condition. -/
namespace Go.Proofs.Ytdjogfofedbohaa
noncomputable abbrev cxF : FuncId := 3
noncomputable abbrev cxZ : Nat := slotsOf Try.prog cxF
noncomputable def cxL : Code × List Fr := loopOf Try.prog cxF 0
abbrev cxQ : Ex → Sym Rep → Prop := Ends Try.prog Try.f3 fun l _ => l = [.v (.bool true)]
structure CXA where
  K : Nat → Int
  P0 : Nat → Int
  P1 : Nat → Int
  P2 : Nat → Int
  A : Nat → Int
  B : Nat → Int
  len : Nat
def CXA.cols (a : CXA) : List Col := [.int .i64 a.K, .int .i64 a.P0, .int .i64 a.P1, .int .i64 a.P2, .int .u64 a.A, .int .u64 a.B]
def CXA.ok (a : CXA) : Prop := ∀ j, j < a.len → plWfB (a.P0 j, a.P1 j, a.P2 j) = true ∧ (Lit.int .u64 (a.A j)).wf = true ∧ (Lit.int .u64 (a.B j)).wf = true
def cxS (a : CXA) (i c0 c1 c2 c3 c4 : Int) (G U : Pl → Int) (n m : Nat) : Sym Rep :=
  ⟨[(4, .ptr 0 0), (3, .ptr 1 0), (5, .ptr 2 0), (0, .tsl 3 a.len), (6, iv i)],
   [(0, .rep (.ucells [] U m)), (1, .row [.mp 4, iv c0, iv c1, iv c2, iv c3, iv c4] 112), (2, .row [iv c0, iv c1, iv c2, iv c3, iv c4] 32),
    (3, .rep (.tab [.int .i64 a.K, .int .i64 a.P0, .int .i64 a.P1, .int .i64 a.P2, .int .u64 a.A, .int .u64 a.B] a.len)), (4, .rep (.pmap [] G n))], 5⟩
def cxCfg : Stop → List Gen × List Nat
  | .fin .ret _ => ([], [2])
  | _ => ([.map 0, .map 4], [4, 3, 5, 0, 6])
def cxP (a : CXA) (i _c0 _c1 _c2 _c3 _c4 : Int) (G U : Pl → Int) (n m : Nat) : Prop := 0 ≤ i ∧ i ≤ 200 ∧ (n : Int) ≤ 1 + i ∧ (m : Int) ≤ 1 + i ∧ U = G ∧ a.ok
theorem ble_put {p : Pl} {m : Nat} (hp : plWfB p = true) (hm : m ≤ 1000000) : (plWfB p && m.ble 1000000) = true := by
  rw [hp, Nat.ble_eq_true_of_le hm]
  rfl
theorem samePl_one {G : Pl → Int} {p : Pl} {v : Int} (hp : PlWf p) : samePl G (getL [(p, v)] G) = (G p == v) := by
  rw [Bool.eq_iff_iff, samePl_iff, beq_iff_eq]
  constructor
  · intro h
    have := h p hp
    rwa [getL_same] at this
  · rintro h q _
    by_cases e : q = p
    · subst e; rw [getL_same]; exact h
    · rw [getL_other e]; rfl
end Go.Proofs.Ytdjogfofedbohaa
end
section
/- CellNil: the states at its loops' heads. No condition. -/
namespace Go.Proofs.Ytdjogfofedbohaa
noncomputable abbrev cnF : FuncId := 4
noncomputable abbrev cnZ : Nat := slotsOf Try.prog cnF
noncomputable def cnL0 : Code × List Fr := loopOf Try.prog cnF 0
noncomputable def cnL1 : Code × List Fr := loopOf Try.prog cnF 1
noncomputable def cnL2 : Code × List Fr := loopOf Try.prog cnF 2
abbrev cnQ : Ex → Sym Rep → Prop := Ends Try.prog Try.f4 fun l _ => l = [.v (.bool true)]
/-- Two rows of accesses. -/
structure CNA where
  x : CXA
  y : CXA
def cnOk (a : CNA) : Prop := a.x.ok ∧ a.y.ok
def cnS0 (a : CNA) (i c0 c1 c2 c3 c4 e0 e1 e2 e3 e4 d0 d1 d2 d3 d4 : Int) (G U : Pl → Int) (n m : Nat) (D V : Pl → Int) (n2 m2 : Nat) : Sym Rep :=
  ⟨[(8, .ptr 0 0), (9, .ptr 1 0), (11, .ptr 2 0), (10, .ptr 3 0), (12, .ptr 4 0), (1, .tsl 5 a.y.len), (0, .tsl 6 a.x.len), (13, iv i)],
   [(0, .row [.mp 7, iv c0, iv c1, iv c2, iv c3, iv c4] 112), (1, .row [.mp 8, iv d0, iv d1, iv d2, iv d3, iv d4] 112), (2, .rep (.ucells [] V m2)), (3, .rep (.ucells [] U m)), (4, .row [iv e0, iv e1, iv e2, iv e3, iv e4] 32),
    (5, .rep (.tab [.int .i64 a.y.K, .int .i64 a.y.P0, .int .i64 a.y.P1, .int .i64 a.y.P2, .int .u64 a.y.A, .int .u64 a.y.B] a.y.len)), (6, .rep (.tab [.int .i64 a.x.K, .int .i64 a.x.P0, .int .i64 a.x.P1, .int .i64 a.x.P2, .int .u64 a.x.A, .int .u64 a.x.B] a.x.len)),
    (7, .rep (.pmap [] G n)), (8, .rep (.pmap [] D n2))], 9⟩
def cnS1 (a : CNA) (i c0 c1 c2 c3 c4 e0 e1 e2 e3 e4 d0 d1 d2 d3 d4 : Int) (G U : Pl → Int) (n m : Nat) (D V : Pl → Int) (n2 m2 : Nat) : Sym Rep :=
  ⟨[(8, .ptr 0 0), (9, .ptr 1 0), (11, .ptr 2 0), (10, .ptr 3 0), (12, .ptr 4 0), (1, .tsl 5 a.y.len), (14, iv i)],
   [(0, .row [.mp 6, iv c0, iv c1, iv c2, iv c3, iv c4] 112), (1, .row [.mp 7, iv d0, iv d1, iv d2, iv d3, iv d4] 112), (2, .rep (.ucells [] V m2)), (3, .rep (.ucells [] U m)), (4, .row [iv e0, iv e1, iv e2, iv e3, iv e4] 32),
    (5, .rep (.tab [.int .i64 a.y.K, .int .i64 a.y.P0, .int .i64 a.y.P1, .int .i64 a.y.P2, .int .u64 a.y.A, .int .u64 a.y.B] a.y.len)),
    (6, .rep (.pmap [] G n)), (7, .rep (.pmap [] D n2))], 8⟩
noncomputable def cnLen (G D : Pl → Int) : Nat := (placesOf (getL [] G)).length + (placesOf (getL [] D)).length
noncomputable def cnK0 (G D : Pl → Int) : Nat → Int := joinI (fun i => ((placesOf (getL [] G)).getD i (0, 0, 0)).1) (placesOf (getL [] G)).length (fun i => ((placesOf (getL [] D)).getD i (0, 0, 0)).1)
noncomputable def cnK1 (G D : Pl → Int) : Nat → Int := joinI (fun i => ((placesOf (getL [] G)).getD i (0, 0, 0)).2.1) (placesOf (getL [] G)).length (fun i => ((placesOf (getL [] D)).getD i (0, 0, 0)).2.1)
noncomputable def cnK2 (G D : Pl → Int) : Nat → Int := joinI (fun i => ((placesOf (getL [] G)).getD i (0, 0, 0)).2.2) (placesOf (getL [] G)).length (fun i => ((placesOf (getL [] D)).getD i (0, 0, 0)).2.2)
structure CNB where
  G : Pl → Int
  D : Pl → Int
  X0 : Nat → Int
  X1 : Nat → Int
  X2 : Nat → Int
  len : Nat
def cnS2 (b : CNB) (k : Int) (sm : Bool) (c0 c1 c2 c3 c4 d0 d1 d2 d3 d4 : Int) (n m n2 m2 : Nat) : Sym Rep :=
  ⟨[(8, .ptr 0 0), (16, .v (.bool sm)), (9, .ptr 1 0), (15, .tsl 2 b.len), (11, .ptr 3 0), (10, .ptr 4 0), (17, iv k)],
   [(0, .row [.mp 5, iv c0, iv c1, iv c2, iv c3, iv c4] 112), (1, .row [.mp 6, iv d0, iv d1, iv d2, iv d3, iv d4] 112), (2, .rep (.vec [.int .i64 b.X0, .int .i64 b.X1, .int .i64 b.X2] b.len 34)), (3, .rep (.ucells [] b.D m2)), (4, .rep (.ucells [] b.G m)),
    (5, .rep (.pmap [] b.G n)), (6, .rep (.pmap [] b.D n2))], 7⟩
def cnCfg0 : Stop → List Gen × List Nat
  | .fin .ret _ => ([], [6])
  | _ => ([.map 2, .map 3, .map 7, .map 8], [8, 9, 11, 10, 12, 1, 0, 13])
def cnCfg1 : Stop → List Gen × List Nat
  | .fin .ret _ => ([], [6])
  | _ => ([.map 2, .map 3, .map 6, .map 7], [8, 9, 11, 10, 12, 1, 14])
def cnCfg2 : Stop → List Gen × List Nat
  | .fin .ret _ => ([], [6])
  | _ => ([], [8, 16, 9, 15, 11, 10, 17])
def cn0P (a : CNA) (i _c0 _c1 _c2 _c3 _c4 _e0 _e1 _e2 _e3 _e4 _d0 _d1 _d2 _d3 _d4 : Int) (G U : Pl → Int) (n m : Nat) (D V : Pl → Int) (n2 m2 : Nat) : Prop := 0 ≤ i ∧ i ≤ 40 ∧ (n : Int) ≤ 1 + i ∧ (m : Int) ≤ 1 + i ∧ U = G ∧ V = D ∧ n2 ≤ 1 ∧ m2 ≤ 1 ∧ cnOk a
def cn1P (a : CNA) (i _c0 _c1 _c2 _c3 _c4 _e0 _e1 _e2 _e3 _e4 _d0 _d1 _d2 _d3 _d4 : Int) (G U : Pl → Int) (n m : Nat) (D V : Pl → Int) (n2 m2 : Nat) : Prop := 0 ≤ i ∧ i ≤ 40 ∧ n ≤ 100 ∧ m ≤ 100 ∧ U = G ∧ V = D ∧ (n2 : Int) ≤ 1 + i ∧ (m2 : Int) ≤ 1 + i ∧ cnOk a
/-- The row is the places of both, one behind the other. -/
def CNB.ok (b : CNB) : Prop := (∀ j, j < b.len → plWfB (b.X0 j, b.X1 j, b.X2 j) = true) ∧ (∀ p, PlWf p → (b.G p ≠ 0 ∨ b.D p ≠ 0) → ∃ j, j < b.len ∧ (b.X0 j, b.X1 j, b.X2 j) = p) ∧ b.len ≤ 1000
def cn2P (b : CNB) (k : Int) (sm : Bool) (_c0 _c1 _c2 _c3 _c4 _d0 _d1 _d2 _d3 _d4 : Int) (n m n2 m2 : Nat) : Prop := 0 ≤ k ∧ k ≤ (b.len : Int) ∧ b.ok ∧ n ≤ 1000 ∧ m ≤ 1000 ∧ n2 ≤ 1000 ∧ m2 ≤ 1000 ∧ (sm = true ↔ ∀ j, j < k.toNat → b.G (b.X0 j, b.X1 j, b.X2 j) = b.D (b.X0 j, b.X1 j, b.X2 j))
theorem cn2_end {b : CNB} {sm : Bool} (hok : b.ok) (h : sm = true ↔ ∀ j, j < b.len → b.G (b.X0 j, b.X1 j, b.X2 j) = b.D (b.X0 j, b.X1 j, b.X2 j)) : samePl (getL [] b.G) (getL [] b.D) = sm ∧ samePl (getL [] b.D) (getL [] b.G) = sm := by
  have key : (∀ p, PlWf p → b.G p = b.D p) ↔ sm = true := by
    rw [h]
    constructor
    · intro hp j hj
      exact hp _ (plWfB_iff.1 (hok.1 j hj))
    · intro hj p hp
      by_cases e : b.G p ≠ 0 ∨ b.D p ≠ 0
      · obtain ⟨j, h1, h2⟩ := hok.2.1 p hp e
        rw [← h2]
        exact hj j h1
      · rw [not_or, Decidable.not_not, Decidable.not_not] at e
        rw [e.1, e.2]
  constructor
  · rw [Bool.eq_iff_iff, samePl_iff]
    exact key
  · rw [Bool.eq_iff_iff, samePl_iff, ← key]
    exact ⟨fun h p hp => (h p hp).symm, fun h p hp => (h p hp).symm⟩
theorem cn2_step {b : CNB} {k : Int} {sm s' : Bool} {c0 c1 c2 c3 c4 d0 d1 d2 d3 d4 : Int} {n m n2 m2 : Nat} (hP : cn2P b k sm c0 c1 c2 c3 c4 d0 d1 d2 d3 d4 n m n2 m2) (h0 : decide (k < (b.len : Int)) = true)
    (h : (sm = true ∧ s' = (b.G (b.X0 k.toNat, b.X1 k.toNat, b.X2 k.toNat) == b.D (b.X0 k.toNat, b.X1 k.toNat, b.X2 k.toNat))) ∨ (sm = false ∧ s' = false)) : cn2P b (IntKind.i64.wrap (k + 1)) s' c0 c1 c2 c3 c4 d0 d1 d2 d3 d4 n m n2 m2 := by
  obtain ⟨k0, k1, hok, hn, hm, hn2, hm2, hs⟩ := hP
  have hlt := of_decide_eq_true h0
  have := hok.2.2
  unfold cn2P
  rw [wrapI (x := k + 1) (by omega) (by omega)]
  refine ⟨by omega, by omega, hok, hn, hm, hn2, hm2, ?_⟩
  have split : (∀ j, j < (k + 1).toNat → b.G (b.X0 j, b.X1 j, b.X2 j) = b.D (b.X0 j, b.X1 j, b.X2 j)) ↔ (∀ j, j < k.toNat → b.G (b.X0 j, b.X1 j, b.X2 j) = b.D (b.X0 j, b.X1 j, b.X2 j)) ∧ b.G (b.X0 k.toNat, b.X1 k.toNat, b.X2 k.toNat) = b.D (b.X0 k.toNat, b.X1 k.toNat, b.X2 k.toNat) := by
    constructor
    · exact fun h => ⟨fun j hj => h j (by omega), h _ (by omega)⟩
    · rintro ⟨h1, h2⟩ j hj
      by_cases e : j = k.toNat
      · subst e; exact h2
      · exact h1 j (by omega)
  rw [split, ← hs]
  rcases h with ⟨h1, rfl⟩ | ⟨h1, rfl⟩
  · rw [h1, beq_iff_eq]
    simp
  · rw [h1]
    simp
theorem cn_row {G D : Pl → Int} {LG LD : List Pl} (hg : IsPlaces G LG) (hd : IsPlaces D LD) (h1 : LG.length ≤ 100) (h2 : LD.length ≤ 100) :
    CNB.ok ⟨G, D, joinI (fun i => (LG.getD i (0, 0, 0)).1) LG.length (fun i => (LD.getD i (0, 0, 0)).1), joinI (fun i => (LG.getD i (0, 0, 0)).2.1) LG.length (fun i => (LD.getD i (0, 0, 0)).2.1), joinI (fun i => (LG.getD i (0, 0, 0)).2.2) LG.length (fun i => (LD.getD i (0, 0, 0)).2.2), LG.length + LD.length⟩ := by
  have old : ∀ j, j < LG.length → (joinI (fun i => (LG.getD i (0, 0, 0)).1) LG.length (fun i => (LD.getD i (0, 0, 0)).1) j, joinI (fun i => (LG.getD i (0, 0, 0)).2.1) LG.length (fun i => (LD.getD i (0, 0, 0)).2.1) j, joinI (fun i => (LG.getD i (0, 0, 0)).2.2) LG.length (fun i => (LD.getD i (0, 0, 0)).2.2) j) = LG.getD j (0, 0, 0) := fun j hj => by rw [joinI_old hj, joinI_old hj, joinI_old hj]
  have new : ∀ j, LG.length ≤ j → (joinI (fun i => (LG.getD i (0, 0, 0)).1) LG.length (fun i => (LD.getD i (0, 0, 0)).1) j, joinI (fun i => (LG.getD i (0, 0, 0)).2.1) LG.length (fun i => (LD.getD i (0, 0, 0)).2.1) j, joinI (fun i => (LG.getD i (0, 0, 0)).2.2) LG.length (fun i => (LD.getD i (0, 0, 0)).2.2) j) = LD.getD (j - LG.length) (0, 0, 0) := fun j hj => by rw [joinI_new hj, joinI_new hj, joinI_new hj]
  refine ⟨fun j hj => ?_, fun p hp he => ?_, by simp only; omega⟩
  · simp only at hj ⊢
    rcases Nat.lt_or_ge j LG.length with h | h
    · rw [old j h]; exact plWfB_iff.2 ((hg.2 _).1 (getD_mem h)).1
    · rw [new j h]; exact plWfB_iff.2 ((hd.2 _).1 (getD_mem (by omega))).1
  · rcases he with he | he
    · obtain ⟨j, hj, hx⟩ := List.mem_iff_getElem.1 ((hg.2 p).2 ⟨hp, he⟩)
      refine ⟨j, by simp only; omega, ?_⟩
      simp only
      rw [old j hj]
      simp [List.getD, List.getElem?_eq_getElem hj, hx]
    · obtain ⟨j, hj, hx⟩ := List.mem_iff_getElem.1 ((hd.2 p).2 ⟨hp, he⟩)
      refine ⟨LG.length + j, by simp only; omega, ?_⟩
      simp only
      rw [new _ (by omega), Nat.add_sub_cancel_left]
      simp [List.getD, List.getElem?_eq_getElem hj, hx]
end Go.Proofs.Ytdjogfofedbohaa
end
