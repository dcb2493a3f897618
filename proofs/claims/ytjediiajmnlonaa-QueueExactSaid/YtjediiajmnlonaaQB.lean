/- The walk of QueueExact: whatever the entries and deeds, the call comes to true, and nothing that was there has changed. -/
import Derived.Test.YtjediiajmnlonaaQA
namespace Go.Proofs.Ytjediiajmnlonaa
open Go.RowKit
attribute [local go_sem] withDeps relAt relUpon Stab.det Stab.own Stab.empty preAct pres isPre

/-- A deed as it stands in memory. -/
structure ActIn where
  kind : Int
  list : List Ent
  slot : Int
  A : Option Addr
  c : Nat
  b : Nat
  o : Nat
def actv (a : ActIn) : List Value := [.int .i64 a.kind, .slice a.A a.list.length a.c, .int .i64 a.slot]
theorem actv_len (a : ActIn) : (actv a).length = 3 := rfl

theorem apart {w : World} {q rb L f t u c R : Nat} {A : Option Addr} {xs ys : List Ent} (h : QAt w q rb L f t xs) (hu : RAt w u A c R ys) :
    u ≠ q ∧ u ≠ rb ∧ ∀ g, (Value.slice A ys.length c).ownBlock = some g → g ≠ q ∧ g ≠ rb ∧ g ≠ u := by
  obtain ⟨Rn, _, hb, _⟩ := h.ring
  refine ⟨hu.blk.ne_ h.blk (by decide), hu.blk.ne_ hb (by decide), fun g hg => ?_⟩
  rcases hu.own.2 with ⟨h0, _⟩ | ⟨g', cap, cur, hv, _, hgb, _⟩
  · rw [h0] at hg; cases hg
  · rw [hv] at hg
    simp [Value.ownBlock] at hg
    subst hg
    have hgb' : Blk w g' 33 cur.toList := by unfold Blk; simpa using hgb
    exact ⟨hgb'.ne_ h.blk (by decide), hgb'.ne_ hb (by decide), hgb'.ne_ hu.blk (by decide)⟩

/-- The queue and the reference's hold the same entries, and have the same room. -/
def QInv (W : World) (q u k : Nat) (wr : World) : Prop := ∃ (rb L f t : Nat) (A : Option Addr) (c : Nat) (xs : List Ent), QAt wr q rb L f t xs ∧ RAt wr u A c L xs ∧ W.heap.size ≤ rb ∧ (∀ g, (Value.slice A xs.length c).ownBlock = some g → W.heap.size ≤ g) ∧ t ≤ 50 + 20 * k

set_option maxRecDepth 100000 in
set_option maxHeartbeats 40000000 in
theorem queueExact_walk {W : World} {b0 o0 c0 b1 o1 c1 : Nat} {A0 A1 : Option Addr} {ys : List Ent} {acts : List ActIn} (hr0 : Rd W b0 o0 A0 (flat ent ys)) (hr1 : Rd W b1 o1 A1 (flat actv acts)) (hacts : ∀ a ∈ acts, Rd W a.b a.o a.A (flat ent a.list)) :
    Calls Try.prog 3 #[.slice A0 ys.length c0, .slice A1 acts.length c1] W fun e w' => e = .returned (.bool true) ∧ Mod [] W w' := by
  obtain ⟨n, hn⟩ : ∃ n, n = ys.length := ⟨_, rfl⟩
  obtain ⟨m, hm⟩ : ∃ m, m = acts.length := ⟨_, rfl⟩
  have HNEW := fun (w : World) (hr : Rd w b0 o0 A0 (flat ent ys)) (h : ys.length < 549755813888) => new_any (c := c0) hr h
  rw [← hn] at HNEW ⊢
  rw [← hm]
  have HN := hide hn
  have HM := hide hm
  have HH := hide HNEW
  have HA := hide hacts
  clear hn hm HNEW hacts
  go_enter Try.func3, Try.ntmps3
  go_wp2_with fail
  refine (awake11 W).mono ?_
  rintro e w1 ⟨rfl, hm1⟩
  by_cases hbig : 50 < n
  · have hbig' : (50 : Int) < (n : Int) := by omega
    go_wp2
    go_ret
    exact ⟨rfl, hm1⟩
  have hbig' : ¬ (50 : Int) < (n : Int) := by omega
  go_wp2_with fail
  refine (HH.out w1 (hr0.mod hm1 (by simp)) (by omega)).mono ?_
  rintro e w2 ⟨q, rb, f, t, rfl, hm2, hq2, hqW, hrbW, ht⟩
  have hs1 := hm1.size
  have hmm := hm1.trans hm2 (by simp)
  have hz2 := hm2.size
  clear hm2
  go_wp2_with fail
  obtain ⟨u, hu⟩ : ∃ u, u = w2.heap.size := ⟨_, rfl⟩
  obtain ⟨w3, hw3⟩ : ∃ w3, w3 = w2.alloc (.cells #[.slice none 0 0, .int .i64 4] 30) := ⟨_, rfl⟩
  have hu3 : RAt w3 u none 0 4 [] := by
    rw [hw3, hu]
    exact ⟨Blk.new w2 _ [.slice none 0 0, .int .i64 4], World.ownsRow_nil _ _ _ _, by simp, by simp, by omega⟩
  have hq3 : QAt w3 q rb (roomN 4 0 n) f t ys := by rw [hw3]; exact hq2.mod ((Mod.refl [] w2).alloc _) (by simp) (by simp)
  have hm3 : Mod [] W w3 := by rw [hw3]; exact hmm.alloc _
  have huW : W.heap.size ≤ u := by omega
  rw [← hw3, ← hu]
  clear hw3 hu hmm hq2
  have hrbW' : W.heap.size ≤ rb := by omega
  have hqW' : W.heap.size ≤ q := by omega
  clear hs1 hz2
  go_loopw [7] (fun i wr => ∃ (k : Nat) (A : Option Addr) (c : Nat), k ≤ n ∧ i = .int .i64 k ∧ RAt wr u A c (roomN 4 0 k) (ys.take k) ∧ (∀ g, (Value.slice A (ys.take k).length c).ownBlock = some g → W.heap.size ≤ g) ∧ Mod [u] w3 wr) (fun i _ => n - (intOf i).toNat)
  case atStart => exact ⟨0, none, 0, Nat.zero_le _, rfl, by simpa [roomN] using hu3, (fun g hg => by cases hg), Mod.refl _ _⟩
  case round =>
    obtain ⟨k, A, c, hk, rfl, hu, hrow, hm⟩ := hrel
    by_cases hlt : k < n
    · obtain ⟨y, hy⟩ : ∃ y, ys[k]? = some y := ⟨_, List.getElem?_eq_getElem (by rw [← HN.out]; exact hlt)⟩
      have hbl := hr0.lt (by intro e; have := flat_length ent_len ys; rw [e, ← HN.out] at this; simp at this; omega)
      have hMr : Mod [] W wr := hm3.trans hm (by simp; omega)
      obtain ⟨rfl, e0, e1, e2⟩ := (hr0.mod hMr (by simp)).ent hy
      have hk0 : (0 : Int) ≤ (k : Int) := by omega
      have hk1 : (k : Int) < (n : Int) := by omega
      have HY := hide hy
      clear hy
      go_wp2_with fail
      refine (form_any y wr).mono ?_
      rintro e w4 ⟨rfl, hm4⟩
      have hu4 := hu.mod hm4 (by simp) (by simp)
      go_wp2_with fail
      have hl : (ys.take k).length = k := by simp; have := lt_of_some HY.out; omega
      have hRP := rpush_any hu4 (by rw [hl]; omega) y
      refine hRP.mono ?_
      rintro e w5 ⟨rfl, hm5, A', c', hu5, hrow5⟩
      have hMM : Mod [u] w3 w5 := (hm.trans hm4 (by simp)).trans hm5 (by simp)
      rw [← take_snoc' HY.out] at hu5
      have hrs : roomN 4 0 (k + 1) = room1 (roomN 4 0 k) (ys.take k).length := by rw [hl, roomN, Nat.zero_add]
      rw [← hrs] at hu5
      have hl1 : (ys.take (k + 1)).length = (ys.take k).length + 1 := by rw [take_snoc' HY.out]; simp
      rw [← hl1] at hrow5
      have hsz : W.heap.size ≤ w4.heap.size := (hMr.trans hm4 (by simp)).size
      have HU := hide hu5
      have HR := hide hrow5
      clear hRP hrs hl hl1 hu hu4 hm4 hm5 e0 e1 e2 hu5 hrow5
      go_wp2
      go_roundw
      case rel => exact ⟨k + 1, A', c', by omega, by go_num, HU.out, fun g hg => Nat.le_trans hsz (HR.out g hg), hMM⟩
      case measure => simp [intOf]; omega
    · have hkn : k = n := by omega
      have hl : ys.take k = ys := by rw [hkn, HN.out, List.take_length]
      rw [hl, hkn] at hu
      rw [hl] at hrow
      have hMr : Mod [] W wr := hm3.trans hm (by simp; omega)
      have hap := apart hq3 hu3
      have hq4 := hq3.mod hm (by simp; exact Ne.symm hap.1) (by simp; exact Ne.symm hap.2.1)
      subst hkn
      have hinv : QInv W q u 0 wr := ⟨rb, _, f, t, A, c, ys, hq4, hu, hrbW', hrow, by omega⟩
      have HI := hide hinv
      clear hq4 hq3 hu hu3 hap hm hm3 hm1 hl hrow hinv
      go_wp2_with fail
      go_loopw [8] (fun i wr => ∃ k : Nat, k ≤ m ∧ k ≤ 100 ∧ i = .int .i64 k ∧ Mod [] W wr ∧ Hid (QInv W q u k wr)) (fun i _ => m - (intOf i).toNat)
      case atStart => exact ⟨0, Nat.zero_le _, Nat.zero_le _, rfl, hMr, HI⟩
      case round =>
        clear HI hMr hlt
        obtain ⟨i, hi1, hi2, rfl, hmr, HI⟩ := hrel
        by_cases hgo : i < m ∧ i < 100
        · obtain ⟨hgo1, hgo2⟩ := hgo
          obtain ⟨x, hx⟩ : ∃ x, acts[i]? = some x := ⟨_, List.getElem?_eq_getElem (by rw [← HM.out]; exact hgo1)⟩
          obtain ⟨kd, lst, slot, lA, lc, lb, lo⟩ := x
          have hl : Rd W lb lo lA (flat ent lst) := HA.out _ (List.mem_of_getElem? hx)
          have hlr := hl.mod hmr (by simp)
          have R1 := hr1.mod hmr (by simp)
          have r0 := R1 (i * 3 + 0) (.int .i64 kd) (by rw [flat_get actv_len acts i 0 (by omega), hx]; rfl)
          have r1 := R1 (i * 3 + 1) (.slice lA lst.length lc) (by rw [flat_get actv_len acts i 1 (by omega), hx]; rfl)
          have r2 := R1 (i * 3 + 2) (.int .i64 slot) (by rw [flat_get actv_len acts i 2 (by omega), hx]; rfl)
          obtain ⟨rfl, a0⟩ := r0
          have a1 := r1.2
          have a2 := r2.2
          rw [Nat.add_zero] at a0
          rw [← Nat.add_assoc] at a1 a2
          have hi0 : (0 : Int) ≤ (i : Int) := by omega
          have hi1' : (i : Int) < (m : Int) := by omega
          have hi2' : (i : Int) < 100 := by omega
          have HLB := hide (fun hne => hl.lt (by intro e; apply hne; cases lst with | nil => rfl | cons x l => simp [flat, ent] at e) : lst ≠ [] → lb < W.heap.size)
          have HLB := hide (fun hne => hl.lt (by intro e; apply hne; cases lst with | nil => rfl | cons x l => simp [flat, ent] at e) : lst ≠ [] → lb < W.heap.size)
          clear r1 r2 R1 hx hl
          obtain ⟨nl, hnl⟩ : ∃ nl, nl = lst.length := ⟨_, rfl⟩
          rw [← hnl] at a1
          have HNL := hide hnl
          clear hnl
          by_cases hbig : 20 < nl
          · have hbig' : (20 : Int) < (nl : Int) := by omega
            go_wp2
            go_ret
            exact ⟨rfl, by (repeat (first | exact Mod.refl _ _ | (with_reducible assumption) | (refine Mod.drewN ?_ _) | (refine Mod.drew ?_) | (refine Mod.alloc ?_ _) | (refine Mod.setCell ?_ ?_ _; rotate_left; focus (first | omega | (simp; done) | (simp; omega)))))⟩
          have hbig' : ¬ (20 : Int) < (nl : Int) := by omega
          obtain ⟨rb1, L1, f1, t1, A1', c1', xs, hq1, hu1, hrb1, hrow1, ht1⟩ := HI.out
          clear HI
          have hm0 : Mod [] wr (wr.alloc (.cells #[.int .i64 kd, .slice lA nl lc, .int .i64 slot] 37)) := (Mod.refl _ _).alloc _
          have hbx : Blk (wr.alloc (.cells #[.int .i64 kd, .slice lA nl lc, .int .i64 slot] 37)) wr.heap.size 37 [.int .i64 kd, .slice lA nl lc, .int .i64 slot] := Blk.new wr _ _
          have hql := hq1.blk.lt
          have hul := hu1.blk.lt
          have hrl := hq1.rlt
          have hzr := hmr.size
          have hap := apart hq1 hu1
          have hq0 := hq1.mod hm0 (by simp) (by simp)
          have hu0 := hu1.mod hm0 (by simp) (by simp)
          have hl0 := hlr.mod hm0 (by simp)
          have hmW := hmr.trans hm0 (by simp)
          have HQ := hide hq0
          have HU := hide hu0
          have HL := hide hl0
          have HAP := hide hap
          have HB := hide hbx
          clear hq1 hu1 hq0 hu0 hl0 hlr hap hbx hmr
          by_cases hk1 : kd = 1 ∨ kd = 2 ∨ kd = 3
          · have hW : ∃ w0 : World, w0 = wr.alloc (.cells #[.int .i64 kd, .slice lA nl lc, .int .i64 slot] 37) := ⟨_, rfl⟩
            rcases hk1 with rfl | rfl | rfl
            all_goals
              go_wp2_with fail
              obtain ⟨w0, hw0⟩ := hW
              rw [← hw0] at HQ HU HB HL hmW ⊢
              clear hw0
              go_loopw [10] (fun j w' => ∃ (k : Nat) (A : Option Addr) (c : Nat), k ≤ nl ∧ j = .int .i64 k ∧ Hid (RAt w' u A c (roomN L1 xs.length k) (xs ++ lst.take k)) ∧ Hid (∀ g, (Value.slice A (xs ++ lst.take k).length c).ownBlock = some g → W.heap.size ≤ g) ∧ Mod [u] w0 w') (fun j _ => nl - (intOf j).toNat)
              case atStart => exact ⟨0, A1', c1', Nat.zero_le _, rfl, hide (by simpa [roomN] using HU.out), hide (by simpa using hrow1), Mod.refl _ _⟩
              case round =>
                obtain ⟨k, A, c, hk, rfl, HU1, HR1, hm⟩ := hrel
                have hbx := HB.out.mod hm (by simp; omega)
                have b1' := hbx.cell 1
                simp only [List.getElem?_cons_zero, List.getElem?_cons_succ] at b1'
                by_cases hkl : k < nl
                · obtain ⟨y, hy⟩ : ∃ y, lst[k]? = some y := ⟨_, List.getElem?_eq_getElem (by rw [← HNL.out]; exact hkl)⟩
                  have hlb := HLB.out (by rintro rfl; cases hy)
                  obtain ⟨rfl, e0, e1, e2⟩ := (HL.out.mod hm (by intro _; simp; omega)).ent hy
                  have HY := hide hy
                  have hk0 : (0 : Int) ≤ (k : Int) := by omega
                  have hk1 : (k : Int) < (nl : Int) := by omega
                  clear hy hbx
                  go_wp2_with fail
                  refine (form_any y _).mono ?_
                  rintro e w4 ⟨rfl, hm4⟩
                  have hu4 := HU1.out.mod hm4 (by simp) (by simp)
                  have hlen : (xs ++ lst.take k).length = xs.length + k := by simp; have := lt_of_some HY.out; omega
                  have hfew := HU.out.few
                  have hlx := HQ.out.len
                  have hRP := rpush_any hu4 (by rw [hlen]; omega) y
                  rw [List.append_assoc, ← take_snoc' HY.out] at hRP
                  have hrs : roomN L1 xs.length (k + 1) = room1 (roomN L1 xs.length k) (xs ++ lst.take k).length := by rw [hlen, roomN]
                  rw [← hrs] at hRP
                  have hl1 : (xs ++ lst.take (k + 1)).length = (xs ++ lst.take k).length + 1 := by rw [take_snoc' HY.out]; simp; omega
                  rw [← hl1] at hRP
                  have HRP := hide hRP
                  have hs4 := hm4.size
                  have hs5 := hm.size
                  have hsW := hmW.size
                  clear hRP hrs hl1 hu4 hlen hfew hlx e0 e1 e2 b1'
                  go_wp2_with fail
                  refine HRP.out.mono ?_
                  rintro e w5 ⟨rfl, hm5, A', c', hu5, hrow5⟩
                  have HU5 := hide hu5
                  have HR5 := hide (fun g hg => Nat.le_trans (by omega) (hrow5 g hg) : ∀ g, (Value.slice A' (xs ++ lst.take (k + 1)).length c').ownBlock = some g → W.heap.size ≤ g)
                  have hmm := (hm.trans hm4 (by simp)).trans hm5 (by simp)
                  clear hu5 hrow5 hm5 hm4 hm HRP
                  go_wp2
                  go_roundw
                  case rel => exact ⟨k + 1, A', c', by omega, by go_num, HU5, HR5, hmm⟩
                  case measure => simp [intOf]; omega
                · have hkn : k = nl := by omega
                  have htk : lst.take k = lst := by rw [hkn, HNL.out, List.take_length]
                  have hu4 := HU1.out
                  have hr4 := HR1.out
                  rw [htk, hkn, HNL.out] at hu4
                  rw [htk] at hr4
                  have hq4 := HQ.out.mod hm (by simp; exact Ne.symm HAP.out.1) (by simp; exact Ne.symm HAP.out.2.1)
                  have hl4 := HL.out.mod hm (by intro hne; have := HLB.out (by rintro rfl; exact hne rfl); simp; omega)
                  have hlx := HQ.out.len
                  have hP := push_any (c := lc) hq4 hl4 (fun hne => by have := HLB.out hne; omega) (by rw [← HNL.out]; omega)
                  rw [← HNL.out] at hP
                  have HP := hide hP
                  have HU4 := hide hu4
                  have HR4 := hide hr4
                  have hmm := hmW.trans hm (by simp; omega)
                  have hs5 := hm.size
                  have hsW := hmW.size
                  clear hP hu4 hr4 hq4 hl4 hkn htk hlx hbx HU1 HR1
                  go_wp2_with fail
                  refine HP.out.mono ?_
                  rintro e wa ⟨rfl, hm5, rba, fa, ta, hqa, hrbe, hte⟩
                  have hap2 := HAP.out
                  have hqsz := hqa.rlt
                  have hua : RAt wa u A c (roomN L1 xs.length nl) (xs ++ lst) := by rw [HNL.out]; exact HU4.out.mod hm5 (by simp; exact ⟨hap2.1, hap2.2.1⟩) (fun g hg => by have h1 := (apart (HQ.out.mod hm (by simp; exact Ne.symm hap2.1) (by simp; exact Ne.symm hap2.2.1)) HU4.out).2.2 g hg; simp; exact ⟨h1.1, h1.2.1⟩)
                  have hma := hmm.trans hm5 (by simp; omega)
                  have hrba : W.heap.size ≤ rba := by rcases hrbe with h | h <;> omega
                  have hrowa := HR4.out
                  have hta : ta ≤ 50 + 20 * (i + 1) := by omega
                  clear HQ HU HL HB HAP HU4 HR4 HP hm5 hm hmm
                  go_wp2_with fail
                  (refine (alike_any hqa hua).mono ?_; rintro e w5 ⟨rfl, hm5⟩; have HE := hide (⟨_, _, _, _, _, _, _, hqa.mod hm5 (by simp) (by simp), hua.mod hm5 (by simp) (by simp), hrba, hrowa, hta⟩ : QInv W q u (i + 1) w5); have hm6 := hma.trans hm5 (by simp); clear hqa hua hm5 hrba hrowa hta; go_wp2; go_roundw; (case rel => exact ⟨i + 1, by omega, by omega, by go_num, hm6, HE⟩); (case measure => simp [intOf]; omega))
          by_cases hk2 : kd = 4 ∨ kd = 5
          · have hW : ∃ w0 : World, w0 = wr.alloc (.cells #[.int .i64 kd, .slice lA nl lc, .int .i64 slot] 37) := ⟨_, rfl⟩
            rcases hk2 with rfl | rfl
            all_goals
              rcases xs with _ | ⟨y, xs⟩
              · skip
                go_wp2_with fail
                obtain ⟨w0, hw0⟩ := hW
                rw [← hw0] at HQ HU HB HL hmW ⊢
                clear hw0
                have hap2 := HAP.out
                refine (pop_none HQ.out).mono ?_
                rintro e w2 ⟨rfl, hm2⟩
                have hq2 := HQ.out.mod hm2 (by simp) (by simp)
                have hu2 := HU.out.mod hm2 (by simp) (by simp)
                have hu3 := hu2.mod ((Mod.refl [] w2).alloc (.cells #[.int .i64 0, .int .i64 0, .int .i64 0] 35)) (by simp) (by simp)
                have hb11 := Blk.new w2 35 [.int .i64 0, .int .i64 0, .int .i64 0]
                have hm3 := hmW.trans hm2 (by simp)
                have HQ2 := hide hq2
                have HU3 := hide hu3
                have HB11 := hide hb11
                clear hu2 hu3 hb11 hq2
                go_wp2_with fail
                refine (rpop_none HU3.out).mono ?_
                rintro e w4 ⟨rfl, hm4⟩
                have hu4 := HU3.out.mod hm4 (by simp) (by simp)
                have hb11' := HB11.out.mod hm4 (by simp)
                have hb13 := Blk.new w4 33 [.int .i64 0, .int .i64 0, .int .i64 0]
                have hq4 := (HQ2.out.mod ((Mod.refl [] w2).alloc (.cells #[.int .i64 0, .int .i64 0, .int .i64 0] 35)) (by simp) (by simp)).mod hm4 (by simp) (by simp)
                have hm5 := (hm3.alloc (.cells #[.int .i64 0, .int .i64 0, .int .i64 0] 35)).trans hm4 (by simp)
                have HQ4 := hide hq4
                have HU4 := hide hu4
                have HB1 := hide (hb11'.alloc (.cells #[.int .i64 0, .int .i64 0, .int .i64 0] 33))
                have HB2 := hide hb13
                clear hb11' hb13 hq4 hu4 hm3 hm2 hm4
                generalize w2.heap.size = bx1 at *
                go_wp2_with fail
                have FACTS : ∀ w', Mod [] (w4.alloc (.cells #[.int .i64 0, .int .i64 0, .int .i64 0] 33)) w' → (w'.cell? ⟨bx1, 0, none⟩ = some (.int .i64 0) ∧ w'.cell? ⟨bx1, 1, none⟩ = some (.int .i64 0) ∧ w'.cell? ⟨bx1, 2, none⟩ = some (.int .i64 0)) ∧ w'.cell? ⟨w4.heap.size, 0, none⟩ = some (.int .i64 0) ∧ w'.cell? ⟨w4.heap.size, 1, none⟩ = some (.int .i64 0) ∧ w'.cell? ⟨w4.heap.size, 2, none⟩ = some (.int .i64 0) := fun w' hm' =>
                  have h1 := HB1.out.mod hm' (by simp)
                  have h2 := HB2.out.mod hm' (by simp)
                  ⟨⟨h1.cell 0, h1.cell 1, h1.cell 2⟩, h2.cell 0, h2.cell 1, h2.cell 2⟩
                refine wp_region_rel [some [], some [(0, 110)], some [], some [(1, 111), (2, 112)], some [(3, 113)], some [(4, 114)], some [(4, 114)], some [(4, 114), (5, 115), (6, 116)], some [(4, 114), (7, 117)]] [(0, 110), (1, 111), (2, 112), (3, 113), (4, 114), (5, 115), (6, 116), (7, 117), (8, 118)] (by kernel_rfl) (by kernel_rfl) ?_
                (apply relWalk_det; · (intro w' hm; have F := FACTS w' hm; go_simp; first | exact ⟨Mod.refl _ _, rfl⟩ | exact Mod.refl _ _ | rfl))
                apply relWalk_det
                · intro w' hm
                  have F := FACTS w' hm
                  go_simp
                  refine (form_any (0, 0, 0) _).mono ?_
                  rintro e w3 ⟨rfl, hm3⟩
                  exact relPost_det hm3
                iterate 7 (apply relWalk_det; · (intro w' hm; have F := FACTS w' hm; go_simp; first | exact ⟨Mod.refl _ _, rfl⟩ | exact Mod.refl _ _ | rfl))
                refine relWalk_end ?_
                rintro w6 hm6 _ rfl _ rfl _ rfl _ rfl _ rfl _ rfl _ rfl _ rfl _ rfl
                have hm6' := ((Mod.refl [] w4).alloc (.cells #[.int .i64 0, .int .i64 0, .int .i64 0] 33)).trans hm6 (by simp)
                have hqa := HQ4.out.mod hm6' (by simp) (by simp)
                have hua := HU4.out.mod hm6' (by simp) (by simp)
                have hma := hm5.trans hm6' (by simp)
                have hrba := hrb1
                have hrowa := hrow1
                have hta : t1 ≤ 50 + 20 * (i + 1) := by omega
                clear FACTS HQ HU HL HB HAP HQ2 HU3 HB11 HQ4 HU4 HB1 HB2
                (go_simp; refine NoPanic.normal ?_)
                go_wp2_with fail
                (refine (alike_any hqa hua).mono ?_; rintro e w5 ⟨rfl, hm5⟩; have HE := hide (⟨_, _, _, _, _, _, _, hqa.mod hm5 (by simp) (by simp), hua.mod hm5 (by simp) (by simp), hrba, hrowa, hta⟩ : QInv W q u (i + 1) w5); have hm6 := hma.trans hm5 (by simp); clear hqa hua hm5 hrba hrowa hta; go_wp2; go_roundw; (case rel => exact ⟨i + 1, by omega, by omega, by go_num, hm6, HE⟩); (case measure => simp [intOf]; omega))
              · skip
                go_wp2_with fail
                obtain ⟨w0, hw0⟩ := hW
                rw [← hw0] at HQ HU HB HL hmW ⊢
                clear hw0
                have hap2 := HAP.out
                refine (pop_some HQ.out).mono ?_
                rintro e w2 ⟨rfl, hm2, hq2⟩
                skip
                have hu2 := HU.out.mod hm2 (by simp; exact hap2.1) (by intro g hg; simp; exact (hap2.2.2 g hg).1)
                have hu3 := hu2.mod ((Mod.refl [] w2).alloc (.cells #[.int .i64 y.1, .int .i64 y.2.1, .int .i64 y.2.2] 35)) (by simp) (by simp)
                have hb11 := Blk.new w2 35 [.int .i64 y.1, .int .i64 y.2.1, .int .i64 y.2.2]
                have hm3 := hmW.trans hm2 (by simp; omega)
                have hz2 := hm3.size
                have hrw := (hm3.alloc (.cells #[.int .i64 y.1, .int .i64 y.2.1, .int .i64 y.2.2] 35)).size
                have hul2 := hu2.blk.lt
                have HQ2 := hide hq2
                have HU3 := hide hu3
                have HB11 := hide hb11
                clear hu2 hu3 hb11 hq2
                go_wp2_with fail
                refine (rpop_some HU3.out).mono ?_
                rintro e w4 ⟨rfl, hm4, A', c', hu4, hrow4⟩
                skip
                have hb11' := HB11.out.mod hm4 (by simp; omega)
                have hb13 := Blk.new w4 33 [.int .i64 y.1, .int .i64 y.2.1, .int .i64 y.2.2]
                have hq4 := (HQ2.out.mod ((Mod.refl [] w2).alloc (.cells #[.int .i64 y.1, .int .i64 y.2.1, .int .i64 y.2.2] 35)) (by simp) (by simp)).mod hm4 (by simp; exact Ne.symm hap2.1) (by simp; exact Ne.symm hap2.2.1)
                have hm5 := (hm3.alloc (.cells #[.int .i64 y.1, .int .i64 y.2.1, .int .i64 y.2.2] 35)).trans hm4 (by simp; omega)
                have HQ4 := hide hq4
                have HU4 := hide hu4
                have HB1 := hide (hb11'.alloc (.cells #[.int .i64 y.1, .int .i64 y.2.1, .int .i64 y.2.2] 33))
                have HB2 := hide hb13
                clear hb11' hb13 hq4 hu4 hm3 hm2 hm4
                generalize w2.heap.size = bx1 at *
                go_wp2_with fail
                have FACTS : ∀ w', Mod [] (w4.alloc (.cells #[.int .i64 y.1, .int .i64 y.2.1, .int .i64 y.2.2] 33)) w' → (w'.cell? ⟨bx1, 0, none⟩ = some (.int .i64 y.1) ∧ w'.cell? ⟨bx1, 1, none⟩ = some (.int .i64 y.2.1) ∧ w'.cell? ⟨bx1, 2, none⟩ = some (.int .i64 y.2.2)) ∧ w'.cell? ⟨w4.heap.size, 0, none⟩ = some (.int .i64 y.1) ∧ w'.cell? ⟨w4.heap.size, 1, none⟩ = some (.int .i64 y.2.1) ∧ w'.cell? ⟨w4.heap.size, 2, none⟩ = some (.int .i64 y.2.2) := fun w' hm' =>
                  have h1 := HB1.out.mod hm' (by simp)
                  have h2 := HB2.out.mod hm' (by simp)
                  ⟨⟨h1.cell 0, h1.cell 1, h1.cell 2⟩, h2.cell 0, h2.cell 1, h2.cell 2⟩
                refine wp_region_rel [some [], some [(0, 110)], some [], some [(1, 111), (2, 112)], some [(3, 113)], some [(4, 114)], some [(4, 114)], some [(4, 114), (5, 115), (6, 116)], some [(4, 114), (7, 117)]] [(0, 110), (1, 111), (2, 112), (3, 113), (4, 114), (5, 115), (6, 116), (7, 117), (8, 118)] (by kernel_rfl) (by kernel_rfl) ?_
                (apply relWalk_det; · (intro w' hm; have F := FACTS w' hm; go_simp; first | exact ⟨Mod.refl _ _, rfl⟩ | exact Mod.refl _ _ | rfl))
                apply relWalk_det
                · intro w' hm
                  have F := FACTS w' hm
                  go_simp
                  refine (form_any y _).mono ?_
                  rintro e w3 ⟨rfl, hm3⟩
                  exact relPost_det hm3
                iterate 7 (apply relWalk_det; · (intro w' hm; have F := FACTS w' hm; go_simp; first | exact ⟨Mod.refl _ _, rfl⟩ | exact Mod.refl _ _ | rfl))
                refine relWalk_end ?_
                rintro w6 hm6 _ rfl _ rfl _ rfl _ rfl _ rfl _ rfl _ rfl _ rfl _ rfl
                have hm6' := ((Mod.refl [] w4).alloc (.cells #[.int .i64 y.1, .int .i64 y.2.1, .int .i64 y.2.2] 33)).trans hm6 (by simp)
                have hqa := HQ4.out.mod hm6' (by simp) (by simp)
                have hua := HU4.out.mod hm6' (by simp) (by simp)
                have hma := hm5.trans hm6' (by simp)
                have hrba := hrb1
                have hrowa := fun g hg => Nat.le_trans hrw (hrow4 g hg)
                have hta : t1 ≤ 50 + 20 * (i + 1) := by omega
                clear FACTS HQ HU HL HB HAP HQ2 HU3 HB11 HQ4 HU4 HB1 HB2
                (go_simp; refine NoPanic.normal ?_)
                go_wp2_with fail
                (refine (alike_any hqa hua).mono ?_; rintro e w5 ⟨rfl, hm5⟩; have HE := hide (⟨_, _, _, _, _, _, _, hqa.mod hm5 (by simp) (by simp), hua.mod hm5 (by simp) (by simp), hrba, hrowa, hta⟩ : QInv W q u (i + 1) w5); have hm6 := hma.trans hm5 (by simp); clear hqa hua hm5 hrba hrowa hta; go_wp2; go_roundw; (case rel => exact ⟨i + 1, by omega, by omega, by go_num, hm6, HE⟩); (case measure => simp [intOf]; omega))
          by_cases hk3 : kd = 6
          · have hW : ∃ w0 : World, w0 = wr.alloc (.cells #[.int .i64 kd, .slice lA nl lc, .int .i64 slot] 37) := ⟨_, rfl⟩
            subst hk3
            rcases xs with _ | ⟨y, xs⟩
            · skip
              go_wp2_with fail
              obtain ⟨w0, hw0⟩ := hW
              rw [← hw0] at HQ HU HB HL hmW ⊢
              clear hw0
              refine (head_none HQ.out).mono ?_
              rintro e w2 ⟨rfl, hm2⟩
              have hm2' := hm2.alloc (.cells #[.int .i64 0, .int .i64 0, .int .i64 0] 35)
              have hq2 := HQ.out.mod hm2' (by simp) (by simp)
              have hu2 := HU.out.mod hm2' (by simp) (by simp)
              have hm3 := hmW.trans hm2' (by simp)
              have HB1 := hide (Blk.new w2 35 [.int .i64 0, .int .i64 0, .int .i64 0])
              have HQ2 := hide hq2
              have HU2 := hide hu2
              clear hq2 hu2 hm2 hm2'
              go_wp2_with fail
              have FACTS : ∀ w', Mod [] (w2.alloc (.cells #[.int .i64 0, .int .i64 0, .int .i64 0] 35)) w' → (w'.cell? ⟨w2.heap.size, 0, none⟩ = some (.int .i64 0) ∧ w'.cell? ⟨w2.heap.size, 1, none⟩ = some (.int .i64 0) ∧ w'.cell? ⟨w2.heap.size, 2, none⟩ = some (.int .i64 0)) ∧ w'.cell? ⟨u, 0, none⟩ = some (.slice A1' 0 c1') := fun w' hm' =>
                have h1 := HB1.out.mod hm' (by simp)
                ⟨⟨h1.cell 0, h1.cell 1, h1.cell 2⟩, (HU2.out.mod hm' (by simp) (by simp)).cells.1⟩
              refine wp_region_rel [some [], some [], some [(1, 127)], some [(2, 128)], some [(3, 129)], some [(4, 130)], some [(5, 131)], some [(0, 126), (6, 132)], some [(7, 133)], some [(8, 134)], some [(8, 134), (9, 135)], some [(10, 136)], some [(10, 136), (11, 137)], some [(10, 136)], some [(10, 136), (13, 139)], some [(10, 136), (14, 140)], some [(10, 136), (15, 141)], some [(10, 136), (16, 142)], some [(10, 136), (17, 143)], some [(10, 136), (12, 138), (18, 144)], some [(8, 134), (10, 136), (19, 145)], some [(8, 134), (20, 146)], some [(21, 147)], some [(22, 148)], some [(22, 148), (23, 149)], some [(22, 148), (24, 150)], some [(25, 151)], some [(25, 151)], some [(25, 151), (26, 152), (27, 153)], some [(22, 148), (25, 151), (28, 154)], some [(22, 148), (29, 155)]] [(0, 126), (1, 127), (2, 128), (3, 129), (4, 130), (5, 131), (6, 132), (7, 133), (8, 134), (9, 135), (10, 136), (11, 137), (12, 138), (13, 139), (14, 140), (15, 141), (16, 142), (17, 143), (18, 144), (19, 145), (20, 146), (21, 147), (22, 148), (23, 149), (24, 150), (25, 151), (26, 152), (27, 153), (28, 154), (29, 155), (30, 156)] (by kernel_rfl) (by kernel_rfl) ?_
              iterate 31 (apply relWalk_det; · (intro w' hm; have F := FACTS w' hm; go_simp; first | exact ⟨Mod.refl _ _, rfl⟩ | exact Mod.refl _ _ | rfl))
              refine relWalk_end ?_
              intro w6 hm6
              simp only [withDeps, List.nil_append, List.cons_append, List.getD_cons_zero, List.getD_cons_succ, Stab.det, forall_eq]
              have hqa := HQ2.out.mod hm6 (by simp) (by simp)
              have hua := HU2.out.mod hm6 (by simp) (by simp)
              have hma := hm3.trans hm6 (by simp)
              have hrba := hrb1
              have hrowa := hrow1
              have hta : t1 ≤ 50 + 20 * (i + 1) := by omega
              clear FACTS HQ HU HL HB HAP HQ2 HU2 HB1
              (go_simp; refine NoPanic.normal ?_)
              go_wp2_with fail
              (refine (alike_any hqa hua).mono ?_; rintro e w5 ⟨rfl, hm5⟩; have HE := hide (⟨_, _, _, _, _, _, _, hqa.mod hm5 (by simp) (by simp), hua.mod hm5 (by simp) (by simp), hrba, hrowa, hta⟩ : QInv W q u (i + 1) w5); have hm6 := hma.trans hm5 (by simp); clear hqa hua hm5 hrba hrowa hta; go_wp2; go_roundw; (case rel => exact ⟨i + 1, by omega, by omega, by go_num, hm6, HE⟩); (case measure => simp [intOf]; omega))
            · skip
              go_wp2_with fail
              obtain ⟨w0, hw0⟩ := hW
              rw [← hw0] at HQ HU HB HL hmW ⊢
              clear hw0
              refine (head_some HQ.out).mono ?_
              rintro e w2 ⟨rfl, hm2⟩
              have hm2' := hm2.alloc (.cells #[.int .i64 y.1, .int .i64 y.2.1, .int .i64 y.2.2] 35)
              have hq2 := HQ.out.mod hm2' (by simp) (by simp)
              have hu2 := HU.out.mod hm2' (by simp) (by simp)
              have hm3 := hmW.trans hm2' (by simp)
              have HB1 := hide (Blk.new w2 35 [.int .i64 y.1, .int .i64 y.2.1, .int .i64 y.2.2])
              obtain ⟨nx, hnx⟩ : ∃ nx, nx = (y :: xs).length := ⟨_, rfl⟩
              have hnx1 : nx = xs.length + 1 := hnx
              have hnx0 : (0 : Int) < (nx : Int) := by omega
              have hnx2 : 0 < nx := by omega
              clear hnx1
              obtain ⟨ub, hur, _⟩ := Rd.of_own hu2.own
              obtain ⟨rfl, _⟩ := hur.ent (k := 0) (x := y) rfl
              have HNX := hide hnx
              clear hnx
              have HQ2 := hide hq2
              have HU2 := hide hu2
              clear hq2 hu2 hm2 hm2'
              go_wp2_with fail
              have HUR := hide hur
              clear hur
              have FACTS : ∀ w', Mod [] (w2.alloc (.cells #[.int .i64 y.1, .int .i64 y.2.1, .int .i64 y.2.2] 35)) w' → (w'.cell? ⟨w2.heap.size, 0, none⟩ = some (.int .i64 y.1) ∧ w'.cell? ⟨w2.heap.size, 1, none⟩ = some (.int .i64 y.2.1) ∧ w'.cell? ⟨w2.heap.size, 2, none⟩ = some (.int .i64 y.2.2)) ∧ w'.cell? ⟨u, 0, none⟩ = some (.slice (some ⟨ub, 0, none⟩) nx c1') ∧ w'.cell? ⟨ub, 0, none⟩ = some (.int .i64 y.1) ∧ w'.cell? ⟨ub, 1, none⟩ = some (.int .i64 y.2.1) ∧ w'.cell? ⟨ub, 2, none⟩ = some (.int .i64 y.2.2) := fun w' hm' =>
                have h1 := HB1.out.mod hm' (by simp)
                have h2 := ((HUR.out.mod hm' (by simp)).ent (k := 0) (x := y) rfl).2
                ⟨⟨h1.cell 0, h1.cell 1, h1.cell 2⟩, by rw [HNX.out]; exact (HU2.out.mod hm' (by simp) (by simp)).cells.1, by simpa using h2.1, by simpa using h2.2.1, by simpa using h2.2.2⟩
              refine wp_region_rel [some [], some [], some [(1, 127)], some [(2, 128)], some [(3, 129)], some [(4, 130)], some [(5, 131)], some [(0, 126), (6, 132)], some [(7, 133)], some [(8, 134)], some [(8, 134), (9, 135)], some [(10, 136)], some [(10, 136), (11, 137)], some [(10, 136)], some [(10, 136), (13, 139)], some [(10, 136), (14, 140)], some [(10, 136), (15, 141)], some [(10, 136), (16, 142)], some [(10, 136), (17, 143)], some [(10, 136), (12, 138), (18, 144)], some [(8, 134), (10, 136), (19, 145)], some [(8, 134), (20, 146)], some [(21, 147)], some [(22, 148)], some [(22, 148), (23, 149)], some [(22, 148), (24, 150)], some [(25, 151)], some [(25, 151)], some [(25, 151), (26, 152), (27, 153)], some [(22, 148), (25, 151), (28, 154)], some [(22, 148), (29, 155)]] [(0, 126), (1, 127), (2, 128), (3, 129), (4, 130), (5, 131), (6, 132), (7, 133), (8, 134), (9, 135), (10, 136), (11, 137), (12, 138), (13, 139), (14, 140), (15, 141), (16, 142), (17, 143), (18, 144), (19, 145), (20, 146), (21, 147), (22, 148), (23, 149), (24, 150), (25, 151), (26, 152), (27, 153), (28, 154), (29, 155), (30, 156)] (by kernel_rfl) (by kernel_rfl) ?_
              iterate 12 (apply relWalk_det; · (intro w' hm; have F := FACTS w' hm; go_simp; first | exact ⟨Mod.refl _ _, rfl⟩ | exact Mod.refl _ _ | rfl))
              apply relWalk_det
              · intro w' hm
                have F := FACTS w' hm
                go_simp
                refine (form_any y _).mono ?_
                rintro e w3 ⟨rfl, hm3⟩
                exact relPost_det hm3
              iterate 18 (apply relWalk_det; · (intro w' hm; have F := FACTS w' hm; go_simp; first | exact ⟨Mod.refl _ _, rfl⟩ | exact Mod.refl _ _ | rfl))
              refine relWalk_end ?_
              intro w6 hm6
              simp only [withDeps, List.nil_append, List.cons_append, List.getD_cons_zero, List.getD_cons_succ, Stab.det, forall_eq]
              have hqa := HQ2.out.mod hm6 (by simp) (by simp)
              have hua := HU2.out.mod hm6 (by simp) (by simp)
              have hma := hm3.trans hm6 (by simp)
              have hrba := hrb1
              have hrowa := hrow1
              have hta : t1 ≤ 50 + 20 * (i + 1) := by omega
              clear FACTS HQ HU HL HB HAP HQ2 HU2 HB1
              (go_simp; refine NoPanic.normal ?_)
              go_wp2_with fail
              (refine (alike_any hqa hua).mono ?_; rintro e w5 ⟨rfl, hm5⟩; have HE := hide (⟨_, _, _, _, _, _, _, hqa.mod hm5 (by simp) (by simp), hua.mod hm5 (by simp) (by simp), hrba, hrowa, hta⟩ : QInv W q u (i + 1) w5); have hm6 := hma.trans hm5 (by simp); clear hqa hua hm5 hrba hrowa hta; go_wp2; go_roundw; (case rel => exact ⟨i + 1, by omega, by omega, by go_num, hm6, HE⟩); (case measure => simp [intOf]; omega))
          have j1 : (kd == 1) = false := by simp; omega
          have j2 : (kd == 2) = false := by simp; omega
          have j3 : (kd == 3) = false := by simp; omega
          have j4 : (kd == 4) = false := by simp; omega
          have j5 : (kd == 5) = false := by simp; omega
          have j6 : (kd == 6) = false := by simp; omega
          go_wp2_with fail
          obtain ⟨w0, hw0⟩ : ∃ w0, w0 = wr.alloc (.cells #[.int .i64 kd, .slice lA nl lc, .int .i64 slot] 37) := ⟨_, rfl⟩
          rw [← hw0] at HQ HU HB hmW ⊢
          clear hw0
          have FACTS : ∀ w', Mod [] w0 w' → w'.cell? ⟨wr.heap.size, 2, none⟩ = some (.int .i64 slot) := fun w' hm' => (HB.out.mod hm' (by simp)).cell 2
          refine wp_region_rel [some [], some [], some [(1, 65)], some [(0, 64), (2, 66)], some [], some [], some [(5, 69)], some [(4, 68), (6, 70)], some [(3, 67), (7, 71)]] [(0, 64), (1, 65), (2, 66), (3, 67), (4, 68), (5, 69), (6, 70), (7, 71), (8, 72)] (by kernel_rfl) (by kernel_rfl) ?_
          iterate 3 (apply relWalk_det; · (intro w' hm; have F := FACTS w' hm; go_simp; first | exact ⟨Mod.refl _ _, rfl⟩ | exact Mod.refl _ _ | rfl))
          apply relWalk_det
          · intro w' hm
            have F := FACTS w' hm
            have hq' := HQ.out.mod hm (by simp) (by simp)
            go_simp
            refine (find_any hq' slot).mono ?_
            rintro e w3 ⟨rfl, hm3⟩
            exact relPost_det hm3
          iterate 3 (apply relWalk_det; · (intro w' hm; have F := FACTS w' hm; go_simp; first | exact ⟨Mod.refl _ _, rfl⟩ | exact Mod.refl _ _ | rfl))
          apply relWalk_det
          · intro w' hm
            have F := FACTS w' hm
            have hu' := HU.out.mod hm (by simp) (by simp)
            go_simp
            refine (rfind_any hu' slot).mono ?_
            rintro e w3 ⟨rfl, rfl⟩
            exact relPost_det (Mod.refl _ _)
          (apply relWalk_det; · (intro w' hm; have F := FACTS w' hm; go_simp; first | exact ⟨Mod.refl _ _, rfl⟩ | exact Mod.refl _ _ | rfl))
          refine relWalk_end ?_
          rintro w2 hm2 _ rfl _ rfl _ rfl _ rfl _ rfl _ rfl _ rfl _ rfl _ rfl
          have hqa := HQ.out.mod hm2 (by simp) (by simp)
          have hua := HU.out.mod hm2 (by simp) (by simp)
          have hma := hmW.trans hm2 (by simp)
          have hrba := hrb1
          have hrowa := hrow1
          have hta : t1 ≤ 50 + 20 * (i + 1) := by omega
          clear FACTS HQ HU HL HB HAP
          (go_simp; refine NoPanic.normal ?_)
          go_wp2_with fail
          (refine (alike_any hqa hua).mono ?_; rintro e w5 ⟨rfl, hm5⟩; have HE := hide (⟨_, _, _, _, _, _, _, hqa.mod hm5 (by simp) (by simp), hua.mod hm5 (by simp) (by simp), hrba, hrowa, hta⟩ : QInv W q u (i + 1) w5); have hm6 := hma.trans hm5 (by simp); clear hqa hua hm5 hrba hrowa hta; go_wp2; go_roundw; (case rel => exact ⟨i + 1, by omega, by omega, by go_num, hm6, HE⟩); (case measure => simp [intOf]; omega))
        · have hq : ∃ a, a = (⟨q, 0, none⟩ : Addr) := ⟨_, rfl⟩
          by_cases him : i < m
          case' pos =>
            have h100 : (100 : Int) ≤ (i : Int) := by omega
          all_goals
            go_wp2_with (first
              | (go_at_call 22; (with_reducible refine (head_nil _).mono ?_); rintro e w' ⟨rfl, hma⟩)
              | (go_at_call 20; (with_reducible refine (pop_nil _).mono ?_); rintro e w' ⟨rfl, hmb⟩)
              | (go_at_call 19; (with_reducible refine (push_nil _ _).mono ?_); rintro e w' ⟨rfl, rfl⟩)
              | (go_at_call 26; (with_reducible refine (len_nil _).mono ?_); rintro e w' ⟨rfl, rfl⟩)
              | (go_at_call 27; (with_reducible refine (room_nil _).mono ?_); rintro e w' ⟨rfl, rfl⟩)
              | (go_at_call 28; (with_reducible refine (list_nil _).mono ?_); rintro e w' ⟨rfl, rfl⟩)
              | (go_at_call 23; (with_reducible refine (find_nil _ _).mono ?_); rintro e w' ⟨rfl, hmc⟩)
              | (go_at_call 29; (with_reducible refine (same_nil _).mono ?_); rintro e w' ⟨rfl, rfl⟩)
              | (go_at_call 29; (with_reducible refine (same_nil_right _ _).mono ?_); rintro e w' ⟨rfl, rfl⟩))
            go_ret
            exact ⟨rfl, ((((hmr.trans hma (by simp)).alloc _).trans hmb (by simp)).alloc _).trans hmc (by simp)⟩
end Go.Proofs.Ytjediiajmnlonaa
