/- The walk of QueueOrder: whatever the entries and the choices, the call comes to true, and nothing that was there has changed. -/
import Derived.Test.YtjediiajmnlonaaO2
import Derived.Test.YtjediiajmnlonaaQA
namespace Go.Proofs.Ytjediiajmnlonaa
open Go.RowKit
attribute [local go_sem] withDeps relAt relUpon Stab.det Stab.own Stab.empty preAct pres isPre

/-- The queue holds qs, the list that goes out holds os. -/
def OInv (W wr : World) (q : Nat) (A : Option Addr) (c : Nat) (os qs : List Ent) (k : Nat) : Prop :=
  ∃ rb L f t, QAt wr q rb L f t qs ∧ wr.ownsRow W.heap.size 35 3 (.slice A os.length c) os.length (flat ent os) ∧ (∀ g, (Value.slice A os.length c).ownBlock = some g → g ≠ rb) ∧
    W.heap.size ≤ rb ∧ t ≤ k

theorem own_ne {w : World} {base e sz n q t : Nat} {v : Value} {xs cs : List Value} (ho : w.ownsRow base e sz v n xs) (hb : Blk w q t cs) (ht : e ≠ t) : ∀ g, v.ownBlock = some g → g ≠ q := fun g hg => by
  rcases ho.2 with ⟨h0, _⟩ | ⟨g', cap, cur, hv, _, hgb, _⟩
  · rw [h0] at hg; cases hg
  · rw [hv] at hg
    simp [Value.ownBlock] at hg
    subst hg
    have hgb' : Blk w g' e cur.toList := by unfold Blk; simpa using hgb
    exact hgb'.ne_ hb ht

/-- The same while the queue is emptied, with another queue beside it. -/
def OInv2 (W wr : World) (q : Nat) (A : Option Addr) (c : Nat) (os qs : List Ent) (q2 : Nat) (qs0 : List Ent) (k : Nat) : Prop :=
  OInv W wr q A c os qs k ∧ ∃ rb2 L2 f2 t2, QAt wr q2 rb2 L2 f2 t2 qs0 ∧ q2 ≠ q ∧ rb2 ≠ q ∧ ∀ g, (Value.slice A os.length c).ownBlock = some g → g ≠ rb2

def lenOf : Value → Nat
  | .slice _ n _ => n
  | _ => 0

theorem and_pow (L : Nat) (h : ∃ k, L = 2 ^ k) (hL : L < 1099511627776) : bits .and .i64 (L : Int) (wrap64 ((L : Int) - 1)) = 0 := by
  obtain ⟨k, rfl⟩ := h
  have hp : 0 < 2 ^ k := Nat.two_pow_pos k
  have e : wrap64 (((2 ^ k : Nat) : Int) - 1) = ((2 ^ k - 1 : Nat) : Int) := by
    rw [IntWalk.wrap64_in _ (by omega)]
    omega
  rw [e]
  show IntKind.i64.wrap ((BitVec.ofInt 64 ((2 ^ k : Nat) : Int) &&& BitVec.ofInt 64 ((2 ^ k - 1 : Nat) : Int)).toNat : Int) = _
  rw [BitVec.toNat_and, ofInt_u64 _ (by omega), ofInt_u64 _ (by omega), Nat.and_two_pow_sub_one_eq_mod, Nat.mod_self]
  rfl

set_option maxRecDepth 100000 in
set_option maxHeartbeats 4000000 in
theorem queueOrder_walk {W : World} {b0 o0 c0 b1 o1 c1 : Nat} {A0 A1 : Option Addr} {ys : List Ent} {ps : List Bool} (hr0 : Rd W b0 o0 A0 (flat ent ys)) (hr1 : Rd W b1 o1 A1 (ps.map Value.bool)) :
    Calls Try.prog 4 #[.slice A0 ys.length c0, .slice A1 ps.length c1] W fun e w' => e = .returned (.bool true) ∧ Mod [] W w' := by
  obtain ⟨i0, hi, hz0, hz1, hz2⟩ := info_parts infoEntry
  have HI := hide hi
  have HZ0 := hide hz0
  have HZ1 := hide hz1
  have HZ2 := hide hz2
  clear hi hz0 hz1 hz2
  obtain ⟨n, hn⟩ : ∃ n, n = ys.length := ⟨_, rfl⟩
  obtain ⟨m, hm⟩ : ∃ m, m = ps.length := ⟨_, rfl⟩
  rw [← hn, ← hm]
  have HN := hide hn
  have HM := hide hm
  clear hn hm
  have HNEW := fun (w : World) => new_any (w := w) (b := 0) (o := 0) (c := 0) (A := none) (ys := []) (fun j u hj => by simp [flat] at hj) (by simp)
  simp only [List.length_nil] at HNEW
  have HNEW' := hide HNEW
  clear HNEW
  go_enter Try.func4, Try.ntmps4
  go_wp2_with fail
  refine (awake11 W).mono ?_
  rintro e w1 ⟨rfl, hm1⟩
  by_cases hbig : 200 < n
  · have hbig' : (200 : Int) < (n : Int) := by omega
    go_wp2
    go_ret
    exact ⟨rfl, hm1⟩
  have hbig' : ¬ (200 : Int) < (n : Int) := by omega
  go_wp2_with fail
  refine (HNEW'.out w1).mono ?_
  rintro e w2 ⟨q, rb, f, t, rfl, hm2, hq2, hqW, hrbW, ht⟩
  have hs1 := hm1.size
  have hqW' : W.heap.size ≤ q := by omega
  have hrbW' : W.heap.size ≤ rb := by omega
  have hmm := hm1.trans hm2 (by simp)
  have hz2 := hmm.size
  clear hm1 hm2 hqW hrbW hs1
  have hO : OInv W (w2.alloc (.cells #[] 35)) q (some ⟨w2.heap.size, 0, none⟩) 0 [] [] 0 :=
    ⟨rb, _, f, t, hq2.mod ((Mod.refl [] w2).alloc _) (by simp) (by simp), (Blk.new w2 35 []).own hz2 (by simp) (by simp), (fun g hg => by have := hq2.rlt; simp [Value.ownBlock] at hg; omega), hrbW', ht⟩
  have HO := hide hO
  have hm3 : Mod [] W (w2.alloc (.cells #[] 35)) := hmm.alloc _
  clear hq2 hO hmm
  go_wp2_with fail
  go_loopw [6, 7] (fun o i wr => ∃ (k : Nat) (A : Option Addr) (c : Nat) (os qs : List Ent), k ≤ n ∧ o = .slice A os.length c ∧ i = .int .i64 k ∧ Mod [] W wr ∧ Hid (OInv W wr q A c os qs k) ∧ Hid (os ++ qs = ys.take k)) (fun _ i _ => n - (intOf i).toNat)
  case atStart => exact ⟨0, _, 0, [], [], Nat.zero_le _, rfl, rfl, hm3, HO, hide (by simp)⟩
  case round =>
    clear HO hm3
    obtain ⟨k, A, c, os, qs, hk, rfl, rfl, hm, HO, HE⟩ := hrel
    by_cases hlt : k < n
    · obtain ⟨x, hx⟩ : ∃ x, ys[k]? = some x := ⟨_, List.getElem?_eq_getElem (by rw [← HN.out]; exact hlt)⟩
      obtain ⟨rfl, e0, e1, e2⟩ := (hr0.mod hm (by simp)).ent hx
      have HX := hide hx
      have hk0 : (0 : Int) ≤ (k : Int) := by omega
      have hk1 : (k : Int) < (n : Int) := by omega
      clear hx
      obtain ⟨rb, L, f, t, hq, ho, hg, hrb, ht⟩ := HO.out
      have hmA := (Mod.refl [] wr).alloc (.cells #[.int .i64 x.1, .int .i64 x.2.1, .int .i64 x.2.2] 35)
      have hq1 := hq.mod hmA (by simp) (by simp)
      have ho1 := own_mod ho hmA (by simp)
      have hbx : Blk _ _ 35 _ := Blk.new wr 35 (ent x)
      have hql := hq.blk.lt
      have hrl := hq.rlt
      have hgq : ∀ g, (Value.slice A os.length c).ownBlock = some g → g ≠ q := own_ne ho hq.blk (by decide)
      have hgl : ∀ g, (Value.slice A os.length c).ownBlock = some g → g < wr.heap.size := fun g h => (ho.lt g h).2
      have hP := push_any (c := 1) (ys := [x]) hq1 (Rd.of_blk hbx) (fun _ => by omega) (by simp; omega)
      simp only [List.length_cons, List.length_nil, Nat.zero_add] at hP
      have HP := hide hP
      have HO1 := hide ho1
      clear hP hq hq1 ho ho1 hbx
      have hmW := hm.trans hmA (by simp)
      go_wp2_with fail
      refine HP.out.mono ?_
      rintro e w4 ⟨rfl, hm4, rb4, f4, t4, hq4, hrb4, ht4⟩
      have ho4 := own_mod HO1.out hm4 (fun g h => by have := hgq g h; have := hg g h; simp; omega)
      have hg4 : ∀ g, (Value.slice A os.length c).ownBlock = some g → g ≠ rb4 := fun g h => by have := hg g h; have := hgl g h; simp at hrb4; omega
      have hmW4 := hmW.trans hm4 (by simp; have := hm.size; omega)
      have hsW := hm.size
      have hrbW4 : W.heap.size ≤ rb4 := by simp at hrb4; omega
      obtain ⟨L4, hL4⟩ : ∃ L4, L4 = roomN L qs.length 1 := ⟨_, rfl⟩
      rw [← hL4] at hq4
      have hp1 := hq4.pos
      have hp2 : ¬ (L4 : Int) < 4 := by omega
      have hp3 : (bits .and .i64 (L4 : Int) (wrap64 ((L4 : Int) - 1)) != 0) = false := by simp [and_pow L4 hq4.pow hq4.big]
      have HL4 := len_any hq4
      obtain ⟨nq, hnq⟩ : ∃ nq, nq = (qs ++ [x]).length := ⟨_, rfl⟩
      rw [← hnq] at HL4
      have hp4 : ¬ (L4 : Int) < (nq : Int) := by have := hq4.fits; omega
      have HLEN := hide HL4
      clear HL4 hnq
      have HQ4 := hide hq4
      have HO4 := hide ho4
      clear hq4 ho4 HO1 HP hm4 hmW hmA HO hg hgl hL4
      go_wp2_with fail
      refine (room_any HQ4.out).mono ?_
      rintro e w5 ⟨rfl, rfl⟩
      go_wp2_with fail
      refine HLEN.out.mono ?_
      rintro e w5 ⟨rfl, n5, rfl⟩
      clear hp1
      have hq5 := HQ4.out.mod ((Mod.refl [] w4).drewN n5) (by simp) (by simp)
      have ho5 := own_mod HO4.out ((Mod.refl [] w4).drewN n5) (by simp)
      have hmW5 := hmW4.drewN n5
      have hE5 : os ++ (qs ++ [x]) = ys.take (k + 1) := by rw [take_snoc' HX.out, ← HE.out, List.append_assoc]
      have hql5 := hq5.blk.lt
      have hrl5 := hq5.rlt
      have hol5 := fun g h => (ho5.lt g h).2
      have hoW5 := fun g h => (ho5.lt g h).1
      generalize w4.drewN n5 = w5 at *
      have HQ5 := hide hq5
      have HO5 := hide ho5
      have HE5 := hide hE5
      clear hq5 ho5 hE5 HQ4 HO4 hmW4 e0 e1 e2 hm
      by_cases hpop : k < m ∧ ps[k]? = some true
      · obtain ⟨hp5, hp6⟩ := hpop
        obtain ⟨rfl, d0⟩ := (hr1.mod hmW5 (by simp)) k (.bool true) (by simp [hp6])
        have hk2 : (k : Int) < (m : Int) := by omega
        obtain ⟨y, zs, hyz⟩ : ∃ y zs, qs ++ [x] = y :: zs := by cases qs <;> exact ⟨_, _, rfl⟩
        rw [hyz] at HQ5 HE5
        clear hp6 hyz
        go_wp2_with fail
        refine (pop_some HQ5.out).mono ?_
        rintro e w6 ⟨rfl, hm6, hq6⟩
        have ho6 := own_mod HO5.out hm6 (fun g h => by have := hgq g h; simp; omega)
        have hmb := (Mod.refl [] w6).alloc (.cells #[.int .i64 y.1, .int .i64 y.2.1, .int .i64 y.2.2] 35)
        have hmc := hmb.alloc (.cells #[.int .i64 y.1, .int .i64 y.2.1, .int .i64 y.2.2] 35)
        have hq7 := hq6.mod hmc (by simp) (by simp)
        have ho7 := own_mod ho6 hmc (by simp)
        have hlit := (Blk.new (w6.alloc (.cells #[.int .i64 y.1, .int .i64 y.2.1, .int .i64 y.2.2] 35)) 35 (ent y)).own (base := 0) (size := 3) (n := 1) (Nat.zero_le _) (by unfold maxLen; omega) rfl
        have hsz7 : (w6.alloc (.cells #[.int .i64 y.1, .int .i64 y.2.1, .int .i64 y.2.2] 35)).heap.size = w6.heap.size + 1 := by simp
        rw [hsz7] at hlit
        have hm7 := (hmW5.trans hm6 (by simp; omega)).trans hmc (by simp)
        have hsz6 := hm6.size
        have hosl : os.length ≤ 200 := by have h1 := congrArg List.length HE5.out; simp at h1; omega
        have HQ7 := hide hq7
        have HO7 := hide ho7
        have HL7 := hide hlit
        clear hq6 ho6 hm6 hmb hmc hq7 ho7 hlit HQ5 HO5 hsz7
        go_wp2_with (at_builtin; refine wpList_append_owned rfl (.tmp 71) (.tmp 73) 22 rfl W.heap.size 35 i0 _ 3 24 Try.underlying22 HI.out HZ0.out HZ1.out HZ2.out rfl (by decide) (.slice A os.length c) os.length (flat ent os) rfl HO7.out (.slice (some ⟨w6.heap.size + 1, 0, none⟩) 1 1) 1 0 35 (ent y) rfl HL7.out (ent_one y) (by unfold maxLen; omega) (by omega) hm7.size ?_; intro A3 c3 w8 ho8 hgr8 hat8; have HO8 := hide ho8; have HG8 := hide hgr8; have HA8 := hide hat8; clear ho8 hgr8 hat8)
        go_roundw
        case rel =>
          have hm8 : Mod ((Value.slice A os.length c).ownBlock).toList ((w6.alloc (.cells #[.int .i64 y.1, .int .i64 y.2.1, .int .i64 y.2.2] 35)).alloc (.cells #[.int .i64 y.1, .int .i64 y.2.1, .int .i64 y.2.2] 35)) w8 := (Mod.refl _ _).grown HG8.out (fun g h => .inl (by simp [h]))
          have hq8 := HQ7.out.mod hm8 (by simp; exact fun h => hgq _ h rfl) (by simp; exact fun h => hg4 _ h rfl)
          have hrw := hrl5
          refine ⟨k + 1, A3, c3, os ++ [y], zs, by omega, by simp, by go_num, hm7.grown HG8.out (fun g h => .inr (hoW5 g h)), hide ⟨rb4, L4, f4 + 1, t4, hq8, ?_, ?_, hrbW4, by omega⟩, hide (by rw [← HE5.out]; simp)⟩
          · have := HO8.out
            rw [flat_append]
            simpa [flat_one] using this
          · intro g h
            simp only [List.length_append, List.length_cons, List.length_nil, Nat.zero_add] at h
            rcases HA8.out with h1 | h1
            · rw [h1] at h; exact hg4 g h
            · rw [h1] at h
              simp at h
              omega
        case measure => simp [intOf]; omega
      · have HREL := hide (⟨rb4, L4, f4, t4, HQ5.out, HO5.out, hg4, hrbW4, by omega⟩ : OInv W w5 q A c os (qs ++ [x]) (k + 1))
        clear HQ5 HO5
        by_cases hp5 : k < m
        · have hk2 : (k : Int) < (m : Int) := by omega
          have hp6 : ps[k]? = some false := by
            have : ps[k]? = some (ps[k]'(by rw [← HM.out]; exact hp5)) := List.getElem?_eq_getElem _
            cases hb : ps[k]'(by rw [← HM.out]; exact hp5) with
            | true => rw [hb] at this; exact absurd ⟨hp5, this⟩ hpop
            | false => rw [hb] at this; exact this
          obtain ⟨rfl, d0⟩ := (hr1.mod hmW5 (by simp)) k (.bool false) (by simp [hp6])
          clear hp6 hpop
          go_wp2_with fail
          go_roundw
          case rel => exact ⟨k + 1, A, c, os, qs ++ [x], by omega, rfl, by go_num, hmW5, HREL, HE5⟩
          case measure => simp [intOf]; omega
        · have hk2 : ¬ (k : Int) < (m : Int) := by omega
          clear hpop
          go_wp2_with fail
          go_roundw
          case rel => exact ⟨k + 1, A, c, os, qs ++ [x], by omega, rfl, by go_num, hmW5, HREL, HE5⟩
          case measure => simp [intOf]; omega
    · have hkn : k = n := by omega
      subst hkn
      have hE : os ++ qs = ys := by have := HE.out; rwa [HN.out, List.take_length] at this
      have hlen : os.length + qs.length = k := by rw [HN.out, ← hE]; simp
      have HE := hide hE
      obtain ⟨rb, L, f, t, hq, ho, hg, hrb, ht⟩ := HO.out
      have HQ := hide hq
      have HOW := hide ho
      have HG := hide hg
      clear hq ho hg HO hE
      go_wp2_with fail
      refine (list_any HQ.out).mono ?_
      rintro e w3 ⟨Al, cl, rfl, hm3, hol⟩
      obtain ⟨bl, hrl, _⟩ := Rd.of_own hol
      have HN3 := hide (new_any (c := cl) hrl (by omega))
      have hq3 := HQ.out.mod hm3 (by simp) (by simp)
      have ho3 := own_mod HOW.out hm3 (by simp)
      have HQ3 := hide hq3
      have HO3 := hide ho3
      have hql3 := hq3.blk.lt
      have hrl3 := hq3.rlt
      have hgl3 := fun g h => (ho3.lt g h).2
      clear hol hrl hq3 ho3
      go_wp2_with fail
      refine HN3.out.mono ?_
      rintro e w4 ⟨q2, rb2, f2, t2, rfl, hm4, hq24, hq2W, hrb2W, ht2⟩
      have hq4 := HQ3.out.mod hm4 (by simp) (by simp)
      have ho4 := own_mod HO3.out hm4 (by simp)
      have hS := same_any hq4 hq24
      have hd : decide (qs = qs) = true := by simp
      rw [hd] at hS
      have HS := hide hS
      have HQ4 := hide hq4
      have HO4 := hide ho4
      have HQ24 := hide hq24
      have hmW4 := (hm.trans hm3 (by simp)).trans hm4 (by simp)
      clear hq4 ho4 hS hd hq24 HN3
      go_wp2_with fail
      refine HS.out.mono ?_
      rintro e w5 ⟨rfl, hm5⟩
      have hI : OInv2 W w5 q A c os qs q2 qs k := ⟨⟨rb, L, f, t, HQ4.out.mod hm5 (by simp) (by simp), own_mod HO4.out hm5 (by simp), HG.out, hrb, ht⟩, rb2, _, f2, t2, HQ24.out.mod hm5 (by simp) (by simp), by omega, by omega, fun g h => by have := hgl3 g h; omega⟩
      have HI2 := hide hI
      have hmW5 := hmW4.trans hm5 (by simp)
      obtain ⟨qs0, hqs0⟩ : ∃ qs0, qs0 = qs := ⟨_, rfl⟩
      rw [← hqs0] at HI2
      have HI3 : Hid (OInv2 W w5 q A c os qs q2 qs0 k) := by rw [hqs0] at HI2 ⊢; exact HI2
      clear hI HI2 hm5 hm4 hm3 hm HQ HOW HG HQ3 HO3 HQ4 HO4 HQ24 HS hgl3 hql3 hrl3 hq2W hrb2W ht2 hqs0
      go_wp2_with fail
      go_loopw [6] (fun o wr => ∃ (A : Option Addr) (c : Nat) (os qs : List Ent), o = .slice A os.length c ∧ os.length + qs.length = k ∧ Mod [] W wr ∧ Hid (OInv2 W wr q A c os qs q2 qs0 k) ∧ Hid (os ++ qs = ys)) (fun o _ => k - lenOf o)
      case atStart => exact ⟨A, c, os, qs, rfl, hlen, hmW5, HI3, HE⟩
      case round =>
        clear HI3 HE hmW5 hlen
        obtain ⟨A, c, os, qs, rfl, hlen, hm, HO, HE⟩ := hrel
        obtain ⟨⟨rb, L, f, t, hq, ho, hg, hrb, ht⟩, rb2, L2, f2, t2, hq2, hn1, hn2, hg2⟩ := HO.out
        have HL := len_any hq
        obtain ⟨nq, hnq⟩ : ∃ nq, nq = qs.length := ⟨_, rfl⟩
        rw [← hnq] at HL
        have HLEN := hide HL
        have HQ := hide hq
        have HOW := hide ho
        have HQ2 := hide hq2
        have hgq := own_ne ho hq.blk (by decide)
        have hgq2 := own_ne ho hq2.blk (by decide)
        have hql := hq.blk.lt
        have hrl := hq.rlt
        have hq2l := hq2.blk.lt
        have hr2l := hq2.rlt
        have hgW := fun g h => (ho.lt g h).1
        clear HL hq ho hq2
        by_cases hpos : 0 < nq
        · have hpos' : (0 : Int) < (nq : Int) := by omega
          obtain ⟨y, zs, rfl⟩ : ∃ y zs, qs = y :: zs := by cases qs with | nil => simp at hnq; omega | cons y zs => exact ⟨y, zs, rfl⟩
          simp only [List.length_cons] at hlen
          clear hnq HO
          go_wp2_with fail
          refine HLEN.out.mono ?_
          rintro e w5 ⟨rfl, n5, rfl⟩
          have hq5 := HQ.out.mod ((Mod.refl [] wr).drewN n5) (by simp) (by simp)
          have hq25 := HQ2.out.mod ((Mod.refl [] wr).drewN n5) (by simp) (by simp)
          have ho5 := own_mod HOW.out ((Mod.refl [] wr).drewN n5) (by simp)
          have hm5 := hm.drewN n5
          have hz5 : (wr.drewN n5).heap.size = wr.heap.size := by simp
          rw [← hz5] at hql hrl hq2l hr2l
          clear hz5
          generalize wr.drewN n5 = w5 at *
          have HQ5 := hide hq5
          have HQ25 := hide hq25
          have HO5 := hide ho5
          clear hq5 hq25 ho5 HQ HQ2 HOW HLEN
          go_wp2_with fail
          refine (pop_some HQ5.out).mono ?_
          rintro e w6 ⟨rfl, hm6, hq6⟩
          have ho6 := own_mod HO5.out hm6 (fun g h => by have := hgq g h; simp; omega)
          have hq26 := HQ25.out.mod hm6 (by simp; omega) (by simp; omega)
          have hmb := (Mod.refl [] w6).alloc (.cells #[.int .i64 y.1, .int .i64 y.2.1, .int .i64 y.2.2] 35)
          have hmc := hmb.alloc (.cells #[.int .i64 y.1, .int .i64 y.2.1, .int .i64 y.2.2] 35)
          have hq7 := hq6.mod hmc (by simp) (by simp)
          have hq27 := hq26.mod hmc (by simp) (by simp)
          have ho7 := own_mod ho6 hmc (by simp)
          have hlit := (Blk.new (w6.alloc (.cells #[.int .i64 y.1, .int .i64 y.2.1, .int .i64 y.2.2] 35)) 35 (ent y)).own (base := 0) (size := 3) (n := 1) (Nat.zero_le _) (by unfold maxLen; omega) rfl
          have hsz7 : (w6.alloc (.cells #[.int .i64 y.1, .int .i64 y.2.1, .int .i64 y.2.2] 35)).heap.size = w6.heap.size + 1 := by simp
          rw [hsz7] at hlit
          have hm7 := (hm5.trans hm6 (by simp; omega)).trans hmc (by simp)
          have hsz6 := hm6.size
          have HQ7 := hide hq7
          have HQ27 := hide hq27
          have HO7 := hide ho7
          have HL7 := hide hlit
          clear hq6 ho6 hq26 hm6 hmb hmc hq7 hq27 ho7 hlit HQ5 HQ25 HO5 hsz7
          go_wp2_with (at_builtin; refine wpList_append_owned rfl (.tmp 90) (.tmp 92) 22 rfl W.heap.size 35 i0 _ 3 24 Try.underlying22 HI.out HZ0.out HZ1.out HZ2.out rfl (by decide) (.slice A os.length c) os.length (flat ent os) rfl HO7.out (.slice (some ⟨w6.heap.size + 1, 0, none⟩) 1 1) 1 0 35 (ent y) rfl HL7.out (ent_one y) (by unfold maxLen; omega) (by omega) hm7.size ?_; intro A3 c3 w8 ho8 hgr8 hat8; have HO8 := hide ho8; have HG8 := hide hgr8; have HA8 := hide hat8; clear ho8 hgr8 hat8)
          go_roundw
          case rel =>
            have hm8 : Mod ((Value.slice A os.length c).ownBlock).toList ((w6.alloc (.cells #[.int .i64 y.1, .int .i64 y.2.1, .int .i64 y.2.2] 35)).alloc (.cells #[.int .i64 y.1, .int .i64 y.2.1, .int .i64 y.2.2] 35)) w8 := (Mod.refl _ _).grown HG8.out (fun g h => .inl (by simp [h]))
            have hq8 := HQ7.out.mod hm8 (by simp; exact fun h => hgq _ h rfl) (by simp; exact fun h => hg _ h rfl)
            have hq28 := HQ27.out.mod hm8 (by simp; exact fun h => hgq2 _ h rfl) (by simp; exact fun h => hg2 _ h rfl)
            refine ⟨A3, c3, os ++ [y], zs, by simp, by simp; omega, hm7.grown HG8.out (fun g h => .inr (hgW g h)), hide ⟨⟨rb, L, f + 1, t, hq8, ?_, ?_, hrb, by omega⟩, rb2, L2, f2, t2, hq28, hn1, hn2, ?_⟩, hide (by rw [← HE.out]; simp)⟩
            · have := HO8.out
              rw [flat_append]
              simpa [flat_one] using this
            all_goals
              intro g h
              simp only [List.length_append, List.length_cons, List.length_nil, Nat.zero_add] at h
              rcases HA8.out with h1 | h1
              · rw [h1] at h; first | exact hg g h | exact hg2 g h
              · rw [h1] at h
                simp at h
                omega
          case measure => simp [lenOf]; omega
        · have hpos' : ¬ (0 : Int) < (nq : Int) := by omega
          obtain rfl : qs = [] := List.eq_nil_of_length_eq_zero (by omega)
          simp only [List.length_nil, Nat.add_zero] at hlen
          obtain rfl : os = ys := by simpa using HE.out
          clear hnq HO HE
          have HOW' := HOW.out
          rw [hlen] at HOW' hgq hgq2 hg hg2 hgW ⊢
          have HW := hide HOW'
          have HK := hide hlen
          clear HOW HOW' hlen
          go_wp2_with fail
          refine HLEN.out.mono ?_
          rintro e w5 ⟨rfl, n5, rfl⟩
          have HQ5 := hide (HQ.out.mod ((Mod.refl [] wr).drewN n5) (by simp) (by simp))
          have HQ25 := hide (HQ2.out.mod ((Mod.refl [] wr).drewN n5) (by simp) (by simp))
          have HO5 := hide (own_mod HW.out ((Mod.refl [] wr).drewN n5) (by simp))
          have hm5 := hm.drewN n5
          clear HQ HQ2 HW HLEN hql hrl hq2l hr2l hgq hgq2 hg hg2 hgW
          generalize wr.drewN n5 = w5 at *
          go_wp2_with fail
          refine (pop_none HQ5.out).mono ?_
          rintro e w6 ⟨rfl, hm6⟩
          have hm6' := hm6.alloc (.cells #[.int .i64 0, .int .i64 0, .int .i64 0] 35)
          have HQ7 := hide (HQ5.out.mod hm6' (by simp) (by simp))
          have HQ27 := hide (HQ25.out.mod hm6' (by simp) (by simp))
          have ho7 := own_mod HO5.out hm6' (by simp)
          obtain ⟨bo, hro, _⟩ := Rd.of_own ho7
          have HRO := hide hro
          have hm7 := hm5.trans hm6' (by simp)
          clear ho7 hro hm6 hm6' HQ5 HQ25 HO5
          go_wp2_with fail
          generalize w6.alloc (.cells #[.int .i64 0, .int .i64 0, .int .i64 0] 35) = w7 at *
          go_loopw [16] (fun i wr => ∃ j : Nat, j ≤ k ∧ i = .int .i64 j ∧ Mod [] w7 wr) (fun i _ => k - (intOf i).toNat)
          case atStart => exact ⟨0, Nat.zero_le _, rfl, Mod.refl _ _⟩
          case round =>
            obtain ⟨j, hj, rfl, hm⟩ := hrel
            by_cases hjk : j < k
            · obtain ⟨x, hx⟩ : ∃ x, os[j]? = some x := ⟨_, List.getElem?_eq_getElem (by rw [HK.out]; exact hjk)⟩
              obtain ⟨rfl, e0, e1, e2⟩ := (hr0.mod (hm7.trans hm (by simp)) (by simp)).ent hx
              obtain ⟨rfl, f0, f1, f2⟩ := (HRO.out.mod hm (by simp)).ent hx
              simp only [Nat.zero_add] at f0 f1 f2
              have hj0 : (0 : Int) ≤ (j : Int) := by omega
              have hj1 : (j : Int) < (k : Int) := by omega
              clear hx
              go_wp2_with fail
              go_quiet (fail)
              go_wp2
              go_roundw
              case rel => exact ⟨j + 1, by omega, by go_num, hm.drewN _⟩
              case measure => simp [intOf]; omega
            · have hj1 : ¬ (j : Int) < (k : Int) := by omega
              have HQ8 := hide (HQ7.out.mod hm (by simp) (by simp))
              have HQ28 := hide (HQ27.out.mod hm (by simp) (by simp))
              have hm8 := hm7.trans hm (by simp)
              clear HQ7 HQ27 hm HRO
              go_wp2_with fail
              refine (HNEW'.out _).mono ?_
              rintro e w8 ⟨q3, rb3, f3, t3, rfl, hm9, hq3, hq3W, hrb3W, ht3⟩
              have HQ9 := hide (HQ8.out.mod hm9 (by simp) (by simp))
              have HQ29 := hide (HQ28.out.mod hm9 (by simp) (by simp))
              have hm10 := hm8.trans hm9 (by simp)
              have hS := same_any HQ9.out hq3
              have hd : decide (([] : List Ent) = []) = true := by simp
              rw [hd] at hS
              have HS := hide hS
              clear hS hd hm8 hm9 HQ8 HQ28 hq3
              go_wp2_with fail
              refine HS.out.mono ?_
              rintro e w9 ⟨rfl, hm11⟩
              have hq10 := HQ9.out.mod hm11 (by simp) (by simp)
              have hq210 := HQ29.out.mod hm11 (by simp) (by simp)
              have hS := same_any hq210 hq10
              obtain ⟨bq, hbq⟩ : ∃ bq, bq = decide (qs0 = []) := ⟨_, rfl⟩
              rw [← hbq] at hS
              have HS2 := hide hS
              obtain ⟨n0, hn0⟩ : ∃ n0, n0 = qs0.length := ⟨_, rfl⟩
              have hb0 : ((n0 : Int) == 0) = bq := by rw [hn0, hbq]; cases qs0 <;> simp; omega
              have HQ210 := hide hq210
              have hm12 := hm10.trans hm11 (by simp)
              have HN0 := hide hn0
              clear hS hq10 hq210 hbq hn0 HQ9 HQ29 HS
              go_wp2_with fail
              refine HS2.out.mono ?_
              rintro e w10 ⟨rfl, hm13⟩
              have hL := len_any (HQ210.out.mod hm13 (by simp) (by simp))
              rw [← HN0.out] at hL
              have HL := hide hL
              clear hL
              go_wp2_with fail
              refine HL.out.mono ?_
              rintro e w11 ⟨rfl, n11, rfl⟩
              go_wp2
              go_ret
              exact ⟨rfl, (hm12.trans hm13 (by simp)).drewN n11⟩
end Go.Proofs.Ytjediiajmnlonaa
