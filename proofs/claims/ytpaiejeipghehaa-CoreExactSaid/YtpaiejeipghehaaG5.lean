/- CoreExact: the states at its loop's head. No condition. -/
import Derived.Test.YtpaiejeipghehaaG4
import Derived.Test.YtpaiejeipghehaaG3
section
/- Push onto a queue that is known: the entries go behind all others; the room doubles when it is full. -/
namespace Go.Proofs.Ytpaiejeipghehaa
open Go.RowKit

theorem QAt.place {w : World} {q rb L f t : Nat} {xs : List Ent} (h : QAt w q rb L f t xs) (n : Nat) :
    ∃ x : Ent, (w.cell? ⟨rb, (n % L) * 3, none⟩ = some (.int .i64 x.1) ∧ w.cell? ⟨rb, (n % L) * 3 + 1, none⟩ = some (.int .i64 x.2.1) ∧ w.cell? ⟨rb, (n % L) * 3 + 2, none⟩ = some (.int .i64 x.2.2)) ∧
      w.frozen? ⟨rb, (n % L) * 3, none⟩ = false ∧ w.frozen? ⟨rb, (n % L) * 3 + 1, none⟩ = false ∧ w.frozen? ⟨rb, (n % L) * 3 + 2, none⟩ = false := by
  obtain ⟨R, hl, hb, hr⟩ := h.ring
  have hp := h.pos
  obtain ⟨x, hx⟩ : ∃ x, R[n % L]? = some x := ⟨_, List.getElem?_eq_getElem (by rw [hl]; exact Nat.mod_lt _ (by omega))⟩
  refine ⟨x, ⟨?_, ?_, ?_⟩, hb.frozen _, hb.frozen _, hb.frozen _⟩
  · have := flat_get ent_len R (n % L) 0 (by omega)
    rw [hb.cell, ← Nat.add_zero (n % L * 3), this, hx]; rfl
  · rw [hb.cell, flat_get ent_len R (n % L) 1 (by omega), hx]; rfl
  · rw [hb.cell, flat_get ent_len R (n % L) 2 (by omega), hx]; rfl

theorem take_snoc' {α : Type} {xs : List α} {k : Nat} {x : α} (h : xs[k]? = some x) : xs.take (k + 1) = xs.take k ++ [x] := by
  have hk := lt_of_some h
  rw [List.take_succ_eq_append_getElem hk]
  rw [List.getElem?_eq_getElem hk] at h
  injection h with h
  rw [h]

theorem set3 {α : Type} (l : List α) (i : Nat) (h : i + 2 < l.length) (a b c : α) : ((l.set i a).set (i + 1) b).set (i + 2) c = l.take i ++ ([a, b, c] ++ l.drop (i + 3)) := by
  induction i generalizing l with
  | zero =>
    match l, h with
    | x :: y :: z :: r, _ => rfl
  | succ i ih =>
    match l, h with
    | x :: r, h => simpa [Nat.add_right_comm] using ih r (by simp at h; omega)

theorem QAt.pushed {w : World} {q rb L f t : Nat} {xs : List Ent} (h : QAt w q rb L f t xs) (hroom : xs.length < L) (ht : t + 1 < 1099511627776) (y : Ent) :
    QAt ((((w.setCell ⟨rb, t % L * 3, none⟩ (.int .i64 y.1)).setCell ⟨rb, t % L * 3 + 1, none⟩ (.int .i64 y.2.1)).setCell ⟨rb, t % L * 3 + 2, none⟩ (.int .i64 y.2.2)).setCell ⟨q, 2, none⟩ (.int .u64 ((t : Int) + 1))) q rb L f (t + 1) (xs ++ [y]) := by
  obtain ⟨R, hl, hb, hr⟩ := h.ring
  have hp := h.pos
  have hj : t % L < R.length := by rw [hl]; exact Nat.mod_lt _ (by omega)
  have hne := h.ne_
  have hlen := h.len
  have hfl := flat_length ent_len R
  have hb3 := ((hb.set_ (t % L * 3) (.int .i64 y.1)).set_ (t % L * 3 + 1) (.int .i64 y.2.1)).set_ (t % L * 3 + 2) (.int .i64 y.2.2)
  rw [set3 _ _ (by rw [hfl]; omega)] at hb3
  have hs := flat_set ent_len R (t % L) hj y
  rw [show ([Value.int .i64 y.1, .int .i64 y.2.1, .int .i64 y.2.2] : List Value) = ent y from rfl, hs] at hb3
  refine ⟨by have := (((h.blk.far (p := ⟨rb, t % L * 3, none⟩) hne (.int .i64 y.1)).far (p := ⟨rb, t % L * 3 + 1, none⟩) hne (.int .i64 y.2.1)).far (p := ⟨rb, t % L * 3 + 2, none⟩) hne (.int .i64 y.2.2)).set_ 2 (.int .u64 ((t : Int) + 1)); simpa using this, ⟨_, ?_, hb3.far hne.symm _, fun i hi => ?_⟩, h.pow, h.pos, h.big, by simp; omega, by simp; omega, ht⟩
  · simpa using hl
  · rcases Nat.lt_or_ge i xs.length with h1 | h1
    · rw [List.getElem?_append_left h1, ← hr i h1, List.getElem?_set_ne]
      intro he
      have h2 : (f + i) % L = (f + xs.length) % L := by rw [← hlen]; exact he.symm
      have h3 := Nat.sub_mod_eq_zero_of_mod_eq h2.symm
      rw [show f + xs.length - (f + i) = xs.length - i from by omega, Nat.mod_eq_of_lt (by omega)] at h3
      omega
    · have he : i = xs.length := by simp at hi; omega
      subst he
      rw [← hlen, List.getElem?_set_self hj]
      simp

def room1 (L n : Nat) : Nat := if n = L then 2 * L else L
def roomN (L n : Nat) : Nat → Nat
  | 0 => L
  | k + 1 => room1 (roomN L n k) (n + k)

theorem quiet_from {P : Program} {f : FuncId} {args : Array Value} {w : World} {v : Value} {n : Nat} (c : ∀ n, Calls P f args (w.drewN n) fun e w' => e = .returned v ∧ ∃ m, w' = (w.drewN n).drewN m) :
    Calls P f args (w.drewN n) fun e w'' => e = .returned v ∧ ∃ m, w'' = w.drewN m :=
  (c n).mono fun _ _ ⟨he, m, hm⟩ => ⟨he, n + m, by rw [hm, World.drewN_drewN]⟩

set_option maxRecDepth 100000 in
set_option maxHeartbeats 1600000 in
theorem push_any {w : World} {q rb L f t b o c : Nat} {A : Option Addr} {xs ys : List Ent} (h : QAt w q rb L f t xs) (hr : Rd w b o A (flat ent ys)) (hb : ys ≠ [] → b ≠ q ∧ b ≠ rb) (ht : t + ys.length < 549755813888) :
    Calls Try.prog 117 #[.pointer (some ⟨q, 0, none⟩), .slice A ys.length c] w fun e w' => e = .returned (.int .i64 0) ∧ Mod [q, rb] w w' ∧
      ∃ rb' f' t', QAt w' q rb' (roomN L xs.length ys.length) f' t' (xs ++ ys) ∧ (rb' = rb ∨ w.heap.size ≤ rb') ∧ t' ≤ t + ys.length := by
  obtain ⟨m, hm⟩ : ∃ m, m = ys.length := ⟨_, rfl⟩
  rw [← hm] at ht ⊢
  have HM := hide hm
  clear hm
  go_enter Try.func117, Try.ntmps117
  go_wp2
  go_loopw [11] (fun i wr => ∃ k rb' f' t' : Nat, k ≤ m ∧ i = .int .i64 k ∧ QAt wr q rb' (roomN L xs.length k) f' t' (xs ++ ys.take k) ∧ Mod [q, rb] w wr ∧ (rb' = rb ∨ w.heap.size ≤ rb') ∧ t' ≤ t + k) (fun i _ => m - (intOf i).toNat)
  case atStart => exact ⟨0, rb, f, t, Nat.zero_le _, rfl, by simpa [roomN] using h, Mod.refl _ _, .inl rfl, by omega⟩
  case round =>
    obtain ⟨k, rb', f', t', hk, rfl, hq, hm, hrb, ht'⟩ := hrel
    by_cases hlt : k < m
    · obtain ⟨y, hy⟩ : ∃ y, ys[k]? = some y := ⟨_, List.getElem?_eq_getElem (by rw [← HM.out]; exact hlt)⟩
      have hne : ys ≠ [] := by rintro rfl; cases hy
      have hr' := hr.mod hm (by intro _; simp; exact hb hne)
      have r0 := hr' (k * 3 + 0) (.int .i64 y.1) (by rw [flat_get ent_len ys k 0 (by omega), hy]; rfl)
      have r1 := hr' (k * 3 + 1) (.int .i64 y.2.1) (by rw [flat_get ent_len ys k 1 (by omega), hy]; rfl)
      have r2 := hr' (k * 3 + 2) (.int .i64 y.2.2) (by rw [flat_get ent_len ys k 2 (by omega), hy]; rfl)
      obtain ⟨rfl, e0⟩ := r0
      have e1 := r1.2
      have e2 := r2.2
      rw [Nat.add_zero] at e0
      rw [← Nat.add_assoc] at e1 e2
      clear r1 r2 hr'
      have HY := hide hy
      clear hy
      have hql := hq.blk.lt
      obtain ⟨c0, c1, c2, f0, f1, f2⟩ := hq.cells
      have H1 := fun o n => len_any (hq.mod ((Mod.alloc (Mod.refl [] wr) o).drewN n) (by simp) (by simp))
      have hf : (((xs ++ ys.take k).length : Int) == (roomN L xs.length k : Int)) = decide ((xs ++ ys.take k).length = roomN L xs.length k) := by
        rw [Bool.eq_iff_iff, beq_iff_eq, decide_eq_true_iff]; omega
      have hroom := hq.fits
      have hlx : (xs ++ ys.take k).length = xs.length + k := by simp; have := lt_of_some HY.out; omega
      have HL' : Hid (roomN L xs.length (k + 1) = room1 (roomN L xs.length k) (xs.length + k)) := rfl
      generalize hL' : roomN L xs.length k = L' at *
      have HLL := hide hL'
      clear hL'
      generalize hln : (xs ++ ys.take k).length = ln at *
      have HLN := hide hln
      have HLX := hide hlx
      clear hln hlx
      by_cases hfull : ln = L'
      case' pos =>
        have hb : ((ln : Int) == (L' : Int)) = true := by rw [hf]; simp [hfull]
        clear hf
        subst hfull
        go_wp2_with fail
        go_quiet ((go_at_call 87; exact quiet_from (H1 _)))
        have hqq := hq.mod (((Mod.alloc (Mod.refl [] wr) (Obj.cells #[.int .i64 y.1, .int .i64 y.2.1, .int .i64 y.2.2] 62)).drewN nq)) (by simp) (by simp)
        have hbx := (Blk.new wr 62 [.int .i64 y.1, .int .i64 y.2.1, .int .i64 y.2.2]).drewN nq
        have hmm := (hm.alloc (Obj.cells #[.int .i64 y.1, .int .i64 y.2.1, .int .i64 y.2.2] 62)).drewN nq
        have hzz : ((wr.alloc (Obj.cells #[.int .i64 y.1, .int .i64 y.2.1, .int .i64 y.2.2] 62)).drewN nq).heap.size = wr.heap.size + 1 := by simp
        generalize hWW : (wr.alloc (Obj.cells #[.int .i64 y.1, .int .i64 y.2.1, .int .i64 y.2.2] 62)).drewN nq = W0 at *
        clear hWW
        have HZZ := hide hzz
        clear hzz
        go_wp2_with fail
        refine (grow_any hqq (by have := hqq.len; rw [HLN.out] at this; omega)).mono ?_
        rintro e W ⟨rfl, hgm, rb', hrb2, hq2⟩
        have hbx := hbx.mod hgm (by simp; omega)
        have hmm := hmm.trans hgm (by simp)
        have ht' : ln ≤ t + k := by have := hqq.len; rw [HLN.out] at this; omega
        have hbr : rb' ≠ wr.heap.size := by rw [HZZ.out] at hrb2; omega
        have hwb : w.heap.size ≤ wr.heap.size := hm.size
        have hrb : rb' = rb ∨ w.heap.size ≤ rb' := .inr (by rw [HZZ.out] at hrb2; omega)
        have HR : Hid (roomN L xs.length (k + 1) = 2 * ln) := by rw [Hid, HL'.out, ← HLX.out]; exact if_pos rfl
        rw [HLN.out] at hq2
        have hpos := hqq.pos
        have hlt2 : ln < 2 * ln := by omega
        clear hpos
        generalize wr.heap.size = bx at *
        have hqq := hq2
        clear hq2
        generalize 2 * ln = L' at *
        obtain ⟨f', hf'⟩ : ∃ x, x = 0 := ⟨0, rfl⟩
        obtain ⟨t', ht2⟩ : ∃ x, x = ln := ⟨ln, rfl⟩
        rw [← hf'] at hqq
        rw [← ht2] at ht'
        have HT2 := hide ht2
        rw [← ht2] at hqq
        clear hf' ht2
        clear c0 c1 c2 f0 f1 f2
        go_wp2_with fail
      case' neg =>
        have hb : ((ln : Int) == (L' : Int)) = false := by rw [hf]; simp [hfull]
        clear hf
        go_wp2_with fail
        go_quiet ((go_at_call 87; exact quiet_from (H1 _)))
        go_wp2_with fail
        have hqq := hq.mod (((Mod.alloc (Mod.refl [] wr) (Obj.cells #[.int .i64 y.1, .int .i64 y.2.1, .int .i64 y.2.2] 62)).drewN nq)) (by simp) (by simp)
        have hbx := (Blk.new wr 62 [.int .i64 y.1, .int .i64 y.2.1, .int .i64 y.2.2]).drewN nq
        have hmm := (hm.alloc (Obj.cells #[.int .i64 y.1, .int .i64 y.2.1, .int .i64 y.2.2] 62)).drewN nq
        have HR : Hid (roomN L xs.length (k + 1) = L') := by rw [Hid, HL'.out, ← HLX.out]; exact if_neg hfull
        have hlt2 : ln < L' := by omega
        generalize (wr.alloc (Obj.cells #[.int .i64 y.1, .int .i64 y.2.1, .int .i64 y.2.2] 62)).drewN nq = W at *
        have hbr : rb' ≠ wr.heap.size := Nat.ne_of_lt hq.rlt
        have hwb : w.heap.size ≤ wr.heap.size := hm.size
        generalize wr.heap.size = bx at *
        clear c0 c1 c2 f0 f1 f2
      all_goals
        have hbr' := hbr.symm
        have hqr := hqq.ne_
        have hqr' := hqr.symm
        obtain ⟨c0, c1, c2, f0, f1, f2⟩ := hqq.cells
        have d0 := hbx.cell 0
        have d1 := hbx.cell 1
        have d2 := hbx.cell 2
        simp at d0 d1 d2
        have H2 := fun n => at_any (n := t') (hqq.mod ((Mod.refl [] W).drewN n) (by simp) (by simp)) (by omega) rfl
        obtain ⟨z, ⟨p0, p1, p2⟩, s0, s1, s2⟩ := hqq.place t'
        go_region_held3 (fun w' => w'.cell? ⟨q, 2, none⟩ = some (.int .u64 t') ∧ w'.cell? ⟨bx, 0, none⟩ = some (.int .i64 y.1) ∧ w'.cell? ⟨bx, 1, none⟩ = some (.int .i64 y.2.1) ∧ w'.cell? ⟨bx, 2, none⟩ = some (.int .i64 y.2.2)) (go_keep) (first | (go_at_call 88; refine (H2 _).mono ?_; rintro e w' ⟨rfl, n, rfl⟩))
        go_wp2
        go_roundw
        case rel =>
          have hp := (hqq.mod ((Mod.refl [] W).drewN (1 + n)) (by simp) (by simp)).pushed (by rw [HLN.out]; exact hlt2) (by omega) y
          rw [List.append_assoc, ← take_snoc' HY.out] at hp
          exact ⟨k + 1, rb', f', t' + 1, by omega, by go_num, by rw [HR.out]; exact hp, by (repeat (first | exact Mod.refl _ _ | (with_reducible assumption) | (refine Mod.drewN ?_ _) | (refine Mod.drew ?_) | (refine Mod.alloc ?_ _) | (refine Mod.setCell ?_ ?_ _; rotate_left; focus (first | omega | (simp; done) | (simp; omega))))), hrb, by omega⟩
        case measure => simp [intOf]; omega
    · go_wp2
      go_ret
      have e : k = m := by omega
      subst e
      have e2 : ys.take ys.length = ys := List.take_length
      rw [HM.out] at hq hk
      rw [e2] at hq
      refine ⟨rfl, hm, rb', f', t', by rw [HM.out]; exact hq, hrb, by omega⟩
end Go.Proofs.Ytpaiejeipghehaa
end
section
/- New, Find and Same of queues that are known. -/
namespace Go.Proofs.Ytpaiejeipghehaa
open Go.RowKit

/-- The place of the first entry of a slot; -1: there is none. -/
def idxE (s : Int) (xs : List Ent) : Int := match xs.findIdx? (fun e => e.1 == s) with | some i => i | none => -1

theorem idxE_some {s : Int} {xs : List Ent} {k : Nat} {x : Ent} (hx : xs[k]? = some x) (h : x.1 = s) (hn : ∀ j y, j < k → xs[j]? = some y → y.1 ≠ s) : idxE s xs = k := by
  have hk := lt_of_some hx
  have : xs.findIdx? (fun e => e.1 == s) = some k := by
    rw [List.findIdx?_eq_some_iff_getElem]
    rw [List.getElem?_eq_getElem hk] at hx
    injection hx with hx
    refine ⟨hk, by simp [hx, h], fun j hj => ?_⟩
    simpa using hn j _ hj (List.getElem?_eq_getElem (by omega))
  unfold idxE
  rw [this]
theorem idxE_none {s : Int} {xs : List Ent} (hn : ∀ j y, j < xs.length → xs[j]? = some y → y.1 ≠ s) : idxE s xs = -1 := by
  have : xs.findIdx? (fun e => e.1 == s) = none := by
    rw [List.findIdx?_eq_none_iff]
    intro x hx
    obtain ⟨j, hj, rfl⟩ := List.getElem_of_mem hx
    simpa using hn j _ hj (List.getElem?_eq_getElem hj)
  unfold idxE
  rw [this]

theorem Rd.ent {w : World} {b o : Nat} {A : Option Addr} {xs : List Ent} (h : Rd w b o A (flat ent xs)) {k : Nat} {x : Ent} (hx : xs[k]? = some x) :
    A = some ⟨b, o, none⟩ ∧ w.cell? ⟨b, o + k * 3, none⟩ = some (.int .i64 x.1) ∧ w.cell? ⟨b, o + k * 3 + 1, none⟩ = some (.int .i64 x.2.1) ∧ w.cell? ⟨b, o + k * 3 + 2, none⟩ = some (.int .i64 x.2.2) := by
  have r0 := h (k * 3 + 0) (.int .i64 x.1) (by rw [flat_get ent_len xs k 0 (by omega), hx]; rfl)
  have r1 := h (k * 3 + 1) (.int .i64 x.2.1) (by rw [flat_get ent_len xs k 1 (by omega), hx]; rfl)
  have r2 := h (k * 3 + 2) (.int .i64 x.2.2) (by rw [flat_get ent_len xs k 2 (by omega), hx]; rfl)
  rw [← Nat.add_assoc] at r1 r2
  exact ⟨r0.1, r0.2, r1.2, r2.2⟩

end Go.Proofs.Ytpaiejeipghehaa
end
section
/- New of a queue. -/
namespace Go.Proofs.Ytpaiejeipghehaa
open Go.RowKit

theorem made_ent4 : (madeCells (Value.agg #[.int .i64 0, .int .i64 0, .int .i64 0]).cells (4 * 3)).toList = flat ent (List.replicate 4 (0, 0, 0)) := made_ent 4
theorem QAt.made {w : World} {q rb : Nat} (hq : Blk w q 167 [.slice (some ⟨rb, 0, none⟩) 4 4, .int .u64 0, .int .u64 0]) (hr : Blk w rb 62 (flat ent (List.replicate 4 (0, 0, 0)))) : QAt w q rb 4 0 0 [] :=
  ⟨by simpa using hq, ⟨_, by simp, hr, fun i hi => by simp at hi⟩, ⟨2, rfl⟩, by omega, by omega, rfl, by simp, by omega⟩

set_option maxRecDepth 100000 in
set_option maxHeartbeats 800000 in
theorem new_any {w : World} {b o c : Nat} {A : Option Addr} {ys : List Ent} (hr : Rd w b o A (flat ent ys)) (ht : ys.length < 549755813888) :
    Calls Try.prog 74 #[.slice A ys.length c] w fun e w' => ∃ q rb f t, e = .returned (.pointer (some ⟨q, 0, none⟩)) ∧ Mod [] w w' ∧ QAt w' q rb (roomN 4 0 ys.length) f t ys ∧ w.heap.size ≤ q ∧ w.heap.size ≤ rb ∧ t ≤ ys.length := by
  obtain ⟨i0, hi, hz0, hz1, hz2⟩ := info_parts infoEntry
  obtain ⟨m, hm⟩ : ∃ m, m = ys.length := ⟨_, rfl⟩
  have H := fun (W : World) (q rb : Nat) (hQ : QAt W q rb 4 0 0 []) (hR : Rd W b o A (flat ent ys)) (hb : ys ≠ [] → b ≠ q ∧ b ≠ rb) => push_any (c := c) hQ hR hb (by omega)
  simp only [List.nil_append, List.length_nil] at H
  have hbl : ys ≠ [] → b < w.heap.size := fun hne => hr.lt (by intro e; apply hne; cases ys with | nil => rfl | cons x l => simp [flat, ent] at e)
  rw [← hm] at H ht ⊢
  have HM := hide hm
  have HH := hide H
  clear hm H
  go_enter Try.func74, Try.ntmps74
  go_wp2_with (at_make; refine wpList_make_full _ rfl _ _ 52 rfl w.heap.size 62 i0 _ 3 Try.underlying52 hi hz0 hz1 .i64 .i64 4 4 4 rfl rfl rfl rfl (by rw [hz2]; omega) (by unfold maxLen; omega) (Nat.le_refl _) ?_; intro w2 hown2 hgr2; have hb2 := (Blk.of_own hown2).1; rw [made_ent4] at hb2; have hm2 : Mod [] w w2 := (Mod.refl [] w).grown hgr2 (by simp); clear hown2 hgr2)
  have hlt := hb2.lt
  have hq : QAt (w2.alloc (.cells #[.slice (some ⟨w.heap.size, 0, none⟩) 4 4, .int .u64 0, .int .u64 0] 167)) w2.heap.size w.heap.size 4 0 0 [] := QAt.made (Blk.new w2 _ [.slice (some ⟨w.heap.size, 0, none⟩) 4 4, .int .u64 0, .int .u64 0]) (hb2.alloc _)
  refine (HH.out _ _ _ hq (hr.mod (hm2.alloc _) (by simp)) (fun hne => by have := hbl hne; have := hm2.size; omega)).mono ?_
  rintro e w3 ⟨rfl, hm3, rb', f', t', hq3, hrb, ht'⟩
  have hz2' := hm2.size
  go_wp2
  go_ret
  refine ⟨w2.heap.size, rb', f', t', rfl, (hm2.alloc _).trans hm3 (by simp; omega), hq3, hm2.size, ?_, by omega⟩
  rcases hrb with h | h
  · omega
  · simp at h; omega
end Go.Proofs.Ytpaiejeipghehaa
end
section
/- The program's queue as a piece of its own: its calls known. -/
namespace Go.Proofs.Ytpaiejeipghehaa
open Go.RowKit
theorem QueAt.lt {xs : List Ent} {n : Nat} {e : Spot} {own : List Nat} {w : World} (h : QueAt xs n e own w) : ∀ b ∈ own, b < w.heap.size := by
  obtain ⟨rb, L, f, t, h1, rfl, hne, h2, h3⟩ := h
  intro b hb
  simp only [List.mem_cons, List.not_mem_nil, or_false] at hb
  rcases hb with rfl | rfl
  · exact h2.blk.lt
  · exact h2.rlt
def entSV (x : Ent) : SV := .agg [.v (.int .i64 x.1), .v (.int .i64 x.2.1), .v (.int .i64 x.2.2)]
def headE (xs : List Ent) : Ent := xs.headD (0, 0, 0)
def qHeadX (n : Nat) (xs : List Ent) : M Rep SV := (askB xs.isEmpty).bind fun
  | true => .ret (.tup [entSV (0, 0, 0), .v (.bool false)])
  | false => .ret (.tup [entSV (headE xs), .v (.bool true)])
def headQX : List SV → M Rep SV
  | [.ptr n 0] => (getC n).bind fun
    | .rep (.queue xs _) => qHeadX n xs
    | _ => .fail 390
  | _ => .fail 391
def popQX : List SV → M Rep SV
  | [.ptr n 0] => (getC n).bind fun
    | .rep (.queue xs c) => (askB xs.isEmpty).bind fun
      | true => .ret (.tup [entSV (0, 0, 0), .v (.bool false)])
      | false => (setC n (.rep (.queue xs.tail c))).bind fun _ => .ret (.tup [entSV (headE xs), .v (.bool true)])
    | _ => .fail 392
  | _ => .fail 393
def lenQX : List SV → M Rep SV
  | [.ptr n 0] => (getC n).bind fun
    | .rep (.queue xs _) => .ret (.v (.int .i64 xs.length))
    | _ => .fail 394
  | _ => .fail 395
def findQX : List SV → M Rep SV
  | [.ptr n 0, .v (.int .i64 s)] => (getC n).bind fun
    | .rep (.queue xs _) => .ret (.v (.int .i64 (idxE s xs)))
    | _ => .fail 396
  | _ => .fail 397
def colsEnt (L : List Ent) : List Col := colsPl L
def listQX : List SV → M Rep SV
  | [.ptr n 0] => (getC n).bind fun
    | .rep (.queue xs _) => (newC (.rep (.vec (colsEnt xs) xs.length 62))).bind fun k => .ret (.tsl k xs.length)
    | _ => .fail 398
  | _ => .fail 399
def newQX : List SV → M Rep SV
  | [.v (.slice none 0 0)] => (newC (.rep (.queue [] 0))).bind fun k => .ret (.ptr k 0)
  | _ => .fail 400
def pushQX : List SV → M Rep SV
  | [.ptr n 0, .sl k 0 0 1] => (want 401 (!Nat.beq n k)).bind fun _ => (getC n).bind fun
    | .rep (.queue xs c) => (getC k).bind fun
      | .row [.v (.int .i64 a), .v (.int .i64 b), .v (.int .i64 d)] _ => (need 402 (Nat.ble c 1000000)).bind fun _ => (setC n (.rep (.queue (xs ++ [(a, b, d)]) (c + 1)))).bind fun _ => .ret (.v (.int .i64 0))
      | _ => .fail 403
    | _ => .fail 404
  | _ => .fail 405
section
variable {args : List SV} {st st' : St Rep} {s : SV}
theorem ent_den {ρ : Names} (x : Ent) : den ρ (entSV x) = some (.agg #[.int .i64 x.1, .int .i64 x.2.1, .int .i64 x.2.2]) := rfl
theorem ptr_vals {ρ : Names} {n : Nat} {e : Spot} {vals : List Value} (he : ρ n = some e) (h0 : e.off = 0) (hv : denL ρ [.ptr n 0] = some vals) : vals = [.pointer (some ⟨e.b, 0, none⟩)] := by
  simp only [denL, den, he, Option.map_some, Option.some.injEq, h0, Nat.add_zero] at hv
  exact hv.symm
theorem lenQ_s (h : lenQX args st = .ok s st') : CallS repAt Try.prog 87 args st st' s := by
  unfold lenQX at h
  split at h
  · next n =>
    obtain ⟨c, st1, h3, h4⟩ := bind_ok.1 h
    obtain ⟨hc, rfl⟩ := getC_ok.1 h3
    split at h4
    · next xs k =>
      obtain ⟨rfl, rfl⟩ := ret_ok.1 h4
      have q : Quiet st _ := Quiet.get (n := n)
      refine ⟨q.fn, fun B F ρ own w vals si hv => ?_⟩
      obtain ⟨e, he, rb, L, f, t, h0, ho, hne, hq, ht⟩ := si.li.at_ n _ (si.log n (mem_ins.2 (.inl rfl))) hc
      obtain rfl := ptr_vals he h0 hv
      refine (len_any hq).mono ?_
      rintro x w' ⟨rfl, m, rfl⟩
      exact ⟨_, ρ, own, rfl, rfl, Tr.of_quiet q (Tr.idle (si.of_quiet q) ((Mod.refl [] w).drewN m))⟩
    · exact (fail_ok.1 h4).elim
  · exact (fail_ok.1 h).elim
theorem headQ_s (h : headQX args st = .ok s st') : CallS repAt Try.prog 69 args st st' s := by
  unfold headQX at h
  split at h
  · next n =>
    obtain ⟨c, st1, h3, h4⟩ := bind_ok.1 h
    obtain ⟨hc, rfl⟩ := getC_ok.1 h3
    split at h4
    · next xs k =>
      unfold qHeadX at h4
      obtain ⟨b, st2, h5, h6⟩ := bind_ok.1 h4
      obtain ⟨q2, hq2⟩ := ask_ok h5
      have q : Quiet st st2 := Quiet.get.trans q2
      have hn : n ∈ st2.fr := q2.fr n (mem_ins.2 (.inl rfl))
      cases b with
      | true =>
        obtain ⟨rfl, rfl⟩ := ret_ok.1 h6
        refine ⟨q.fn, fun B F ρ own w vals si hv => ?_⟩
        obtain ⟨e, he, rb, L, f, t, h0, ho, hne, hq, ht⟩ := si.li.at_ n _ (si.log n hn) hc
        obtain rfl := ptr_vals he h0 hv
        obtain rfl := List.isEmpty_iff.1 (hq2 si.ask)
        refine (head_none hq).mono ?_
        rintro x w' ⟨rfl, hm⟩
        exact ⟨_, ρ, own, rfl, rfl, Tr.of_quiet q (Tr.idle (si.of_quiet q) hm)⟩
      | false =>
        obtain ⟨rfl, rfl⟩ := ret_ok.1 h6
        refine ⟨q.fn, fun B F ρ own w vals si hv => ?_⟩
        obtain ⟨e, he, rb, L, f, t, h0, ho, hne, hq, ht⟩ := si.li.at_ n _ (si.log n hn) hc
        obtain rfl := ptr_vals he h0 hv
        have hx := hq2 si.ask
        cases xs with
        | nil => cases hx
        | cons x xs =>
          refine (head_some hq).mono ?_
          rintro y w' ⟨rfl, hm⟩
          exact ⟨_, ρ, own, rfl, rfl, Tr.of_quiet q (Tr.idle (si.of_quiet q) hm)⟩
    · exact (fail_ok.1 h4).elim
  · exact (fail_ok.1 h).elim
theorem listQ_s (h : listQX args st = .ok s st') : CallS repAt Try.prog 17 args st st' s := by
  unfold listQX at h
  split at h
  · next n =>
    obtain ⟨c, st1, h3, h4⟩ := bind_ok.1 h
    obtain ⟨hc, rfl⟩ := getC_ok.1 h3
    split at h4
    · next xs k =>
      obtain ⟨k2, st2, h5, h6⟩ := bind_ok.1 h4
      obtain ⟨rfl, rfl⟩ := newC_ok.1 h5
      obtain ⟨rfl, rfl⟩ := ret_ok.1 h6
      have q : Quiet st { st with fr := insN n st.fr } := Quiet.get
      refine ⟨q.fn.trans (Fn.new _ _), fun B F ρ own w vals si hv => ?_⟩
      have s1 := si.of_quiet q
      obtain ⟨e, he, rb, L, f, t, h0, ho, hne, hq, ht⟩ := s1.li.at_ n _ (s1.log n (mem_ins.2 (.inl rfl))) hc
      obtain rfl := ptr_vals he h0 hv
      refine (list_any hq).mono ?_
      rintro x w' ⟨A, cc, rfl, hm, hown⟩
      have hfl : flat ent xs = xs.flatMap kvs := by unfold flat; rw [List.flatMap_def]; rfl
      rw [hfl] at hown
      obtain ⟨sp, own0, hv0, hvec, hb⟩ := vec_of_owns hown rfl
      have htr := Tr.new (w' := w') (A := repAt) (P := Try.prog) (c := Chunk.rep (Rep.vec (colsEnt xs) xs.length 62)) s1 sp own0 ((ModP.of_mod hm).mono fun b _ hb => by cases hb) (show Rep.At B (.vec (colsEnt xs) xs.length 62) sp own0 w' from hvec) (fun b hb' => ⟨hb b hb', vec_lt hvec b hb'⟩)
      exact ⟨_, _, _, rfl, by simp only [den, Names.put_same, Option.map_some]; rw [hv0], Tr.of_quiet q htr⟩
    · exact (fail_ok.1 h4).elim
  · exact (fail_ok.1 h).elim
theorem newQ_s (h : newQX args st = .ok s st') : CallS repAt Try.prog 74 args st st' s := by
  unfold newQX at h
  split at h
  · obtain ⟨k2, st2, h5, h6⟩ := bind_ok.1 h
    obtain ⟨rfl, rfl⟩ := newC_ok.1 h5
    obtain ⟨rfl, rfl⟩ := ret_ok.1 h6
    refine ⟨Fn.new _ _, fun B F ρ own w vals si hv => ?_⟩
    simp only [denL, den, Option.some.injEq] at hv
    subst hv
    refine (new_any (w := w) (b := 0) (o := 0) (c := 0) (A := none) (ys := []) (fun j u hj => by cases hj) (by decide)).mono ?_
    rintro x w' ⟨q, rb, f, t, rfl, hm, hq, h1, h2, h3⟩
    have hne : q ≠ rb := hq.ne_
    have htr := Tr.new (w' := w') (A := repAt) (P := Try.prog) (c := Chunk.rep (Rep.queue [] 0)) si ⟨q, 0, 0, 0, 0, none⟩ [q, rb] ((ModP.of_mod hm).mono fun b _ hb => by cases hb) (show Rep.At B (.queue [] 0) ⟨q, 0, 0, 0, 0, none⟩ [q, rb] w' from ⟨rb, _, f, t, rfl, rfl, hne, hq, by simpa using h3⟩) (fun b hb => by
      simp only [List.mem_cons, List.not_mem_nil, or_false] at hb
      rcases hb with rfl | rfl
      · exact ⟨h1, hq.blk.lt⟩
      · exact ⟨h2, hq.rlt⟩)
    exact ⟨_, _, _, rfl, by simp [den, Names.put_same], htr⟩
  · exact (fail_ok.1 h).elim
theorem pushQ_s (h : pushQX args st = .ok s st') : CallS repAt Try.prog 117 args st st' s := by
  unfold pushQX at h
  split at h
  · next n k =>
    obtain ⟨_, st0, h1, h2⟩ := bind_ok.1 h
    obtain ⟨hnk, rfl⟩ := want_ok.1 h1
    obtain ⟨c, st1, h3, h4⟩ := bind_ok.1 h2
    obtain ⟨hc, rfl⟩ := getC_ok.1 h3
    split at h4
    · next xs cnt =>
      obtain ⟨c2, st2, h5, h6⟩ := bind_ok.1 h4
      obtain ⟨hc2, rfl⟩ := getC_ok.1 h5
      split at h6
      · next a b d ty =>
        obtain ⟨_, st3, h9, h10⟩ := bind_ok.1 h6
        obtain ⟨q2, hq2⟩ := need_ok h9
        obtain ⟨_, st5, h11, h12⟩ := bind_ok.1 h10
        obtain ⟨_, rfl⟩ := setC_ok.1 h11
        obtain ⟨rfl, rfl⟩ := ret_ok.1 h12
        have hne0 : n ≠ k := fun e => by subst e; simp at hnk
        have q : Quiet st st3 := (Quiet.get.trans (Quiet.get (n := k) (st := { st with fr := insN n st.fr }))).trans q2
        have g1 : hget n st3.hp = some (.rep (.queue xs cnt)) := by rw [q.hp]; exact hc
        have g2 : hget k st3.hp = some (.row [.v (.int .i64 a), .v (.int .i64 b), .v (.int .i64 d)] ty) := by rw [q.hp]; exact hc2
        refine ⟨q.fn.trans (Fn.set st3 n (.rep (.queue (xs ++ [(a, b, d)]) (cnt + 1))) _ g1), fun B F ρ own w vals si hv => ?_⟩
        have s1 := si.of_quiet q
        have fk : F k := si.log k (mem_ins.2 (.inr (q2.fr k (mem_ins.2 (.inl rfl)))))
        have fn : F n := s1.log n (mem_ins.2 (.inl rfl))
        obtain ⟨e, he, rb, L, f, t, h0, ho, hne, hq, ht⟩ := s1.li.at_ n _ fn g1
        obtain ⟨e2, he2, o2, cs, vs, r1, r2, r3, r4, r5⟩ := s1.li.at_ k _ fk g2
        have hdis := s1.li.dis n k _ _ fn fk hne0 g1 g2
        simp only [denL, den, Option.some.injEq] at r2
        subst r2
        simp only [denL, den, he, he2, Option.map_some, Option.some.injEq, h0, Nat.add_zero, Nat.sub_zero] at hv
        subst hv
        have hcnt := Nat.le_of_ble_eq_true (hq2 si.ask)
        rw [ho] at hdis
        rw [o2] at hdis
        have hrd : Rd w e2.b e2.off (some ⟨e2.b, e2.off, none⟩) (flat ent [(a, b, d)]) := fun j u hj => by
          refine ⟨rfl, ?_⟩
          have hj3 : j < 3 := by have := lt_of_some hj; simpa [flat, ent] using this
          rw [cell_of_row w e2.b _ cs ty (0, 0) r1, r3 j (by simpa using hj3)]
          exact hj
        refine (push_any hq hrd (fun _ => ⟨fun hx => hdis e.b (by simp) (by rw [← hx]; simp), fun hx => hdis rb (by simp) (by rw [← hx]; simp)⟩) (by simp; omega)).mono ?_
        rintro x w' ⟨rfl, hm, rb', f', t', hq', hrb, ht'⟩
        have hne' : e.b ≠ rb' := hq'.ne_
        have htr := Tr.set (A := repAt) (P := Try.prog) (c := Chunk.rep (Rep.queue (xs ++ [(a, b, d)]) (cnt + 1))) s1 g1 he [e.b, rb'] ((ModP.of_mod hm).mono fun y _ hy => by rw [ho]; exact hy) (show Rep.At B (.queue (xs ++ [(a, b, d)]) (cnt + 1)) e [e.b, rb'] w' from ⟨rb', _, f', t', h0, rfl, hne', hq', by simp at ht'; omega⟩) (fun y hy => by
          simp only [List.mem_cons, List.not_mem_nil, or_false] at hy
          rcases hy with rfl | rfl
          · exact .inl (by rw [ho]; simp)
          · rcases hrb with rfl | hrb
            · exact .inl (by rw [ho]; simp)
            · exact .inr ⟨hrb, hq'.rlt⟩)
        exact ⟨_, _, _, rfl, rfl, Tr.of_quiet q htr⟩
      · exact (fail_ok.1 h6).elim
    · exact (fail_ok.1 h4).elim
  · exact (fail_ok.1 h).elim
end
/-- A known call of a function, ahead of others. -/
def oneQ (f : FuncId) (k : List SV → M Rep SV) (more : FuncId → List SV → Option (M Rep SV)) : FuncId → List SV → Option (M Rep SV) := fun g args => match Nat.beq g f, args with
  | true, .ptr _ _ :: _ => some (k args)
  | _, _ => more g args
theorem oneQ_ok {f : FuncId} {k : List SV → M Rep SV} {more : FuncId → List SV → Option (M Rep SV)} (hk : ∀ args st s st', k args st = .ok s st' → CallS repAt Try.prog f args st st' s) (hm : ∀ f args m, more f args = some m → ∀ st s st', m st = .ok s st' → CallS repAt Try.prog f args st st' s) :
    ∀ g args m, oneQ f k more g args = some m → ∀ st s st', m st = .ok s st' → CallS repAt Try.prog g args st st' s := by
  intro g args m h st s st' hs
  unfold oneQ at h
  split at h
  · next hb => obtain rfl := Nat.eq_of_beq_eq_true hb; cases h; exact hk _ _ _ _ hs
  · exact hm _ _ _ h _ _ _ hs
noncomputable def primNewQ (more : FuncId → List SV → Option (M Rep SV)) : FuncId → List SV → Option (M Rep SV) := fun f args => match Nat.beq f 74, args with
  | true, [.v _] => some (newQX args)
  | _, _ => more f args
theorem primNewQ_ok {more : FuncId → List SV → Option (M Rep SV)} (hm : ∀ f args m, more f args = some m → ∀ st s st', m st = .ok s st' → CallS repAt Try.prog f args st st' s) :
    ∀ g args m, primNewQ more g args = some m → ∀ st s st', m st = .ok s st' → CallS repAt Try.prog g args st st' s := by
  intro g args m h st s st' hs
  unfold primNewQ at h
  split at h
  · next hb => obtain rfl := Nat.eq_of_beq_eq_true hb; cases h; exact newQ_s hs
  · exact hm _ _ _ h _ _ _ hs
def primFindQ (more : FuncId → List SV → Option (M Rep SV)) := more
theorem primFindQ_ok {more : FuncId → List SV → Option (M Rep SV)} (hm : ∀ f args m, more f args = some m → ∀ st s st', m st = .ok s st' → CallS repAt Try.prog f args st st' s) : ∀ g args m, primFindQ more g args = some m → ∀ st s st', m st = .ok s st' → CallS repAt Try.prog g args st st' s := hm
def primPopQ (more : FuncId → List SV → Option (M Rep SV)) := more
theorem primPopQ_ok {more : FuncId → List SV → Option (M Rep SV)} (hm : ∀ f args m, more f args = some m → ∀ st s st', m st = .ok s st' → CallS repAt Try.prog f args st st' s) : ∀ g args m, primPopQ more g args = some m → ∀ st s st', m st = .ok s st' → CallS repAt Try.prog g args st st' s := hm
/-- The calls on a queue. -/
noncomputable def primQ (more : FuncId → List SV → Option (M Rep SV)) : FuncId → List SV → Option (M Rep SV) :=
  oneQ 117 pushQX (oneQ 69 headQX (oneQ 17 listQX (oneQ 87 lenQX (primNewQ (primFindQ (primPopQ more))))))
theorem primQ_ok {more : FuncId → List SV → Option (M Rep SV)} (hm : ∀ f args m, more f args = some m → ∀ st s st', m st = .ok s st' → CallS repAt Try.prog f args st st' s) :
    ∀ g args m, primQ more g args = some m → ∀ st s st', m st = .ok s st' → CallS repAt Try.prog g args st st' s :=
  oneQ_ok (fun _ _ _ _ h => pushQ_s h) (oneQ_ok (fun _ _ _ _ h => headQ_s h) (oneQ_ok (fun _ _ _ _ h => listQ_s h) (oneQ_ok (fun _ _ _ _ h => lenQ_s h) (primNewQ_ok (primFindQ_ok (primPopQ_ok hm))))))
end Go.Proofs.Ytpaiejeipghehaa
end
section
/- The awake of layer 13 returns true; and the executor with it as a known call. No condition. -/
namespace Go.Proofs.Ytpaiejeipghehaa
theorem awake13 (w : World) : Calls Try.prog 10 #[] w fun e w' => e = .returned (.bool true) ∧ Mod [] w w' := closed_true runT_ok (f := 10) (by kernel_rfl) w
noncomputable def lib13 : Lib Rep := lib0.with (Tab.one 10 kTrue)
theorem lib13_ok : LibOK repAt Try.prog lib13 := Lib.with_ok lib0_ok (TabOK.true awake13)
end Go.Proofs.Ytpaiejeipghehaa
end
section
/- Answers of conf.Check and conf.IsOp as numbers: words. No condition. -/
namespace Go.Proofs.Ytpaiejeipghehaa
/-- A number that is what a run answers. -/
theorem good_pick {r : List (Option Bool) → Res Rep SV} {p : Int → Prop} (h : Good r (fun x => ∃ z, x = .int .i64 z ∧ p z)) : ∃ z, Good r (fun x => x = .int .i64 z) ∧ p z := by
  obtain ⟨o, l, x, h1, h2, z, rfl, h3⟩ := h
  exact ⟨z, ⟨o, l, _, h1, h2, rfl⟩, h3⟩
/-- What a structure must be. -/
structure CfgOK (K S B H L : Int) : Prop where
  kind : K = 1 ∨ K = 2 ∨ K = 3
  s1 : 1 ≤ S
  s2 : S ≤ 8388607
  b1 : K = 2 → 1 ≤ B ∧ B ≤ 64
  b2 : K ≠ 2 → B = 0
  h1 : 1 ≤ H
  h2 : H ≤ 16
  h3 : K ≠ 3 → H = 1
  l1 : 2 ≤ L
  l2 : L ≤ 1099511627775
end Go.Proofs.Ytpaiejeipghehaa
end
section
/- What a structure must be; the number that tells it. No condition. -/
namespace Go.Proofs.Ytpaiejeipghehaa
theorem CfgOK.iff {K S B H L : Int} : CfgOK K S B H L ↔ (K = 1 ∨ K = 2 ∨ K = 3) ∧ 1 ≤ S ∧ S ≤ 8388607 ∧ (K = 2 → 1 ≤ B ∧ B ≤ 64) ∧ (K ≠ 2 → B = 0) ∧ 1 ≤ H ∧ H ≤ 16 ∧ (K ≠ 3 → H = 1) ∧ 2 ≤ L ∧ L ≤ 1099511627775 :=
  ⟨fun h => ⟨h.kind, h.s1, h.s2, h.b1, h.b2, h.h1, h.h2, h.h3, h.l1, h.l2⟩, fun ⟨a, b, c, d, e, f, g, h, i, j⟩ => ⟨a, b, c, d, e, f, g, h, i, j⟩⟩
/-- The error of a structure; 0: it can be. -/
def cfgE (K S B H L : Int) : Int := if 1 ≤ K ∧ K ≤ 3 then (if 1 ≤ S ∧ S ≤ 8388607 ∧ (K = 2 → 1 ≤ B ∧ B ≤ 64) ∧ (K ≠ 2 → B = 0) ∧ 1 ≤ H ∧ H ≤ 16 ∧ (K ≠ 3 → H = 1) ∧ 2 ≤ L ∧ L ≤ 1099511627775 then 0 else 3) else 8
theorem cfgE_ok {K S B H L : Int} : cfgE K S B H L = 0 ↔ CfgOK K S B H L := by
  rw [CfgOK.iff]
  unfold cfgE
  split
  · split
    · next h1 h2 => simp only [true_iff]; exact ⟨by omega, h2⟩
    · next h1 h2 => simp only [Int.reduceEq, false_iff]; exact fun h => h2 h.2
  · next h1 => simp only [Int.reduceEq, false_iff]; intro h; omega
theorem cfg_ok {K S B H L : Int} (h : CfgOK K S B H L) : Value.int .i64 (Int.ofNat 0) = .int .i64 (cfgE K S B H L) := by rw [cfgE_ok.2 h]; rfl
theorem cfg_bad {K S B H L : Int} (h : 1 ≤ K ∧ K ≤ 3) (h2 : ¬ (1 ≤ S ∧ S ≤ 8388607 ∧ (K = 2 → 1 ≤ B ∧ B ≤ 64) ∧ (K ≠ 2 → B = 0) ∧ 1 ≤ H ∧ H ≤ 16 ∧ (K ≠ 3 → H = 1) ∧ 2 ≤ L ∧ L ≤ 1099511627775)) : Value.int .i64 (Int.ofNat 3) = .int .i64 (cfgE K S B H L) := by
  unfold cfgE
  rw [if_pos h, if_neg h2]
  rfl
theorem cfg_kind {K S B H L : Int} (h : ¬ (1 ≤ K ∧ K ≤ 3)) : Value.int .i64 (Int.ofNat 8) = .int .i64 (cfgE K S B H L) := by
  unfold cfgE
  rw [if_neg h]
  rfl
/-- A structure's call. -/
def kCfg (g : Int → Int → Int → Int → Int → Value) : List SV → Option SV
  | [.agg [.v (.int .i64 K), .v (.int .i64 S), .v (.int .i64 B), .v (.int .i64 H), .v (.int .i64 L)]] => some (.v (g K S B H L))
  | _ => none
theorem TabOK.cfg {f : FuncId} {g : Int → Int → Int → Int → Int → Value} (h : ∀ K S B H L w, Calls Try.prog f #[.agg #[.int .i64 K, .int .i64 S, .int .i64 B, .int .i64 H, .int .i64 L]] w fun e w' => e = .returned (g K S B H L) ∧ Mod [] w w') : TabOK Try.prog (Tab.one f (kCfg g)) := TabOK.one fun args s hs ρ vals w hv => by
  unfold kCfg at hs
  split at hs <;> cases hs
  simp only [denL, den, Option.map_some, Option.some.injEq] at hv
  subst hv
  exact (h _ _ _ _ _ w).mono fun e w' ⟨he, hm⟩ => ⟨_, he, rfl, hm⟩
end Go.Proofs.Ytpaiejeipghehaa
end
section
/- conf.Check, and the document's: the same number. No condition. -/
namespace Go.Proofs.Ytpaiejeipghehaa
set_option linter.unusedVariables false
set_option linter.unusedSimpArgs false
set_option maxRecDepth 100000
set_option maxHeartbeats 8000000

theorem check_cfg (K S B H L : Int)  : Good (fun o => run0 73 [.agg [iv K, iv S, iv B, iv H, iv L]] (St.none o)) (fun x => x = .int .i64 (cfgE K S B H L)) := by
  rcases Bool.eq_false_or_eq_true (K == 1) with h0 | h0
  · rcases Bool.eq_false_or_eq_true (decide (S ≥ 1)) with h1 | h1
    · rcases Bool.eq_false_or_eq_true (decide (S ≤ 8388607)) with h2 | h2
      · rcases Bool.eq_false_or_eq_true (decide (B ≥ 0)) with h5 | h5
        · rcases Bool.eq_false_or_eq_true (decide (B ≤ 0)) with h7 | h7
          · rcases Bool.eq_false_or_eq_true (decide (H ≥ 1)) with h9 | h9
            · rcases Bool.eq_false_or_eq_true (decide (H ≤ 1)) with h10 | h10
              · rcases Bool.eq_false_or_eq_true (decide (L ≥ 2)) with h12 | h12
                · rcases Bool.eq_false_or_eq_true (decide (L ≤ 1099511627775)) with h13 | h13
                  · exact ⟨[some true] ++ [none] ++ List.replicate 4 (some true) ++ List.replicate 5 (some false) ++ List.replicate 4 (some true) ++ List.replicate 3 (some false) ++ List.replicate 4 (some true) ++ List.replicate 3 (some false) ++ List.replicate 4 (some true) ++ List.replicate 3 (some false), [(!(decide (L ≤ 1099511627775)), false), (!(decide (H ≤ 1)), false), (!(decide (H ≤ 1)), false), ((decide (L ≥ 2)), true), ((decide (L ≥ 2)), true), ((decide (L ≥ 2)), true), ((decide (L ≥ 2)), true), (!(decide (H ≤ 1)), false), (!(decide (H ≤ 1)), false), (!(decide (H ≤ 1)), false), ((decide (H ≥ 1)), true), ((decide (H ≥ 1)), true), ((decide (H ≥ 1)), true), ((decide (H ≥ 1)), true), (!(decide (B ≤ 0)), false), (!(decide (S ≤ 8388607)), false), (!(decide (S ≤ 8388607)), false), ((decide (B ≥ 0)), true), ((decide (B ≥ 0)), true), ((decide (B ≥ 0)), true), ((decide (B ≥ 0)), true), (!(decide (S ≤ 8388607)), false), (!(decide (S ≤ 8388607)), false), (!(decide (S ≤ 8388607)), false), (!(decide (S ≤ 8388607)), false), (!(decide (S ≤ 8388607)), false), ((decide (S ≥ 1)), true), ((decide (S ≥ 1)), true), ((decide (S ≥ 1)), true), ((decide (S ≥ 1)), true), ((K == 1), true)], Value.int IntKind.i64 (Int.ofNat 0), by kernel_rfl, ⟨(by rw [h13]; rfl), (by rw [h10]; rfl), (by rw [h10]; rfl), h12, h12, h12, h12, (by rw [h10]; rfl), (by rw [h10]; rfl), (by rw [h10]; rfl), h9, h9, h9, h9, (by rw [h7]; rfl), (by rw [h2]; rfl), (by rw [h2]; rfl), h5, h5, h5, h5, (by rw [h2]; rfl), (by rw [h2]; rfl), (by rw [h2]; rfl), (by rw [h2]; rfl), (by rw [h2]; rfl), h1, h1, h1, h1, h0, trivial⟩, (by simp only [beq_iff_eq, beq_eq_false_iff_ne, ne_eq, decide_eq_true_eq, decide_eq_false_iff_not, bne_iff_ne, bne_eq_false_iff_eq] at *; first | exact cfg_ok (by constructor <;> omega) | exact cfg_bad (by omega) (by omega) | exact cfg_kind (by omega))⟩
                  · exact ⟨[some true] ++ [none] ++ List.replicate 4 (some true) ++ List.replicate 5 (some false) ++ List.replicate 4 (some true) ++ List.replicate 3 (some false) ++ List.replicate 4 (some true) ++ List.replicate 3 (some false) ++ List.replicate 4 (some true) ++ [some false, some false] ++ [some true], [(!(decide (L ≤ 1099511627775)), true), (!(decide (H ≤ 1)), false), (!(decide (H ≤ 1)), false), ((decide (L ≥ 2)), true), ((decide (L ≥ 2)), true), ((decide (L ≥ 2)), true), ((decide (L ≥ 2)), true), (!(decide (H ≤ 1)), false), (!(decide (H ≤ 1)), false), (!(decide (H ≤ 1)), false), ((decide (H ≥ 1)), true), ((decide (H ≥ 1)), true), ((decide (H ≥ 1)), true), ((decide (H ≥ 1)), true), (!(decide (B ≤ 0)), false), (!(decide (S ≤ 8388607)), false), (!(decide (S ≤ 8388607)), false), ((decide (B ≥ 0)), true), ((decide (B ≥ 0)), true), ((decide (B ≥ 0)), true), ((decide (B ≥ 0)), true), (!(decide (S ≤ 8388607)), false), (!(decide (S ≤ 8388607)), false), (!(decide (S ≤ 8388607)), false), (!(decide (S ≤ 8388607)), false), (!(decide (S ≤ 8388607)), false), ((decide (S ≥ 1)), true), ((decide (S ≥ 1)), true), ((decide (S ≥ 1)), true), ((decide (S ≥ 1)), true), ((K == 1), true)], Value.int IntKind.i64 (Int.ofNat 3), by kernel_rfl, ⟨(by rw [h13]; rfl), (by rw [h10]; rfl), (by rw [h10]; rfl), h12, h12, h12, h12, (by rw [h10]; rfl), (by rw [h10]; rfl), (by rw [h10]; rfl), h9, h9, h9, h9, (by rw [h7]; rfl), (by rw [h2]; rfl), (by rw [h2]; rfl), h5, h5, h5, h5, (by rw [h2]; rfl), (by rw [h2]; rfl), (by rw [h2]; rfl), (by rw [h2]; rfl), (by rw [h2]; rfl), h1, h1, h1, h1, h0, trivial⟩, (by simp only [beq_iff_eq, beq_eq_false_iff_ne, ne_eq, decide_eq_true_eq, decide_eq_false_iff_not, bne_iff_ne, bne_eq_false_iff_eq] at *; first | exact cfg_ok (by constructor <;> omega) | exact cfg_bad (by omega) (by omega) | exact cfg_kind (by omega))⟩
                · exact ⟨[some true] ++ [none] ++ List.replicate 4 (some true) ++ List.replicate 5 (some false) ++ List.replicate 4 (some true) ++ List.replicate 3 (some false) ++ List.replicate 4 (some true) ++ List.replicate 9 (some false), [(!(decide (H ≤ 1)), false), (!(decide (H ≤ 1)), false), ((decide (L ≥ 2)), false), ((decide (L ≥ 2)), false), ((decide (L ≥ 2)), false), ((decide (L ≥ 2)), false), (!(decide (H ≤ 1)), false), (!(decide (H ≤ 1)), false), (!(decide (H ≤ 1)), false), ((decide (H ≥ 1)), true), ((decide (H ≥ 1)), true), ((decide (H ≥ 1)), true), ((decide (H ≥ 1)), true), (!(decide (B ≤ 0)), false), (!(decide (S ≤ 8388607)), false), (!(decide (S ≤ 8388607)), false), ((decide (B ≥ 0)), true), ((decide (B ≥ 0)), true), ((decide (B ≥ 0)), true), ((decide (B ≥ 0)), true), (!(decide (S ≤ 8388607)), false), (!(decide (S ≤ 8388607)), false), (!(decide (S ≤ 8388607)), false), (!(decide (S ≤ 8388607)), false), (!(decide (S ≤ 8388607)), false), ((decide (S ≥ 1)), true), ((decide (S ≥ 1)), true), ((decide (S ≥ 1)), true), ((decide (S ≥ 1)), true), ((K == 1), true)], Value.int IntKind.i64 (Int.ofNat 3), by kernel_rfl, ⟨(by rw [h10]; rfl), (by rw [h10]; rfl), h12, h12, h12, h12, (by rw [h10]; rfl), (by rw [h10]; rfl), (by rw [h10]; rfl), h9, h9, h9, h9, (by rw [h7]; rfl), (by rw [h2]; rfl), (by rw [h2]; rfl), h5, h5, h5, h5, (by rw [h2]; rfl), (by rw [h2]; rfl), (by rw [h2]; rfl), (by rw [h2]; rfl), (by rw [h2]; rfl), h1, h1, h1, h1, h0, trivial⟩, (by simp only [beq_iff_eq, beq_eq_false_iff_ne, ne_eq, decide_eq_true_eq, decide_eq_false_iff_not, bne_iff_ne, bne_eq_false_iff_eq] at *; first | exact cfg_ok (by constructor <;> omega) | exact cfg_bad (by omega) (by omega) | exact cfg_kind (by omega))⟩
              · exact ⟨[some true] ++ [none] ++ List.replicate 4 (some true) ++ List.replicate 5 (some false) ++ List.replicate 4 (some true) ++ List.replicate 3 (some false) ++ List.replicate 9 (some true), [(!(decide (H ≤ 1)), true), (!(decide (H ≤ 1)), true), (!(decide (H ≤ 1)), true), (!(decide (H ≤ 1)), true), (!(decide (H ≤ 1)), true), ((decide (H ≥ 1)), true), ((decide (H ≥ 1)), true), ((decide (H ≥ 1)), true), ((decide (H ≥ 1)), true), (!(decide (B ≤ 0)), false), (!(decide (S ≤ 8388607)), false), (!(decide (S ≤ 8388607)), false), ((decide (B ≥ 0)), true), ((decide (B ≥ 0)), true), ((decide (B ≥ 0)), true), ((decide (B ≥ 0)), true), (!(decide (S ≤ 8388607)), false), (!(decide (S ≤ 8388607)), false), (!(decide (S ≤ 8388607)), false), (!(decide (S ≤ 8388607)), false), (!(decide (S ≤ 8388607)), false), ((decide (S ≥ 1)), true), ((decide (S ≥ 1)), true), ((decide (S ≥ 1)), true), ((decide (S ≥ 1)), true), ((K == 1), true)], Value.int IntKind.i64 (Int.ofNat 3), by kernel_rfl, ⟨(by rw [h10]; rfl), (by rw [h10]; rfl), (by rw [h10]; rfl), (by rw [h10]; rfl), (by rw [h10]; rfl), h9, h9, h9, h9, (by rw [h7]; rfl), (by rw [h2]; rfl), (by rw [h2]; rfl), h5, h5, h5, h5, (by rw [h2]; rfl), (by rw [h2]; rfl), (by rw [h2]; rfl), (by rw [h2]; rfl), (by rw [h2]; rfl), h1, h1, h1, h1, h0, trivial⟩, (by simp only [beq_iff_eq, beq_eq_false_iff_ne, ne_eq, decide_eq_true_eq, decide_eq_false_iff_not, bne_iff_ne, bne_eq_false_iff_eq] at *; first | exact cfg_ok (by constructor <;> omega) | exact cfg_bad (by omega) (by omega) | exact cfg_kind (by omega))⟩
            · exact ⟨[some true] ++ [none] ++ List.replicate 4 (some true) ++ List.replicate 5 (some false) ++ List.replicate 4 (some true) ++ List.replicate 7 (some false), [((decide (H ≥ 1)), false), ((decide (H ≥ 1)), false), ((decide (H ≥ 1)), false), ((decide (H ≥ 1)), false), (!(decide (B ≤ 0)), false), (!(decide (S ≤ 8388607)), false), (!(decide (S ≤ 8388607)), false), ((decide (B ≥ 0)), true), ((decide (B ≥ 0)), true), ((decide (B ≥ 0)), true), ((decide (B ≥ 0)), true), (!(decide (S ≤ 8388607)), false), (!(decide (S ≤ 8388607)), false), (!(decide (S ≤ 8388607)), false), (!(decide (S ≤ 8388607)), false), (!(decide (S ≤ 8388607)), false), ((decide (S ≥ 1)), true), ((decide (S ≥ 1)), true), ((decide (S ≥ 1)), true), ((decide (S ≥ 1)), true), ((K == 1), true)], Value.int IntKind.i64 (Int.ofNat 3), by kernel_rfl, ⟨h9, h9, h9, h9, (by rw [h7]; rfl), (by rw [h2]; rfl), (by rw [h2]; rfl), h5, h5, h5, h5, (by rw [h2]; rfl), (by rw [h2]; rfl), (by rw [h2]; rfl), (by rw [h2]; rfl), (by rw [h2]; rfl), h1, h1, h1, h1, h0, trivial⟩, (by simp only [beq_iff_eq, beq_eq_false_iff_ne, ne_eq, decide_eq_true_eq, decide_eq_false_iff_not, bne_iff_ne, bne_eq_false_iff_eq] at *; first | exact cfg_ok (by constructor <;> omega) | exact cfg_bad (by omega) (by omega) | exact cfg_kind (by omega))⟩
          · exact ⟨[some true] ++ [none] ++ List.replicate 4 (some true) ++ List.replicate 5 (some false) ++ List.replicate 4 (some true) ++ [some false, some false] ++ [some true], [(!(decide (B ≤ 0)), true), (!(decide (S ≤ 8388607)), false), (!(decide (S ≤ 8388607)), false), ((decide (B ≥ 0)), true), ((decide (B ≥ 0)), true), ((decide (B ≥ 0)), true), ((decide (B ≥ 0)), true), (!(decide (S ≤ 8388607)), false), (!(decide (S ≤ 8388607)), false), (!(decide (S ≤ 8388607)), false), (!(decide (S ≤ 8388607)), false), (!(decide (S ≤ 8388607)), false), ((decide (S ≥ 1)), true), ((decide (S ≥ 1)), true), ((decide (S ≥ 1)), true), ((decide (S ≥ 1)), true), ((K == 1), true)], Value.int IntKind.i64 (Int.ofNat 3), by kernel_rfl, ⟨(by rw [h7]; rfl), (by rw [h2]; rfl), (by rw [h2]; rfl), h5, h5, h5, h5, (by rw [h2]; rfl), (by rw [h2]; rfl), (by rw [h2]; rfl), (by rw [h2]; rfl), (by rw [h2]; rfl), h1, h1, h1, h1, h0, trivial⟩, (by simp only [beq_iff_eq, beq_eq_false_iff_ne, ne_eq, decide_eq_true_eq, decide_eq_false_iff_not, bne_iff_ne, bne_eq_false_iff_eq] at *; first | exact cfg_ok (by constructor <;> omega) | exact cfg_bad (by omega) (by omega) | exact cfg_kind (by omega))⟩
        · exact ⟨[some true] ++ [none] ++ List.replicate 4 (some true) ++ List.replicate 11 (some false), [(!(decide (S ≤ 8388607)), false), (!(decide (S ≤ 8388607)), false), ((decide (B ≥ 0)), false), ((decide (B ≥ 0)), false), ((decide (B ≥ 0)), false), ((decide (B ≥ 0)), false), (!(decide (S ≤ 8388607)), false), (!(decide (S ≤ 8388607)), false), (!(decide (S ≤ 8388607)), false), (!(decide (S ≤ 8388607)), false), (!(decide (S ≤ 8388607)), false), ((decide (S ≥ 1)), true), ((decide (S ≥ 1)), true), ((decide (S ≥ 1)), true), ((decide (S ≥ 1)), true), ((K == 1), true)], Value.int IntKind.i64 (Int.ofNat 3), by kernel_rfl, ⟨(by rw [h2]; rfl), (by rw [h2]; rfl), h5, h5, h5, h5, (by rw [h2]; rfl), (by rw [h2]; rfl), (by rw [h2]; rfl), (by rw [h2]; rfl), (by rw [h2]; rfl), h1, h1, h1, h1, h0, trivial⟩, (by simp only [beq_iff_eq, beq_eq_false_iff_ne, ne_eq, decide_eq_true_eq, decide_eq_false_iff_not, bne_iff_ne, bne_eq_false_iff_eq] at *; first | exact cfg_ok (by constructor <;> omega) | exact cfg_bad (by omega) (by omega) | exact cfg_kind (by omega))⟩
      · exact ⟨[some true] ++ [none] ++ List.replicate 11 (some true), [(!(decide (S ≤ 8388607)), true), (!(decide (S ≤ 8388607)), true), (!(decide (S ≤ 8388607)), true), (!(decide (S ≤ 8388607)), true), (!(decide (S ≤ 8388607)), true), (!(decide (S ≤ 8388607)), true), (!(decide (S ≤ 8388607)), true), ((decide (S ≥ 1)), true), ((decide (S ≥ 1)), true), ((decide (S ≥ 1)), true), ((decide (S ≥ 1)), true), ((K == 1), true)], Value.int IntKind.i64 (Int.ofNat 3), by kernel_rfl, ⟨(by rw [h2]; rfl), (by rw [h2]; rfl), (by rw [h2]; rfl), (by rw [h2]; rfl), (by rw [h2]; rfl), (by rw [h2]; rfl), (by rw [h2]; rfl), h1, h1, h1, h1, h0, trivial⟩, (by simp only [beq_iff_eq, beq_eq_false_iff_ne, ne_eq, decide_eq_true_eq, decide_eq_false_iff_not, bne_iff_ne, bne_eq_false_iff_eq] at *; first | exact cfg_ok (by constructor <;> omega) | exact cfg_bad (by omega) (by omega) | exact cfg_kind (by omega))⟩
    · exact ⟨[some true] ++ [none] ++ List.replicate 4 (some false), [((decide (S ≥ 1)), false), ((decide (S ≥ 1)), false), ((decide (S ≥ 1)), false), ((decide (S ≥ 1)), false), ((K == 1), true)], Value.int IntKind.i64 (Int.ofNat 3), by kernel_rfl, ⟨h1, h1, h1, h1, h0, trivial⟩, (by simp only [beq_iff_eq, beq_eq_false_iff_ne, ne_eq, decide_eq_true_eq, decide_eq_false_iff_not, bne_iff_ne, bne_eq_false_iff_eq] at *; first | exact cfg_ok (by constructor <;> omega) | exact cfg_bad (by omega) (by omega) | exact cfg_kind (by omega))⟩
  · rcases Bool.eq_false_or_eq_true (K == 2) with h3 | h3
    · rcases Bool.eq_false_or_eq_true (decide (S ≥ 1)) with h1 | h1
      · rcases Bool.eq_false_or_eq_true (decide (S ≤ 8388607)) with h2 | h2
        · rcases Bool.eq_false_or_eq_true (decide (B ≥ 1)) with h6 | h6
          · rcases Bool.eq_false_or_eq_true (decide (B ≤ 64)) with h8 | h8
            · rcases Bool.eq_false_or_eq_true (decide (H ≥ 1)) with h9 | h9
              · rcases Bool.eq_false_or_eq_true (decide (H ≤ 1)) with h10 | h10
                · rcases Bool.eq_false_or_eq_true (decide (L ≥ 2)) with h12 | h12
                  · rcases Bool.eq_false_or_eq_true (decide (L ≤ 1099511627775)) with h13 | h13
                    · exact ⟨[some false] ++ [some true] ++ [none] ++ List.replicate 4 (some true) ++ List.replicate 5 (some false) ++ List.replicate 4 (some true) ++ List.replicate 3 (some false) ++ List.replicate 4 (some true) ++ List.replicate 3 (some false) ++ List.replicate 4 (some true) ++ List.replicate 3 (some false), [(!(decide (L ≤ 1099511627775)), false), (!(decide (H ≤ 1)), false), (!(decide (H ≤ 1)), false), ((decide (L ≥ 2)), true), ((decide (L ≥ 2)), true), ((decide (L ≥ 2)), true), ((decide (L ≥ 2)), true), (!(decide (H ≤ 1)), false), (!(decide (H ≤ 1)), false), (!(decide (H ≤ 1)), false), ((decide (H ≥ 1)), true), ((decide (H ≥ 1)), true), ((decide (H ≥ 1)), true), ((decide (H ≥ 1)), true), (!(decide (B ≤ 64)), false), (!(decide (S ≤ 8388607)), false), (!(decide (S ≤ 8388607)), false), ((decide (B ≥ 1)), true), ((decide (B ≥ 1)), true), ((decide (B ≥ 1)), true), ((decide (B ≥ 1)), true), (!(decide (S ≤ 8388607)), false), (!(decide (S ≤ 8388607)), false), (!(decide (S ≤ 8388607)), false), (!(decide (S ≤ 8388607)), false), (!(decide (S ≤ 8388607)), false), ((decide (S ≥ 1)), true), ((decide (S ≥ 1)), true), ((decide (S ≥ 1)), true), ((decide (S ≥ 1)), true), ((K == 2), true), ((K == 1), false)], Value.int IntKind.i64 (Int.ofNat 0), by kernel_rfl, ⟨(by rw [h13]; rfl), (by rw [h10]; rfl), (by rw [h10]; rfl), h12, h12, h12, h12, (by rw [h10]; rfl), (by rw [h10]; rfl), (by rw [h10]; rfl), h9, h9, h9, h9, (by rw [h8]; rfl), (by rw [h2]; rfl), (by rw [h2]; rfl), h6, h6, h6, h6, (by rw [h2]; rfl), (by rw [h2]; rfl), (by rw [h2]; rfl), (by rw [h2]; rfl), (by rw [h2]; rfl), h1, h1, h1, h1, h3, h0, trivial⟩, (by simp only [beq_iff_eq, beq_eq_false_iff_ne, ne_eq, decide_eq_true_eq, decide_eq_false_iff_not, bne_iff_ne, bne_eq_false_iff_eq] at *; first | exact cfg_ok (by constructor <;> omega) | exact cfg_bad (by omega) (by omega) | exact cfg_kind (by omega))⟩
                    · exact ⟨[some false] ++ [some true] ++ [none] ++ List.replicate 4 (some true) ++ List.replicate 5 (some false) ++ List.replicate 4 (some true) ++ List.replicate 3 (some false) ++ List.replicate 4 (some true) ++ List.replicate 3 (some false) ++ List.replicate 4 (some true) ++ [some false, some false] ++ [some true], [(!(decide (L ≤ 1099511627775)), true), (!(decide (H ≤ 1)), false), (!(decide (H ≤ 1)), false), ((decide (L ≥ 2)), true), ((decide (L ≥ 2)), true), ((decide (L ≥ 2)), true), ((decide (L ≥ 2)), true), (!(decide (H ≤ 1)), false), (!(decide (H ≤ 1)), false), (!(decide (H ≤ 1)), false), ((decide (H ≥ 1)), true), ((decide (H ≥ 1)), true), ((decide (H ≥ 1)), true), ((decide (H ≥ 1)), true), (!(decide (B ≤ 64)), false), (!(decide (S ≤ 8388607)), false), (!(decide (S ≤ 8388607)), false), ((decide (B ≥ 1)), true), ((decide (B ≥ 1)), true), ((decide (B ≥ 1)), true), ((decide (B ≥ 1)), true), (!(decide (S ≤ 8388607)), false), (!(decide (S ≤ 8388607)), false), (!(decide (S ≤ 8388607)), false), (!(decide (S ≤ 8388607)), false), (!(decide (S ≤ 8388607)), false), ((decide (S ≥ 1)), true), ((decide (S ≥ 1)), true), ((decide (S ≥ 1)), true), ((decide (S ≥ 1)), true), ((K == 2), true), ((K == 1), false)], Value.int IntKind.i64 (Int.ofNat 3), by kernel_rfl, ⟨(by rw [h13]; rfl), (by rw [h10]; rfl), (by rw [h10]; rfl), h12, h12, h12, h12, (by rw [h10]; rfl), (by rw [h10]; rfl), (by rw [h10]; rfl), h9, h9, h9, h9, (by rw [h8]; rfl), (by rw [h2]; rfl), (by rw [h2]; rfl), h6, h6, h6, h6, (by rw [h2]; rfl), (by rw [h2]; rfl), (by rw [h2]; rfl), (by rw [h2]; rfl), (by rw [h2]; rfl), h1, h1, h1, h1, h3, h0, trivial⟩, (by simp only [beq_iff_eq, beq_eq_false_iff_ne, ne_eq, decide_eq_true_eq, decide_eq_false_iff_not, bne_iff_ne, bne_eq_false_iff_eq] at *; first | exact cfg_ok (by constructor <;> omega) | exact cfg_bad (by omega) (by omega) | exact cfg_kind (by omega))⟩
                  · exact ⟨[some false] ++ [some true] ++ [none] ++ List.replicate 4 (some true) ++ List.replicate 5 (some false) ++ List.replicate 4 (some true) ++ List.replicate 3 (some false) ++ List.replicate 4 (some true) ++ List.replicate 9 (some false), [(!(decide (H ≤ 1)), false), (!(decide (H ≤ 1)), false), ((decide (L ≥ 2)), false), ((decide (L ≥ 2)), false), ((decide (L ≥ 2)), false), ((decide (L ≥ 2)), false), (!(decide (H ≤ 1)), false), (!(decide (H ≤ 1)), false), (!(decide (H ≤ 1)), false), ((decide (H ≥ 1)), true), ((decide (H ≥ 1)), true), ((decide (H ≥ 1)), true), ((decide (H ≥ 1)), true), (!(decide (B ≤ 64)), false), (!(decide (S ≤ 8388607)), false), (!(decide (S ≤ 8388607)), false), ((decide (B ≥ 1)), true), ((decide (B ≥ 1)), true), ((decide (B ≥ 1)), true), ((decide (B ≥ 1)), true), (!(decide (S ≤ 8388607)), false), (!(decide (S ≤ 8388607)), false), (!(decide (S ≤ 8388607)), false), (!(decide (S ≤ 8388607)), false), (!(decide (S ≤ 8388607)), false), ((decide (S ≥ 1)), true), ((decide (S ≥ 1)), true), ((decide (S ≥ 1)), true), ((decide (S ≥ 1)), true), ((K == 2), true), ((K == 1), false)], Value.int IntKind.i64 (Int.ofNat 3), by kernel_rfl, ⟨(by rw [h10]; rfl), (by rw [h10]; rfl), h12, h12, h12, h12, (by rw [h10]; rfl), (by rw [h10]; rfl), (by rw [h10]; rfl), h9, h9, h9, h9, (by rw [h8]; rfl), (by rw [h2]; rfl), (by rw [h2]; rfl), h6, h6, h6, h6, (by rw [h2]; rfl), (by rw [h2]; rfl), (by rw [h2]; rfl), (by rw [h2]; rfl), (by rw [h2]; rfl), h1, h1, h1, h1, h3, h0, trivial⟩, (by simp only [beq_iff_eq, beq_eq_false_iff_ne, ne_eq, decide_eq_true_eq, decide_eq_false_iff_not, bne_iff_ne, bne_eq_false_iff_eq] at *; first | exact cfg_ok (by constructor <;> omega) | exact cfg_bad (by omega) (by omega) | exact cfg_kind (by omega))⟩
                · exact ⟨[some false] ++ [some true] ++ [none] ++ List.replicate 4 (some true) ++ List.replicate 5 (some false) ++ List.replicate 4 (some true) ++ List.replicate 3 (some false) ++ List.replicate 9 (some true), [(!(decide (H ≤ 1)), true), (!(decide (H ≤ 1)), true), (!(decide (H ≤ 1)), true), (!(decide (H ≤ 1)), true), (!(decide (H ≤ 1)), true), ((decide (H ≥ 1)), true), ((decide (H ≥ 1)), true), ((decide (H ≥ 1)), true), ((decide (H ≥ 1)), true), (!(decide (B ≤ 64)), false), (!(decide (S ≤ 8388607)), false), (!(decide (S ≤ 8388607)), false), ((decide (B ≥ 1)), true), ((decide (B ≥ 1)), true), ((decide (B ≥ 1)), true), ((decide (B ≥ 1)), true), (!(decide (S ≤ 8388607)), false), (!(decide (S ≤ 8388607)), false), (!(decide (S ≤ 8388607)), false), (!(decide (S ≤ 8388607)), false), (!(decide (S ≤ 8388607)), false), ((decide (S ≥ 1)), true), ((decide (S ≥ 1)), true), ((decide (S ≥ 1)), true), ((decide (S ≥ 1)), true), ((K == 2), true), ((K == 1), false)], Value.int IntKind.i64 (Int.ofNat 3), by kernel_rfl, ⟨(by rw [h10]; rfl), (by rw [h10]; rfl), (by rw [h10]; rfl), (by rw [h10]; rfl), (by rw [h10]; rfl), h9, h9, h9, h9, (by rw [h8]; rfl), (by rw [h2]; rfl), (by rw [h2]; rfl), h6, h6, h6, h6, (by rw [h2]; rfl), (by rw [h2]; rfl), (by rw [h2]; rfl), (by rw [h2]; rfl), (by rw [h2]; rfl), h1, h1, h1, h1, h3, h0, trivial⟩, (by simp only [beq_iff_eq, beq_eq_false_iff_ne, ne_eq, decide_eq_true_eq, decide_eq_false_iff_not, bne_iff_ne, bne_eq_false_iff_eq] at *; first | exact cfg_ok (by constructor <;> omega) | exact cfg_bad (by omega) (by omega) | exact cfg_kind (by omega))⟩
              · exact ⟨[some false] ++ [some true] ++ [none] ++ List.replicate 4 (some true) ++ List.replicate 5 (some false) ++ List.replicate 4 (some true) ++ List.replicate 7 (some false), [((decide (H ≥ 1)), false), ((decide (H ≥ 1)), false), ((decide (H ≥ 1)), false), ((decide (H ≥ 1)), false), (!(decide (B ≤ 64)), false), (!(decide (S ≤ 8388607)), false), (!(decide (S ≤ 8388607)), false), ((decide (B ≥ 1)), true), ((decide (B ≥ 1)), true), ((decide (B ≥ 1)), true), ((decide (B ≥ 1)), true), (!(decide (S ≤ 8388607)), false), (!(decide (S ≤ 8388607)), false), (!(decide (S ≤ 8388607)), false), (!(decide (S ≤ 8388607)), false), (!(decide (S ≤ 8388607)), false), ((decide (S ≥ 1)), true), ((decide (S ≥ 1)), true), ((decide (S ≥ 1)), true), ((decide (S ≥ 1)), true), ((K == 2), true), ((K == 1), false)], Value.int IntKind.i64 (Int.ofNat 3), by kernel_rfl, ⟨h9, h9, h9, h9, (by rw [h8]; rfl), (by rw [h2]; rfl), (by rw [h2]; rfl), h6, h6, h6, h6, (by rw [h2]; rfl), (by rw [h2]; rfl), (by rw [h2]; rfl), (by rw [h2]; rfl), (by rw [h2]; rfl), h1, h1, h1, h1, h3, h0, trivial⟩, (by simp only [beq_iff_eq, beq_eq_false_iff_ne, ne_eq, decide_eq_true_eq, decide_eq_false_iff_not, bne_iff_ne, bne_eq_false_iff_eq] at *; first | exact cfg_ok (by constructor <;> omega) | exact cfg_bad (by omega) (by omega) | exact cfg_kind (by omega))⟩
            · exact ⟨[some false] ++ [some true] ++ [none] ++ List.replicate 4 (some true) ++ List.replicate 5 (some false) ++ List.replicate 4 (some true) ++ [some false, some false] ++ [some true], [(!(decide (B ≤ 64)), true), (!(decide (S ≤ 8388607)), false), (!(decide (S ≤ 8388607)), false), ((decide (B ≥ 1)), true), ((decide (B ≥ 1)), true), ((decide (B ≥ 1)), true), ((decide (B ≥ 1)), true), (!(decide (S ≤ 8388607)), false), (!(decide (S ≤ 8388607)), false), (!(decide (S ≤ 8388607)), false), (!(decide (S ≤ 8388607)), false), (!(decide (S ≤ 8388607)), false), ((decide (S ≥ 1)), true), ((decide (S ≥ 1)), true), ((decide (S ≥ 1)), true), ((decide (S ≥ 1)), true), ((K == 2), true), ((K == 1), false)], Value.int IntKind.i64 (Int.ofNat 3), by kernel_rfl, ⟨(by rw [h8]; rfl), (by rw [h2]; rfl), (by rw [h2]; rfl), h6, h6, h6, h6, (by rw [h2]; rfl), (by rw [h2]; rfl), (by rw [h2]; rfl), (by rw [h2]; rfl), (by rw [h2]; rfl), h1, h1, h1, h1, h3, h0, trivial⟩, (by simp only [beq_iff_eq, beq_eq_false_iff_ne, ne_eq, decide_eq_true_eq, decide_eq_false_iff_not, bne_iff_ne, bne_eq_false_iff_eq] at *; first | exact cfg_ok (by constructor <;> omega) | exact cfg_bad (by omega) (by omega) | exact cfg_kind (by omega))⟩
          · exact ⟨[some false] ++ [some true] ++ [none] ++ List.replicate 4 (some true) ++ List.replicate 11 (some false), [(!(decide (S ≤ 8388607)), false), (!(decide (S ≤ 8388607)), false), ((decide (B ≥ 1)), false), ((decide (B ≥ 1)), false), ((decide (B ≥ 1)), false), ((decide (B ≥ 1)), false), (!(decide (S ≤ 8388607)), false), (!(decide (S ≤ 8388607)), false), (!(decide (S ≤ 8388607)), false), (!(decide (S ≤ 8388607)), false), (!(decide (S ≤ 8388607)), false), ((decide (S ≥ 1)), true), ((decide (S ≥ 1)), true), ((decide (S ≥ 1)), true), ((decide (S ≥ 1)), true), ((K == 2), true), ((K == 1), false)], Value.int IntKind.i64 (Int.ofNat 3), by kernel_rfl, ⟨(by rw [h2]; rfl), (by rw [h2]; rfl), h6, h6, h6, h6, (by rw [h2]; rfl), (by rw [h2]; rfl), (by rw [h2]; rfl), (by rw [h2]; rfl), (by rw [h2]; rfl), h1, h1, h1, h1, h3, h0, trivial⟩, (by simp only [beq_iff_eq, beq_eq_false_iff_ne, ne_eq, decide_eq_true_eq, decide_eq_false_iff_not, bne_iff_ne, bne_eq_false_iff_eq] at *; first | exact cfg_ok (by constructor <;> omega) | exact cfg_bad (by omega) (by omega) | exact cfg_kind (by omega))⟩
        · exact ⟨[some false] ++ [some true] ++ [none] ++ List.replicate 11 (some true), [(!(decide (S ≤ 8388607)), true), (!(decide (S ≤ 8388607)), true), (!(decide (S ≤ 8388607)), true), (!(decide (S ≤ 8388607)), true), (!(decide (S ≤ 8388607)), true), (!(decide (S ≤ 8388607)), true), (!(decide (S ≤ 8388607)), true), ((decide (S ≥ 1)), true), ((decide (S ≥ 1)), true), ((decide (S ≥ 1)), true), ((decide (S ≥ 1)), true), ((K == 2), true), ((K == 1), false)], Value.int IntKind.i64 (Int.ofNat 3), by kernel_rfl, ⟨(by rw [h2]; rfl), (by rw [h2]; rfl), (by rw [h2]; rfl), (by rw [h2]; rfl), (by rw [h2]; rfl), (by rw [h2]; rfl), (by rw [h2]; rfl), h1, h1, h1, h1, h3, h0, trivial⟩, (by simp only [beq_iff_eq, beq_eq_false_iff_ne, ne_eq, decide_eq_true_eq, decide_eq_false_iff_not, bne_iff_ne, bne_eq_false_iff_eq] at *; first | exact cfg_ok (by constructor <;> omega) | exact cfg_bad (by omega) (by omega) | exact cfg_kind (by omega))⟩
      · exact ⟨[some false] ++ [some true] ++ [none] ++ List.replicate 4 (some false), [((decide (S ≥ 1)), false), ((decide (S ≥ 1)), false), ((decide (S ≥ 1)), false), ((decide (S ≥ 1)), false), ((K == 2), true), ((K == 1), false)], Value.int IntKind.i64 (Int.ofNat 3), by kernel_rfl, ⟨h1, h1, h1, h1, h3, h0, trivial⟩, (by simp only [beq_iff_eq, beq_eq_false_iff_ne, ne_eq, decide_eq_true_eq, decide_eq_false_iff_not, bne_iff_ne, bne_eq_false_iff_eq] at *; first | exact cfg_ok (by constructor <;> omega) | exact cfg_bad (by omega) (by omega) | exact cfg_kind (by omega))⟩
    · rcases Bool.eq_false_or_eq_true (K == 3) with h4 | h4
      · rcases Bool.eq_false_or_eq_true (decide (S ≥ 1)) with h1 | h1
        · rcases Bool.eq_false_or_eq_true (decide (S ≤ 8388607)) with h2 | h2
          · rcases Bool.eq_false_or_eq_true (decide (B ≥ 0)) with h5 | h5
            · rcases Bool.eq_false_or_eq_true (decide (B ≤ 0)) with h7 | h7
              · rcases Bool.eq_false_or_eq_true (decide (H ≥ 1)) with h9 | h9
                · rcases Bool.eq_false_or_eq_true (decide (H ≤ 16)) with h11 | h11
                  · rcases Bool.eq_false_or_eq_true (decide (L ≥ 2)) with h12 | h12
                    · rcases Bool.eq_false_or_eq_true (decide (L ≤ 1099511627775)) with h13 | h13
                      · exact ⟨[some false, some false] ++ [some true] ++ [none] ++ List.replicate 4 (some true) ++ List.replicate 5 (some false) ++ List.replicate 4 (some true) ++ List.replicate 3 (some false) ++ List.replicate 4 (some true) ++ List.replicate 3 (some false) ++ List.replicate 4 (some true) ++ List.replicate 3 (some false), [(!(decide (L ≤ 1099511627775)), false), (!(decide (H ≤ 16)), false), (!(decide (H ≤ 16)), false), ((decide (L ≥ 2)), true), ((decide (L ≥ 2)), true), ((decide (L ≥ 2)), true), ((decide (L ≥ 2)), true), (!(decide (H ≤ 16)), false), (!(decide (H ≤ 16)), false), (!(decide (H ≤ 16)), false), ((decide (H ≥ 1)), true), ((decide (H ≥ 1)), true), ((decide (H ≥ 1)), true), ((decide (H ≥ 1)), true), (!(decide (B ≤ 0)), false), (!(decide (S ≤ 8388607)), false), (!(decide (S ≤ 8388607)), false), ((decide (B ≥ 0)), true), ((decide (B ≥ 0)), true), ((decide (B ≥ 0)), true), ((decide (B ≥ 0)), true), (!(decide (S ≤ 8388607)), false), (!(decide (S ≤ 8388607)), false), (!(decide (S ≤ 8388607)), false), (!(decide (S ≤ 8388607)), false), (!(decide (S ≤ 8388607)), false), ((decide (S ≥ 1)), true), ((decide (S ≥ 1)), true), ((decide (S ≥ 1)), true), ((decide (S ≥ 1)), true), ((K == 3), true), ((K == 2), false), ((K == 1), false)], Value.int IntKind.i64 (Int.ofNat 0), by kernel_rfl, ⟨(by rw [h13]; rfl), (by rw [h11]; rfl), (by rw [h11]; rfl), h12, h12, h12, h12, (by rw [h11]; rfl), (by rw [h11]; rfl), (by rw [h11]; rfl), h9, h9, h9, h9, (by rw [h7]; rfl), (by rw [h2]; rfl), (by rw [h2]; rfl), h5, h5, h5, h5, (by rw [h2]; rfl), (by rw [h2]; rfl), (by rw [h2]; rfl), (by rw [h2]; rfl), (by rw [h2]; rfl), h1, h1, h1, h1, h4, h3, h0, trivial⟩, (by simp only [beq_iff_eq, beq_eq_false_iff_ne, ne_eq, decide_eq_true_eq, decide_eq_false_iff_not, bne_iff_ne, bne_eq_false_iff_eq] at *; first | exact cfg_ok (by constructor <;> omega) | exact cfg_bad (by omega) (by omega) | exact cfg_kind (by omega))⟩
                      · exact ⟨[some false, some false] ++ [some true] ++ [none] ++ List.replicate 4 (some true) ++ List.replicate 5 (some false) ++ List.replicate 4 (some true) ++ List.replicate 3 (some false) ++ List.replicate 4 (some true) ++ List.replicate 3 (some false) ++ List.replicate 4 (some true) ++ [some false, some false] ++ [some true], [(!(decide (L ≤ 1099511627775)), true), (!(decide (H ≤ 16)), false), (!(decide (H ≤ 16)), false), ((decide (L ≥ 2)), true), ((decide (L ≥ 2)), true), ((decide (L ≥ 2)), true), ((decide (L ≥ 2)), true), (!(decide (H ≤ 16)), false), (!(decide (H ≤ 16)), false), (!(decide (H ≤ 16)), false), ((decide (H ≥ 1)), true), ((decide (H ≥ 1)), true), ((decide (H ≥ 1)), true), ((decide (H ≥ 1)), true), (!(decide (B ≤ 0)), false), (!(decide (S ≤ 8388607)), false), (!(decide (S ≤ 8388607)), false), ((decide (B ≥ 0)), true), ((decide (B ≥ 0)), true), ((decide (B ≥ 0)), true), ((decide (B ≥ 0)), true), (!(decide (S ≤ 8388607)), false), (!(decide (S ≤ 8388607)), false), (!(decide (S ≤ 8388607)), false), (!(decide (S ≤ 8388607)), false), (!(decide (S ≤ 8388607)), false), ((decide (S ≥ 1)), true), ((decide (S ≥ 1)), true), ((decide (S ≥ 1)), true), ((decide (S ≥ 1)), true), ((K == 3), true), ((K == 2), false), ((K == 1), false)], Value.int IntKind.i64 (Int.ofNat 3), by kernel_rfl, ⟨(by rw [h13]; rfl), (by rw [h11]; rfl), (by rw [h11]; rfl), h12, h12, h12, h12, (by rw [h11]; rfl), (by rw [h11]; rfl), (by rw [h11]; rfl), h9, h9, h9, h9, (by rw [h7]; rfl), (by rw [h2]; rfl), (by rw [h2]; rfl), h5, h5, h5, h5, (by rw [h2]; rfl), (by rw [h2]; rfl), (by rw [h2]; rfl), (by rw [h2]; rfl), (by rw [h2]; rfl), h1, h1, h1, h1, h4, h3, h0, trivial⟩, (by simp only [beq_iff_eq, beq_eq_false_iff_ne, ne_eq, decide_eq_true_eq, decide_eq_false_iff_not, bne_iff_ne, bne_eq_false_iff_eq] at *; first | exact cfg_ok (by constructor <;> omega) | exact cfg_bad (by omega) (by omega) | exact cfg_kind (by omega))⟩
                    · exact ⟨[some false, some false] ++ [some true] ++ [none] ++ List.replicate 4 (some true) ++ List.replicate 5 (some false) ++ List.replicate 4 (some true) ++ List.replicate 3 (some false) ++ List.replicate 4 (some true) ++ List.replicate 9 (some false), [(!(decide (H ≤ 16)), false), (!(decide (H ≤ 16)), false), ((decide (L ≥ 2)), false), ((decide (L ≥ 2)), false), ((decide (L ≥ 2)), false), ((decide (L ≥ 2)), false), (!(decide (H ≤ 16)), false), (!(decide (H ≤ 16)), false), (!(decide (H ≤ 16)), false), ((decide (H ≥ 1)), true), ((decide (H ≥ 1)), true), ((decide (H ≥ 1)), true), ((decide (H ≥ 1)), true), (!(decide (B ≤ 0)), false), (!(decide (S ≤ 8388607)), false), (!(decide (S ≤ 8388607)), false), ((decide (B ≥ 0)), true), ((decide (B ≥ 0)), true), ((decide (B ≥ 0)), true), ((decide (B ≥ 0)), true), (!(decide (S ≤ 8388607)), false), (!(decide (S ≤ 8388607)), false), (!(decide (S ≤ 8388607)), false), (!(decide (S ≤ 8388607)), false), (!(decide (S ≤ 8388607)), false), ((decide (S ≥ 1)), true), ((decide (S ≥ 1)), true), ((decide (S ≥ 1)), true), ((decide (S ≥ 1)), true), ((K == 3), true), ((K == 2), false), ((K == 1), false)], Value.int IntKind.i64 (Int.ofNat 3), by kernel_rfl, ⟨(by rw [h11]; rfl), (by rw [h11]; rfl), h12, h12, h12, h12, (by rw [h11]; rfl), (by rw [h11]; rfl), (by rw [h11]; rfl), h9, h9, h9, h9, (by rw [h7]; rfl), (by rw [h2]; rfl), (by rw [h2]; rfl), h5, h5, h5, h5, (by rw [h2]; rfl), (by rw [h2]; rfl), (by rw [h2]; rfl), (by rw [h2]; rfl), (by rw [h2]; rfl), h1, h1, h1, h1, h4, h3, h0, trivial⟩, (by simp only [beq_iff_eq, beq_eq_false_iff_ne, ne_eq, decide_eq_true_eq, decide_eq_false_iff_not, bne_iff_ne, bne_eq_false_iff_eq] at *; first | exact cfg_ok (by constructor <;> omega) | exact cfg_bad (by omega) (by omega) | exact cfg_kind (by omega))⟩
                  · exact ⟨[some false, some false] ++ [some true] ++ [none] ++ List.replicate 4 (some true) ++ List.replicate 5 (some false) ++ List.replicate 4 (some true) ++ List.replicate 3 (some false) ++ List.replicate 9 (some true), [(!(decide (H ≤ 16)), true), (!(decide (H ≤ 16)), true), (!(decide (H ≤ 16)), true), (!(decide (H ≤ 16)), true), (!(decide (H ≤ 16)), true), ((decide (H ≥ 1)), true), ((decide (H ≥ 1)), true), ((decide (H ≥ 1)), true), ((decide (H ≥ 1)), true), (!(decide (B ≤ 0)), false), (!(decide (S ≤ 8388607)), false), (!(decide (S ≤ 8388607)), false), ((decide (B ≥ 0)), true), ((decide (B ≥ 0)), true), ((decide (B ≥ 0)), true), ((decide (B ≥ 0)), true), (!(decide (S ≤ 8388607)), false), (!(decide (S ≤ 8388607)), false), (!(decide (S ≤ 8388607)), false), (!(decide (S ≤ 8388607)), false), (!(decide (S ≤ 8388607)), false), ((decide (S ≥ 1)), true), ((decide (S ≥ 1)), true), ((decide (S ≥ 1)), true), ((decide (S ≥ 1)), true), ((K == 3), true), ((K == 2), false), ((K == 1), false)], Value.int IntKind.i64 (Int.ofNat 3), by kernel_rfl, ⟨(by rw [h11]; rfl), (by rw [h11]; rfl), (by rw [h11]; rfl), (by rw [h11]; rfl), (by rw [h11]; rfl), h9, h9, h9, h9, (by rw [h7]; rfl), (by rw [h2]; rfl), (by rw [h2]; rfl), h5, h5, h5, h5, (by rw [h2]; rfl), (by rw [h2]; rfl), (by rw [h2]; rfl), (by rw [h2]; rfl), (by rw [h2]; rfl), h1, h1, h1, h1, h4, h3, h0, trivial⟩, (by simp only [beq_iff_eq, beq_eq_false_iff_ne, ne_eq, decide_eq_true_eq, decide_eq_false_iff_not, bne_iff_ne, bne_eq_false_iff_eq] at *; first | exact cfg_ok (by constructor <;> omega) | exact cfg_bad (by omega) (by omega) | exact cfg_kind (by omega))⟩
                · exact ⟨[some false, some false] ++ [some true] ++ [none] ++ List.replicate 4 (some true) ++ List.replicate 5 (some false) ++ List.replicate 4 (some true) ++ List.replicate 7 (some false), [((decide (H ≥ 1)), false), ((decide (H ≥ 1)), false), ((decide (H ≥ 1)), false), ((decide (H ≥ 1)), false), (!(decide (B ≤ 0)), false), (!(decide (S ≤ 8388607)), false), (!(decide (S ≤ 8388607)), false), ((decide (B ≥ 0)), true), ((decide (B ≥ 0)), true), ((decide (B ≥ 0)), true), ((decide (B ≥ 0)), true), (!(decide (S ≤ 8388607)), false), (!(decide (S ≤ 8388607)), false), (!(decide (S ≤ 8388607)), false), (!(decide (S ≤ 8388607)), false), (!(decide (S ≤ 8388607)), false), ((decide (S ≥ 1)), true), ((decide (S ≥ 1)), true), ((decide (S ≥ 1)), true), ((decide (S ≥ 1)), true), ((K == 3), true), ((K == 2), false), ((K == 1), false)], Value.int IntKind.i64 (Int.ofNat 3), by kernel_rfl, ⟨h9, h9, h9, h9, (by rw [h7]; rfl), (by rw [h2]; rfl), (by rw [h2]; rfl), h5, h5, h5, h5, (by rw [h2]; rfl), (by rw [h2]; rfl), (by rw [h2]; rfl), (by rw [h2]; rfl), (by rw [h2]; rfl), h1, h1, h1, h1, h4, h3, h0, trivial⟩, (by simp only [beq_iff_eq, beq_eq_false_iff_ne, ne_eq, decide_eq_true_eq, decide_eq_false_iff_not, bne_iff_ne, bne_eq_false_iff_eq] at *; first | exact cfg_ok (by constructor <;> omega) | exact cfg_bad (by omega) (by omega) | exact cfg_kind (by omega))⟩
              · exact ⟨[some false, some false] ++ [some true] ++ [none] ++ List.replicate 4 (some true) ++ List.replicate 5 (some false) ++ List.replicate 4 (some true) ++ [some false, some false] ++ [some true], [(!(decide (B ≤ 0)), true), (!(decide (S ≤ 8388607)), false), (!(decide (S ≤ 8388607)), false), ((decide (B ≥ 0)), true), ((decide (B ≥ 0)), true), ((decide (B ≥ 0)), true), ((decide (B ≥ 0)), true), (!(decide (S ≤ 8388607)), false), (!(decide (S ≤ 8388607)), false), (!(decide (S ≤ 8388607)), false), (!(decide (S ≤ 8388607)), false), (!(decide (S ≤ 8388607)), false), ((decide (S ≥ 1)), true), ((decide (S ≥ 1)), true), ((decide (S ≥ 1)), true), ((decide (S ≥ 1)), true), ((K == 3), true), ((K == 2), false), ((K == 1), false)], Value.int IntKind.i64 (Int.ofNat 3), by kernel_rfl, ⟨(by rw [h7]; rfl), (by rw [h2]; rfl), (by rw [h2]; rfl), h5, h5, h5, h5, (by rw [h2]; rfl), (by rw [h2]; rfl), (by rw [h2]; rfl), (by rw [h2]; rfl), (by rw [h2]; rfl), h1, h1, h1, h1, h4, h3, h0, trivial⟩, (by simp only [beq_iff_eq, beq_eq_false_iff_ne, ne_eq, decide_eq_true_eq, decide_eq_false_iff_not, bne_iff_ne, bne_eq_false_iff_eq] at *; first | exact cfg_ok (by constructor <;> omega) | exact cfg_bad (by omega) (by omega) | exact cfg_kind (by omega))⟩
            · exact ⟨[some false, some false] ++ [some true] ++ [none] ++ List.replicate 4 (some true) ++ List.replicate 11 (some false), [(!(decide (S ≤ 8388607)), false), (!(decide (S ≤ 8388607)), false), ((decide (B ≥ 0)), false), ((decide (B ≥ 0)), false), ((decide (B ≥ 0)), false), ((decide (B ≥ 0)), false), (!(decide (S ≤ 8388607)), false), (!(decide (S ≤ 8388607)), false), (!(decide (S ≤ 8388607)), false), (!(decide (S ≤ 8388607)), false), (!(decide (S ≤ 8388607)), false), ((decide (S ≥ 1)), true), ((decide (S ≥ 1)), true), ((decide (S ≥ 1)), true), ((decide (S ≥ 1)), true), ((K == 3), true), ((K == 2), false), ((K == 1), false)], Value.int IntKind.i64 (Int.ofNat 3), by kernel_rfl, ⟨(by rw [h2]; rfl), (by rw [h2]; rfl), h5, h5, h5, h5, (by rw [h2]; rfl), (by rw [h2]; rfl), (by rw [h2]; rfl), (by rw [h2]; rfl), (by rw [h2]; rfl), h1, h1, h1, h1, h4, h3, h0, trivial⟩, (by simp only [beq_iff_eq, beq_eq_false_iff_ne, ne_eq, decide_eq_true_eq, decide_eq_false_iff_not, bne_iff_ne, bne_eq_false_iff_eq] at *; first | exact cfg_ok (by constructor <;> omega) | exact cfg_bad (by omega) (by omega) | exact cfg_kind (by omega))⟩
          · exact ⟨[some false, some false] ++ [some true] ++ [none] ++ List.replicate 11 (some true), [(!(decide (S ≤ 8388607)), true), (!(decide (S ≤ 8388607)), true), (!(decide (S ≤ 8388607)), true), (!(decide (S ≤ 8388607)), true), (!(decide (S ≤ 8388607)), true), (!(decide (S ≤ 8388607)), true), (!(decide (S ≤ 8388607)), true), ((decide (S ≥ 1)), true), ((decide (S ≥ 1)), true), ((decide (S ≥ 1)), true), ((decide (S ≥ 1)), true), ((K == 3), true), ((K == 2), false), ((K == 1), false)], Value.int IntKind.i64 (Int.ofNat 3), by kernel_rfl, ⟨(by rw [h2]; rfl), (by rw [h2]; rfl), (by rw [h2]; rfl), (by rw [h2]; rfl), (by rw [h2]; rfl), (by rw [h2]; rfl), (by rw [h2]; rfl), h1, h1, h1, h1, h4, h3, h0, trivial⟩, (by simp only [beq_iff_eq, beq_eq_false_iff_ne, ne_eq, decide_eq_true_eq, decide_eq_false_iff_not, bne_iff_ne, bne_eq_false_iff_eq] at *; first | exact cfg_ok (by constructor <;> omega) | exact cfg_bad (by omega) (by omega) | exact cfg_kind (by omega))⟩
        · exact ⟨[some false, some false] ++ [some true] ++ [none] ++ List.replicate 4 (some false), [((decide (S ≥ 1)), false), ((decide (S ≥ 1)), false), ((decide (S ≥ 1)), false), ((decide (S ≥ 1)), false), ((K == 3), true), ((K == 2), false), ((K == 1), false)], Value.int IntKind.i64 (Int.ofNat 3), by kernel_rfl, ⟨h1, h1, h1, h1, h4, h3, h0, trivial⟩, (by simp only [beq_iff_eq, beq_eq_false_iff_ne, ne_eq, decide_eq_true_eq, decide_eq_false_iff_not, bne_iff_ne, bne_eq_false_iff_eq] at *; first | exact cfg_ok (by constructor <;> omega) | exact cfg_bad (by omega) (by omega) | exact cfg_kind (by omega))⟩
      · exact ⟨List.replicate 3 (some false), [((K == 3), false), ((K == 2), false), ((K == 1), false)], Value.int IntKind.i64 (Int.ofNat 8), by kernel_rfl, ⟨h4, h3, h0, trivial⟩, (by simp only [beq_iff_eq, beq_eq_false_iff_ne, ne_eq, decide_eq_true_eq, decide_eq_false_iff_not, bne_iff_ne, bne_eq_false_iff_eq] at *; first | exact cfg_ok (by constructor <;> omega) | exact cfg_bad (by omega) (by omega) | exact cfg_kind (by omega))⟩
theorem check_ref (K S B H L : Int)  : Good (fun o => run0 12 [.agg [iv K, iv S, iv B, iv H, iv L]] (St.none o)) (fun x => x = .int .i64 (cfgE K S B H L)) := by
  rcases Bool.eq_false_or_eq_true (decide (K < 1)) with h0 | h0
  · exact ⟨List.replicate 4 (some true), [((decide (K < 1)), true), ((decide (K < 1)), true), ((decide (K < 1)), true), ((decide (K < 1)), true)], Value.int IntKind.i64 (Int.ofNat 8), by kernel_rfl, ⟨h0, h0, h0, h0, trivial⟩, (by simp only [beq_iff_eq, beq_eq_false_iff_ne, ne_eq, decide_eq_true_eq, decide_eq_false_iff_not, bne_iff_ne, bne_eq_false_iff_eq] at *; first | exact cfg_ok (by constructor <;> omega) | exact cfg_bad (by omega) (by omega) | exact cfg_kind (by omega))⟩
  · rcases Bool.eq_false_or_eq_true (decide (K > 3)) with h1 | h1
    · exact ⟨List.replicate 4 (some false) ++ [some true], [((decide (K > 3)), true), ((decide (K < 1)), false), ((decide (K < 1)), false), ((decide (K < 1)), false), ((decide (K < 1)), false)], Value.int IntKind.i64 (Int.ofNat 8), by kernel_rfl, ⟨h1, h0, h0, h0, h0, trivial⟩, (by simp only [beq_iff_eq, beq_eq_false_iff_ne, ne_eq, decide_eq_true_eq, decide_eq_false_iff_not, bne_iff_ne, bne_eq_false_iff_eq] at *; first | exact cfg_ok (by constructor <;> omega) | exact cfg_bad (by omega) (by omega) | exact cfg_kind (by omega))⟩
    · rcases Bool.eq_false_or_eq_true (decide (S < 1)) with h2 | h2
      · exact ⟨List.replicate 5 (some false) ++ List.replicate 4 (some true), [((decide (S < 1)), true), ((decide (S < 1)), true), ((decide (S < 1)), true), ((decide (S < 1)), true), ((decide (K > 3)), false), ((decide (K < 1)), false), ((decide (K < 1)), false), ((decide (K < 1)), false), ((decide (K < 1)), false)], Value.int IntKind.i64 (Int.ofNat 3), by kernel_rfl, ⟨h2, h2, h2, h2, h1, h0, h0, h0, h0, trivial⟩, (by simp only [beq_iff_eq, beq_eq_false_iff_ne, ne_eq, decide_eq_true_eq, decide_eq_false_iff_not, bne_iff_ne, bne_eq_false_iff_eq] at *; first | exact cfg_ok (by constructor <;> omega) | exact cfg_bad (by omega) (by omega) | exact cfg_kind (by omega))⟩
      · rcases Bool.eq_false_or_eq_true (decide (S > 8388607)) with h3 | h3
        · exact ⟨List.replicate 9 (some false) ++ List.replicate 4 (some true), [((decide (S > 8388607)), true), ((decide (S > 8388607)), true), ((decide (S > 8388607)), true), ((decide (S > 8388607)), true), ((decide (S < 1)), false), ((decide (S < 1)), false), ((decide (S < 1)), false), ((decide (S < 1)), false), ((decide (K > 3)), false), ((decide (K < 1)), false), ((decide (K < 1)), false), ((decide (K < 1)), false), ((decide (K < 1)), false)], Value.int IntKind.i64 (Int.ofNat 3), by kernel_rfl, ⟨h3, h3, h3, h3, h2, h2, h2, h2, h1, h0, h0, h0, h0, trivial⟩, (by simp only [beq_iff_eq, beq_eq_false_iff_ne, ne_eq, decide_eq_true_eq, decide_eq_false_iff_not, bne_iff_ne, bne_eq_false_iff_eq] at *; first | exact cfg_ok (by constructor <;> omega) | exact cfg_bad (by omega) (by omega) | exact cfg_kind (by omega))⟩
        · rcases Bool.eq_false_or_eq_true (decide (L < 2)) with h4 | h4
          · exact ⟨List.replicate 13 (some false) ++ List.replicate 4 (some true), [((decide (L < 2)), true), ((decide (L < 2)), true), ((decide (L < 2)), true), ((decide (L < 2)), true), ((decide (S > 8388607)), false), ((decide (S > 8388607)), false), ((decide (S > 8388607)), false), ((decide (S > 8388607)), false), ((decide (S < 1)), false), ((decide (S < 1)), false), ((decide (S < 1)), false), ((decide (S < 1)), false), ((decide (K > 3)), false), ((decide (K < 1)), false), ((decide (K < 1)), false), ((decide (K < 1)), false), ((decide (K < 1)), false)], Value.int IntKind.i64 (Int.ofNat 3), by kernel_rfl, ⟨h4, h4, h4, h4, h3, h3, h3, h3, h2, h2, h2, h2, h1, h0, h0, h0, h0, trivial⟩, (by simp only [beq_iff_eq, beq_eq_false_iff_ne, ne_eq, decide_eq_true_eq, decide_eq_false_iff_not, bne_iff_ne, bne_eq_false_iff_eq] at *; first | exact cfg_ok (by constructor <;> omega) | exact cfg_bad (by omega) (by omega) | exact cfg_kind (by omega))⟩
          · rcases Bool.eq_false_or_eq_true (decide (L > 1099511627775)) with h5 | h5
            · exact ⟨List.replicate 17 (some false) ++ [some true], [((decide (L > 1099511627775)), true), ((decide (L < 2)), false), ((decide (L < 2)), false), ((decide (L < 2)), false), ((decide (L < 2)), false), ((decide (S > 8388607)), false), ((decide (S > 8388607)), false), ((decide (S > 8388607)), false), ((decide (S > 8388607)), false), ((decide (S < 1)), false), ((decide (S < 1)), false), ((decide (S < 1)), false), ((decide (S < 1)), false), ((decide (K > 3)), false), ((decide (K < 1)), false), ((decide (K < 1)), false), ((decide (K < 1)), false), ((decide (K < 1)), false)], Value.int IntKind.i64 (Int.ofNat 3), by kernel_rfl, ⟨h5, h4, h4, h4, h4, h3, h3, h3, h3, h2, h2, h2, h2, h1, h0, h0, h0, h0, trivial⟩, (by simp only [beq_iff_eq, beq_eq_false_iff_ne, ne_eq, decide_eq_true_eq, decide_eq_false_iff_not, bne_iff_ne, bne_eq_false_iff_eq] at *; first | exact cfg_ok (by constructor <;> omega) | exact cfg_bad (by omega) (by omega) | exact cfg_kind (by omega))⟩
            · rcases Bool.eq_false_or_eq_true (K == 2) with h6 | h6
              · rcases Bool.eq_false_or_eq_true (decide (B < 1)) with h7 | h7
                · exact ⟨List.replicate 18 (some false) ++ List.replicate 10 (some true), [((K == 2), true), ((decide (B < 1)), true), ((K == 2), true), ((decide (B < 1)), true), ((decide (B < 1)), true), ((decide (B < 1)), true), ((K == 2), true), ((K == 2), true), ((K == 2), true), ((K == 2), true), ((decide (L > 1099511627775)), false), ((decide (L < 2)), false), ((decide (L < 2)), false), ((decide (L < 2)), false), ((decide (L < 2)), false), ((decide (S > 8388607)), false), ((decide (S > 8388607)), false), ((decide (S > 8388607)), false), ((decide (S > 8388607)), false), ((decide (S < 1)), false), ((decide (S < 1)), false), ((decide (S < 1)), false), ((decide (S < 1)), false), ((decide (K > 3)), false), ((decide (K < 1)), false), ((decide (K < 1)), false), ((decide (K < 1)), false), ((decide (K < 1)), false)], Value.int IntKind.i64 (Int.ofNat 3), by kernel_rfl, ⟨h6, h7, h6, h7, h7, h7, h6, h6, h6, h6, h5, h4, h4, h4, h4, h3, h3, h3, h3, h2, h2, h2, h2, h1, h0, h0, h0, h0, trivial⟩, (by simp only [beq_iff_eq, beq_eq_false_iff_ne, ne_eq, decide_eq_true_eq, decide_eq_false_iff_not, bne_iff_ne, bne_eq_false_iff_eq] at *; first | exact cfg_ok (by constructor <;> omega) | exact cfg_bad (by omega) (by omega) | exact cfg_kind (by omega))⟩
                · rcases Bool.eq_false_or_eq_true (decide (B > 64)) with h9 | h9
                  · exact ⟨List.replicate 18 (some false) ++ List.replicate 4 (some true) ++ List.replicate 3 (some false) ++ [some true] ++ [some false] ++ List.replicate 7 (some true), [((decide (B > 64)), true), ((decide (B > 64)), true), ((decide (B > 64)), true), ((decide (B > 64)), true), ((decide (B > 64)), true), ((decide (B > 64)), true), ((K == 2), true), ((decide (B < 1)), false), ((K == 2), true), ((decide (B < 1)), false), ((decide (B < 1)), false), ((decide (B < 1)), false), ((K == 2), true), ((K == 2), true), ((K == 2), true), ((K == 2), true), ((decide (L > 1099511627775)), false), ((decide (L < 2)), false), ((decide (L < 2)), false), ((decide (L < 2)), false), ((decide (L < 2)), false), ((decide (S > 8388607)), false), ((decide (S > 8388607)), false), ((decide (S > 8388607)), false), ((decide (S > 8388607)), false), ((decide (S < 1)), false), ((decide (S < 1)), false), ((decide (S < 1)), false), ((decide (S < 1)), false), ((decide (K > 3)), false), ((decide (K < 1)), false), ((decide (K < 1)), false), ((decide (K < 1)), false), ((decide (K < 1)), false)], Value.int IntKind.i64 (Int.ofNat 3), by kernel_rfl, ⟨h9, h9, h9, h9, h9, h9, h6, h7, h6, h7, h7, h7, h6, h6, h6, h6, h5, h4, h4, h4, h4, h3, h3, h3, h3, h2, h2, h2, h2, h1, h0, h0, h0, h0, trivial⟩, (by simp only [beq_iff_eq, beq_eq_false_iff_ne, ne_eq, decide_eq_true_eq, decide_eq_false_iff_not, bne_iff_ne, bne_eq_false_iff_eq] at *; first | exact cfg_ok (by constructor <;> omega) | exact cfg_bad (by omega) (by omega) | exact cfg_kind (by omega))⟩
                  · rcases Bool.eq_false_or_eq_true (K != 2) with h8 | h8
                    · rcases Bool.eq_false_or_eq_true (B != 0) with h12 | h12
                      · exact ⟨List.replicate 18 (some false) ++ List.replicate 4 (some true) ++ List.replicate 3 (some false) ++ [some true] ++ [some false] ++ [some true] ++ List.replicate 4 (some false) ++ List.replicate 3 (some true) ++ [some false] ++ [some true] ++ [some false] ++ [some true], [((B != 0), true), ((decide (B > 64)), false), ((K != 2), true), ((decide (B > 64)), false), ((K != 2), true), ((K != 2), true), ((K != 2), true), ((decide (B > 64)), false), ((decide (B > 64)), false), ((decide (B > 64)), false), ((decide (B > 64)), false), ((K == 2), true), ((decide (B < 1)), false), ((K == 2), true), ((decide (B < 1)), false), ((decide (B < 1)), false), ((decide (B < 1)), false), ((K == 2), true), ((K == 2), true), ((K == 2), true), ((K == 2), true), ((decide (L > 1099511627775)), false), ((decide (L < 2)), false), ((decide (L < 2)), false), ((decide (L < 2)), false), ((decide (L < 2)), false), ((decide (S > 8388607)), false), ((decide (S > 8388607)), false), ((decide (S > 8388607)), false), ((decide (S > 8388607)), false), ((decide (S < 1)), false), ((decide (S < 1)), false), ((decide (S < 1)), false), ((decide (S < 1)), false), ((decide (K > 3)), false), ((decide (K < 1)), false), ((decide (K < 1)), false), ((decide (K < 1)), false), ((decide (K < 1)), false)], Value.int IntKind.i64 (Int.ofNat 3), by kernel_rfl, ⟨h12, h9, h8, h9, h8, h8, h8, h9, h9, h9, h9, h6, h7, h6, h7, h7, h7, h6, h6, h6, h6, h5, h4, h4, h4, h4, h3, h3, h3, h3, h2, h2, h2, h2, h1, h0, h0, h0, h0, trivial⟩, (by simp only [beq_iff_eq, beq_eq_false_iff_ne, ne_eq, decide_eq_true_eq, decide_eq_false_iff_not, bne_iff_ne, bne_eq_false_iff_eq] at *; first | exact cfg_ok (by constructor <;> omega) | exact cfg_bad (by omega) (by omega) | exact cfg_kind (by omega))⟩
                      · rcases Bool.eq_false_or_eq_true (K == 3) with h10 | h10
                        · rcases Bool.eq_false_or_eq_true (decide (H < 1)) with h11 | h11
                          · exact ⟨List.replicate 18 (some false) ++ List.replicate 4 (some true) ++ List.replicate 3 (some false) ++ [some true] ++ [some false] ++ [some true] ++ List.replicate 4 (some false) ++ List.replicate 3 (some true) ++ [some false] ++ [some true] ++ [some false, some false] ++ List.replicate 10 (some true), [((K == 3), true), ((decide (H < 1)), true), ((K == 3), true), ((decide (H < 1)), true), ((decide (H < 1)), true), ((decide (H < 1)), true), ((K == 3), true), ((K == 3), true), ((K == 3), true), ((K == 3), true), ((B != 0), false), ((decide (B > 64)), false), ((K != 2), true), ((decide (B > 64)), false), ((K != 2), true), ((K != 2), true), ((K != 2), true), ((decide (B > 64)), false), ((decide (B > 64)), false), ((decide (B > 64)), false), ((decide (B > 64)), false), ((K == 2), true), ((decide (B < 1)), false), ((K == 2), true), ((decide (B < 1)), false), ((decide (B < 1)), false), ((decide (B < 1)), false), ((K == 2), true), ((K == 2), true), ((K == 2), true), ((K == 2), true), ((decide (L > 1099511627775)), false), ((decide (L < 2)), false), ((decide (L < 2)), false), ((decide (L < 2)), false), ((decide (L < 2)), false), ((decide (S > 8388607)), false), ((decide (S > 8388607)), false), ((decide (S > 8388607)), false), ((decide (S > 8388607)), false), ((decide (S < 1)), false), ((decide (S < 1)), false), ((decide (S < 1)), false), ((decide (S < 1)), false), ((decide (K > 3)), false), ((decide (K < 1)), false), ((decide (K < 1)), false), ((decide (K < 1)), false), ((decide (K < 1)), false)], Value.int IntKind.i64 (Int.ofNat 3), by kernel_rfl, ⟨h10, h11, h10, h11, h11, h11, h10, h10, h10, h10, h12, h9, h8, h9, h8, h8, h8, h9, h9, h9, h9, h6, h7, h6, h7, h7, h7, h6, h6, h6, h6, h5, h4, h4, h4, h4, h3, h3, h3, h3, h2, h2, h2, h2, h1, h0, h0, h0, h0, trivial⟩, (by simp only [beq_iff_eq, beq_eq_false_iff_ne, ne_eq, decide_eq_true_eq, decide_eq_false_iff_not, bne_iff_ne, bne_eq_false_iff_eq] at *; first | exact cfg_ok (by constructor <;> omega) | exact cfg_bad (by omega) (by omega) | exact cfg_kind (by omega))⟩
                          · rcases Bool.eq_false_or_eq_true (decide (H > 16)) with h13 | h13
                            · exact ⟨List.replicate 18 (some false) ++ List.replicate 4 (some true) ++ List.replicate 3 (some false) ++ [some true] ++ [some false] ++ [some true] ++ List.replicate 4 (some false) ++ List.replicate 3 (some true) ++ [some false] ++ [some true] ++ [some false, some false] ++ List.replicate 4 (some true) ++ List.replicate 3 (some false) ++ [some true] ++ [some false] ++ List.replicate 7 (some true), [((decide (H > 16)), true), ((decide (H > 16)), true), ((decide (H > 16)), true), ((decide (H > 16)), true), ((decide (H > 16)), true), ((decide (H > 16)), true), ((K == 3), true), ((decide (H < 1)), false), ((K == 3), true), ((decide (H < 1)), false), ((decide (H < 1)), false), ((decide (H < 1)), false), ((K == 3), true), ((K == 3), true), ((K == 3), true), ((K == 3), true), ((B != 0), false), ((decide (B > 64)), false), ((K != 2), true), ((decide (B > 64)), false), ((K != 2), true), ((K != 2), true), ((K != 2), true), ((decide (B > 64)), false), ((decide (B > 64)), false), ((decide (B > 64)), false), ((decide (B > 64)), false), ((K == 2), true), ((decide (B < 1)), false), ((K == 2), true), ((decide (B < 1)), false), ((decide (B < 1)), false), ((decide (B < 1)), false), ((K == 2), true), ((K == 2), true), ((K == 2), true), ((K == 2), true), ((decide (L > 1099511627775)), false), ((decide (L < 2)), false), ((decide (L < 2)), false), ((decide (L < 2)), false), ((decide (L < 2)), false), ((decide (S > 8388607)), false), ((decide (S > 8388607)), false), ((decide (S > 8388607)), false), ((decide (S > 8388607)), false), ((decide (S < 1)), false), ((decide (S < 1)), false), ((decide (S < 1)), false), ((decide (S < 1)), false), ((decide (K > 3)), false), ((decide (K < 1)), false), ((decide (K < 1)), false), ((decide (K < 1)), false), ((decide (K < 1)), false)], Value.int IntKind.i64 (Int.ofNat 3), by kernel_rfl, ⟨h13, h13, h13, h13, h13, h13, h10, h11, h10, h11, h11, h11, h10, h10, h10, h10, h12, h9, h8, h9, h8, h8, h8, h9, h9, h9, h9, h6, h7, h6, h7, h7, h7, h6, h6, h6, h6, h5, h4, h4, h4, h4, h3, h3, h3, h3, h2, h2, h2, h2, h1, h0, h0, h0, h0, trivial⟩, (by simp only [beq_iff_eq, beq_eq_false_iff_ne, ne_eq, decide_eq_true_eq, decide_eq_false_iff_not, bne_iff_ne, bne_eq_false_iff_eq] at *; first | exact cfg_ok (by constructor <;> omega) | exact cfg_bad (by omega) (by omega) | exact cfg_kind (by omega))⟩
                            · rcases Bool.eq_false_or_eq_true (K != 3) with h14 | h14
                              · rcases Bool.eq_false_or_eq_true (H != 1) with h15 | h15
                                · exact ⟨List.replicate 18 (some false) ++ List.replicate 4 (some true) ++ List.replicate 3 (some false) ++ [some true] ++ [some false] ++ [some true] ++ List.replicate 4 (some false) ++ List.replicate 3 (some true) ++ [some false] ++ [some true] ++ [some false, some false] ++ List.replicate 4 (some true) ++ List.replicate 3 (some false) ++ [some true] ++ [some false] ++ [some true] ++ List.replicate 4 (some false) ++ List.replicate 3 (some true) ++ [some false] ++ [some true] ++ [some false] ++ [some true], [((H != 1), true), ((decide (H > 16)), false), ((K != 3), true), ((decide (H > 16)), false), ((K != 3), true), ((K != 3), true), ((K != 3), true), ((decide (H > 16)), false), ((decide (H > 16)), false), ((decide (H > 16)), false), ((decide (H > 16)), false), ((K == 3), true), ((decide (H < 1)), false), ((K == 3), true), ((decide (H < 1)), false), ((decide (H < 1)), false), ((decide (H < 1)), false), ((K == 3), true), ((K == 3), true), ((K == 3), true), ((K == 3), true), ((B != 0), false), ((decide (B > 64)), false), ((K != 2), true), ((decide (B > 64)), false), ((K != 2), true), ((K != 2), true), ((K != 2), true), ((decide (B > 64)), false), ((decide (B > 64)), false), ((decide (B > 64)), false), ((decide (B > 64)), false), ((K == 2), true), ((decide (B < 1)), false), ((K == 2), true), ((decide (B < 1)), false), ((decide (B < 1)), false), ((decide (B < 1)), false), ((K == 2), true), ((K == 2), true), ((K == 2), true), ((K == 2), true), ((decide (L > 1099511627775)), false), ((decide (L < 2)), false), ((decide (L < 2)), false), ((decide (L < 2)), false), ((decide (L < 2)), false), ((decide (S > 8388607)), false), ((decide (S > 8388607)), false), ((decide (S > 8388607)), false), ((decide (S > 8388607)), false), ((decide (S < 1)), false), ((decide (S < 1)), false), ((decide (S < 1)), false), ((decide (S < 1)), false), ((decide (K > 3)), false), ((decide (K < 1)), false), ((decide (K < 1)), false), ((decide (K < 1)), false), ((decide (K < 1)), false)], Value.int IntKind.i64 (Int.ofNat 3), by kernel_rfl, ⟨h15, h13, h14, h13, h14, h14, h14, h13, h13, h13, h13, h10, h11, h10, h11, h11, h11, h10, h10, h10, h10, h12, h9, h8, h9, h8, h8, h8, h9, h9, h9, h9, h6, h7, h6, h7, h7, h7, h6, h6, h6, h6, h5, h4, h4, h4, h4, h3, h3, h3, h3, h2, h2, h2, h2, h1, h0, h0, h0, h0, trivial⟩, (by simp only [beq_iff_eq, beq_eq_false_iff_ne, ne_eq, decide_eq_true_eq, decide_eq_false_iff_not, bne_iff_ne, bne_eq_false_iff_eq] at *; first | exact cfg_ok (by constructor <;> omega) | exact cfg_bad (by omega) (by omega) | exact cfg_kind (by omega))⟩
                                · exact ⟨List.replicate 18 (some false) ++ List.replicate 4 (some true) ++ List.replicate 3 (some false) ++ [some true] ++ [some false] ++ [some true] ++ List.replicate 4 (some false) ++ List.replicate 3 (some true) ++ [some false] ++ [some true] ++ [some false, some false] ++ List.replicate 4 (some true) ++ List.replicate 3 (some false) ++ [some true] ++ [some false] ++ [some true] ++ List.replicate 4 (some false) ++ List.replicate 3 (some true) ++ [some false] ++ [some true] ++ [some false, some false], [((H != 1), false), ((decide (H > 16)), false), ((K != 3), true), ((decide (H > 16)), false), ((K != 3), true), ((K != 3), true), ((K != 3), true), ((decide (H > 16)), false), ((decide (H > 16)), false), ((decide (H > 16)), false), ((decide (H > 16)), false), ((K == 3), true), ((decide (H < 1)), false), ((K == 3), true), ((decide (H < 1)), false), ((decide (H < 1)), false), ((decide (H < 1)), false), ((K == 3), true), ((K == 3), true), ((K == 3), true), ((K == 3), true), ((B != 0), false), ((decide (B > 64)), false), ((K != 2), true), ((decide (B > 64)), false), ((K != 2), true), ((K != 2), true), ((K != 2), true), ((decide (B > 64)), false), ((decide (B > 64)), false), ((decide (B > 64)), false), ((decide (B > 64)), false), ((K == 2), true), ((decide (B < 1)), false), ((K == 2), true), ((decide (B < 1)), false), ((decide (B < 1)), false), ((decide (B < 1)), false), ((K == 2), true), ((K == 2), true), ((K == 2), true), ((K == 2), true), ((decide (L > 1099511627775)), false), ((decide (L < 2)), false), ((decide (L < 2)), false), ((decide (L < 2)), false), ((decide (L < 2)), false), ((decide (S > 8388607)), false), ((decide (S > 8388607)), false), ((decide (S > 8388607)), false), ((decide (S > 8388607)), false), ((decide (S < 1)), false), ((decide (S < 1)), false), ((decide (S < 1)), false), ((decide (S < 1)), false), ((decide (K > 3)), false), ((decide (K < 1)), false), ((decide (K < 1)), false), ((decide (K < 1)), false), ((decide (K < 1)), false)], Value.int IntKind.i64 (Int.ofNat 0), by kernel_rfl, ⟨h15, h13, h14, h13, h14, h14, h14, h13, h13, h13, h13, h10, h11, h10, h11, h11, h11, h10, h10, h10, h10, h12, h9, h8, h9, h8, h8, h8, h9, h9, h9, h9, h6, h7, h6, h7, h7, h7, h6, h6, h6, h6, h5, h4, h4, h4, h4, h3, h3, h3, h3, h2, h2, h2, h2, h1, h0, h0, h0, h0, trivial⟩, (by simp only [beq_iff_eq, beq_eq_false_iff_ne, ne_eq, decide_eq_true_eq, decide_eq_false_iff_not, bne_iff_ne, bne_eq_false_iff_eq] at *; first | exact cfg_ok (by constructor <;> omega) | exact cfg_bad (by omega) (by omega) | exact cfg_kind (by omega))⟩
                              · exact ⟨List.replicate 18 (some false) ++ List.replicate 4 (some true) ++ List.replicate 3 (some false) ++ [some true] ++ [some false] ++ [some true] ++ List.replicate 4 (some false) ++ List.replicate 3 (some true) ++ [some false] ++ [some true] ++ [some false, some false] ++ List.replicate 4 (some true) ++ List.replicate 3 (some false) ++ [some true] ++ [some false] ++ [some true] ++ List.replicate 10 (some false), [((decide (H > 16)), false), ((K != 3), false), ((decide (H > 16)), false), ((K != 3), false), ((K != 3), false), ((K != 3), false), ((decide (H > 16)), false), ((decide (H > 16)), false), ((decide (H > 16)), false), ((decide (H > 16)), false), ((K == 3), true), ((decide (H < 1)), false), ((K == 3), true), ((decide (H < 1)), false), ((decide (H < 1)), false), ((decide (H < 1)), false), ((K == 3), true), ((K == 3), true), ((K == 3), true), ((K == 3), true), ((B != 0), false), ((decide (B > 64)), false), ((K != 2), true), ((decide (B > 64)), false), ((K != 2), true), ((K != 2), true), ((K != 2), true), ((decide (B > 64)), false), ((decide (B > 64)), false), ((decide (B > 64)), false), ((decide (B > 64)), false), ((K == 2), true), ((decide (B < 1)), false), ((K == 2), true), ((decide (B < 1)), false), ((decide (B < 1)), false), ((decide (B < 1)), false), ((K == 2), true), ((K == 2), true), ((K == 2), true), ((K == 2), true), ((decide (L > 1099511627775)), false), ((decide (L < 2)), false), ((decide (L < 2)), false), ((decide (L < 2)), false), ((decide (L < 2)), false), ((decide (S > 8388607)), false), ((decide (S > 8388607)), false), ((decide (S > 8388607)), false), ((decide (S > 8388607)), false), ((decide (S < 1)), false), ((decide (S < 1)), false), ((decide (S < 1)), false), ((decide (S < 1)), false), ((decide (K > 3)), false), ((decide (K < 1)), false), ((decide (K < 1)), false), ((decide (K < 1)), false), ((decide (K < 1)), false)], Value.int IntKind.i64 (Int.ofNat 0), by kernel_rfl, ⟨h13, h14, h13, h14, h14, h14, h13, h13, h13, h13, h10, h11, h10, h11, h11, h11, h10, h10, h10, h10, h12, h9, h8, h9, h8, h8, h8, h9, h9, h9, h9, h6, h7, h6, h7, h7, h7, h6, h6, h6, h6, h5, h4, h4, h4, h4, h3, h3, h3, h3, h2, h2, h2, h2, h1, h0, h0, h0, h0, trivial⟩, (by simp only [beq_iff_eq, beq_eq_false_iff_ne, ne_eq, decide_eq_true_eq, decide_eq_false_iff_not, bne_iff_ne, bne_eq_false_iff_eq] at *; first | exact cfg_ok (by constructor <;> omega) | exact cfg_bad (by omega) (by omega) | exact cfg_kind (by omega))⟩
                        · rcases Bool.eq_false_or_eq_true (K != 3) with h14 | h14
                          · rcases Bool.eq_false_or_eq_true (H != 1) with h15 | h15
                            · exact ⟨List.replicate 18 (some false) ++ List.replicate 4 (some true) ++ List.replicate 3 (some false) ++ [some true] ++ [some false] ++ [some true] ++ List.replicate 4 (some false) ++ List.replicate 3 (some true) ++ [some false] ++ [some true] ++ List.replicate 8 (some false) ++ List.replicate 4 (none) ++ List.replicate 3 (some true) ++ [none] ++ [some true] ++ [none] ++ [some true], [((H != 1), true), ((K != 3), true), ((K != 3), true), ((K != 3), true), ((K != 3), true), ((K == 3), false), ((K == 3), false), ((K == 3), false), ((K == 3), false), ((K == 3), false), ((K == 3), false), ((B != 0), false), ((decide (B > 64)), false), ((K != 2), true), ((decide (B > 64)), false), ((K != 2), true), ((K != 2), true), ((K != 2), true), ((decide (B > 64)), false), ((decide (B > 64)), false), ((decide (B > 64)), false), ((decide (B > 64)), false), ((K == 2), true), ((decide (B < 1)), false), ((K == 2), true), ((decide (B < 1)), false), ((decide (B < 1)), false), ((decide (B < 1)), false), ((K == 2), true), ((K == 2), true), ((K == 2), true), ((K == 2), true), ((decide (L > 1099511627775)), false), ((decide (L < 2)), false), ((decide (L < 2)), false), ((decide (L < 2)), false), ((decide (L < 2)), false), ((decide (S > 8388607)), false), ((decide (S > 8388607)), false), ((decide (S > 8388607)), false), ((decide (S > 8388607)), false), ((decide (S < 1)), false), ((decide (S < 1)), false), ((decide (S < 1)), false), ((decide (S < 1)), false), ((decide (K > 3)), false), ((decide (K < 1)), false), ((decide (K < 1)), false), ((decide (K < 1)), false), ((decide (K < 1)), false)], Value.int IntKind.i64 (Int.ofNat 3), by kernel_rfl, ⟨h15, h14, h14, h14, h14, h10, h10, h10, h10, h10, h10, h12, h9, h8, h9, h8, h8, h8, h9, h9, h9, h9, h6, h7, h6, h7, h7, h7, h6, h6, h6, h6, h5, h4, h4, h4, h4, h3, h3, h3, h3, h2, h2, h2, h2, h1, h0, h0, h0, h0, trivial⟩, (by simp only [beq_iff_eq, beq_eq_false_iff_ne, ne_eq, decide_eq_true_eq, decide_eq_false_iff_not, bne_iff_ne, bne_eq_false_iff_eq] at *; first | exact cfg_ok (by constructor <;> omega) | exact cfg_bad (by omega) (by omega) | exact cfg_kind (by omega))⟩
                            · exact ⟨List.replicate 18 (some false) ++ List.replicate 4 (some true) ++ List.replicate 3 (some false) ++ [some true] ++ [some false] ++ [some true] ++ List.replicate 4 (some false) ++ List.replicate 3 (some true) ++ [some false] ++ [some true] ++ List.replicate 8 (some false) ++ List.replicate 4 (none) ++ List.replicate 3 (some true) ++ [none] ++ [some true] ++ [none] ++ [some false], [((H != 1), false), ((K != 3), true), ((K != 3), true), ((K != 3), true), ((K != 3), true), ((K == 3), false), ((K == 3), false), ((K == 3), false), ((K == 3), false), ((K == 3), false), ((K == 3), false), ((B != 0), false), ((decide (B > 64)), false), ((K != 2), true), ((decide (B > 64)), false), ((K != 2), true), ((K != 2), true), ((K != 2), true), ((decide (B > 64)), false), ((decide (B > 64)), false), ((decide (B > 64)), false), ((decide (B > 64)), false), ((K == 2), true), ((decide (B < 1)), false), ((K == 2), true), ((decide (B < 1)), false), ((decide (B < 1)), false), ((decide (B < 1)), false), ((K == 2), true), ((K == 2), true), ((K == 2), true), ((K == 2), true), ((decide (L > 1099511627775)), false), ((decide (L < 2)), false), ((decide (L < 2)), false), ((decide (L < 2)), false), ((decide (L < 2)), false), ((decide (S > 8388607)), false), ((decide (S > 8388607)), false), ((decide (S > 8388607)), false), ((decide (S > 8388607)), false), ((decide (S < 1)), false), ((decide (S < 1)), false), ((decide (S < 1)), false), ((decide (S < 1)), false), ((decide (K > 3)), false), ((decide (K < 1)), false), ((decide (K < 1)), false), ((decide (K < 1)), false), ((decide (K < 1)), false)], Value.int IntKind.i64 (Int.ofNat 0), by kernel_rfl, ⟨h15, h14, h14, h14, h14, h10, h10, h10, h10, h10, h10, h12, h9, h8, h9, h8, h8, h8, h9, h9, h9, h9, h6, h7, h6, h7, h7, h7, h6, h6, h6, h6, h5, h4, h4, h4, h4, h3, h3, h3, h3, h2, h2, h2, h2, h1, h0, h0, h0, h0, trivial⟩, (by simp only [beq_iff_eq, beq_eq_false_iff_ne, ne_eq, decide_eq_true_eq, decide_eq_false_iff_not, bne_iff_ne, bne_eq_false_iff_eq] at *; first | exact cfg_ok (by constructor <;> omega) | exact cfg_bad (by omega) (by omega) | exact cfg_kind (by omega))⟩
                          · exact ⟨List.replicate 18 (some false) ++ List.replicate 4 (some true) ++ List.replicate 3 (some false) ++ [some true] ++ [some false] ++ [some true] ++ List.replicate 4 (some false) ++ List.replicate 3 (some true) ++ [some false] ++ [some true] ++ List.replicate 8 (some false) ++ List.replicate 4 (none) ++ List.replicate 3 (some false) ++ [none] ++ [some false], [((K != 3), false), ((K != 3), false), ((K != 3), false), ((K != 3), false), ((K == 3), false), ((K == 3), false), ((K == 3), false), ((K == 3), false), ((K == 3), false), ((K == 3), false), ((B != 0), false), ((decide (B > 64)), false), ((K != 2), true), ((decide (B > 64)), false), ((K != 2), true), ((K != 2), true), ((K != 2), true), ((decide (B > 64)), false), ((decide (B > 64)), false), ((decide (B > 64)), false), ((decide (B > 64)), false), ((K == 2), true), ((decide (B < 1)), false), ((K == 2), true), ((decide (B < 1)), false), ((decide (B < 1)), false), ((decide (B < 1)), false), ((K == 2), true), ((K == 2), true), ((K == 2), true), ((K == 2), true), ((decide (L > 1099511627775)), false), ((decide (L < 2)), false), ((decide (L < 2)), false), ((decide (L < 2)), false), ((decide (L < 2)), false), ((decide (S > 8388607)), false), ((decide (S > 8388607)), false), ((decide (S > 8388607)), false), ((decide (S > 8388607)), false), ((decide (S < 1)), false), ((decide (S < 1)), false), ((decide (S < 1)), false), ((decide (S < 1)), false), ((decide (K > 3)), false), ((decide (K < 1)), false), ((decide (K < 1)), false), ((decide (K < 1)), false), ((decide (K < 1)), false)], Value.int IntKind.i64 (Int.ofNat 0), by kernel_rfl, ⟨h14, h14, h14, h14, h10, h10, h10, h10, h10, h10, h12, h9, h8, h9, h8, h8, h8, h9, h9, h9, h9, h6, h7, h6, h7, h7, h7, h6, h6, h6, h6, h5, h4, h4, h4, h4, h3, h3, h3, h3, h2, h2, h2, h2, h1, h0, h0, h0, h0, trivial⟩, (by simp only [beq_iff_eq, beq_eq_false_iff_ne, ne_eq, decide_eq_true_eq, decide_eq_false_iff_not, bne_iff_ne, bne_eq_false_iff_eq] at *; first | exact cfg_ok (by constructor <;> omega) | exact cfg_bad (by omega) (by omega) | exact cfg_kind (by omega))⟩
                    · rcases Bool.eq_false_or_eq_true (K == 3) with h10 | h10
                      · rcases Bool.eq_false_or_eq_true (decide (H < 1)) with h11 | h11
                        · exact ⟨List.replicate 18 (some false) ++ List.replicate 4 (some true) ++ List.replicate 3 (some false) ++ [some true] ++ [some false] ++ [some true] ++ List.replicate 10 (some false) ++ [none] ++ List.replicate 10 (some true), [((K == 3), true), ((decide (H < 1)), true), ((K == 3), true), ((decide (H < 1)), true), ((decide (H < 1)), true), ((decide (H < 1)), true), ((K == 3), true), ((K == 3), true), ((K == 3), true), ((K == 3), true), ((decide (B > 64)), false), ((K != 2), false), ((decide (B > 64)), false), ((K != 2), false), ((K != 2), false), ((K != 2), false), ((decide (B > 64)), false), ((decide (B > 64)), false), ((decide (B > 64)), false), ((decide (B > 64)), false), ((K == 2), true), ((decide (B < 1)), false), ((K == 2), true), ((decide (B < 1)), false), ((decide (B < 1)), false), ((decide (B < 1)), false), ((K == 2), true), ((K == 2), true), ((K == 2), true), ((K == 2), true), ((decide (L > 1099511627775)), false), ((decide (L < 2)), false), ((decide (L < 2)), false), ((decide (L < 2)), false), ((decide (L < 2)), false), ((decide (S > 8388607)), false), ((decide (S > 8388607)), false), ((decide (S > 8388607)), false), ((decide (S > 8388607)), false), ((decide (S < 1)), false), ((decide (S < 1)), false), ((decide (S < 1)), false), ((decide (S < 1)), false), ((decide (K > 3)), false), ((decide (K < 1)), false), ((decide (K < 1)), false), ((decide (K < 1)), false), ((decide (K < 1)), false)], Value.int IntKind.i64 (Int.ofNat 3), by kernel_rfl, ⟨h10, h11, h10, h11, h11, h11, h10, h10, h10, h10, h9, h8, h9, h8, h8, h8, h9, h9, h9, h9, h6, h7, h6, h7, h7, h7, h6, h6, h6, h6, h5, h4, h4, h4, h4, h3, h3, h3, h3, h2, h2, h2, h2, h1, h0, h0, h0, h0, trivial⟩, (by simp only [beq_iff_eq, beq_eq_false_iff_ne, ne_eq, decide_eq_true_eq, decide_eq_false_iff_not, bne_iff_ne, bne_eq_false_iff_eq] at *; first | exact cfg_ok (by constructor <;> omega) | exact cfg_bad (by omega) (by omega) | exact cfg_kind (by omega))⟩
                        · rcases Bool.eq_false_or_eq_true (decide (H > 16)) with h13 | h13
                          · exact ⟨List.replicate 18 (some false) ++ List.replicate 4 (some true) ++ List.replicate 3 (some false) ++ [some true] ++ [some false] ++ [some true] ++ List.replicate 10 (some false) ++ [none] ++ List.replicate 4 (some true) ++ List.replicate 3 (some false) ++ [some true] ++ [some false] ++ List.replicate 7 (some true), [((decide (H > 16)), true), ((decide (H > 16)), true), ((decide (H > 16)), true), ((decide (H > 16)), true), ((decide (H > 16)), true), ((decide (H > 16)), true), ((K == 3), true), ((decide (H < 1)), false), ((K == 3), true), ((decide (H < 1)), false), ((decide (H < 1)), false), ((decide (H < 1)), false), ((K == 3), true), ((K == 3), true), ((K == 3), true), ((K == 3), true), ((decide (B > 64)), false), ((K != 2), false), ((decide (B > 64)), false), ((K != 2), false), ((K != 2), false), ((K != 2), false), ((decide (B > 64)), false), ((decide (B > 64)), false), ((decide (B > 64)), false), ((decide (B > 64)), false), ((K == 2), true), ((decide (B < 1)), false), ((K == 2), true), ((decide (B < 1)), false), ((decide (B < 1)), false), ((decide (B < 1)), false), ((K == 2), true), ((K == 2), true), ((K == 2), true), ((K == 2), true), ((decide (L > 1099511627775)), false), ((decide (L < 2)), false), ((decide (L < 2)), false), ((decide (L < 2)), false), ((decide (L < 2)), false), ((decide (S > 8388607)), false), ((decide (S > 8388607)), false), ((decide (S > 8388607)), false), ((decide (S > 8388607)), false), ((decide (S < 1)), false), ((decide (S < 1)), false), ((decide (S < 1)), false), ((decide (S < 1)), false), ((decide (K > 3)), false), ((decide (K < 1)), false), ((decide (K < 1)), false), ((decide (K < 1)), false), ((decide (K < 1)), false)], Value.int IntKind.i64 (Int.ofNat 3), by kernel_rfl, ⟨h13, h13, h13, h13, h13, h13, h10, h11, h10, h11, h11, h11, h10, h10, h10, h10, h9, h8, h9, h8, h8, h8, h9, h9, h9, h9, h6, h7, h6, h7, h7, h7, h6, h6, h6, h6, h5, h4, h4, h4, h4, h3, h3, h3, h3, h2, h2, h2, h2, h1, h0, h0, h0, h0, trivial⟩, (by simp only [beq_iff_eq, beq_eq_false_iff_ne, ne_eq, decide_eq_true_eq, decide_eq_false_iff_not, bne_iff_ne, bne_eq_false_iff_eq] at *; first | exact cfg_ok (by constructor <;> omega) | exact cfg_bad (by omega) (by omega) | exact cfg_kind (by omega))⟩
                          · rcases Bool.eq_false_or_eq_true (K != 3) with h14 | h14
                            · rcases Bool.eq_false_or_eq_true (H != 1) with h15 | h15
                              · exact ⟨List.replicate 18 (some false) ++ List.replicate 4 (some true) ++ List.replicate 3 (some false) ++ [some true] ++ [some false] ++ [some true] ++ List.replicate 10 (some false) ++ [none] ++ List.replicate 4 (some true) ++ List.replicate 3 (some false) ++ [some true] ++ [some false] ++ [some true] ++ List.replicate 4 (some false) ++ List.replicate 3 (some true) ++ [some false] ++ [some true] ++ [some false] ++ [some true], [((H != 1), true), ((decide (H > 16)), false), ((K != 3), true), ((decide (H > 16)), false), ((K != 3), true), ((K != 3), true), ((K != 3), true), ((decide (H > 16)), false), ((decide (H > 16)), false), ((decide (H > 16)), false), ((decide (H > 16)), false), ((K == 3), true), ((decide (H < 1)), false), ((K == 3), true), ((decide (H < 1)), false), ((decide (H < 1)), false), ((decide (H < 1)), false), ((K == 3), true), ((K == 3), true), ((K == 3), true), ((K == 3), true), ((decide (B > 64)), false), ((K != 2), false), ((decide (B > 64)), false), ((K != 2), false), ((K != 2), false), ((K != 2), false), ((decide (B > 64)), false), ((decide (B > 64)), false), ((decide (B > 64)), false), ((decide (B > 64)), false), ((K == 2), true), ((decide (B < 1)), false), ((K == 2), true), ((decide (B < 1)), false), ((decide (B < 1)), false), ((decide (B < 1)), false), ((K == 2), true), ((K == 2), true), ((K == 2), true), ((K == 2), true), ((decide (L > 1099511627775)), false), ((decide (L < 2)), false), ((decide (L < 2)), false), ((decide (L < 2)), false), ((decide (L < 2)), false), ((decide (S > 8388607)), false), ((decide (S > 8388607)), false), ((decide (S > 8388607)), false), ((decide (S > 8388607)), false), ((decide (S < 1)), false), ((decide (S < 1)), false), ((decide (S < 1)), false), ((decide (S < 1)), false), ((decide (K > 3)), false), ((decide (K < 1)), false), ((decide (K < 1)), false), ((decide (K < 1)), false), ((decide (K < 1)), false)], Value.int IntKind.i64 (Int.ofNat 3), by kernel_rfl, ⟨h15, h13, h14, h13, h14, h14, h14, h13, h13, h13, h13, h10, h11, h10, h11, h11, h11, h10, h10, h10, h10, h9, h8, h9, h8, h8, h8, h9, h9, h9, h9, h6, h7, h6, h7, h7, h7, h6, h6, h6, h6, h5, h4, h4, h4, h4, h3, h3, h3, h3, h2, h2, h2, h2, h1, h0, h0, h0, h0, trivial⟩, (by simp only [beq_iff_eq, beq_eq_false_iff_ne, ne_eq, decide_eq_true_eq, decide_eq_false_iff_not, bne_iff_ne, bne_eq_false_iff_eq] at *; first | exact cfg_ok (by constructor <;> omega) | exact cfg_bad (by omega) (by omega) | exact cfg_kind (by omega))⟩
                              · exact ⟨List.replicate 18 (some false) ++ List.replicate 4 (some true) ++ List.replicate 3 (some false) ++ [some true] ++ [some false] ++ [some true] ++ List.replicate 10 (some false) ++ [none] ++ List.replicate 4 (some true) ++ List.replicate 3 (some false) ++ [some true] ++ [some false] ++ [some true] ++ List.replicate 4 (some false) ++ List.replicate 3 (some true) ++ [some false] ++ [some true] ++ [some false, some false], [((H != 1), false), ((decide (H > 16)), false), ((K != 3), true), ((decide (H > 16)), false), ((K != 3), true), ((K != 3), true), ((K != 3), true), ((decide (H > 16)), false), ((decide (H > 16)), false), ((decide (H > 16)), false), ((decide (H > 16)), false), ((K == 3), true), ((decide (H < 1)), false), ((K == 3), true), ((decide (H < 1)), false), ((decide (H < 1)), false), ((decide (H < 1)), false), ((K == 3), true), ((K == 3), true), ((K == 3), true), ((K == 3), true), ((decide (B > 64)), false), ((K != 2), false), ((decide (B > 64)), false), ((K != 2), false), ((K != 2), false), ((K != 2), false), ((decide (B > 64)), false), ((decide (B > 64)), false), ((decide (B > 64)), false), ((decide (B > 64)), false), ((K == 2), true), ((decide (B < 1)), false), ((K == 2), true), ((decide (B < 1)), false), ((decide (B < 1)), false), ((decide (B < 1)), false), ((K == 2), true), ((K == 2), true), ((K == 2), true), ((K == 2), true), ((decide (L > 1099511627775)), false), ((decide (L < 2)), false), ((decide (L < 2)), false), ((decide (L < 2)), false), ((decide (L < 2)), false), ((decide (S > 8388607)), false), ((decide (S > 8388607)), false), ((decide (S > 8388607)), false), ((decide (S > 8388607)), false), ((decide (S < 1)), false), ((decide (S < 1)), false), ((decide (S < 1)), false), ((decide (S < 1)), false), ((decide (K > 3)), false), ((decide (K < 1)), false), ((decide (K < 1)), false), ((decide (K < 1)), false), ((decide (K < 1)), false)], Value.int IntKind.i64 (Int.ofNat 0), by kernel_rfl, ⟨h15, h13, h14, h13, h14, h14, h14, h13, h13, h13, h13, h10, h11, h10, h11, h11, h11, h10, h10, h10, h10, h9, h8, h9, h8, h8, h8, h9, h9, h9, h9, h6, h7, h6, h7, h7, h7, h6, h6, h6, h6, h5, h4, h4, h4, h4, h3, h3, h3, h3, h2, h2, h2, h2, h1, h0, h0, h0, h0, trivial⟩, (by simp only [beq_iff_eq, beq_eq_false_iff_ne, ne_eq, decide_eq_true_eq, decide_eq_false_iff_not, bne_iff_ne, bne_eq_false_iff_eq] at *; first | exact cfg_ok (by constructor <;> omega) | exact cfg_bad (by omega) (by omega) | exact cfg_kind (by omega))⟩
                            · exact ⟨List.replicate 18 (some false) ++ List.replicate 4 (some true) ++ List.replicate 3 (some false) ++ [some true] ++ [some false] ++ [some true] ++ List.replicate 10 (some false) ++ [none] ++ List.replicate 4 (some true) ++ List.replicate 3 (some false) ++ [some true] ++ [some false] ++ [some true] ++ List.replicate 10 (some false), [((decide (H > 16)), false), ((K != 3), false), ((decide (H > 16)), false), ((K != 3), false), ((K != 3), false), ((K != 3), false), ((decide (H > 16)), false), ((decide (H > 16)), false), ((decide (H > 16)), false), ((decide (H > 16)), false), ((K == 3), true), ((decide (H < 1)), false), ((K == 3), true), ((decide (H < 1)), false), ((decide (H < 1)), false), ((decide (H < 1)), false), ((K == 3), true), ((K == 3), true), ((K == 3), true), ((K == 3), true), ((decide (B > 64)), false), ((K != 2), false), ((decide (B > 64)), false), ((K != 2), false), ((K != 2), false), ((K != 2), false), ((decide (B > 64)), false), ((decide (B > 64)), false), ((decide (B > 64)), false), ((decide (B > 64)), false), ((K == 2), true), ((decide (B < 1)), false), ((K == 2), true), ((decide (B < 1)), false), ((decide (B < 1)), false), ((decide (B < 1)), false), ((K == 2), true), ((K == 2), true), ((K == 2), true), ((K == 2), true), ((decide (L > 1099511627775)), false), ((decide (L < 2)), false), ((decide (L < 2)), false), ((decide (L < 2)), false), ((decide (L < 2)), false), ((decide (S > 8388607)), false), ((decide (S > 8388607)), false), ((decide (S > 8388607)), false), ((decide (S > 8388607)), false), ((decide (S < 1)), false), ((decide (S < 1)), false), ((decide (S < 1)), false), ((decide (S < 1)), false), ((decide (K > 3)), false), ((decide (K < 1)), false), ((decide (K < 1)), false), ((decide (K < 1)), false), ((decide (K < 1)), false)], Value.int IntKind.i64 (Int.ofNat 0), by kernel_rfl, ⟨h13, h14, h13, h14, h14, h14, h13, h13, h13, h13, h10, h11, h10, h11, h11, h11, h10, h10, h10, h10, h9, h8, h9, h8, h8, h8, h9, h9, h9, h9, h6, h7, h6, h7, h7, h7, h6, h6, h6, h6, h5, h4, h4, h4, h4, h3, h3, h3, h3, h2, h2, h2, h2, h1, h0, h0, h0, h0, trivial⟩, (by simp only [beq_iff_eq, beq_eq_false_iff_ne, ne_eq, decide_eq_true_eq, decide_eq_false_iff_not, bne_iff_ne, bne_eq_false_iff_eq] at *; first | exact cfg_ok (by constructor <;> omega) | exact cfg_bad (by omega) (by omega) | exact cfg_kind (by omega))⟩
                      · rcases Bool.eq_false_or_eq_true (K != 3) with h14 | h14
                        · rcases Bool.eq_false_or_eq_true (H != 1) with h15 | h15
                          · exact ⟨List.replicate 18 (some false) ++ List.replicate 4 (some true) ++ List.replicate 3 (some false) ++ [some true] ++ [some false] ++ [some true] ++ List.replicate 10 (some false) ++ [none] ++ List.replicate 6 (some false) ++ List.replicate 4 (none) ++ List.replicate 3 (some true) ++ [none] ++ [some true] ++ [none] ++ [some true], [((H != 1), true), ((K != 3), true), ((K != 3), true), ((K != 3), true), ((K != 3), true), ((K == 3), false), ((K == 3), false), ((K == 3), false), ((K == 3), false), ((K == 3), false), ((K == 3), false), ((decide (B > 64)), false), ((K != 2), false), ((decide (B > 64)), false), ((K != 2), false), ((K != 2), false), ((K != 2), false), ((decide (B > 64)), false), ((decide (B > 64)), false), ((decide (B > 64)), false), ((decide (B > 64)), false), ((K == 2), true), ((decide (B < 1)), false), ((K == 2), true), ((decide (B < 1)), false), ((decide (B < 1)), false), ((decide (B < 1)), false), ((K == 2), true), ((K == 2), true), ((K == 2), true), ((K == 2), true), ((decide (L > 1099511627775)), false), ((decide (L < 2)), false), ((decide (L < 2)), false), ((decide (L < 2)), false), ((decide (L < 2)), false), ((decide (S > 8388607)), false), ((decide (S > 8388607)), false), ((decide (S > 8388607)), false), ((decide (S > 8388607)), false), ((decide (S < 1)), false), ((decide (S < 1)), false), ((decide (S < 1)), false), ((decide (S < 1)), false), ((decide (K > 3)), false), ((decide (K < 1)), false), ((decide (K < 1)), false), ((decide (K < 1)), false), ((decide (K < 1)), false)], Value.int IntKind.i64 (Int.ofNat 3), by kernel_rfl, ⟨h15, h14, h14, h14, h14, h10, h10, h10, h10, h10, h10, h9, h8, h9, h8, h8, h8, h9, h9, h9, h9, h6, h7, h6, h7, h7, h7, h6, h6, h6, h6, h5, h4, h4, h4, h4, h3, h3, h3, h3, h2, h2, h2, h2, h1, h0, h0, h0, h0, trivial⟩, (by simp only [beq_iff_eq, beq_eq_false_iff_ne, ne_eq, decide_eq_true_eq, decide_eq_false_iff_not, bne_iff_ne, bne_eq_false_iff_eq] at *; first | exact cfg_ok (by constructor <;> omega) | exact cfg_bad (by omega) (by omega) | exact cfg_kind (by omega))⟩
                          · exact ⟨List.replicate 18 (some false) ++ List.replicate 4 (some true) ++ List.replicate 3 (some false) ++ [some true] ++ [some false] ++ [some true] ++ List.replicate 10 (some false) ++ [none] ++ List.replicate 6 (some false) ++ List.replicate 4 (none) ++ List.replicate 3 (some true) ++ [none] ++ [some true] ++ [none] ++ [some false], [((H != 1), false), ((K != 3), true), ((K != 3), true), ((K != 3), true), ((K != 3), true), ((K == 3), false), ((K == 3), false), ((K == 3), false), ((K == 3), false), ((K == 3), false), ((K == 3), false), ((decide (B > 64)), false), ((K != 2), false), ((decide (B > 64)), false), ((K != 2), false), ((K != 2), false), ((K != 2), false), ((decide (B > 64)), false), ((decide (B > 64)), false), ((decide (B > 64)), false), ((decide (B > 64)), false), ((K == 2), true), ((decide (B < 1)), false), ((K == 2), true), ((decide (B < 1)), false), ((decide (B < 1)), false), ((decide (B < 1)), false), ((K == 2), true), ((K == 2), true), ((K == 2), true), ((K == 2), true), ((decide (L > 1099511627775)), false), ((decide (L < 2)), false), ((decide (L < 2)), false), ((decide (L < 2)), false), ((decide (L < 2)), false), ((decide (S > 8388607)), false), ((decide (S > 8388607)), false), ((decide (S > 8388607)), false), ((decide (S > 8388607)), false), ((decide (S < 1)), false), ((decide (S < 1)), false), ((decide (S < 1)), false), ((decide (S < 1)), false), ((decide (K > 3)), false), ((decide (K < 1)), false), ((decide (K < 1)), false), ((decide (K < 1)), false), ((decide (K < 1)), false)], Value.int IntKind.i64 (Int.ofNat 0), by kernel_rfl, ⟨h15, h14, h14, h14, h14, h10, h10, h10, h10, h10, h10, h9, h8, h9, h8, h8, h8, h9, h9, h9, h9, h6, h7, h6, h7, h7, h7, h6, h6, h6, h6, h5, h4, h4, h4, h4, h3, h3, h3, h3, h2, h2, h2, h2, h1, h0, h0, h0, h0, trivial⟩, (by simp only [beq_iff_eq, beq_eq_false_iff_ne, ne_eq, decide_eq_true_eq, decide_eq_false_iff_not, bne_iff_ne, bne_eq_false_iff_eq] at *; first | exact cfg_ok (by constructor <;> omega) | exact cfg_bad (by omega) (by omega) | exact cfg_kind (by omega))⟩
                        · exact ⟨List.replicate 18 (some false) ++ List.replicate 4 (some true) ++ List.replicate 3 (some false) ++ [some true] ++ [some false] ++ [some true] ++ List.replicate 10 (some false) ++ [none] ++ List.replicate 6 (some false) ++ List.replicate 4 (none) ++ List.replicate 3 (some false) ++ [none] ++ [some false], [((K != 3), false), ((K != 3), false), ((K != 3), false), ((K != 3), false), ((K == 3), false), ((K == 3), false), ((K == 3), false), ((K == 3), false), ((K == 3), false), ((K == 3), false), ((decide (B > 64)), false), ((K != 2), false), ((decide (B > 64)), false), ((K != 2), false), ((K != 2), false), ((K != 2), false), ((decide (B > 64)), false), ((decide (B > 64)), false), ((decide (B > 64)), false), ((decide (B > 64)), false), ((K == 2), true), ((decide (B < 1)), false), ((K == 2), true), ((decide (B < 1)), false), ((decide (B < 1)), false), ((decide (B < 1)), false), ((K == 2), true), ((K == 2), true), ((K == 2), true), ((K == 2), true), ((decide (L > 1099511627775)), false), ((decide (L < 2)), false), ((decide (L < 2)), false), ((decide (L < 2)), false), ((decide (L < 2)), false), ((decide (S > 8388607)), false), ((decide (S > 8388607)), false), ((decide (S > 8388607)), false), ((decide (S > 8388607)), false), ((decide (S < 1)), false), ((decide (S < 1)), false), ((decide (S < 1)), false), ((decide (S < 1)), false), ((decide (K > 3)), false), ((decide (K < 1)), false), ((decide (K < 1)), false), ((decide (K < 1)), false), ((decide (K < 1)), false)], Value.int IntKind.i64 (Int.ofNat 0), by kernel_rfl, ⟨h14, h14, h14, h14, h10, h10, h10, h10, h10, h10, h9, h8, h9, h8, h8, h8, h9, h9, h9, h9, h6, h7, h6, h7, h7, h7, h6, h6, h6, h6, h5, h4, h4, h4, h4, h3, h3, h3, h3, h2, h2, h2, h2, h1, h0, h0, h0, h0, trivial⟩, (by simp only [beq_iff_eq, beq_eq_false_iff_ne, ne_eq, decide_eq_true_eq, decide_eq_false_iff_not, bne_iff_ne, bne_eq_false_iff_eq] at *; first | exact cfg_ok (by constructor <;> omega) | exact cfg_bad (by omega) (by omega) | exact cfg_kind (by omega))⟩
              · rcases Bool.eq_false_or_eq_true (K != 2) with h8 | h8
                · rcases Bool.eq_false_or_eq_true (B != 0) with h12 | h12
                  · exact ⟨List.replicate 24 (some false) ++ List.replicate 4 (none) ++ List.replicate 3 (some true) ++ [none] ++ [some true] ++ [none] ++ [some true], [((B != 0), true), ((K != 2), true), ((K != 2), true), ((K != 2), true), ((K != 2), true), ((K == 2), false), ((K == 2), false), ((K == 2), false), ((K == 2), false), ((K == 2), false), ((K == 2), false), ((decide (L > 1099511627775)), false), ((decide (L < 2)), false), ((decide (L < 2)), false), ((decide (L < 2)), false), ((decide (L < 2)), false), ((decide (S > 8388607)), false), ((decide (S > 8388607)), false), ((decide (S > 8388607)), false), ((decide (S > 8388607)), false), ((decide (S < 1)), false), ((decide (S < 1)), false), ((decide (S < 1)), false), ((decide (S < 1)), false), ((decide (K > 3)), false), ((decide (K < 1)), false), ((decide (K < 1)), false), ((decide (K < 1)), false), ((decide (K < 1)), false)], Value.int IntKind.i64 (Int.ofNat 3), by kernel_rfl, ⟨h12, h8, h8, h8, h8, h6, h6, h6, h6, h6, h6, h5, h4, h4, h4, h4, h3, h3, h3, h3, h2, h2, h2, h2, h1, h0, h0, h0, h0, trivial⟩, (by simp only [beq_iff_eq, beq_eq_false_iff_ne, ne_eq, decide_eq_true_eq, decide_eq_false_iff_not, bne_iff_ne, bne_eq_false_iff_eq] at *; first | exact cfg_ok (by constructor <;> omega) | exact cfg_bad (by omega) (by omega) | exact cfg_kind (by omega))⟩
                  · rcases Bool.eq_false_or_eq_true (K == 3) with h10 | h10
                    · rcases Bool.eq_false_or_eq_true (decide (H < 1)) with h11 | h11
                      · exact ⟨List.replicate 24 (some false) ++ List.replicate 4 (none) ++ List.replicate 3 (some true) ++ [none] ++ [some true] ++ [none] ++ [some false] ++ List.replicate 10 (some true), [((K == 3), true), ((decide (H < 1)), true), ((K == 3), true), ((decide (H < 1)), true), ((decide (H < 1)), true), ((decide (H < 1)), true), ((K == 3), true), ((K == 3), true), ((K == 3), true), ((K == 3), true), ((B != 0), false), ((K != 2), true), ((K != 2), true), ((K != 2), true), ((K != 2), true), ((K == 2), false), ((K == 2), false), ((K == 2), false), ((K == 2), false), ((K == 2), false), ((K == 2), false), ((decide (L > 1099511627775)), false), ((decide (L < 2)), false), ((decide (L < 2)), false), ((decide (L < 2)), false), ((decide (L < 2)), false), ((decide (S > 8388607)), false), ((decide (S > 8388607)), false), ((decide (S > 8388607)), false), ((decide (S > 8388607)), false), ((decide (S < 1)), false), ((decide (S < 1)), false), ((decide (S < 1)), false), ((decide (S < 1)), false), ((decide (K > 3)), false), ((decide (K < 1)), false), ((decide (K < 1)), false), ((decide (K < 1)), false), ((decide (K < 1)), false)], Value.int IntKind.i64 (Int.ofNat 3), by kernel_rfl, ⟨h10, h11, h10, h11, h11, h11, h10, h10, h10, h10, h12, h8, h8, h8, h8, h6, h6, h6, h6, h6, h6, h5, h4, h4, h4, h4, h3, h3, h3, h3, h2, h2, h2, h2, h1, h0, h0, h0, h0, trivial⟩, (by simp only [beq_iff_eq, beq_eq_false_iff_ne, ne_eq, decide_eq_true_eq, decide_eq_false_iff_not, bne_iff_ne, bne_eq_false_iff_eq] at *; first | exact cfg_ok (by constructor <;> omega) | exact cfg_bad (by omega) (by omega) | exact cfg_kind (by omega))⟩
                      · rcases Bool.eq_false_or_eq_true (decide (H > 16)) with h13 | h13
                        · exact ⟨List.replicate 24 (some false) ++ List.replicate 4 (none) ++ List.replicate 3 (some true) ++ [none] ++ [some true] ++ [none] ++ [some false] ++ List.replicate 4 (some true) ++ List.replicate 3 (some false) ++ [some true] ++ [some false] ++ List.replicate 7 (some true), [((decide (H > 16)), true), ((decide (H > 16)), true), ((decide (H > 16)), true), ((decide (H > 16)), true), ((decide (H > 16)), true), ((decide (H > 16)), true), ((K == 3), true), ((decide (H < 1)), false), ((K == 3), true), ((decide (H < 1)), false), ((decide (H < 1)), false), ((decide (H < 1)), false), ((K == 3), true), ((K == 3), true), ((K == 3), true), ((K == 3), true), ((B != 0), false), ((K != 2), true), ((K != 2), true), ((K != 2), true), ((K != 2), true), ((K == 2), false), ((K == 2), false), ((K == 2), false), ((K == 2), false), ((K == 2), false), ((K == 2), false), ((decide (L > 1099511627775)), false), ((decide (L < 2)), false), ((decide (L < 2)), false), ((decide (L < 2)), false), ((decide (L < 2)), false), ((decide (S > 8388607)), false), ((decide (S > 8388607)), false), ((decide (S > 8388607)), false), ((decide (S > 8388607)), false), ((decide (S < 1)), false), ((decide (S < 1)), false), ((decide (S < 1)), false), ((decide (S < 1)), false), ((decide (K > 3)), false), ((decide (K < 1)), false), ((decide (K < 1)), false), ((decide (K < 1)), false), ((decide (K < 1)), false)], Value.int IntKind.i64 (Int.ofNat 3), by kernel_rfl, ⟨h13, h13, h13, h13, h13, h13, h10, h11, h10, h11, h11, h11, h10, h10, h10, h10, h12, h8, h8, h8, h8, h6, h6, h6, h6, h6, h6, h5, h4, h4, h4, h4, h3, h3, h3, h3, h2, h2, h2, h2, h1, h0, h0, h0, h0, trivial⟩, (by simp only [beq_iff_eq, beq_eq_false_iff_ne, ne_eq, decide_eq_true_eq, decide_eq_false_iff_not, bne_iff_ne, bne_eq_false_iff_eq] at *; first | exact cfg_ok (by constructor <;> omega) | exact cfg_bad (by omega) (by omega) | exact cfg_kind (by omega))⟩
                        · rcases Bool.eq_false_or_eq_true (K != 3) with h14 | h14
                          · rcases Bool.eq_false_or_eq_true (H != 1) with h15 | h15
                            · exact ⟨List.replicate 24 (some false) ++ List.replicate 4 (none) ++ List.replicate 3 (some true) ++ [none] ++ [some true] ++ [none] ++ [some false] ++ List.replicate 4 (some true) ++ List.replicate 3 (some false) ++ [some true] ++ [some false] ++ [some true] ++ List.replicate 4 (some false) ++ List.replicate 3 (some true) ++ [some false] ++ [some true] ++ [some false] ++ [some true], [((H != 1), true), ((decide (H > 16)), false), ((K != 3), true), ((decide (H > 16)), false), ((K != 3), true), ((K != 3), true), ((K != 3), true), ((decide (H > 16)), false), ((decide (H > 16)), false), ((decide (H > 16)), false), ((decide (H > 16)), false), ((K == 3), true), ((decide (H < 1)), false), ((K == 3), true), ((decide (H < 1)), false), ((decide (H < 1)), false), ((decide (H < 1)), false), ((K == 3), true), ((K == 3), true), ((K == 3), true), ((K == 3), true), ((B != 0), false), ((K != 2), true), ((K != 2), true), ((K != 2), true), ((K != 2), true), ((K == 2), false), ((K == 2), false), ((K == 2), false), ((K == 2), false), ((K == 2), false), ((K == 2), false), ((decide (L > 1099511627775)), false), ((decide (L < 2)), false), ((decide (L < 2)), false), ((decide (L < 2)), false), ((decide (L < 2)), false), ((decide (S > 8388607)), false), ((decide (S > 8388607)), false), ((decide (S > 8388607)), false), ((decide (S > 8388607)), false), ((decide (S < 1)), false), ((decide (S < 1)), false), ((decide (S < 1)), false), ((decide (S < 1)), false), ((decide (K > 3)), false), ((decide (K < 1)), false), ((decide (K < 1)), false), ((decide (K < 1)), false), ((decide (K < 1)), false)], Value.int IntKind.i64 (Int.ofNat 3), by kernel_rfl, ⟨h15, h13, h14, h13, h14, h14, h14, h13, h13, h13, h13, h10, h11, h10, h11, h11, h11, h10, h10, h10, h10, h12, h8, h8, h8, h8, h6, h6, h6, h6, h6, h6, h5, h4, h4, h4, h4, h3, h3, h3, h3, h2, h2, h2, h2, h1, h0, h0, h0, h0, trivial⟩, (by simp only [beq_iff_eq, beq_eq_false_iff_ne, ne_eq, decide_eq_true_eq, decide_eq_false_iff_not, bne_iff_ne, bne_eq_false_iff_eq] at *; first | exact cfg_ok (by constructor <;> omega) | exact cfg_bad (by omega) (by omega) | exact cfg_kind (by omega))⟩
                            · exact ⟨List.replicate 24 (some false) ++ List.replicate 4 (none) ++ List.replicate 3 (some true) ++ [none] ++ [some true] ++ [none] ++ [some false] ++ List.replicate 4 (some true) ++ List.replicate 3 (some false) ++ [some true] ++ [some false] ++ [some true] ++ List.replicate 4 (some false) ++ List.replicate 3 (some true) ++ [some false] ++ [some true] ++ [some false, some false], [((H != 1), false), ((decide (H > 16)), false), ((K != 3), true), ((decide (H > 16)), false), ((K != 3), true), ((K != 3), true), ((K != 3), true), ((decide (H > 16)), false), ((decide (H > 16)), false), ((decide (H > 16)), false), ((decide (H > 16)), false), ((K == 3), true), ((decide (H < 1)), false), ((K == 3), true), ((decide (H < 1)), false), ((decide (H < 1)), false), ((decide (H < 1)), false), ((K == 3), true), ((K == 3), true), ((K == 3), true), ((K == 3), true), ((B != 0), false), ((K != 2), true), ((K != 2), true), ((K != 2), true), ((K != 2), true), ((K == 2), false), ((K == 2), false), ((K == 2), false), ((K == 2), false), ((K == 2), false), ((K == 2), false), ((decide (L > 1099511627775)), false), ((decide (L < 2)), false), ((decide (L < 2)), false), ((decide (L < 2)), false), ((decide (L < 2)), false), ((decide (S > 8388607)), false), ((decide (S > 8388607)), false), ((decide (S > 8388607)), false), ((decide (S > 8388607)), false), ((decide (S < 1)), false), ((decide (S < 1)), false), ((decide (S < 1)), false), ((decide (S < 1)), false), ((decide (K > 3)), false), ((decide (K < 1)), false), ((decide (K < 1)), false), ((decide (K < 1)), false), ((decide (K < 1)), false)], Value.int IntKind.i64 (Int.ofNat 0), by kernel_rfl, ⟨h15, h13, h14, h13, h14, h14, h14, h13, h13, h13, h13, h10, h11, h10, h11, h11, h11, h10, h10, h10, h10, h12, h8, h8, h8, h8, h6, h6, h6, h6, h6, h6, h5, h4, h4, h4, h4, h3, h3, h3, h3, h2, h2, h2, h2, h1, h0, h0, h0, h0, trivial⟩, (by simp only [beq_iff_eq, beq_eq_false_iff_ne, ne_eq, decide_eq_true_eq, decide_eq_false_iff_not, bne_iff_ne, bne_eq_false_iff_eq] at *; first | exact cfg_ok (by constructor <;> omega) | exact cfg_bad (by omega) (by omega) | exact cfg_kind (by omega))⟩
                          · exact ⟨List.replicate 24 (some false) ++ List.replicate 4 (none) ++ List.replicate 3 (some true) ++ [none] ++ [some true] ++ [none] ++ [some false] ++ List.replicate 4 (some true) ++ List.replicate 3 (some false) ++ [some true] ++ [some false] ++ [some true] ++ List.replicate 10 (some false), [((decide (H > 16)), false), ((K != 3), false), ((decide (H > 16)), false), ((K != 3), false), ((K != 3), false), ((K != 3), false), ((decide (H > 16)), false), ((decide (H > 16)), false), ((decide (H > 16)), false), ((decide (H > 16)), false), ((K == 3), true), ((decide (H < 1)), false), ((K == 3), true), ((decide (H < 1)), false), ((decide (H < 1)), false), ((decide (H < 1)), false), ((K == 3), true), ((K == 3), true), ((K == 3), true), ((K == 3), true), ((B != 0), false), ((K != 2), true), ((K != 2), true), ((K != 2), true), ((K != 2), true), ((K == 2), false), ((K == 2), false), ((K == 2), false), ((K == 2), false), ((K == 2), false), ((K == 2), false), ((decide (L > 1099511627775)), false), ((decide (L < 2)), false), ((decide (L < 2)), false), ((decide (L < 2)), false), ((decide (L < 2)), false), ((decide (S > 8388607)), false), ((decide (S > 8388607)), false), ((decide (S > 8388607)), false), ((decide (S > 8388607)), false), ((decide (S < 1)), false), ((decide (S < 1)), false), ((decide (S < 1)), false), ((decide (S < 1)), false), ((decide (K > 3)), false), ((decide (K < 1)), false), ((decide (K < 1)), false), ((decide (K < 1)), false), ((decide (K < 1)), false)], Value.int IntKind.i64 (Int.ofNat 0), by kernel_rfl, ⟨h13, h14, h13, h14, h14, h14, h13, h13, h13, h13, h10, h11, h10, h11, h11, h11, h10, h10, h10, h10, h12, h8, h8, h8, h8, h6, h6, h6, h6, h6, h6, h5, h4, h4, h4, h4, h3, h3, h3, h3, h2, h2, h2, h2, h1, h0, h0, h0, h0, trivial⟩, (by simp only [beq_iff_eq, beq_eq_false_iff_ne, ne_eq, decide_eq_true_eq, decide_eq_false_iff_not, bne_iff_ne, bne_eq_false_iff_eq] at *; first | exact cfg_ok (by constructor <;> omega) | exact cfg_bad (by omega) (by omega) | exact cfg_kind (by omega))⟩
                    · rcases Bool.eq_false_or_eq_true (K != 3) with h14 | h14
                      · rcases Bool.eq_false_or_eq_true (H != 1) with h15 | h15
                        · exact ⟨List.replicate 24 (some false) ++ List.replicate 4 (none) ++ List.replicate 3 (some true) ++ [none] ++ [some true] ++ [none] ++ List.replicate 7 (some false) ++ List.replicate 4 (none) ++ List.replicate 3 (some true) ++ [none] ++ [some true] ++ [none] ++ [some true], [((H != 1), true), ((K != 3), true), ((K != 3), true), ((K != 3), true), ((K != 3), true), ((K == 3), false), ((K == 3), false), ((K == 3), false), ((K == 3), false), ((K == 3), false), ((K == 3), false), ((B != 0), false), ((K != 2), true), ((K != 2), true), ((K != 2), true), ((K != 2), true), ((K == 2), false), ((K == 2), false), ((K == 2), false), ((K == 2), false), ((K == 2), false), ((K == 2), false), ((decide (L > 1099511627775)), false), ((decide (L < 2)), false), ((decide (L < 2)), false), ((decide (L < 2)), false), ((decide (L < 2)), false), ((decide (S > 8388607)), false), ((decide (S > 8388607)), false), ((decide (S > 8388607)), false), ((decide (S > 8388607)), false), ((decide (S < 1)), false), ((decide (S < 1)), false), ((decide (S < 1)), false), ((decide (S < 1)), false), ((decide (K > 3)), false), ((decide (K < 1)), false), ((decide (K < 1)), false), ((decide (K < 1)), false), ((decide (K < 1)), false)], Value.int IntKind.i64 (Int.ofNat 3), by kernel_rfl, ⟨h15, h14, h14, h14, h14, h10, h10, h10, h10, h10, h10, h12, h8, h8, h8, h8, h6, h6, h6, h6, h6, h6, h5, h4, h4, h4, h4, h3, h3, h3, h3, h2, h2, h2, h2, h1, h0, h0, h0, h0, trivial⟩, (by simp only [beq_iff_eq, beq_eq_false_iff_ne, ne_eq, decide_eq_true_eq, decide_eq_false_iff_not, bne_iff_ne, bne_eq_false_iff_eq] at *; first | exact cfg_ok (by constructor <;> omega) | exact cfg_bad (by omega) (by omega) | exact cfg_kind (by omega))⟩
                        · exact ⟨List.replicate 24 (some false) ++ List.replicate 4 (none) ++ List.replicate 3 (some true) ++ [none] ++ [some true] ++ [none] ++ List.replicate 7 (some false) ++ List.replicate 4 (none) ++ List.replicate 3 (some true) ++ [none] ++ [some true] ++ [none] ++ [some false], [((H != 1), false), ((K != 3), true), ((K != 3), true), ((K != 3), true), ((K != 3), true), ((K == 3), false), ((K == 3), false), ((K == 3), false), ((K == 3), false), ((K == 3), false), ((K == 3), false), ((B != 0), false), ((K != 2), true), ((K != 2), true), ((K != 2), true), ((K != 2), true), ((K == 2), false), ((K == 2), false), ((K == 2), false), ((K == 2), false), ((K == 2), false), ((K == 2), false), ((decide (L > 1099511627775)), false), ((decide (L < 2)), false), ((decide (L < 2)), false), ((decide (L < 2)), false), ((decide (L < 2)), false), ((decide (S > 8388607)), false), ((decide (S > 8388607)), false), ((decide (S > 8388607)), false), ((decide (S > 8388607)), false), ((decide (S < 1)), false), ((decide (S < 1)), false), ((decide (S < 1)), false), ((decide (S < 1)), false), ((decide (K > 3)), false), ((decide (K < 1)), false), ((decide (K < 1)), false), ((decide (K < 1)), false), ((decide (K < 1)), false)], Value.int IntKind.i64 (Int.ofNat 0), by kernel_rfl, ⟨h15, h14, h14, h14, h14, h10, h10, h10, h10, h10, h10, h12, h8, h8, h8, h8, h6, h6, h6, h6, h6, h6, h5, h4, h4, h4, h4, h3, h3, h3, h3, h2, h2, h2, h2, h1, h0, h0, h0, h0, trivial⟩, (by simp only [beq_iff_eq, beq_eq_false_iff_ne, ne_eq, decide_eq_true_eq, decide_eq_false_iff_not, bne_iff_ne, bne_eq_false_iff_eq] at *; first | exact cfg_ok (by constructor <;> omega) | exact cfg_bad (by omega) (by omega) | exact cfg_kind (by omega))⟩
                      · exact ⟨List.replicate 24 (some false) ++ List.replicate 4 (none) ++ List.replicate 3 (some true) ++ [none] ++ [some true] ++ [none] ++ List.replicate 7 (some false) ++ List.replicate 4 (none) ++ List.replicate 3 (some false) ++ [none] ++ [some false], [((K != 3), false), ((K != 3), false), ((K != 3), false), ((K != 3), false), ((K == 3), false), ((K == 3), false), ((K == 3), false), ((K == 3), false), ((K == 3), false), ((K == 3), false), ((B != 0), false), ((K != 2), true), ((K != 2), true), ((K != 2), true), ((K != 2), true), ((K == 2), false), ((K == 2), false), ((K == 2), false), ((K == 2), false), ((K == 2), false), ((K == 2), false), ((decide (L > 1099511627775)), false), ((decide (L < 2)), false), ((decide (L < 2)), false), ((decide (L < 2)), false), ((decide (L < 2)), false), ((decide (S > 8388607)), false), ((decide (S > 8388607)), false), ((decide (S > 8388607)), false), ((decide (S > 8388607)), false), ((decide (S < 1)), false), ((decide (S < 1)), false), ((decide (S < 1)), false), ((decide (S < 1)), false), ((decide (K > 3)), false), ((decide (K < 1)), false), ((decide (K < 1)), false), ((decide (K < 1)), false), ((decide (K < 1)), false)], Value.int IntKind.i64 (Int.ofNat 0), by kernel_rfl, ⟨h14, h14, h14, h14, h10, h10, h10, h10, h10, h10, h12, h8, h8, h8, h8, h6, h6, h6, h6, h6, h6, h5, h4, h4, h4, h4, h3, h3, h3, h3, h2, h2, h2, h2, h1, h0, h0, h0, h0, trivial⟩, (by simp only [beq_iff_eq, beq_eq_false_iff_ne, ne_eq, decide_eq_true_eq, decide_eq_false_iff_not, bne_iff_ne, bne_eq_false_iff_eq] at *; first | exact cfg_ok (by constructor <;> omega) | exact cfg_bad (by omega) (by omega) | exact cfg_kind (by omega))⟩
                · rcases Bool.eq_false_or_eq_true (K == 3) with h10 | h10
                  · rcases Bool.eq_false_or_eq_true (decide (H < 1)) with h11 | h11
                    · exact ⟨List.replicate 24 (some false) ++ List.replicate 4 (none) ++ List.replicate 3 (some false) ++ [none] ++ [some false] ++ [none, none] ++ List.replicate 10 (some true), [((K == 3), true), ((decide (H < 1)), true), ((K == 3), true), ((decide (H < 1)), true), ((decide (H < 1)), true), ((decide (H < 1)), true), ((K == 3), true), ((K == 3), true), ((K == 3), true), ((K == 3), true), ((K != 2), false), ((K != 2), false), ((K != 2), false), ((K != 2), false), ((K == 2), false), ((K == 2), false), ((K == 2), false), ((K == 2), false), ((K == 2), false), ((K == 2), false), ((decide (L > 1099511627775)), false), ((decide (L < 2)), false), ((decide (L < 2)), false), ((decide (L < 2)), false), ((decide (L < 2)), false), ((decide (S > 8388607)), false), ((decide (S > 8388607)), false), ((decide (S > 8388607)), false), ((decide (S > 8388607)), false), ((decide (S < 1)), false), ((decide (S < 1)), false), ((decide (S < 1)), false), ((decide (S < 1)), false), ((decide (K > 3)), false), ((decide (K < 1)), false), ((decide (K < 1)), false), ((decide (K < 1)), false), ((decide (K < 1)), false)], Value.int IntKind.i64 (Int.ofNat 3), by kernel_rfl, ⟨h10, h11, h10, h11, h11, h11, h10, h10, h10, h10, h8, h8, h8, h8, h6, h6, h6, h6, h6, h6, h5, h4, h4, h4, h4, h3, h3, h3, h3, h2, h2, h2, h2, h1, h0, h0, h0, h0, trivial⟩, (by simp only [beq_iff_eq, beq_eq_false_iff_ne, ne_eq, decide_eq_true_eq, decide_eq_false_iff_not, bne_iff_ne, bne_eq_false_iff_eq] at *; first | exact cfg_ok (by constructor <;> omega) | exact cfg_bad (by omega) (by omega) | exact cfg_kind (by omega))⟩
                    · rcases Bool.eq_false_or_eq_true (decide (H > 16)) with h13 | h13
                      · exact ⟨List.replicate 24 (some false) ++ List.replicate 4 (none) ++ List.replicate 3 (some false) ++ [none] ++ [some false] ++ [none, none] ++ List.replicate 4 (some true) ++ List.replicate 3 (some false) ++ [some true] ++ [some false] ++ List.replicate 7 (some true), [((decide (H > 16)), true), ((decide (H > 16)), true), ((decide (H > 16)), true), ((decide (H > 16)), true), ((decide (H > 16)), true), ((decide (H > 16)), true), ((K == 3), true), ((decide (H < 1)), false), ((K == 3), true), ((decide (H < 1)), false), ((decide (H < 1)), false), ((decide (H < 1)), false), ((K == 3), true), ((K == 3), true), ((K == 3), true), ((K == 3), true), ((K != 2), false), ((K != 2), false), ((K != 2), false), ((K != 2), false), ((K == 2), false), ((K == 2), false), ((K == 2), false), ((K == 2), false), ((K == 2), false), ((K == 2), false), ((decide (L > 1099511627775)), false), ((decide (L < 2)), false), ((decide (L < 2)), false), ((decide (L < 2)), false), ((decide (L < 2)), false), ((decide (S > 8388607)), false), ((decide (S > 8388607)), false), ((decide (S > 8388607)), false), ((decide (S > 8388607)), false), ((decide (S < 1)), false), ((decide (S < 1)), false), ((decide (S < 1)), false), ((decide (S < 1)), false), ((decide (K > 3)), false), ((decide (K < 1)), false), ((decide (K < 1)), false), ((decide (K < 1)), false), ((decide (K < 1)), false)], Value.int IntKind.i64 (Int.ofNat 3), by kernel_rfl, ⟨h13, h13, h13, h13, h13, h13, h10, h11, h10, h11, h11, h11, h10, h10, h10, h10, h8, h8, h8, h8, h6, h6, h6, h6, h6, h6, h5, h4, h4, h4, h4, h3, h3, h3, h3, h2, h2, h2, h2, h1, h0, h0, h0, h0, trivial⟩, (by simp only [beq_iff_eq, beq_eq_false_iff_ne, ne_eq, decide_eq_true_eq, decide_eq_false_iff_not, bne_iff_ne, bne_eq_false_iff_eq] at *; first | exact cfg_ok (by constructor <;> omega) | exact cfg_bad (by omega) (by omega) | exact cfg_kind (by omega))⟩
                      · rcases Bool.eq_false_or_eq_true (K != 3) with h14 | h14
                        · rcases Bool.eq_false_or_eq_true (H != 1) with h15 | h15
                          · exact ⟨List.replicate 24 (some false) ++ List.replicate 4 (none) ++ List.replicate 3 (some false) ++ [none] ++ [some false] ++ [none, none] ++ List.replicate 4 (some true) ++ List.replicate 3 (some false) ++ [some true] ++ [some false] ++ [some true] ++ List.replicate 4 (some false) ++ List.replicate 3 (some true) ++ [some false] ++ [some true] ++ [some false] ++ [some true], [((H != 1), true), ((decide (H > 16)), false), ((K != 3), true), ((decide (H > 16)), false), ((K != 3), true), ((K != 3), true), ((K != 3), true), ((decide (H > 16)), false), ((decide (H > 16)), false), ((decide (H > 16)), false), ((decide (H > 16)), false), ((K == 3), true), ((decide (H < 1)), false), ((K == 3), true), ((decide (H < 1)), false), ((decide (H < 1)), false), ((decide (H < 1)), false), ((K == 3), true), ((K == 3), true), ((K == 3), true), ((K == 3), true), ((K != 2), false), ((K != 2), false), ((K != 2), false), ((K != 2), false), ((K == 2), false), ((K == 2), false), ((K == 2), false), ((K == 2), false), ((K == 2), false), ((K == 2), false), ((decide (L > 1099511627775)), false), ((decide (L < 2)), false), ((decide (L < 2)), false), ((decide (L < 2)), false), ((decide (L < 2)), false), ((decide (S > 8388607)), false), ((decide (S > 8388607)), false), ((decide (S > 8388607)), false), ((decide (S > 8388607)), false), ((decide (S < 1)), false), ((decide (S < 1)), false), ((decide (S < 1)), false), ((decide (S < 1)), false), ((decide (K > 3)), false), ((decide (K < 1)), false), ((decide (K < 1)), false), ((decide (K < 1)), false), ((decide (K < 1)), false)], Value.int IntKind.i64 (Int.ofNat 3), by kernel_rfl, ⟨h15, h13, h14, h13, h14, h14, h14, h13, h13, h13, h13, h10, h11, h10, h11, h11, h11, h10, h10, h10, h10, h8, h8, h8, h8, h6, h6, h6, h6, h6, h6, h5, h4, h4, h4, h4, h3, h3, h3, h3, h2, h2, h2, h2, h1, h0, h0, h0, h0, trivial⟩, (by simp only [beq_iff_eq, beq_eq_false_iff_ne, ne_eq, decide_eq_true_eq, decide_eq_false_iff_not, bne_iff_ne, bne_eq_false_iff_eq] at *; first | exact cfg_ok (by constructor <;> omega) | exact cfg_bad (by omega) (by omega) | exact cfg_kind (by omega))⟩
                          · exact ⟨List.replicate 24 (some false) ++ List.replicate 4 (none) ++ List.replicate 3 (some false) ++ [none] ++ [some false] ++ [none, none] ++ List.replicate 4 (some true) ++ List.replicate 3 (some false) ++ [some true] ++ [some false] ++ [some true] ++ List.replicate 4 (some false) ++ List.replicate 3 (some true) ++ [some false] ++ [some true] ++ [some false, some false], [((H != 1), false), ((decide (H > 16)), false), ((K != 3), true), ((decide (H > 16)), false), ((K != 3), true), ((K != 3), true), ((K != 3), true), ((decide (H > 16)), false), ((decide (H > 16)), false), ((decide (H > 16)), false), ((decide (H > 16)), false), ((K == 3), true), ((decide (H < 1)), false), ((K == 3), true), ((decide (H < 1)), false), ((decide (H < 1)), false), ((decide (H < 1)), false), ((K == 3), true), ((K == 3), true), ((K == 3), true), ((K == 3), true), ((K != 2), false), ((K != 2), false), ((K != 2), false), ((K != 2), false), ((K == 2), false), ((K == 2), false), ((K == 2), false), ((K == 2), false), ((K == 2), false), ((K == 2), false), ((decide (L > 1099511627775)), false), ((decide (L < 2)), false), ((decide (L < 2)), false), ((decide (L < 2)), false), ((decide (L < 2)), false), ((decide (S > 8388607)), false), ((decide (S > 8388607)), false), ((decide (S > 8388607)), false), ((decide (S > 8388607)), false), ((decide (S < 1)), false), ((decide (S < 1)), false), ((decide (S < 1)), false), ((decide (S < 1)), false), ((decide (K > 3)), false), ((decide (K < 1)), false), ((decide (K < 1)), false), ((decide (K < 1)), false), ((decide (K < 1)), false)], Value.int IntKind.i64 (Int.ofNat 0), by kernel_rfl, ⟨h15, h13, h14, h13, h14, h14, h14, h13, h13, h13, h13, h10, h11, h10, h11, h11, h11, h10, h10, h10, h10, h8, h8, h8, h8, h6, h6, h6, h6, h6, h6, h5, h4, h4, h4, h4, h3, h3, h3, h3, h2, h2, h2, h2, h1, h0, h0, h0, h0, trivial⟩, (by simp only [beq_iff_eq, beq_eq_false_iff_ne, ne_eq, decide_eq_true_eq, decide_eq_false_iff_not, bne_iff_ne, bne_eq_false_iff_eq] at *; first | exact cfg_ok (by constructor <;> omega) | exact cfg_bad (by omega) (by omega) | exact cfg_kind (by omega))⟩
                        · exact ⟨List.replicate 24 (some false) ++ List.replicate 4 (none) ++ List.replicate 3 (some false) ++ [none] ++ [some false] ++ [none, none] ++ List.replicate 4 (some true) ++ List.replicate 3 (some false) ++ [some true] ++ [some false] ++ [some true] ++ List.replicate 10 (some false), [((decide (H > 16)), false), ((K != 3), false), ((decide (H > 16)), false), ((K != 3), false), ((K != 3), false), ((K != 3), false), ((decide (H > 16)), false), ((decide (H > 16)), false), ((decide (H > 16)), false), ((decide (H > 16)), false), ((K == 3), true), ((decide (H < 1)), false), ((K == 3), true), ((decide (H < 1)), false), ((decide (H < 1)), false), ((decide (H < 1)), false), ((K == 3), true), ((K == 3), true), ((K == 3), true), ((K == 3), true), ((K != 2), false), ((K != 2), false), ((K != 2), false), ((K != 2), false), ((K == 2), false), ((K == 2), false), ((K == 2), false), ((K == 2), false), ((K == 2), false), ((K == 2), false), ((decide (L > 1099511627775)), false), ((decide (L < 2)), false), ((decide (L < 2)), false), ((decide (L < 2)), false), ((decide (L < 2)), false), ((decide (S > 8388607)), false), ((decide (S > 8388607)), false), ((decide (S > 8388607)), false), ((decide (S > 8388607)), false), ((decide (S < 1)), false), ((decide (S < 1)), false), ((decide (S < 1)), false), ((decide (S < 1)), false), ((decide (K > 3)), false), ((decide (K < 1)), false), ((decide (K < 1)), false), ((decide (K < 1)), false), ((decide (K < 1)), false)], Value.int IntKind.i64 (Int.ofNat 0), by kernel_rfl, ⟨h13, h14, h13, h14, h14, h14, h13, h13, h13, h13, h10, h11, h10, h11, h11, h11, h10, h10, h10, h10, h8, h8, h8, h8, h6, h6, h6, h6, h6, h6, h5, h4, h4, h4, h4, h3, h3, h3, h3, h2, h2, h2, h2, h1, h0, h0, h0, h0, trivial⟩, (by simp only [beq_iff_eq, beq_eq_false_iff_ne, ne_eq, decide_eq_true_eq, decide_eq_false_iff_not, bne_iff_ne, bne_eq_false_iff_eq] at *; first | exact cfg_ok (by constructor <;> omega) | exact cfg_bad (by omega) (by omega) | exact cfg_kind (by omega))⟩
                  · rcases Bool.eq_false_or_eq_true (K != 3) with h14 | h14
                    · rcases Bool.eq_false_or_eq_true (H != 1) with h15 | h15
                      · exact ⟨List.replicate 24 (some false) ++ List.replicate 4 (none) ++ List.replicate 3 (some false) ++ [none] ++ [some false] ++ [none, none] ++ List.replicate 6 (some false) ++ List.replicate 4 (none) ++ List.replicate 3 (some true) ++ [none] ++ [some true] ++ [none] ++ [some true], [((H != 1), true), ((K != 3), true), ((K != 3), true), ((K != 3), true), ((K != 3), true), ((K == 3), false), ((K == 3), false), ((K == 3), false), ((K == 3), false), ((K == 3), false), ((K == 3), false), ((K != 2), false), ((K != 2), false), ((K != 2), false), ((K != 2), false), ((K == 2), false), ((K == 2), false), ((K == 2), false), ((K == 2), false), ((K == 2), false), ((K == 2), false), ((decide (L > 1099511627775)), false), ((decide (L < 2)), false), ((decide (L < 2)), false), ((decide (L < 2)), false), ((decide (L < 2)), false), ((decide (S > 8388607)), false), ((decide (S > 8388607)), false), ((decide (S > 8388607)), false), ((decide (S > 8388607)), false), ((decide (S < 1)), false), ((decide (S < 1)), false), ((decide (S < 1)), false), ((decide (S < 1)), false), ((decide (K > 3)), false), ((decide (K < 1)), false), ((decide (K < 1)), false), ((decide (K < 1)), false), ((decide (K < 1)), false)], Value.int IntKind.i64 (Int.ofNat 3), by kernel_rfl, ⟨h15, h14, h14, h14, h14, h10, h10, h10, h10, h10, h10, h8, h8, h8, h8, h6, h6, h6, h6, h6, h6, h5, h4, h4, h4, h4, h3, h3, h3, h3, h2, h2, h2, h2, h1, h0, h0, h0, h0, trivial⟩, (by simp only [beq_iff_eq, beq_eq_false_iff_ne, ne_eq, decide_eq_true_eq, decide_eq_false_iff_not, bne_iff_ne, bne_eq_false_iff_eq] at *; first | exact cfg_ok (by constructor <;> omega) | exact cfg_bad (by omega) (by omega) | exact cfg_kind (by omega))⟩
                      · exact ⟨List.replicate 24 (some false) ++ List.replicate 4 (none) ++ List.replicate 3 (some false) ++ [none] ++ [some false] ++ [none, none] ++ List.replicate 6 (some false) ++ List.replicate 4 (none) ++ List.replicate 3 (some true) ++ [none] ++ [some true] ++ [none] ++ [some false], [((H != 1), false), ((K != 3), true), ((K != 3), true), ((K != 3), true), ((K != 3), true), ((K == 3), false), ((K == 3), false), ((K == 3), false), ((K == 3), false), ((K == 3), false), ((K == 3), false), ((K != 2), false), ((K != 2), false), ((K != 2), false), ((K != 2), false), ((K == 2), false), ((K == 2), false), ((K == 2), false), ((K == 2), false), ((K == 2), false), ((K == 2), false), ((decide (L > 1099511627775)), false), ((decide (L < 2)), false), ((decide (L < 2)), false), ((decide (L < 2)), false), ((decide (L < 2)), false), ((decide (S > 8388607)), false), ((decide (S > 8388607)), false), ((decide (S > 8388607)), false), ((decide (S > 8388607)), false), ((decide (S < 1)), false), ((decide (S < 1)), false), ((decide (S < 1)), false), ((decide (S < 1)), false), ((decide (K > 3)), false), ((decide (K < 1)), false), ((decide (K < 1)), false), ((decide (K < 1)), false), ((decide (K < 1)), false)], Value.int IntKind.i64 (Int.ofNat 0), by kernel_rfl, ⟨h15, h14, h14, h14, h14, h10, h10, h10, h10, h10, h10, h8, h8, h8, h8, h6, h6, h6, h6, h6, h6, h5, h4, h4, h4, h4, h3, h3, h3, h3, h2, h2, h2, h2, h1, h0, h0, h0, h0, trivial⟩, (by simp only [beq_iff_eq, beq_eq_false_iff_ne, ne_eq, decide_eq_true_eq, decide_eq_false_iff_not, bne_iff_ne, bne_eq_false_iff_eq] at *; first | exact cfg_ok (by constructor <;> omega) | exact cfg_bad (by omega) (by omega) | exact cfg_kind (by omega))⟩
                    · exact ⟨List.replicate 24 (some false) ++ List.replicate 4 (none) ++ List.replicate 3 (some false) ++ [none] ++ [some false] ++ [none, none] ++ List.replicate 6 (some false) ++ List.replicate 4 (none) ++ List.replicate 3 (some false) ++ [none] ++ [some false], [((K != 3), false), ((K != 3), false), ((K != 3), false), ((K != 3), false), ((K == 3), false), ((K == 3), false), ((K == 3), false), ((K == 3), false), ((K == 3), false), ((K == 3), false), ((K != 2), false), ((K != 2), false), ((K != 2), false), ((K != 2), false), ((K == 2), false), ((K == 2), false), ((K == 2), false), ((K == 2), false), ((K == 2), false), ((K == 2), false), ((decide (L > 1099511627775)), false), ((decide (L < 2)), false), ((decide (L < 2)), false), ((decide (L < 2)), false), ((decide (L < 2)), false), ((decide (S > 8388607)), false), ((decide (S > 8388607)), false), ((decide (S > 8388607)), false), ((decide (S > 8388607)), false), ((decide (S < 1)), false), ((decide (S < 1)), false), ((decide (S < 1)), false), ((decide (S < 1)), false), ((decide (K > 3)), false), ((decide (K < 1)), false), ((decide (K < 1)), false), ((decide (K < 1)), false), ((decide (K < 1)), false)], Value.int IntKind.i64 (Int.ofNat 0), by kernel_rfl, ⟨h14, h14, h14, h14, h10, h10, h10, h10, h10, h10, h8, h8, h8, h8, h6, h6, h6, h6, h6, h6, h5, h4, h4, h4, h4, h3, h3, h3, h3, h2, h2, h2, h2, h1, h0, h0, h0, h0, trivial⟩, (by simp only [beq_iff_eq, beq_eq_false_iff_ne, ne_eq, decide_eq_true_eq, decide_eq_false_iff_not, bne_iff_ne, bne_eq_false_iff_eq] at *; first | exact cfg_ok (by constructor <;> omega) | exact cfg_bad (by omega) (by omega) | exact cfg_kind (by omega))⟩
noncomputable def tabCG : Tab := (Tab.one 73 (kCfg fun K S B H L => .int .i64 (cfgE K S B H L))).or (Tab.one 12 (kCfg fun K S B H L => .int .i64 (cfgE K S B H L)))
theorem tabCG_ok : TabOK Try.prog tabCG := (TabOK.cfg fun K S B H L w => good_calls (args := [.agg [iv K, iv S, iv B, iv H, iv L]]) (check_cfg K S B H L) rfl w).or (TabOK.cfg fun K S B H L w => good_calls (args := [.agg [iv K, iv S, iv B, iv H, iv L]]) (check_ref K S B H L) rfl w)
end Go.Proofs.Ytpaiejeipghehaa
end
section
/- The executor with links, the document's Cells, and the queue, known. No condition. -/
namespace Go.Proofs.Ytpaiejeipghehaa
noncomputable abbrev libQE : Lib Rep := (lib0.with ((Tab.one 10 kTrue).or (tabL.or tabCG))).more (primQ primUP)
theorem libQE_ok : LibOK repAt Try.prog libQE := Lib.more_ok (Lib.with_ok lib0_ok ((TabOK.true awake13).or (tabL_ok.or tabCG_ok))) (primQ_ok primUP_ok)
end Go.Proofs.Ytpaiejeipghehaa
end
section
/- CoreExact: the states at its loop's head. No condition. -/
namespace Go.Proofs.Ytpaiejeipghehaa
noncomputable abbrev qeF : FuncId := 3
noncomputable abbrev qeZ : Nat := slotsOf Try.prog qeF
noncomputable def qeL : Code × List Fr := loopOf Try.prog qeF 0
noncomputable def qeL2 : Code × List Fr := loopIn qeL 0
abbrev qeQ : Ex → Sym Rep → Prop := Ends Try.prog Try.f3 fun l _ => l = [.v (.bool true)]
structure QEA where
  c0 : Int
  c1 : Int
  c2 : Int
  c3 : Int
  c4 : Int
  K : Nat → Int
  W : Nat → Int
  S : Nat → Int
  I : Nat → Int
  VW : Nat → Int
  VI : Nat → Int
  VS : Nat → Bool
  len : Nat
def QEA.cols (a : QEA) : List Col := [.int .i64 a.K, .int .u64 a.W, .int .i64 a.S, .int .i64 a.I, .int .u64 a.VW, .int .i64 a.VI, .bool a.VS]
def QEA.conf (a : QEA) : SV := .agg [iv a.c0, iv a.c1, iv a.c2, iv a.c3, iv a.c4]
def QEA.ok (a : QEA) : Prop := ∀ j, j < a.len → (Lit.int .u64 (a.W j)).wf = true ∧ (Lit.int .u64 (a.VW j)).wf = true
def qeS (a : QEA) (i n E hs hi ht rolls idv room l1 l2 l3 l4 : Int) (xs : List Ent) (k : Nat) (S R D : Nat → Int) (G U : Pl → Int) (qn nm um : Nat) : Sym Rep :=
  ⟨[(5, .ptr 0 0), (6, .ptr 1 0), (7, .ptr 2 0), (8, .ptr 3 0), (9, .ptr 4 0), (1, .tsl 5 a.len), (2, .ptr 6 0), (10, iv n), (11, iv i)],
   [(0, .row [iv a.c0, iv a.c1, iv a.c2, iv a.c3, iv a.c4, iv E, .ptr 7 0, iv hs, iv hi, iv rolls] 150),
    (1, .row [iv a.c0, iv a.c1, iv a.c2, iv a.c3, iv a.c4, iv E, .tsl 8 k, iv room, iv ht, iv rolls] 34),
    (2, .row [.ptr 9 0] 154), (3, .rep (.ucells [] U um)), (4, .row [iv idv] 3),
    (5, .rep (.tab [.int .i64 a.K, .int .u64 a.W, .int .i64 a.S, .int .i64 a.I, .int .u64 a.VW, .int .i64 a.VI, .bool a.VS] a.len)),
    (6, .row [iv a.c0, iv a.c1, iv a.c2, iv a.c3, iv a.c4] 23),
    (7, .rep (.queue xs qn)), (8, .rep (.vec [.int .i64 S, .int .i64 R, .int .i64 D] k 63)),
    (9, .row [.mp 10, iv n, iv l1, iv l2, iv l3, iv l4] 209), (10, .rep (.pmap [] G nm))], 11⟩
def qeCfg : Stop → List Gen × List Nat
  | .fin .ret _ => ([], [4])
  | _ => ([.map 3, .map 10], [5, 6, 7, 8, 9, 1, 2, 10, 11])
/-- As many as were pushed and put by then; both sides alike. -/
structure QEW (b E hs hi ht idv : Int) (xs : List Ent) (k : Nat) (S : Nat → Int) (G U : Pl → Int) (qn nm um : Nat) : Prop where
  gu : U = G
  hh : ht = hs
  e0 : 0 ≤ E
  h0 : 0 ≤ hs
  id : hs ≠ 0 → hi = idv
  z : hs = 0 → hi = 0
  wf : (Lit.int .u64 (G (1, 0, 0))).wf = true
  q : (qn : Int) ≤ b
  m : (nm : Int) ≤ b + 1
  u : (um : Int) ≤ b + 1
  kb : (k : Int) ≤ b
  len : k = xs.length
  row : ∀ j, j < k → S j = (xs.getD j (0, 0, 0)).1 ∧ (xs.getD j (0, 0, 0)).2.1 = 0
section
variable {b E hs hi ht idv : Int} {xs : List Ent} {k : Nat} {S : Nat → Int} {G U : Pl → Int} {qn nm um : Nat}
theorem QEW.up (h : QEW b E hs hi ht idv xs k S G U qn nm um) : QEW (b + 1) E hs hi ht idv xs k S G U qn nm um :=
  ⟨h.gu, h.hh, h.e0, h.h0, h.id, h.z, h.wf, by have := h.q; omega, by have := h.m; omega, by have := h.u; omega, by have := h.kb; omega, h.len, h.row⟩
theorem QEW.ep (h : QEW b E hs hi ht idv xs k S G U qn nm um) {E' : Int} (h1 : 0 ≤ E') : QEW (b + 1) E' hs hi ht idv xs k S G U qn nm um :=
  ⟨h.gu, h.hh, h1, h.h0, h.id, h.z, h.wf, h.up.q, h.up.m, h.up.u, h.up.kb, h.len, h.row⟩
theorem QEW.mem (h : QEW b E hs hi ht idv xs k S G U qn nm um) {v : Int} (hv : (Lit.int .u64 v).wf = true) {nm' um' : Nat} (h1 : nm' ≤ nm + 1) (h2 : um' ≤ um + 1) : QEW (b + 1) E hs hi ht idv xs k S (getL [((1, 0, 0), v)] G) (getL [((1, 0, 0), v)] G) qn nm' um' :=
  ⟨rfl, h.hh, h.e0, h.h0, h.id, h.z, by rw [getL_same]; exact hv, h.up.q, by have := h.m; omega, by have := h.u; omega, h.up.kb, h.len, h.row⟩
theorem QEW.memz (h : QEW b E hs hi ht idv xs k S G U qn nm um) {v : Int} (hv : (v == 0) = true) {nm' um' : Nat} (h1 : nm' ≤ nm + 1) (h2 : um' ≤ um + 1) : QEW (b + 1) E hs hi ht idv xs k S (getL [((1, 0, 0), 0)] G) (getL [((1, 0, 0), v)] G) qn nm' um' := by
  obtain rfl := beq_iff_eq.1 hv
  exact h.mem (by decide) h1 h2
theorem QEW.none (h : QEW b E hs hi ht idv xs k S G U qn nm um) (h1 : (hs != 0) = false) : QEW (b + 1) E hs hi 0 idv xs k S G U qn nm um := by
  have e := bne_eq_false_iff_eq.1 h1
  have := h.up
  rw [h.hh, e] at this
  rw [e]
  exact this
theorem QEW.hold (h : QEW b E hs hi ht idv xs k S G U qn nm um) {s d : Int} (h1 : decide (s < 1) = false) : QEW (b + 1) E s d s d xs k S G U qn nm um :=
  have h1 := of_decide_eq_false h1
  ⟨h.gu, rfl, h.e0, by omega, fun _ => rfl, fun e => by omega, h.wf, h.up.q, h.up.m, h.up.u, h.up.kb, h.len, h.row⟩
theorem QEW.take (h : QEW b E hs hi ht idv xs k S G U qn nm um) : QEW (b + 1) E 0 0 0 idv xs k S G U qn nm um :=
  ⟨h.gu, rfl, h.e0, by omega, fun e => absurd rfl e, fun _ => rfl, h.wf, h.up.q, h.up.m, h.up.u, h.up.kb, h.len, h.row⟩
theorem QEW.drop (h : QEW b E hs hi ht idv xs k S G U qn nm um) : QEW (b + 1) E 0 0 0 idv (xs ++ [(hs, 0, hi)]) (k + 1) (joinI S k fun _ => hs) G U (qn + 1) nm um := by
  refine ⟨h.gu, rfl, h.e0, by omega, fun e => absurd rfl e, fun _ => rfl, h.wf, by have := h.q; omega, h.up.m, h.up.u, by have := h.kb; omega, by simp [h.len], fun j hj => ?_⟩
  have hk := h.len
  subst hk
  by_cases e : j < xs.length
  · rw [joinI_old e, show (xs ++ [(hs, (0 : Int), hi)]).getD j (0, 0, 0) = xs.getD j (0, 0, 0) by simp [List.getD, List.getElem?_append_left e]]
    exact h.row j e
  · obtain rfl : j = xs.length := by omega
    rw [joinI_new (Nat.le_refl _)]
    simp [List.getD]
end
def qeP (a : QEA) (i _n E hs hi ht _rolls idv _room _l1 _l2 _l3 _l4 : Int) (xs : List Ent) (k : Nat) (S _R _D : Nat → Int) (G U : Pl → Int) (qn nm um : Nat) : Prop := 0 ≤ i ∧ i ≤ 100 ∧ a.ok ∧ QEW i E hs hi ht idv xs k S G U qn nm um
theorem qe_id {hs hi idv : Int} (h : hs ≠ 0 → hi = idv) (k : (hs != 0) = true) : (hs == hs && (hi == idv && true)) = true := by
  rw [h (bne_iff_ne.1 k)]
  simp
theorem qe_z {hs hi : Int} (h : hs = 0 → hi = 0) (k : (hs != 0) = false) : (hs == 0 && (hi == 0 && true)) = true := by
  have := bne_eq_false_iff_eq.1 k
  rw [h this, this]
  rfl
theorem eq_f {b : Bool} (h : b = false) : (b == false) = true := by rw [h]; rfl
theorem eq_t {b : Bool} (h : b = true) : (b == true) = true := by rw [h]; rfl
theorem lkMarked_off {w s v : Int} (h : lkMark w = false) : lkMarked w s v = lkWord true s v := by
  unfold lkMarked
  rw [if_neg (by rw [h]; simp)]
theorem wrap_neg {w : Int} (h : (Lit.int .u64 w).wf = true) : decide (w < 9223372036854775808) = !decide (IntKind.i64.wrap w < 0) := by
  obtain ⟨h0, h1⟩ := word_pos h
  by_cases e : w < 9223372036854775808
  · rw [wrapI (by omega) (by omega), decide_eq_true e, decide_eq_false (by omega)]
    rfl
  · have : IntKind.i64.wrap w = w - 18446744073709551616 := by
      have hc : (IntKind.i64.signed && decide (w % 2 ^ IntKind.i64.bits ≥ 2 ^ (IntKind.i64.bits - 1))) = true := by
        rw [Bool.and_eq_true, decide_eq_true_eq]
        exact ⟨rfl, by show (2 : Int) ^ 63 ≤ w % 2 ^ 64; omega⟩
      show (if (IntKind.i64.signed && decide (w % 2 ^ IntKind.i64.bits ≥ 2 ^ (IntKind.i64.bits - 1))) = true then w % 2 ^ IntKind.i64.bits - 2 ^ IntKind.i64.bits else w % 2 ^ IntKind.i64.bits) = _
      rw [if_pos hc]
      show w % 2 ^ 64 - 2 ^ 64 = _
      omega
    rw [this, decide_eq_false e, decide_eq_true (by omega)]
    rfl
def qeCfgR : Goer → List Gen × List Nat
  | .out .ret => ([], [4])
  | _ => ([.map 3, .map 10], [5, 6, 7, 8, 9, 1, 2, 10, 11])
noncomputable def qeC : Code × List Fr := cutIn qeL.1 20
def qiS (a : QEA) (i n E hs hi ht rolls idv room l1 l2 l3 l4 : Int) (xs : List Ent) (k : Nat) (S R D : Nat → Int) (G U : Pl → Int) (qn nm um : Nat) (j : Int) : Sym Rep :=
  ⟨[(5, .ptr 0 0), (6, .ptr 1 0), (7, .ptr 2 0), (8, .ptr 3 0), (9, .ptr 4 0), (1, .tsl 5 a.len), (2, .ptr 6 0), (10, iv n), (11, iv i), (14, .tsl 7 xs.length), (15, iv j)],
   [(0, .row [iv a.c0, iv a.c1, iv a.c2, iv a.c3, iv a.c4, iv E, .ptr 8 0, iv hs, iv hi, iv rolls] 150),
    (1, .row [iv a.c0, iv a.c1, iv a.c2, iv a.c3, iv a.c4, iv E, .tsl 9 k, iv room, iv ht, iv rolls] 34),
    (2, .row [.ptr 10 0] 154), (3, .rep (.ucells [] U um)), (4, .row [iv idv] 3),
    (5, .rep (.tab [.int .i64 a.K, .int .u64 a.W, .int .i64 a.S, .int .i64 a.I, .int .u64 a.VW, .int .i64 a.VI, .bool a.VS] a.len)),
    (6, .row [iv a.c0, iv a.c1, iv a.c2, iv a.c3, iv a.c4] 23),
    (7, .rep (.vec [.int .i64 fun i => (xs.getD i (0, 0, 0)).1, .int .i64 fun i => (xs.getD i (0, 0, 0)).2.1, .int .i64 fun i => (xs.getD i (0, 0, 0)).2.2] xs.length 62)),
    (8, .rep (.queue xs qn)), (9, .rep (.vec [.int .i64 S, .int .i64 R, .int .i64 D] k 63)),
    (10, .row [.mp 11, iv n, iv l1, iv l2, iv l3, iv l4] 209), (11, .rep (.pmap [] G nm))], 12⟩
def qiCfg : Stop → List Gen × List Nat
  | .fin .ret _ => ([], [4])
  | _ => ([.map 3, .map 11], [5, 6, 7, 8, 9, 1, 2, 10, 11, 14, 15])
def qiP (a : QEA) (r0 : Nat) (i _n E hs hi ht _rolls idv _room _l1 _l2 _l3 _l4 : Int) (xs : List Ent) (k : Nat) (S _R _D : Nat → Int) (G U : Pl → Int) (qn nm um : Nat) (j : Int) : Prop :=
  0 ≤ j ∧ j ≤ k ∧ r0 = 100 - i.toNat ∧ 0 ≤ i ∧ i < 100 ∧ a.ok ∧ QEW (i + 1) E hs hi ht idv xs k S G U qn nm um
def qeCfg0 : Stop → List Gen × List Nat
  | .fin .ret _ => ([], [4])
  | _ => ([.nilC 1 6 [.int .i64, .int .i64, .int .i64] 63, .map 3, .map 9], [5, 6, 7, 8, 9, 1, 2, 10, 11])
theorem qe_b1 {z : Int} (h : (z != 0) = true) : ((!((none : Option Addr).isNone)) == (z == 0)) = true := by
  have := bne_iff_ne.1 h
  rw [beq_false_of_ne this]
  rfl
theorem qe_b2 {z : Int} (h : (z != 0) = false) : ((!false) == (z == 0)) = true := by
  have := bne_eq_false_iff_eq.1 h
  rw [this]
  rfl
end Go.Proofs.Ytpaiejeipghehaa
end
