/- Push onto a queue that is known: the entries go behind all others; the room doubles when it is full. -/
import Derived.Test.YtjediiajmnlonaaQ5
namespace Go.Proofs.Ytjediiajmnlonaa
open Go.RowKit

theorem QAt.place {w : World} {q rb L f t : Nat} {xs : List Ent} (h : QAt w q rb L f t xs) (n : Nat) :
    ∃ x : Ent, (w.cell? ⟨rb, (n % L) * 3, none⟩ = some (.int .i64 x.1) ∧ w.cell? ⟨rb, (n % L) * 3 + 1, none⟩ = some (.int .i64 x.2.1) ∧ w.cell? ⟨rb, (n % L) * 3 + 2, none⟩ = some (.int .i64 x.2.2)) ∧
      w.frozen? ⟨rb, (n % L) * 3, none⟩ = false ∧ w.frozen? ⟨rb, (n % L) * 3 + 1, none⟩ = false ∧ w.frozen? ⟨rb, (n % L) * 3 + 2, none⟩ = false := by
  obtain ⟨R, hl, hb, hr⟩ := h.ring
  have hp := h.pos
  obtain ⟨x, hx⟩ : ∃ x, R[n % L]? = some x := ⟨_, List.getElem?_eq_getElem (by rw [hl]; exact Nat.mod_lt _ (by omega))⟩
  refine ⟨x, ⟨?_, ?_, ?_⟩, hb.frozen _, hb.frozen _, hb.frozen _⟩
  · have := flat_get ent_len R (n % L) 0 (by omega)
    rw [hb.cell, ← Nat.add_zero (n % L * 3), this, hx]; rfl
  · rw [hb.cell, flat_get ent_len R (n % L) 1 (by omega), hx]; rfl
  · rw [hb.cell, flat_get ent_len R (n % L) 2 (by omega), hx]; rfl

theorem take_snoc' {α : Type} {xs : List α} {k : Nat} {x : α} (h : xs[k]? = some x) : xs.take (k + 1) = xs.take k ++ [x] := by
  have hk := lt_of_some h
  rw [List.take_succ_eq_append_getElem hk]
  rw [List.getElem?_eq_getElem hk] at h
  injection h with h
  rw [h]

theorem set3 {α : Type} (l : List α) (i : Nat) (h : i + 2 < l.length) (a b c : α) : ((l.set i a).set (i + 1) b).set (i + 2) c = l.take i ++ ([a, b, c] ++ l.drop (i + 3)) := by
  induction i generalizing l with
  | zero =>
    match l, h with
    | x :: y :: z :: r, _ => rfl
  | succ i ih =>
    match l, h with
    | x :: r, h => simpa [Nat.add_right_comm] using ih r (by simp at h; omega)

theorem QAt.pushed {w : World} {q rb L f t : Nat} {xs : List Ent} (h : QAt w q rb L f t xs) (hroom : xs.length < L) (ht : t + 1 < 1099511627776) (y : Ent) :
    QAt ((((w.setCell ⟨rb, t % L * 3, none⟩ (.int .i64 y.1)).setCell ⟨rb, t % L * 3 + 1, none⟩ (.int .i64 y.2.1)).setCell ⟨rb, t % L * 3 + 2, none⟩ (.int .i64 y.2.2)).setCell ⟨q, 2, none⟩ (.int .u64 ((t : Int) + 1))) q rb L f (t + 1) (xs ++ [y]) := by
  obtain ⟨R, hl, hb, hr⟩ := h.ring
  have hp := h.pos
  have hj : t % L < R.length := by rw [hl]; exact Nat.mod_lt _ (by omega)
  have hne := h.ne_
  have hlen := h.len
  have hfl := flat_length ent_len R
  have hb3 := ((hb.set_ (t % L * 3) (.int .i64 y.1)).set_ (t % L * 3 + 1) (.int .i64 y.2.1)).set_ (t % L * 3 + 2) (.int .i64 y.2.2)
  rw [set3 _ _ (by rw [hfl]; omega)] at hb3
  have hs := flat_set ent_len R (t % L) hj y
  rw [show ([Value.int .i64 y.1, .int .i64 y.2.1, .int .i64 y.2.2] : List Value) = ent y from rfl, hs] at hb3
  refine ⟨by have := (((h.blk.far (p := ⟨rb, t % L * 3, none⟩) hne (.int .i64 y.1)).far (p := ⟨rb, t % L * 3 + 1, none⟩) hne (.int .i64 y.2.1)).far (p := ⟨rb, t % L * 3 + 2, none⟩) hne (.int .i64 y.2.2)).set_ 2 (.int .u64 ((t : Int) + 1)); simpa using this, ⟨_, ?_, hb3.far hne.symm _, fun i hi => ?_⟩, h.pow, h.pos, h.big, by simp; omega, by simp; omega, ht⟩
  · simpa using hl
  · rcases Nat.lt_or_ge i xs.length with h1 | h1
    · rw [List.getElem?_append_left h1, ← hr i h1, List.getElem?_set_ne]
      intro he
      have h2 : (f + i) % L = (f + xs.length) % L := by rw [← hlen]; exact he.symm
      have h3 := Nat.sub_mod_eq_zero_of_mod_eq h2.symm
      rw [show f + xs.length - (f + i) = xs.length - i from by omega, Nat.mod_eq_of_lt (by omega)] at h3
      omega
    · have he : i = xs.length := by simp at hi; omega
      subst he
      rw [← hlen, List.getElem?_set_self hj]
      simp

def room1 (L n : Nat) : Nat := if n = L then 2 * L else L
def roomN (L n : Nat) : Nat → Nat
  | 0 => L
  | k + 1 => room1 (roomN L n k) (n + k)

theorem quiet_from {P : Program} {f : FuncId} {args : Array Value} {w : World} {v : Value} {n : Nat} (c : ∀ n, Calls P f args (w.drewN n) fun e w' => e = .returned v ∧ ∃ m, w' = (w.drewN n).drewN m) :
    Calls P f args (w.drewN n) fun e w'' => e = .returned v ∧ ∃ m, w'' = w.drewN m :=
  (c n).mono fun _ _ ⟨he, m, hm⟩ => ⟨he, n + m, by rw [hm, World.drewN_drewN]⟩

set_option maxRecDepth 100000 in
set_option maxHeartbeats 1600000 in
theorem push_any {w : World} {q rb L f t b o c : Nat} {A : Option Addr} {xs ys : List Ent} (h : QAt w q rb L f t xs) (hr : Rd w b o A (flat ent ys)) (hb : ys ≠ [] → b ≠ q ∧ b ≠ rb) (ht : t + ys.length < 549755813888) :
    Calls Try.prog 19 #[.pointer (some ⟨q, 0, none⟩), .slice A ys.length c] w fun e w' => e = .returned (.int .i64 0) ∧ Mod [q, rb] w w' ∧
      ∃ rb' f' t', QAt w' q rb' (roomN L xs.length ys.length) f' t' (xs ++ ys) ∧ (rb' = rb ∨ w.heap.size ≤ rb') ∧ t' ≤ t + ys.length := by
  obtain ⟨m, hm⟩ : ∃ m, m = ys.length := ⟨_, rfl⟩
  rw [← hm] at ht ⊢
  have HM := hide hm
  clear hm
  go_enter Try.func19, Try.ntmps19
  go_wp2
  go_loopw [11] (fun i wr => ∃ k rb' f' t' : Nat, k ≤ m ∧ i = .int .i64 k ∧ QAt wr q rb' (roomN L xs.length k) f' t' (xs ++ ys.take k) ∧ Mod [q, rb] w wr ∧ (rb' = rb ∨ w.heap.size ≤ rb') ∧ t' ≤ t + k) (fun i _ => m - (intOf i).toNat)
  case atStart => exact ⟨0, rb, f, t, Nat.zero_le _, rfl, by simpa [roomN] using h, Mod.refl _ _, .inl rfl, by omega⟩
  case round =>
    obtain ⟨k, rb', f', t', hk, rfl, hq, hm, hrb, ht'⟩ := hrel
    by_cases hlt : k < m
    · obtain ⟨y, hy⟩ : ∃ y, ys[k]? = some y := ⟨_, List.getElem?_eq_getElem (by rw [← HM.out]; exact hlt)⟩
      have hne : ys ≠ [] := by rintro rfl; cases hy
      have hr' := hr.mod hm (by intro _; simp; exact hb hne)
      have r0 := hr' (k * 3 + 0) (.int .i64 y.1) (by rw [flat_get ent_len ys k 0 (by omega), hy]; rfl)
      have r1 := hr' (k * 3 + 1) (.int .i64 y.2.1) (by rw [flat_get ent_len ys k 1 (by omega), hy]; rfl)
      have r2 := hr' (k * 3 + 2) (.int .i64 y.2.2) (by rw [flat_get ent_len ys k 2 (by omega), hy]; rfl)
      obtain ⟨rfl, e0⟩ := r0
      have e1 := r1.2
      have e2 := r2.2
      rw [Nat.add_zero] at e0
      rw [← Nat.add_assoc] at e1 e2
      clear r1 r2 hr'
      have HY := hide hy
      clear hy
      have hql := hq.blk.lt
      obtain ⟨c0, c1, c2, f0, f1, f2⟩ := hq.cells
      have H1 := fun o n => len_any (hq.mod ((Mod.alloc (Mod.refl [] wr) o).drewN n) (by simp) (by simp))
      have hf : (((xs ++ ys.take k).length : Int) == (roomN L xs.length k : Int)) = decide ((xs ++ ys.take k).length = roomN L xs.length k) := by
        rw [Bool.eq_iff_iff, beq_iff_eq, decide_eq_true_iff]; omega
      have hroom := hq.fits
      have hlx : (xs ++ ys.take k).length = xs.length + k := by simp; have := lt_of_some HY.out; omega
      have HL' : Hid (roomN L xs.length (k + 1) = room1 (roomN L xs.length k) (xs.length + k)) := rfl
      generalize hL' : roomN L xs.length k = L' at *
      have HLL := hide hL'
      clear hL'
      generalize hln : (xs ++ ys.take k).length = ln at *
      have HLN := hide hln
      have HLX := hide hlx
      clear hln hlx
      by_cases hfull : ln = L'
      case' pos =>
        have hb : ((ln : Int) == (L' : Int)) = true := by rw [hf]; simp [hfull]
        clear hf
        subst hfull
        go_wp2_with fail
        go_quiet ((go_at_call 26; exact quiet_from (H1 _)))
        have hqq := hq.mod (((Mod.alloc (Mod.refl [] wr) (Obj.cells #[.int .i64 y.1, .int .i64 y.2.1, .int .i64 y.2.2] 35)).drewN nq)) (by simp) (by simp)
        have hbx := (Blk.new wr 35 [.int .i64 y.1, .int .i64 y.2.1, .int .i64 y.2.2]).drewN nq
        have hmm := (hm.alloc (Obj.cells #[.int .i64 y.1, .int .i64 y.2.1, .int .i64 y.2.2] 35)).drewN nq
        have hzz : ((wr.alloc (Obj.cells #[.int .i64 y.1, .int .i64 y.2.1, .int .i64 y.2.2] 35)).drewN nq).heap.size = wr.heap.size + 1 := by simp
        generalize hWW : (wr.alloc (Obj.cells #[.int .i64 y.1, .int .i64 y.2.1, .int .i64 y.2.2] 35)).drewN nq = W0 at *
        clear hWW
        have HZZ := hide hzz
        clear hzz
        go_wp2_with fail
        refine (grow_any hqq (by have := hqq.len; rw [HLN.out] at this; omega)).mono ?_
        rintro e W ⟨rfl, hgm, rb', hrb2, hq2⟩
        have hbx := hbx.mod hgm (by simp; omega)
        have hmm := hmm.trans hgm (by simp)
        have ht' : ln ≤ t + k := by have := hqq.len; rw [HLN.out] at this; omega
        have hbr : rb' ≠ wr.heap.size := by rw [HZZ.out] at hrb2; omega
        have hwb : w.heap.size ≤ wr.heap.size := hm.size
        have hrb : rb' = rb ∨ w.heap.size ≤ rb' := .inr (by rw [HZZ.out] at hrb2; omega)
        have HR : Hid (roomN L xs.length (k + 1) = 2 * ln) := by rw [Hid, HL'.out, ← HLX.out]; exact if_pos rfl
        rw [HLN.out] at hq2
        have hpos := hqq.pos
        have hlt2 : ln < 2 * ln := by omega
        clear hpos
        generalize wr.heap.size = bx at *
        have hqq := hq2
        clear hq2
        generalize 2 * ln = L' at *
        obtain ⟨f', hf'⟩ : ∃ x, x = 0 := ⟨0, rfl⟩
        obtain ⟨t', ht2⟩ : ∃ x, x = ln := ⟨ln, rfl⟩
        rw [← hf'] at hqq
        rw [← ht2] at ht'
        have HT2 := hide ht2
        rw [← ht2] at hqq
        clear hf' ht2
        clear c0 c1 c2 f0 f1 f2
        go_wp2_with fail
      case' neg =>
        have hb : ((ln : Int) == (L' : Int)) = false := by rw [hf]; simp [hfull]
        clear hf
        go_wp2_with fail
        go_quiet ((go_at_call 26; exact quiet_from (H1 _)))
        go_wp2_with fail
        have hqq := hq.mod (((Mod.alloc (Mod.refl [] wr) (Obj.cells #[.int .i64 y.1, .int .i64 y.2.1, .int .i64 y.2.2] 35)).drewN nq)) (by simp) (by simp)
        have hbx := (Blk.new wr 35 [.int .i64 y.1, .int .i64 y.2.1, .int .i64 y.2.2]).drewN nq
        have hmm := (hm.alloc (Obj.cells #[.int .i64 y.1, .int .i64 y.2.1, .int .i64 y.2.2] 35)).drewN nq
        have HR : Hid (roomN L xs.length (k + 1) = L') := by rw [Hid, HL'.out, ← HLX.out]; exact if_neg hfull
        have hlt2 : ln < L' := by omega
        generalize (wr.alloc (Obj.cells #[.int .i64 y.1, .int .i64 y.2.1, .int .i64 y.2.2] 35)).drewN nq = W at *
        have hbr : rb' ≠ wr.heap.size := Nat.ne_of_lt hq.rlt
        have hwb : w.heap.size ≤ wr.heap.size := hm.size
        generalize wr.heap.size = bx at *
        clear c0 c1 c2 f0 f1 f2
      all_goals
        have hbr' := hbr.symm
        have hqr := hqq.ne_
        have hqr' := hqr.symm
        obtain ⟨c0, c1, c2, f0, f1, f2⟩ := hqq.cells
        have d0 := hbx.cell 0
        have d1 := hbx.cell 1
        have d2 := hbx.cell 2
        simp at d0 d1 d2
        have H2 := fun n => at_any (n := t') (hqq.mod ((Mod.refl [] W).drewN n) (by simp) (by simp)) (by omega) rfl
        obtain ⟨z, ⟨p0, p1, p2⟩, s0, s1, s2⟩ := hqq.place t'
        go_region_held3 (fun w' => w'.cell? ⟨q, 2, none⟩ = some (.int .u64 t') ∧ w'.cell? ⟨bx, 0, none⟩ = some (.int .i64 y.1) ∧ w'.cell? ⟨bx, 1, none⟩ = some (.int .i64 y.2.1) ∧ w'.cell? ⟨bx, 2, none⟩ = some (.int .i64 y.2.2)) (go_keep) (first | (go_at_call 86; refine (H2 _).mono ?_; rintro e w' ⟨rfl, n, rfl⟩))
        go_wp2
        go_roundw
        case rel =>
          have hp := (hqq.mod ((Mod.refl [] W).drewN (1 + n)) (by simp) (by simp)).pushed (by rw [HLN.out]; exact hlt2) (by omega) y
          rw [List.append_assoc, ← take_snoc' HY.out] at hp
          exact ⟨k + 1, rb', f', t' + 1, by omega, by go_num, by rw [HR.out]; exact hp, by (repeat (first | exact Mod.refl _ _ | (with_reducible assumption) | (refine Mod.drewN ?_ _) | (refine Mod.drew ?_) | (refine Mod.alloc ?_ _) | (refine Mod.setCell ?_ ?_ _; rotate_left; focus (first | omega | (simp; done) | (simp; omega))))), hrb, by omega⟩
        case measure => simp [intOf]; omega
    · go_wp2
      go_ret
      have e : k = m := by omega
      subst e
      have e2 : ys.take ys.length = ys := List.take_length
      rw [HM.out] at hq hk
      rw [e2] at hq
      refine ⟨rfl, hm, rb', f', t', by rw [HM.out]; exact hq, hrb, by omega⟩
end Go.Proofs.Ytjediiajmnlonaa
