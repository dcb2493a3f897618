/- Events and calls of layer 24, in plain words. No condition. -/
import Derived.Test.YtkndpdmopgmlcaaG2
import Derived.Test.YtkndpdmopgmlcaaChecked
import Derived.Test.YtkndpdmopgmlcaaG1
import Derived.RangeFuncBound
section
/- What the executor says of append at rows of open number, the machine does. No condition. -/
namespace Go.Proofs.Ytkndpdmopgmlcaa
open Go.RowKit

theorem flatF_congr {f g : Nat → List Value} : ∀ {n : Nat}, (∀ i, i < n → f i = g i) → flatF f n = flatF g n
  | 0, _ => rfl
  | n + 1, h => by rw [flatF, flatF, flatF_congr (fun i hi => h i (by omega)), h n (by omega)]
theorem flatF_join {f g : Nat → List Value} {len : Nat} : ∀ m, flatF (joinF f len g) (len + m) = flatF f len ++ flatF g m
  | 0 => by
    rw [Nat.add_zero, flatF, List.append_nil]
    exact flatF_congr fun i hi => by simp [joinF, hi]
  | m + 1 => by
    rw [← Nat.add_assoc, flatF, flatF_join m, flatF, List.append_assoc]
    rw [joinF, if_neg (by omega), Nat.add_sub_cancel_left]
theorem flatF_rows {k : Nat} {l : List Value} : ∀ n, flatF (rowsF k l) n = l.take (n * k)
  | 0 => by simp [flatF]
  | n + 1 => by rw [flatF, flatF_rows n, rowsF, Nat.add_mul, Nat.one_mul, List.take_add]

theorem joinC_ok {c d r : Col} {n : Nat} (h : joinC c n d = some r) (i : Nat) : r.at i = if i < n then c.at i else d.at (i - n) := by
  unfold joinC at h
  split at h
  · split at h <;> cases h
    next hk =>
    obtain rfl := eqKd_ok hk
    simp only [Col.at, joinI]
    split <;> rfl
  · injection h with h
    subst h
    simp only [Col.at, joinI]
    split <;> rfl
  · injection h with h
    subst h
    simp only [Col.at, joinI]
    split <;> rfl
  · injection h with h
    subst h
    simp only [Col.at, joinI]
  · cases h
theorem joinCs_ok : ∀ {cs ds r : List Col} {n : Nat}, joinCs cs n ds = some r → r.length = cs.length ∧ ds.length = cs.length ∧ colsF r = joinF (colsF cs) n (colsF ds)
  | [], [], r, n, h => by
    injection h with h
    subst h
    exact ⟨rfl, rfl, by funext i; simp [joinF, colsF]⟩
  | c :: cs, d :: ds, r, n, h => by
    simp only [joinCs] at h
    split at h <;> cases h
    next c1 r1 h1 h2 =>
    obtain ⟨g1, g2, g3⟩ := joinCs_ok h2
    refine ⟨by simp [g1], by simp [g2], ?_⟩
    funext i
    simp only [colsF, g3, joinC_ok h1, joinF]
    split <;> rfl
  | [], _ :: _, _, _, h => by cases h
  | _ :: _, [], _, _, h => by cases h
theorem constC_at (v : Value) (i : Nat) : (constC v).at i = v := by
  unfold constC
  split <;> rfl
theorem constCs : ∀ (vs : List Value) (i : Nat), colsF (vs.map constC) i = vs
  | [], _ => rfl
  | v :: vs, i => by simp [colsF, constC_at, constCs vs]

section
variable {P : Program} {st st1 st' : St Rep} {B : Nat} {F : Nat → Prop} {ρ ρ' : Names} {own own' : Nat → List Nat} {w w' : World}
def SrcR (k : Nat) (g : Nat → List Value) (m : Nat) (a : Value) (w : World) : Prop := ∃ ad c, a = .slice ad m c ∧ (∀ i, i < m → RowOK k (g i)) ∧ (∀ a', ad = some a' → ∀ j u, (flatF g m)[j]? = some u → w.cell? (a'.add j) = some u) ∧ (ad = none → m = 0)
theorem vecSrc_s {k : Nat} {x : SV} {m : Nat} {g : List Col} (h : vecSrc k x st = .ok (m, g) st') : Quiet st st' ∧ ∀ B F ρ own w a, Sit repAt P B F st st' ρ own w → den ρ x = some a → SrcR k (colsF g) m a w := by
  unfold vecSrc at h
  split at h
  · next n m0 =>
    obtain ⟨c, st1, h1, h2⟩ := bind_ok.1 h
    obtain ⟨hc, rfl⟩ := getC_ok.1 h1
    split at h2
    · next cs len' t' =>
      obtain ⟨_, _, h3, h4⟩ := bind_ok.1 h2
      obtain ⟨hk, rfl⟩ := want_ok.1 h3
      obtain ⟨_, st2, h5, h6⟩ := bind_ok.1 h4
      obtain ⟨q, hq⟩ := need_ok h5
      obtain ⟨e, rfl⟩ := ret_ok.1 h6
      injection e with e1 e2
      subst e1
      subst e2
      have hk := Nat.eq_of_beq_eq_true hk
      subst hk
      refine ⟨Quiet.get.trans q, fun B F ρ own w a s ha => ?_⟩
      obtain ⟨e, he, hat⟩ := s.li.at_ n _ (s.log n (q.fr n (mem_ins.2 (.inl rfl)))) hc
      have hv : VecAt (colsF cs) len' t' cs.length e (own n) w := hat
      have hle := of_decide_eq_true (hq s.ask)
      simp only [den, he, Option.map_some, Option.some.injEq] at ha
      refine ⟨e.ad, e.cap, ha.symm, fun i hi => hv.2.2.2.1 i (by omega), fun a' ha' => hv.flat hle ha', fun hn => ?_⟩
      obtain ⟨_, _, g3, _, g5⟩ := hv
      rw [hn] at g5
      have := g5.2
      omega
    · next cs len' =>
      obtain ⟨_, _, h3, h4⟩ := bind_ok.1 h2
      obtain ⟨hk, rfl⟩ := want_ok.1 h3
      obtain ⟨_, st2, h5, h6⟩ := bind_ok.1 h4
      obtain ⟨q, hq⟩ := need_ok h5
      obtain ⟨e, rfl⟩ := ret_ok.1 h6
      injection e with e1 e2
      subst e1
      subst e2
      have hk := Nat.eq_of_beq_eq_true hk
      subst hk
      refine ⟨Quiet.get.trans q, fun B F ρ own w a s ha => ?_⟩
      obtain ⟨e, he, hat⟩ := s.li.at_ n _ (s.log n (q.fr n (mem_ins.2 (.inl rfl)))) hc
      have hv : TabAt B (colsF cs) len' cs.length e (own n) w := hat
      have hle := of_decide_eq_true (hq s.ask)
      simp only [den, he, Option.map_some, Option.some.injEq] at ha
      refine ⟨e.ad, e.cap, ha.symm, fun i hi => (hv.2.2.2.2 i (by omega)).1, fun a' ha' => hv.flat hle ha', fun hn => ?_⟩
      obtain ⟨_, _, _, g4, _⟩ := hv
      rcases Nat.eq_zero_or_pos m0 with h | h
      · exact h
      · have := (g4 (by omega)).1
        rw [hn] at this
        cases this
    · exact (fail_ok.1 h2).elim
  · next x _ =>
    obtain ⟨⟨m', cs⟩, st1, h1, h2⟩ := bind_ok.1 h
    obtain ⟨q1, hsrc⟩ := src_s (A := repAt) (P := P) h1
    obtain ⟨vs, _, h3, h4⟩ := bind_ok.1 h2
    obtain ⟨hvs, rfl⟩ := opt_ok.1 h3
    obtain ⟨_, _, h5, h6⟩ := bind_ok.1 h4
    obtain ⟨hone, rfl⟩ := want_ok.1 h5
    obtain ⟨e, rfl⟩ := ret_ok.1 h6
    simp only [Bool.and_eq_true] at hone
    have hm1 := Nat.eq_of_beq_eq_true hone.1
    have hone1 := List.all_eq_true.1 hone.2
    injection e with e1 e2
    subst e1
    change m' = 1 at hm1
    subst hm1
    refine ⟨q1, fun B F ρ own w a s ha => ?_⟩
    obtain ⟨ad, c, news, rfl, g1, g2, g3, g4⟩ := hsrc B F ρ own w a s.li s.log ha
    have hpl := plainL_den hvs g1
    subst hpl
    subst e2
    refine ⟨ad, c, rfl, fun i hi => by rw [constCs]; exact ⟨by rw [g2, Nat.one_mul], hone1⟩, fun a' ha' j u hu => ?_, g4⟩
    simp only [flatF, constCs, List.nil_append] at hu
    exact g3 a' ha' j u hu

theorem SrcR.src {k m : Nat} {g : Nat → List Value} {a : Value} {tx e : TypeId} (h : SrcR k g m a w) (hk : P.underlying tx = some (.slice e)) : Src P k tx a m (flatF g m) w := by
  obtain ⟨ad, c, rfl, h1, h2, h3⟩ := h
  exact src_of hk (flatF_length fun i hi => (h1 i hi).1) h2 h3 (fun v hv => by
    obtain ⟨i, hi, hv⟩ := flatF_mem hv
    exact (h1 i hi).2 v hv)

/-- The elements fill a new block. -/
theorem VecAt.fresh {f : Nat → List Value} {n k cap b : Nat} {t : TypeId} {cs : Array Value} (hb : w.heap[b]? = some (.cells cs t (0, 0))) (hr : ∀ i, i < n → RowOK k (f i)) (hc : ∀ j, j < n * k → cs[j]? = (flatF f n)[j]?) (hn : n ≤ cap) (hcap : cap * k ≤ cs.size) :
    VecAt f n t k ⟨b, cap, 0, k, n, some ⟨b, 0, none⟩⟩ [b] w := by
  refine ⟨rfl, rfl, hn, hr, rfl, rfl, cs, hb, by show 0 + cap * k ≤ _; omega, fun i hi j hj => ?_⟩
  show cs[0 + (i * k + j)]? = _
  have : (i + 1) * k ≤ n * k := Nat.mul_le_mul_right _ hi
  rw [Nat.add_mul, Nat.one_mul] at this
  rw [Nat.zero_add, hc _ (by omega), flatF_get (fun i hi => (hr i hi).1) hi hj]

theorem VecAt.trim {f g : Nat → List Value} {len len0 k : Nat} {t : TypeId} {e : Spot} {own : List Nat} (h : VecAt f len0 t k e own w) (hle : len ≤ len0) : VecAt (joinF f len g) len t k ⟨e.b, e.cap, e.off, k, len, e.ad⟩ own w := by
  obtain ⟨h1, h2, h3, h4, h5⟩ := h
  refine ⟨rfl, rfl, Nat.le_trans hle h3, fun i hi => by simp only [joinF, hi, if_true]; exact h4 i (by omega), ?_⟩
  cases ha : e.ad with
  | none => rw [ha] at h5; exact h5
  | some q =>
    rw [ha] at h5
    obtain ⟨g1, g2, cs, g3, g4, g5⟩ := h5
    refine ⟨g1, g2, cs, g3, g4, fun i hi j hj => ?_⟩
    simp only [joinF, hi, if_true]
    exact g5 i (by omega) j hj

/-- An append to a slice whose elements are known, in place or not. -/
theorem append_core {t tx ty elem : TypeId} {i : TypeInfo} (hu : P.underlying t = some (.slice elem)) (hi : P.info? elem = some i) (hb0 : i.bytes ≠ 0) {zv : Value} (hz : i.zero = some zv) (hzs : zv.cells.size = i.size) {et : TypeId} (hkx : P.underlying tx = some (.slice et))
    {f g : Nat → List Value} {len len0 m : Nat} {e : Spot} {own0 : List Nat} (hv : VecAt f len0 elem i.size e own0 w) (hle : len ≤ len0) (hby : (len + m) * i.bytes ≤ 140737488351232) {b : Value} (hsrc : SrcR i.size g m b w) :
    ∃ e' own1 w', (Builtin.append_ #[t, tx] ty #[.slice e.ad len e.cap, b]).run P w = .ok (.slice e'.ad (len + m) e'.cap) w' ∧ ModP (fun x => x ∈ own0) w w' ∧ VecAt (joinF f len g) (len + m) elem i.size e' own1 w' ∧ ∀ x ∈ own1, x ∈ own0 ∨ (w.heap.size ≤ x ∧ x < w'.heap.size) := by
  have hsr := hsrc.src hkx
  have hcap : len ≤ e.cap := Nat.le_trans hle hv.2.2.1
  have hfl : (flatF f len).length = len * i.size := flatF_length fun j hj => (hv.2.2.2.1 j (by omega)).1
  obtain ⟨ad, c, hbv, hg, hgc, hgn⟩ := hsrc
  rcases Nat.eq_zero_or_pos m with h0 | h0
  · subst h0
    exact ⟨⟨e.b, e.cap, e.off, i.size, len, e.ad⟩, own0, w, run_append_nothing w t tx ty elem i hu hi e.ad len e.cap hcap b hsr, ModP.refl _ _, hv.trim hle, fun x hx => .inl hx⟩
  · by_cases hroom : len + m ≤ e.cap
    · obtain ⟨w', had, hst, hm, hv'⟩ := hv.extend (P := P) hle hroom h0 hg (flatF_length fun j hj => (hg j hj).1) (fun j hj q hq => flatF_get (fun j hj => (hg j hj).1) hj hq) hsr.one
      refine ⟨_, own0, w', ?_, hm, hv', fun x hx => .inl hx⟩
      simp only
      rw [had]
      exact append_room (ty := ty) hu hi e.b e.off len e.cap b m _ hsr hroom hst
    · have hold : (Builtin.firstCells i.size len (.slice e.ad len e.cap)).run P w.drew = .ok (flatF f len).toArray w.drew := by
        cases ha : e.ad with
        | none =>
          obtain ⟨_, _, _, _, h5⟩ := hv
          rw [ha] at h5
          have : len = 0 := by have := h5.2; omega
          subst this
          exact run_firstCells_none w.drew i.size 0 0 _
        | some q => exact run_firstCells_some w.drew i.size len _ _ _ _ hfl (fun j u hu' => hv.flat hle ha j u hu')
      have hb1' : len + m ≤ (len + m) * i.bytes := Nat.le_mul_of_pos_right _ (by omega)
      have hr := run_append_grow_src w t tx ty elem i zv hu hi hz e.ad len e.cap (flatF f len) hold b m (flatF g m) hsr (by omega) (by omega) (growslice_fits (by omega) (by omega))
      have hge := grownCap_ge w (len + m) e.cap elem
      generalize grownCap w (len + m) e.cap elem = gc at hr hge
      refine ⟨⟨w.heap.size, gc, 0, i.size, len + m, some ⟨w.heap.size, 0, none⟩⟩, [w.heap.size], _, hr, ⟨rfl, rfl, rfl, by simp, fun k hk _ => RowKit.Below.heap_alloc w.drew _ k hk⟩, VecAt.fresh (heap_alloc_new w.drew _) (fun j hj => ?_) (fun j hj => ?_) hge ?_, fun x hx => .inr ?_⟩
      · unfold joinF
        by_cases hjl : j < len
        · rw [if_pos hjl]; exact hv.2.2.2.1 j (by omega)
        · rw [if_neg hjl]; exact hg _ (by omega)
      · rw [flatF_join, Array.getElem?_append_left (by
          simp only [List.size_toArray, List.length_append, hfl, flatF_length (fun j hj => (hg j hj).1)]
          rw [← Nat.add_mul]; exact hj), List.getElem?_toArray]
      · have e3 : (len + m) * i.size + (gc - (len + m)) * i.size = gc * i.size := by
          rw [← Nat.add_mul]
          congr 1
          omega
        rw [Array.size_append, size_zeroCells, hzs]
        simp only [List.size_toArray, List.length_append, hfl, flatF_length (fun j hj => (hg j hj).1)]
        rw [Nat.add_mul] at e3
        omega
      · rw [List.mem_singleton] at hx
        subst hx
        exact ⟨Nat.le_refl _, by simp⟩

theorem vecAppend_s {t tx ty : TypeId} {x y s : SV} (h : vecAppend P t tx x y st = .ok s st') : Fn st st' ∧ ∀ B F ρ own w a b, Sit repAt P B F st st' ρ own w → den ρ x = some a → den ρ y = some b →
    ∃ v ρ' own' w', (Builtin.append_ #[t, tx] ty #[a, b]).run P w = .ok v w' ∧ den ρ' s = some v ∧ Tr repAt P B F st st' ρ own w ρ' own' w' := by
  unfold vecAppend at h
  generalize hu : P.underlying t = du at h
  split at h
  case h_2 => exact (fail_ok.1 h).elim
  next elem =>
  obtain ⟨i, _, h1, h2⟩ := bind_ok.1 h
  obtain ⟨hi, rfl⟩ := opt_ok.1 h1
  obtain ⟨_, _, h3, h4⟩ := bind_ok.1 h2
  obtain ⟨hb, rfl⟩ := want_ok.1 h3
  obtain ⟨⟨m, g⟩, st1, h5, h6⟩ := bind_ok.1 h4
  obtain ⟨q1, hsrc⟩ := vecSrc_s (P := P) h5
  simp only [Bool.and_eq_true, Bool.not_eq_true'] at hb
  obtain ⟨⟨⟨hb1, hb2⟩, hb3⟩, hb4⟩ := hb
  have hb1 := Nat.ne_of_beq_eq_false hb1
  have hb2 := Nat.ne_of_beq_eq_false hb2
  obtain ⟨e', hkx⟩ := isSliceT_ok hb4 rfl
  obtain ⟨zv, hz, hzs⟩ : ∃ z, i.zero = some z ∧ z.cells.size = i.size := by
    unfold zeroFits at hb3
    split at hb3
    · next z hz => exact ⟨z, hz, Nat.eq_of_beq_eq_true hb3⟩
    · cases hb3
  clear h h1 h2 h3 h4 h5 hb4
  simp only at h6
  split at h6
  · -- a row of open number
    next n len =>
    obtain ⟨c, st2, h7, h8⟩ := bind_ok.1 h6
    obtain ⟨hc, rfl⟩ := getC_ok.1 h7
    split at h8
    · next cs len' t' =>
      obtain ⟨_, _, h9, h10⟩ := bind_ok.1 h8
      obtain ⟨hw, rfl⟩ := want_ok.1 h9
      simp only [Bool.and_eq_true] at hw
      obtain ⟨hw1, hw2⟩ := hw
      have hw1 := Nat.eq_of_beq_eq_true hw1
      have hw2 := Nat.eq_of_beq_eq_true hw2
      obtain ⟨_, st2, h11, h12⟩ := bind_ok.1 h10
      obtain ⟨q3, hq3⟩ := need_ok h11
      obtain ⟨cs', _, h13, h12⟩ := bind_ok.1 h12
      obtain ⟨hjoin, rfl⟩ := opt_ok.1 h13
      obtain ⟨hj1, _, hj3⟩ := joinCs_ok hjoin
      obtain ⟨_, st3, h15, h16⟩ := bind_ok.1 h12
      obtain ⟨_, rfl⟩ := delC_ok.1 h15
      obtain ⟨n', st4, h17, h18⟩ := bind_ok.1 h16
      obtain ⟨rfl, rfl⟩ := newC_ok.1 h17
      obtain ⟨rfl, rfl⟩ := ret_ok.1 h18
      clear h6 h7 h8 h9
      subst hw1
      have q2 : Quiet st1 { st1 with fr := insN n st1.fr } := Quiet.get
      have q := (q1.trans q2).trans q3
      have hc0 : hget n st.hp = some (.rep (.vec cs len' t')) := by rw [← q1.hp]; exact hc
      have hc2 : hget n st2.hp = some (.rep (.vec cs len' t')) := by rw [q.hp]; exact hc0
      refine ⟨q.fn.trans (Fn.move st2 n _ _ hc2), fun B F ρ own w a b s ha hb => ?_⟩
      have s1 := s.of_quiet q
      obtain ⟨hle, hby⟩ := of_decide_eq_true (hq3 s.ask)
      have hF : F n := s.log n (mem_ins.2 (.inl rfl))
      have ssrc : Sit repAt P B F st st1 ρ own w := ⟨fun k hk => s.log k (mem_ins.2 (.inr (q3.fr k (q2.fr k hk)))), s.wf, fun k hk => absurd hk (newN_self q1.nx), s.li, fun p hp => s.ask p (q3.ask p (q2.ask p hp)), s.base⟩
      have hsr := hsrc B F ρ own w b ssrc hb
      obtain ⟨e, he, hat⟩ := s.li.at_ n _ hF hc0
      have hv : VecAt (colsF cs) len' t' i.size e (own n) w := by rw [← hw2]; exact hat
      simp only [den, he, Option.map_some, Option.some.injEq] at ha
      subst ha
      obtain ⟨e1, own1, w', hr, hm, hv', ho⟩ := append_core (ty := ty) hu hi hb2 hz hzs hkx hv hle hby hsr
      have hv2 : VecAt (colsF cs') (len + m) t' cs'.length e1 own1 w' := by rw [hj3, hj1, hw2]; exact hv'
      have ht := Tr.move s1 hc2 e1 own1 hm (show CAt repAt P (ρ.put st2.nx e1) B e1 own1 (.rep (.vec cs' (len + m) t')) w' from hv2) ho
      refine ⟨_, _, _, _, hr, ?_, Tr.of_quiet q ht⟩
      simp only [den]
      rw [Names.put_same]
      rfl
    · exact (fail_ok.1 h8).elim
  · -- an empty row
    next n =>
    obtain ⟨c, st2, h7, h8⟩ := bind_ok.1 h6
    obtain ⟨hc, rfl⟩ := getC_ok.1 h7
    split at h8
    · next t' =>
      obtain ⟨_, _, h9, h10⟩ := bind_ok.1 h8
      obtain ⟨hw, rfl⟩ := want_ok.1 h9
      simp only [Bool.and_eq_true] at hw
      obtain ⟨hw1, hw2⟩ := hw
      have hw1 := Nat.eq_of_beq_eq_true hw1
      have hw2 := Nat.eq_of_beq_eq_true hw2
      obtain ⟨_, st2, h11, h12⟩ := bind_ok.1 h10
      obtain ⟨q3, hq3⟩ := need_ok h11
      obtain ⟨_, st3, h15, h16⟩ := bind_ok.1 h12
      obtain ⟨_, rfl⟩ := delC_ok.1 h15
      obtain ⟨n', st4, h17, h18⟩ := bind_ok.1 h16
      obtain ⟨rfl, rfl⟩ := newC_ok.1 h17
      obtain ⟨rfl, rfl⟩ := ret_ok.1 h18
      clear h6 h7 h8 h9
      subst hw1
      have q2 : Quiet st1 { st1 with fr := insN n st1.fr } := Quiet.get
      have q := (q1.trans q2).trans q3
      have hc0 : hget n st.hp = some (.row [] t') := by rw [← q1.hp]; exact hc
      have hc2 : hget n st2.hp = some (.row [] t') := by rw [q.hp]; exact hc0
      refine ⟨q.fn.trans (Fn.move st2 n _ _ hc2), fun B F ρ own w a b s ha hb => ?_⟩
      have s1 := s.of_quiet q
      have hby := of_decide_eq_true (hq3 s.ask)
      have hF : F n := s.log n (mem_ins.2 (.inl rfl))
      have ssrc : Sit repAt P B F st st1 ρ own w := ⟨fun k hk => s.log k (mem_ins.2 (.inr (q3.fr k (q2.fr k hk)))), s.wf, fun k hk => absurd hk (newN_self q1.nx), s.li, fun p hp => s.ask p (q3.ask p (q2.ask p hp)), s.base⟩
      have hsr := hsrc B F ρ own w b ssrc hb
      obtain ⟨e, he, hat⟩ := s.li.at_ n _ hF hc0
      obtain ⟨ho, cs, vs, g1, g2, _, _, g5⟩ := hat
      have hcell : P.cellsOf t' = i.size := by simp [Program.cellsOf, hi]
      rw [hcell] at g5
      have hv : VecAt (fun _ => []) 0 t' i.size ⟨e.b, e.cap, e.off, i.size, 0, some ⟨e.b, e.off, none⟩⟩ (own n) w := ⟨rfl, rfl, Nat.zero_le _, (fun i hi => by omega), rfl, ho, cs, g1, g5, fun i hi => by omega⟩
      simp only [den, he, Option.map_some, Option.some.injEq, Nat.add_zero, Nat.sub_zero] at ha
      subst ha
      obtain ⟨e1, own1, w', hr, hm, hv', ho'⟩ := append_core (ty := ty) hu hi hb2 hz hzs hkx hv (Nat.le_refl 0) (by rw [Nat.zero_add]; exact hby) hsr
      have hj : joinF (fun _ => []) 0 (colsF g) = colsF g := by funext j; simp [joinF]
      rw [hj, Nat.zero_add] at hv'
      rw [Nat.zero_add] at hr
      have ht := Tr.move s1 hc2 e1 own1 hm (show CAt repAt P (ρ.put st2.nx e1) B e1 own1 (.rep (.vec g m t')) w' from (by rw [← hw2] at hv'; exact hv')) ho'
      refine ⟨_, _, _, _, hr, ?_, Tr.of_quiet q ht⟩
      simp only [den]
      rw [Names.put_same]
      rfl
    · exact (fail_ok.1 h8).elim
  · -- nil
    obtain ⟨_, _, h9, h6⟩ := bind_ok.1 h6
    obtain ⟨hw2, rfl⟩ := want_ok.1 h9
    have hw2 := Nat.eq_of_beq_eq_true hw2
    obtain ⟨_, st2, h11, h12⟩ := bind_ok.1 h6
    obtain ⟨q3, hq3⟩ := need_ok h11
    obtain ⟨n', st4, h17, h18⟩ := bind_ok.1 h12
    obtain ⟨rfl, rfl⟩ := newC_ok.1 h17
    obtain ⟨rfl, rfl⟩ := ret_ok.1 h18
    have q := q1.trans q3
    refine ⟨quiet_new q _, fun B F ρ own w a b s ha hb => ?_⟩
    have s1 := s.of_quiet q
    have hby := of_decide_eq_true (hq3 s.ask)
    have ssrc : Sit repAt P B F st st1 ρ own w := ⟨fun k hk => s.log k (q3.fr k hk), s.wf, fun k hk => absurd hk (newN_self q1.nx), s.li, fun p hp => s.ask p (q3.ask p hp), s.base⟩
    have hsr := hsrc B F ρ own w b ssrc hb
    have hv : VecAt (fun _ => []) 0 elem i.size ⟨0, 0, 0, i.size, 0, none⟩ [] w := ⟨rfl, rfl, Nat.zero_le _, (fun i hi => by omega), rfl, rfl⟩
    simp only [den, Option.some.injEq] at ha
    subst ha
    obtain ⟨e1, own1, w', hr, hm, hv', ho'⟩ := append_core (ty := ty) hu hi hb2 hz hzs hkx hv (Nat.le_refl 0) (by rw [Nat.zero_add]; exact hby) hsr
    have hj : joinF (fun _ => []) 0 (colsF g) = colsF g := by funext j; simp [joinF]
    rw [hj, Nat.zero_add] at hv'
    rw [Nat.zero_add] at hr
    have ht := Tr.new s1 e1 own1 (hm.mono fun x _ hx => by cases hx) (show CAt repAt P (ρ.put st2.nx e1) B e1 own1 (.rep (.vec g m elem)) w' from (by rw [← hw2] at hv'; exact hv')) (fun x hx => (ho' x hx).resolve_left (fun h => by cases h))
    refine ⟨_, _, _, _, hr, ?_, Tr.of_quiet q ht⟩
    simp only [den]
    rw [Names.put_same]
    rfl
  · exact (fail_ok.1 h6).elim

theorem extV_ok : ∀ ev o m, extV P ev o = some m → ∀ st s st', m st = .ok s st' → OpS repAt P o ev st st' s := by
  intro ev o m hm st s st' h
  obtain ⟨dst, op, ty, pos, aft, gu⟩ := o
  unfold extV at hm
  split at hm
  · next t x i he =>
    simp only at he
    subst he
    split at hm
    · next n len kd z hx hi =>
      generalize hu : P.underlying t = du at hm
      split at hm <;> cases hm
      obtain ⟨q, hs⟩ := vecIdx_s hu h
      refine ⟨q.fn, fun B F ρ own w a si hev K Q hk => ?_⟩
      have e := hev _ _ hi
      simp only [den, Option.some.injEq] at e
      obtain ⟨y, g1, g2⟩ := hs B F ρ own w _ kd si (hev _ _ hx)
      exact wp_val (vrun (by rw [← e]; exact g1)) (hk y ρ own w (si.quiet q) g2)
    · next n kd z hx hi =>
      generalize hu : P.underlying t = du at hm
      split at hm <;> cases hm
      obtain ⟨q, hs⟩ := arrIdx_s hu h
      refine ⟨q.fn, fun B F ρ own w a si hev K Q hk => ?_⟩
      have e := hev _ _ hi
      simp only [den, Option.some.injEq] at e
      obtain ⟨y, g1, g2⟩ := hs B F ρ own w _ si (hev _ _ hx)
      exact wp_val (vrun (by rw [← e]; exact g1)) (hk y ρ own w (si.quiet q) g2)
    · next n off idx len kd z hx hi =>
      generalize hu : P.underlying t = du at hm
      split at hm <;> try cases hm
      next elem =>
      split at hm <;> cases hm
      next k hp hk =>
      obtain ⟨q, hs⟩ := concIdx_s (idx := idx) (kd := kd) hu hk h
      refine ⟨q.fn, fun B F ρ own w a si hev K Q hk => ?_⟩
      have e := hev _ _ hi
      simp only [den, Option.some.injEq] at e
      obtain ⟨y, g1, g2⟩ := hs B F ρ own w _ si (hev _ _ hx)
      exact wp_val (vrun (by rw [← e]; exact g1)) (hk y ρ own w (si.quiet q) g2)
    · cases hm
  · next t x he =>
    simp only at he
    subst he
    split at hm <;> cases hm
    next n i j hx =>
    obtain ⟨q, hs⟩ := vecLoad_s h
    refine ⟨q.fn, fun B F ρ own w a si hev K Q hk => ?_⟩
    obtain ⟨y, g1, g2⟩ := hs B F ρ own w _ si (hev _ _ hx)
    exact wp_val (vrun g2) (hk y ρ own w (si.quiet q) g1)
  · next t x y he =>
    simp only at he
    subst he
    split at hm <;> try cases hm
    next n i j hx =>
    split at hm <;> cases hm
    next v hv =>
    obtain ⟨rfl, hf, hs⟩ := vecStore_s h
    refine ⟨hf, fun B F ρ own w a si hev K Q hk => ?_⟩
    obtain ⟨ρ', own', w', g1, g2⟩ := hs B F ρ own w _ _ si (hev _ _ hx) (hev _ _ hv)
    refine wp_unit ?_ (hk undef ρ' own' w' g2 rfl)
    simp only [execOp, Sem.run_bind, g1, Result.andThen_ok]
    rfl
  · next s0 x t tx he =>
    simp only at he
    subst he
    split at hm <;> try cases hm
    next a b ha hb =>
    split at hm <;> cases hm
    obtain ⟨hf, hs⟩ := vecAppend_s (ty := ty) h
    refine ⟨hf, fun B F ρ own w ac si hev K Q hk => ?_⟩
    obtain ⟨v, ρ', own', w', g1, g2, g3⟩ := hs B F ρ own w _ _ si (hev _ _ ha) (hev _ _ hb)
    refine wp_val ?_ (hk v ρ' own' w' g3 g2)
    have g4 : ∀ cs, (builtin .append #[t, tx] ty cs #[ac.eval s0, ac.eval x]).run P w = .ok (.value v) w' := fun cs => vrun g1
    simp only [execOp, resolve, Sem.run_bind, Sem.run_pure, Result.andThen_ok, invoke]
    rw [show (⟨[s0, x]⟩ : Array Operand).map ac.eval = #[ac.eval s0, ac.eval x] by simp]
    exact g4 _
  · cases hm
end
end Go.Proofs.Ytkndpdmopgmlcaa
end
section
/- The executor run up to a loop of the function at hand, and rules for what goes on from there. Condition: the program follows the looser reading of Go's order. -/
namespace Go.Proofs.Ytkndpdmopgmlcaa

inductive Fr where
  | sq (c : Code)
  | bk (id : Nat)
inductive Goer where
  | go (c : Code)
  | out (x : Ex)
inductive Stop where
  | fin (x : Ex) (e : Env)
  | here (c : Code) (fs : List Fr) (e : Env)
def Stop.env : Stop → Env
  | .fin _ e => e
  | .here _ _ e => e

section
variable {R : Type} (P : Program)
def wpF : List Fr → (Exit → Act → World → Prop) → Exit → Act → World → Prop
  | [], Q => Q
  | .sq b :: fs, Q => Exit.then (fun a w => b.wp P (wpF fs Q) a w) (wpF fs Q)
  | .bk id :: fs, Q => Exit.inBlock id (wpF fs Q)
def goWp (g : Goer) (fs : List Fr) (Q : Exit → Act → World → Prop) (a : Act) (w : World) : Prop := match g with
  | .go c => c.wp P (wpF P fs Q) a w
  | .out x => wpF P fs Q x.exit a w
def stopWp (r : Stop) (Q : Exit → Act → World → Prop) (a : Act) (w : World) : Prop := match r with
  | .fin x _ => Q x.exit a w
  | .here c fs _ => (Code.loop c).wp P (wpF P fs Q) a w

/-- The run of a body up to its first loop behind j loops that are run through. -/
def stepC (lib : Lib R) (n sz : Nat) : Nat → Nat → Goer → List Fr → Env → M R Stop
  | 0, _, _, _, _ => .fail 190
  | k + 1, j, .go c, fs, e => match c with
    | .seq a b => stepC lib n sz k j (.go a) (.sq b :: fs) e
    | .block id c => stepC lib n sz k j (.go c) (.bk id :: fs) e
    | .cond x a b => (M.opt 191 (evX e x)).bind fun
      | .v (.bool t) => (askB t).bind fun
        | true => stepC lib n sz k j (.go a) fs e
        | false => stepC lib n sz k j (.go b) fs e
      | _ => .fail 192
    | .loop c => match j with
      | 0 => .ret (.here c fs e)
      | j' + 1 => (runX P lib n sz (.loop c) e).bind fun r => stepC lib n sz k j' (.out r.1) fs r.2
    | c => (runX P lib n sz c e).bind fun r => stepC lib n sz k j (.out r.1) fs r.2
  | k + 1, j, .out x, fs, e => match fs with
    | [] => .ret (.fin x e)
    | .sq b :: fs => match x with
      | .nor => stepC lib n sz k j (.go b) fs e
      | x => stepC lib n sz k j (.out x) fs e
    | .bk id :: fs => match x with
      | .out i => match Nat.beq i id with
        | true => stepC lib n sz k j (.out .nor) fs e
        | false => stepC lib n sz k j (.out (.out i)) fs e
      | x => stepC lib n sz k j (.out x) fs e
variable {P} {A : RepAt R} {lib : Lib R} {n sz : Nat} {st st1 st' : St R}

def StepS (A : RepAt R) (P : Program) (sz : Nat) (g : Goer) (fs : List Fr) (e : Env) (st st' : St R) (r : Stop) : Prop := Fn st st' ∧ ∀ B F ρ own w a, Sit A P B F st st' ρ own w → EnvR ρ e a → a.tmps.size = sz →
  ∀ (Q : Exit → Act → World → Prop), (∀ a' ρ' own' w', Tr A P B F st st' ρ own w ρ' own' w' → EnvR ρ' r.env a' → a'.tmps.size = sz → a'.defers = a.defers → stopWp P r Q a' w') → goWp P g fs Q a w

theorem StepS.run {c : Code} {fs : List Fr} {e e1 : Env} {x : Ex} {r : Stop} (h1 : CodeS A P sz (fun Q a w => c.wp P Q a w) e st st1 (x, e1)) (h2 : StepS A P sz (.out x) fs e1 st1 st' r) : StepS A P sz (.go c) fs e st st' r := by
  refine ⟨h1.1.trans h2.1, fun B F ρ own w a si he hz Q hk => ?_⟩
  refine h1.2 B F ρ own w a (si.head h1.1 h2.1) he hz _ (fun a1 ρ1 own1 w1 t1 he1 hz1 hd1 => ?_)
  exact h2.2 B _ ρ1 own1 w1 a1 (si.next h1.1 h2.1 t1) he1 hz1 Q (fun a' ρ' own' w' t2 he2 hz2 hd2 => hk a' ρ' own' w' (t1.trans t2 h1.1 h2.1 (h1.1.wf si.wf)) he2 hz2 (hd2.trans hd1))

theorem step_s (hm : P.follows .mixedOrders = true) (hp : LibOK A P lib) : ∀ {k j : Nat} {g : Goer} {fs : List Fr} {e : Env} {st st' : St R} {r : Stop}, stepC P lib n sz k j g fs e st = .ok r st' → StepS A P sz g fs e st st' r
  | 0, _, _, _, _, _, _, _, h => (fail_ok.1 h).elim
  | k + 1, j, .go c, fs, e, st, st', r, h => by
    have hr := (run_s hm hp n).1
    have plain : ∀ {c : Code} {j' : Nat}, (runX P lib n sz c e).bind (fun r => stepC P lib n sz k j' (.out r.1) fs r.2) st = .ok r st' → StepS A P sz (.go c) fs e st st' r := by
      intro c j' h
      obtain ⟨⟨x, e1⟩, st1, h1, h2⟩ := bind_ok.1 h
      exact StepS.run (hr _ _ _ _ _ _ h1) (step_s hm hp h2)
    unfold stepC at h
    split at h
    · next a b =>
      obtain ⟨hf, hs⟩ := step_s hm hp h
      exact ⟨hf, fun B F ρ own w a si he hz Q hk => wp_seq (hs B F ρ own w a si he hz Q hk)⟩
    · next id c =>
      obtain ⟨hf, hs⟩ := step_s hm hp h
      exact ⟨hf, fun B F ρ own w a si he hz Q hk => wp_block (hs B F ρ own w a si he hz Q hk)⟩
    · next x a b =>
      obtain ⟨s, _, h1, h2⟩ := bind_ok.1 h
      obtain ⟨hs, rfl⟩ := opt_ok.1 h1
      split at h2
      · next t =>
        obtain ⟨o, st1, h3, h4⟩ := bind_ok.1 h2
        obtain ⟨q, hq⟩ := ask_ok h3
        have key : ∀ {z : Code}, stepC P lib n sz k j (.go z) fs e st1 = .ok r st' → ((∀ p ∈ st'.ask, p.1 = p.2) → (if t = true then a else b) = z) → StepS A P sz (.go (.cond x a b)) fs e st st' r := by
          intro z hz hsel
          have g := step_s hm hp hz
          refine ⟨q.fn.trans g.1, fun B F ρ own w a' si he hsz Q hk => ?_⟩
          have ev := he.ev _ _ hs
          simp only [den, Option.some.injEq] at ev
          refine wp_cond ev.symm ?_
          rw [hsel si.ask]
          exact g.2 B F ρ own w a' (si.of_quiet q) he hsz Q (fun a' ρ' own' w' t' => hk a' ρ' own' w' (Tr.of_quiet q t'))
        cases o with
        | true =>
          refine key h4 (fun ha => ?_)
          rw [hq (fun p hx => ha p ((step_s hm hp h4).1.ask p hx)), if_pos rfl]
        | false =>
          refine key h4 (fun ha => ?_)
          rw [hq (fun p hx => ha p ((step_s hm hp h4).1.ask p hx))]
          rfl
      · exact (fail_ok.1 h2).elim
    · next c =>
      cases j with
      | zero =>
        obtain ⟨rfl, rfl⟩ := ret_ok.1 h
        exact ⟨Fn.refl _, fun B F ρ own w a si he hz Q hk => hk a ρ own w (si.quiet (Quiet.refl _)) he hz rfl⟩
      | succ j => exact plain h
    · exact plain h
  | k + 1, j, .out x, fs, e, st, st', r, h => by
    unfold stepC at h
    split at h
    · obtain ⟨rfl, rfl⟩ := ret_ok.1 h
      exact ⟨Fn.refl _, fun B F ρ own w a si he hz Q hk => hk a ρ own w (si.quiet (Quiet.refl _)) he hz rfl⟩
    · next b fs =>
      split at h
      · obtain ⟨hf, hs⟩ := step_s hm hp h
        exact ⟨hf, fun B F ρ own w a si he hz Q hk => hs B F ρ own w a si he hz Q hk⟩
      · next hx =>
        obtain ⟨hf, hs⟩ := step_s hm hp h
        refine ⟨hf, fun B F ρ own w a si he hz Q hk => ?_⟩
        have := hs B F ρ own w a si he hz Q hk
        cases x with
        | nor => exact absurd rfl hx
        | ret => exact this
        | out i => exact this
    · next id fs =>
      cases x with
      | out i =>
        simp only at h
        cases hb : Nat.beq i id with
        | true =>
          rw [hb] at h
          have hid := Nat.eq_of_beq_eq_true hb
          subst hid
          obtain ⟨hf, hs⟩ := step_s hm hp h
          refine ⟨hf, fun B F ρ own w a si he hz Q hk => ?_⟩
          have := hs B F ρ own w a si he hz Q hk
          simpa [goWp, wpF, Exit.inBlock, Ex.exit] using this
        | false =>
          rw [hb] at h
          have hid := Nat.ne_of_beq_eq_false hb
          obtain ⟨hf, hs⟩ := step_s hm hp h
          refine ⟨hf, fun B F ρ own w a si he hz Q hk => ?_⟩
          have := hs B F ρ own w a si he hz Q hk
          simpa [goWp, wpF, Exit.inBlock, Ex.exit, hid] using this
      | nor =>
        obtain ⟨hf, hs⟩ := step_s hm hp h
        exact ⟨hf, fun B F ρ own w a si he hz Q hk => hs B F ρ own w a si he hz Q hk⟩
      | ret =>
        obtain ⟨hf, hs⟩ := step_s hm hp h
        exact ⟨hf, fun B F ρ own w a si he hz Q hk => hs B F ρ own w a si he hz Q hk⟩
end
end Go.Proofs.Ytkndpdmopgmlcaa
end
section
/- Symbolic states that stand for memory, and rules for a body cut at its loops. Condition: the program follows the looser reading of Go's order. -/
namespace Go.Proofs.Ytkndpdmopgmlcaa

structure Sym (R : Type) where
  e : Env
  hp : List (Nat × Chunk R)
  nx : Nat

section
variable {R : Type}
structure Stand (A : RepAt R) (P : Program) (B : Nat) (s : Sym R) (ρ : Names) (own : Nat → List Nat) (w : World) : Prop where
  li : LI A P B ρ own s.hp (fun _ => True) w
  top : ∀ n, s.nx ≤ n → hget n s.hp = none
  fresh : ∀ n, s.nx ≤ n → ρ n = none
  base : B ≤ w.heap.size

/-- What has changed lies in known pieces or is new. -/
structure Way (hp : List (Nat × Chunk R)) (own : Nat → List Nat) (w : World) (hp' : List (Nat × Chunk R)) (own' : Nat → List Nat) (w' : World) : Prop where
  mod : ModP (fun b => ∃ n c, hget n hp = some c ∧ b ∈ own n) w w'
  pool : ∀ n c, hget n hp' = some c → ∀ b ∈ own' n, w.heap.size ≤ b ∨ ∃ m d, hget m hp = some d ∧ b ∈ own m
variable {hp hp1 hp2 : List (Nat × Chunk R)} {own own1 own2 : Nat → List Nat} {w w1 w2 : World}
theorem Way.refl : Way hp own w hp own w := ⟨ModP.refl _ _, fun n c hc _ hb => .inr ⟨n, c, hc, hb⟩⟩
theorem Way.trans (h : Way hp own w hp1 own1 w1) (k : Way hp1 own1 w1 hp2 own2 w2) : Way hp own w hp2 own2 w2 := by
  refine ⟨h.mod.trans k.mod fun b hb ⟨n, c, hc, hn⟩ => (h.pool n c hc b hn).resolve_left (by omega), fun n c hc b hb => ?_⟩
  rcases k.pool n c hc b hb with g | ⟨m, d, g1, g2⟩
  · exact .inl (Nat.le_trans h.mod.size g)
  · exact h.pool m d g1 b g2

def Tri (A : RepAt R) (P : Program) (sz pin : Nat) (g : Goer) (fs : List Fr) (s : Sym R) (Q : Ex → Sym R → Prop) : Prop :=
  ∀ B ρ own w a, Stand A P B s ρ own w → EnvR ρ s.e a → a.tmps.size = sz → ∀ (K : Exit → Act → World → Prop),
    (∀ x s' ρ' own' w' a', Q x s' → Stand A P B s' ρ' own' w' → EnvR ρ' s'.e a' → a'.tmps.size = sz → a'.defers = a.defers → Way s.hp own w s'.hp own' w' → (∀ n, n < pin → ρ' n = ρ n) → K x.exit a' w') → goWp P g fs K a w

variable {A : RepAt R} {P : Program} {lib : Lib R} {n sz pin : Nat} {g g' : Goer} {fs fs' : List Fr} {s s' s'' : Sym R} {Q Q' : Ex → Sym R → Prop}
theorem Tri.fin {x : Ex} (h : Q x s) : Tri A P sz pin (.out x) [] s Q := fun _ ρ own w a hs he hz _ hk => hk x s ρ own w a h hs he hz rfl Way.refl (fun _ _ => rfl)
theorem Tri.mono (h : Tri A P sz pin g fs s Q) (hq : ∀ x s, Q x s → Q' x s) : Tri A P sz pin g fs s Q' := fun B ρ own w a hs he hz K hk => h B ρ own w a hs he hz K fun x s' ρ' own' w' a' hx => hk x s' ρ' own' w' a' (hq x s' hx)

def Stop.next (r : Stop) : Goer × List Fr := match r with
  | .fin x _ => (.out x, [])
  | .here c fs _ => (.go (.loop c), fs)
theorem stop_next {r : Stop} {Q : Exit → Act → World → Prop} {a : Act} {w : World} : goWp P r.next.1 r.next.2 Q a w = stopWp P r Q a w := by cases r <;> rfl

theorem Tri.run (hm : P.follows .mixedOrders = true) (hl : LibOK A P lib) {k j : Nat} {o : List (Option Bool)} {r : Stop} {st' : St R} (h : stepC P lib n sz k j g fs s.e ⟨s.hp, s.nx, [], [], [], o⟩ = .ok r st') (ha : ∀ p ∈ st'.ask, p.1 = p.2) (hpin : pin ≤ s.nx)
    (ht : Tri A P sz pin r.next.1 r.next.2 ⟨r.env, st'.hp, st'.nx⟩ Q) : Tri A P sz pin g fs s Q := by
  obtain ⟨hf, hs⟩ := step_s hm hl h
  intro B ρ own w a hst he hz K hk
  have hwf : Wf (⟨s.hp, s.nx, [], [], [], o⟩ : St R) := ⟨(fun n hn => by cases hn), hst.top⟩
  have hwf' := hf.wf hwf
  refine hs B (fun _ => True) ρ own w a ⟨fun _ _ => trivial, hwf, fun n hn => hst.fresh n hn.1, hst.li, ha, hst.base⟩ he hz K (fun a1 ρ1 own1 w1 t1 he1 hz1 hd1 => ?_)
  rw [← stop_next]
  have old : ∀ m, m ∈ st'.wr → ¬ newN (⟨s.hp, s.nx, [], [], [], o⟩ : St R) st' m → ∃ c, hget m s.hp = some c := fun m hm hn => by
    rcases hf.al m hm with h1 | h1 | h1
    · cases h1
    · exact absurd ⟨h1, (hwf'.wr m hm).2⟩ hn
    · exact h1
  have way : Way s.hp own w st'.hp own1 w1 := by
    refine ⟨t1.mod.mono fun b _ ⟨m, h1, h2, h3⟩ => ?_, fun n c hc b hb => ?_⟩
    · obtain ⟨c, hc⟩ := old m h1 h2
      exact ⟨m, c, hc, h3⟩
    · by_cases h1 : newN (⟨s.hp, s.nx, [], [], [], o⟩ : St R) st' n ∨ n ∈ st'.wr
      · rcases t1.pool n h1 b hb with h2 | ⟨m, h2, h3, h4⟩
        · exact .inl h2
        · obtain ⟨d, hd⟩ := old m h2 h3
          exact .inr ⟨m, d, hd, h4⟩
      · rw [not_or] at h1
        rw [t1.same n h1.1 h1.2] at hb
        have hlt := hwf'.lt hc
        have h2 : n < s.nx := by
          rcases Nat.lt_or_ge n s.nx with h | h
          · exact h
          · exact absurd ⟨h, hlt⟩ h1.1
        exact .inr ⟨n, c, (hf.hp n h1.2 h2).symm.trans hc, hb⟩
  refine ht B ρ1 own1 w1 a1 ⟨t1.li.sub fun _ _ => .inl trivial, hwf'.top, fun n hn => ?_, Nat.le_trans hst.base t1.mod.size⟩ he1 hz1 K (fun x s2 ρ2 own2 w2 a2 hq h2 he2 hz2 hd2 hw2 hp2 => hk x s2 ρ2 own2 w2 a2 hq h2 he2 hz2 (hd2.trans hd1) (way.trans hw2) (fun n hn => ?_))
  · simp only at hn
    rw [t1.out n (fun h => by have := h.2; omega)]
    exact hst.fresh n (Nat.le_trans hf.nx hn)
  · rw [hp2 n hn, t1.out n (fun h => by have h1 := h.1; simp only at h1; omega)]

theorem rounds_mono {c : Code} {Q : Exit → Act → World → Prop} : ∀ {n m : Nat}, n ≤ m → ∀ {a w}, Code.rounds P c Q n a w → Code.rounds P c Q m a w
  | 0, _, _, _, _, h => h.elim
  | n + 1, 0, hle, _, _, _ => by omega
  | n + 1, m + 1, hle, a, w, h => by
    rw [rounds_succ] at h ⊢
    refine wp_mono h fun e a w hx => ?_
    cases e <;> first | exact rounds_mono (Nat.le_of_succ_le_succ hle) hx | exact hx

/-- A loop's rule: each round leads to such a state again, of a smaller number, or out. -/
theorem Tri.loop {c : Code} (I : Nat → Sym R → Prop) (hr : ∀ k s, I k s → Tri A P sz pin (.go c) [] s (fun x s' => match x with
    | .nor => ∃ k', k' < k ∧ I k' s'
    | x => Tri A P sz pin (.out x) fs s' Q)) {k : Nat} (h : I k s) : Tri A P sz pin (.go (.loop c)) fs s Q := by
  have key : ∀ k s, I k s → ∀ B ρ own w a, Stand A P B s ρ own w → EnvR ρ s.e a → a.tmps.size = sz → ∀ (K : Exit → Act → World → Prop),
      (∀ x s' ρ' own' w' a', Q x s' → Stand A P B s' ρ' own' w' → EnvR ρ' s'.e a' → a'.tmps.size = sz → a'.defers = a.defers → Way s.hp own w s'.hp own' w' → (∀ n, n < pin → ρ' n = ρ n) → K x.exit a' w') → Code.rounds P c (wpF P fs K) (k + 1) a w := by
    intro k
    induction k using Nat.strongRecOn with
    | _ k ih =>
      intro s hI B ρ own w a hs he hz K hk
      rw [rounds_succ]
      refine hr k s hI B ρ own w a hs he hz _ (fun x s1 ρ1 own1 w1 a1 hx hs1 he1 hz1 hd1 hw1 hp1 => ?_)
      cases x with
      | nor =>
        obtain ⟨k', hlt, hI'⟩ := hx
        exact rounds_mono (Nat.succ_le_of_lt hlt) (ih k' hlt s1 hI' B ρ1 own1 w1 a1 hs1 he1 hz1 K (fun x s2 ρ2 own2 w2 a2 hq h2 he2 hz2 hd2 hw2 hp2 => hk x s2 ρ2 own2 w2 a2 hq h2 he2 hz2 (hd2.trans hd1) (hw1.trans hw2) (fun n hn => (hp2 n hn).trans (hp1 n hn))))
      | ret => exact hx B ρ1 own1 w1 a1 hs1 he1 hz1 K (fun x s2 ρ2 own2 w2 a2 hq h2 he2 hz2 hd2 hw2 hp2 => hk x s2 ρ2 own2 w2 a2 hq h2 he2 hz2 (hd2.trans hd1) (hw1.trans hw2) (fun n hn => (hp2 n hn).trans (hp1 n hn)))
      | out i => exact hx B ρ1 own1 w1 a1 hs1 he1 hz1 K (fun x s2 ρ2 own2 w2 a2 hq h2 he2 hz2 hd2 hw2 hp2 => hk x s2 ρ2 own2 w2 a2 hq h2 he2 hz2 (hd2.trans hd1) (hw1.trans hw2) (fun n hn => (hp2 n hn).trans (hp1 n hn)))
  exact fun B ρ own w a hs he hz K hk => wp_loop_rounds (k + 1) (key k s h B ρ own w a hs he hz K hk)

/-- The same memory, seen as another state. -/
def View (A : RepAt R) (P : Program) (pin : Nat) (s s' : Sym R) : Prop := ∀ B ρ own w, Stand A P B s ρ own w → ∃ ρ' own', Stand A P B s' ρ' own' w ∧ (∀ a, EnvR ρ s.e a → EnvR ρ' s'.e a) ∧ (∀ n c, hget n s'.hp = some c → ∀ b ∈ own' n, ∃ m d, hget m s.hp = some d ∧ b ∈ own m) ∧ ∀ n, n < pin → ρ' n = ρ n
theorem View.refl : View A P pin s s := fun _ ρ own _ h => ⟨ρ, own, h, fun _ h => h, fun n c hc _ hb => ⟨n, c, hc, hb⟩, fun _ _ => rfl⟩
theorem View.trans (h : View A P pin s s') (k : View A P pin s' s'') : View A P pin s s'' := fun B ρ own w hs => by
  obtain ⟨ρ1, own1, h1, h2, h3, h4⟩ := h B ρ own w hs
  obtain ⟨ρ2, own2, k1, k2, k3, k4⟩ := k B ρ1 own1 w h1
  refine ⟨ρ2, own2, k1, fun a ha => k2 a (h2 a ha), fun n c hc b hb => ?_, fun n hn => (k4 n hn).trans (h4 n hn)⟩
  obtain ⟨m, d, g1, g2⟩ := k3 n c hc b hb
  exact h3 m d g1 b g2
theorem Tri.view (h : View A P pin s s') (ht : Tri A P sz pin g fs s' Q) : Tri A P sz pin g fs s Q := fun B ρ own w a hs he hz K hk => by
  obtain ⟨ρ1, own1, h1, h2, h3, h4⟩ := h B ρ own w hs
  exact ht B ρ1 own1 w a h1 (h2 a he) hz K (fun x s2 ρ2 own2 w2 a2 hq hs2 he2 hz2 hd2 hw2 hp2 => hk x s2 ρ2 own2 w2 a2 hq hs2 he2 hz2 hd2 (Way.trans ⟨ModP.refl _ _, fun n c hc b hb => .inr (h3 n c hc b hb)⟩ hw2) (fun n hn => (hp2 n hn).trans (h4 n hn)))

/-! Names anew, in the order in which one comes to them; what one does not come to is forgotten. -/
mutual
def namesS : SV → List Nat
  | .v _ => []
  | .ptr n _ => [n]
  | .sl n _ _ _ => [n]
  | .slE n => [n]
  | .tptr n _ _ => [n]
  | .tsl n _ => [n]
  | .mp n => [n]
  | .ifc _ x => namesS x
  | .agg l => namesL l
  | .tup l => namesL l
  | .clo _ a b => namesL a ++ namesL b
def namesL : List SV → List Nat
  | [] => []
  | x :: l => namesS x ++ namesL l
end
def namesC : Chunk R → List Nat
  | .row l _ => namesL l
  | _ => []
def orderX (hp : List (Nat × Chunk R)) : Nat → List Nat → List Nat → List Nat
  | 0, _, seen => seen
  | _ + 1, [], seen => seen
  | k + 1, n :: todo, seen => match memN n seen with
    | true => orderX hp k todo seen
    | false => match hget n hp with
      | some c => orderX hp k (todo ++ namesC c) (seen ++ [n])
      | none => orderX hp k todo seen
def idxN (n : Nat) : List Nat → Nat → Option Nat
  | [], _ => none
  | m :: r, i => match Nat.beq n m with
    | true => some i
    | false => idxN n r (i + 1)
mutual
def renS (l : List Nat) : SV → Option SV
  | .v x => some (.v x)
  | .ptr n o => (idxN n l 0).map fun m => .ptr m o
  | .sl n o i k => (idxN n l 0).map fun m => .sl m o i k
  | .slE n => (idxN n l 0).map fun m => .slE m
  | .tptr n i j => (idxN n l 0).map fun m => .tptr m i j
  | .tsl n k => (idxN n l 0).map fun m => .tsl m k
  | .mp n => (idxN n l 0).map fun m => .mp m
  | .ifc t x => (renS l x).map fun y => .ifc t y
  | .agg r => (renL l r).map fun r => .agg r
  | .tup r => (renL l r).map fun r => .tup r
  | .clo f a b => match renL l a, renL l b with
    | some a, some b => some (.clo f a b)
    | _, _ => none
def renL (l : List Nat) : List SV → Option (List SV)
  | [] => some []
  | x :: r => match renS l x, renL l r with
    | some x, some r => some (x :: r)
    | _, _ => none
end
def renC (l : List Nat) : Chunk R → Option (Chunk R)
  | .row cs t => (renL l cs).map fun cs => .row cs t
  | .emp => some .emp
  | .rep r => some (.rep r)
  | .tab _ _ _ => none
def renHp (l : List Nat) (hp : List (Nat × Chunk R)) : List Nat → Nat → Option (List (Nat × Chunk R))
  | [], _ => some []
  | n :: r, i => match (hget n hp).bind (renC l), renHp l hp r (i + 1) with
    | some c, some t => some ((i, c) :: t)
    | _, _ => none
def renEnv (l : List Nat) (e : Env) : List Nat → Option Env
  | [] => some []
  | t :: r => match elook t e with
    | some s => match renS l s, renEnv l e r with
      | some s, some r => some ((t, s) :: r)
      | _, _ => none
    | none => renEnv l e r
def rootsE (e : Env) : List Nat → List Nat
  | [] => []
  | t :: r => match elook t e with
    | some s => namesS s ++ rootsE e r
    | none => rootsE e r
def startsB : List Nat → List Nat → Bool
  | [], _ => true
  | _ :: _, [] => false
  | n :: r, m :: l => match Nat.beq n m with
    | true => startsB r l
    | false => false
def canonL (l pins vars : List Nat) (s : Sym R) : Option (Sym R) := match startsB pins l with
  | true => match renEnv l s.e vars, renHp l s.hp l 0 with
    | some e, some hp => some ⟨e, hp, l.length⟩
    | _, _ => none
  | false => none
def canonX (pins vars : List Nat) (s : Sym R) : Option (Sym R) := canonL (orderX s.hp 2000 (pins ++ rootsE s.e vars) []) pins vars s

theorem idxN_ok {n : Nat} : ∀ {l : List Nat} {i m : Nat}, idxN n l i = some m → i ≤ m ∧ l[m - i]? = some n
  | [], _, _, h => by cases h
  | x :: l, i, m, h => by
    simp only [idxN] at h
    split at h
    · next hb =>
      injection h with h
      subst h
      have := Nat.eq_of_beq_eq_true hb
      subst this
      simp
    · obtain ⟨h1, h2⟩ := idxN_ok h
      refine ⟨by omega, ?_⟩
      rw [show m - i = (m - (i + 1)) + 1 by omega, List.getElem?_cons_succ]
      exact h2
def renN (l : List Nat) (ρ : Names) : Names := fun i => match l[i]? with
  | some n => ρ n
  | none => none
theorem renN_idx {l : List Nat} {ρ : Names} {n m : Nat} (h : idxN n l 0 = some m) : renN l ρ m = ρ n := by
  obtain ⟨_, h⟩ := idxN_ok h
  rw [Nat.sub_zero] at h
  simp [renN, h]
mutual
theorem den_ren {l : List Nat} {ρ : Names} : ∀ (s s' : SV) (x : Value), renS l s = some s' → den ρ s = some x → den (renN l ρ) s' = some x
  | .v _, s', x, h, hx => by
    simp only [renS, Option.some.injEq] at h
    subst h
    exact hx
  | .ptr n o, s', x, h, hx => by
    simp only [renS, Option.map_eq_some_iff] at h
    obtain ⟨m, hm, rfl⟩ := h
    simpa only [den, renN_idx hm] using hx
  | .sl n o i k, s', x, h, hx => by
    simp only [renS, Option.map_eq_some_iff] at h
    obtain ⟨m, hm, rfl⟩ := h
    simpa only [den, renN_idx hm] using hx
  | .slE n, s', x, h, hx => by
    simp only [renS, Option.map_eq_some_iff] at h
    obtain ⟨m, hm, rfl⟩ := h
    simpa only [den, renN_idx hm] using hx
  | .tptr n i j, s', x, h, hx => by
    simp only [renS, Option.map_eq_some_iff] at h
    obtain ⟨m, hm, rfl⟩ := h
    simpa only [den, renN_idx hm] using hx
  | .tsl n k, s', x, h, hx => by
    simp only [renS, Option.map_eq_some_iff] at h
    obtain ⟨m, hm, rfl⟩ := h
    simpa only [den, renN_idx hm] using hx
  | .mp n, s', x, h, hx => by
    simp only [renS, Option.map_eq_some_iff] at h
    obtain ⟨m, hm, rfl⟩ := h
    simpa only [den, renN_idx hm] using hx
  | .ifc t y, s', x, h, hx => by
    simp only [renS, Option.map_eq_some_iff] at h
    obtain ⟨y', hy, rfl⟩ := h
    simp only [den, Option.map_eq_some_iff] at hx ⊢
    obtain ⟨z, hz, hx⟩ := hx
    exact ⟨z, den_ren y y' z hy hz, hx⟩
  | .agg r, s', x, h, hx => by
    simp only [renS, Option.map_eq_some_iff] at h
    obtain ⟨y', hy, rfl⟩ := h
    simp only [den, Option.map_eq_some_iff] at hx ⊢
    obtain ⟨z, hz, hx⟩ := hx
    exact ⟨z, denL_ren r y' z hy hz, hx⟩
  | .tup r, s', x, h, hx => by
    simp only [renS, Option.map_eq_some_iff] at h
    obtain ⟨y', hy, rfl⟩ := h
    simp only [den, Option.map_eq_some_iff] at hx ⊢
    obtain ⟨z, hz, hx⟩ := hx
    exact ⟨z, denL_ren r y' z hy hz, hx⟩
  | .clo f a b, s', x, h, hx => by
    simp only [renS] at h
    split at h <;> cases h
    next a' b' ha hb =>
    simp only [den] at hx ⊢
    split at hx <;> try cases hx
    next va vb h1 h2 =>
    rw [denL_ren a a' va ha h1, denL_ren b b' vb hb h2]
theorem denL_ren {l : List Nat} {ρ : Names} : ∀ (s s' : List SV) (x : List Value), renL l s = some s' → denL ρ s = some x → denL (renN l ρ) s' = some x
  | [], s', x, h, hx => by
    simp only [renL, Option.some.injEq] at h
    subst h
    exact hx
  | y :: r, s', x, h, hx => by
    simp only [renL] at h
    split at h <;> cases h
    next y' r' hy hr =>
    obtain ⟨a, b, h1, h2, rfl⟩ := denL_cons.1 hx
    exact denL_cons.2 ⟨a, b, den_ren y y' a hy h1, denL_ren r r' b hr h2, rfl⟩
end
theorem order_nodup {hp : List (Nat × Chunk R)} : ∀ {k : Nat} {todo seen : List Nat}, seen.Nodup → (orderX hp k todo seen).Nodup
  | 0, _, _, h => h
  | _ + 1, [], _, h => h
  | k + 1, n :: todo, seen, h => by
    simp only [orderX]
    split
    · exact order_nodup h
    · next hm =>
      split
      · refine order_nodup (List.nodup_append.2 ⟨h, by simp, fun a ha b hb e => ?_⟩)
        rw [List.mem_singleton] at hb
        subst hb
        subst e
        rw [memN_iff.2 ha] at hm
        cases hm
      · exact order_nodup h
theorem renHp_get {l : List Nat} {hp : List (Nat × Chunk R)} : ∀ {r : List Nat} {i : Nat} {hp' : List (Nat × Chunk R)}, renHp l hp r i = some hp' → ∀ {n : Nat} {c : Chunk R}, hget n hp' = some c → i ≤ n ∧ ∃ m d, r[n - i]? = some m ∧ hget m hp = some d ∧ renC l d = some c
  | [], _, hp', h, n, c, hc => by
    simp only [renHp, Option.some.injEq] at h
    subst h
    cases hc
  | x :: r, i, hp', h, n, c, hc => by
    simp only [renHp] at h
    split at h <;> cases h
    next c0 t h1 h2 =>
    rw [hget_cons] at hc
    split at hc
    · next e =>
      subst e
      injection hc with hc
      subst hc
      simp only [Option.bind_eq_some_iff] at h1
      obtain ⟨d, h3, h4⟩ := h1
      exact ⟨Nat.le_refl _, x, d, by simp, h3, h4⟩
    · obtain ⟨h3, m, d, h4, h5, h6⟩ := renHp_get h2 hc
      refine ⟨by omega, m, d, ?_, h5, h6⟩
      rw [show n - i = (n - (i + 1)) + 1 by omega, List.getElem?_cons_succ]
      exact h4
theorem renEnv_get {l : List Nat} {e : Env} : ∀ {vars : List Nat} {e' : Env}, renEnv l e vars = some e' → ∀ {t : Nat} {s : SV}, elook t e' = some s → ∃ s0, elook t e = some s0 ∧ renS l s0 = some s
  | [], e', h, t, s, hs => by
    simp only [renEnv, Option.some.injEq] at h
    subst h
    cases hs
  | v :: vars, e', h, t, s, hs => by
    simp only [renEnv] at h
    split at h
    · next s0 h0 =>
      split at h <;> cases h
      next s1 r h1 h2 =>
      rw [elook_cons] at hs
      split at hs
      · next e =>
        subst e
        injection hs with hs
        subst hs
        exact ⟨s0, h0, h1⟩
      · exact renEnv_get h2 hs
    · exact renEnv_get h hs
theorem starts_get : ∀ {r l : List Nat}, startsB r l = true → ∀ {n : Nat}, n < r.length → l[n]? = r[n]?
  | [], _, _, _, h => by cases h
  | _ :: _, [], h, _, _ => by cases h
  | x :: r, y :: l, h, n, hn => by
    simp only [startsB] at h
    split at h
    · next hb =>
      have := Nat.eq_of_beq_eq_true hb
      subst this
      cases n with
      | zero => rfl
      | succ n =>
        simp only [List.getElem?_cons_succ]
        exact starts_get h (by simpa using hn)
    · cases h
theorem canonL_view {l vars : List Nat} (hnd : l.Nodup) (h : canonL l (List.range pin) vars s = some s') : View A P pin s s' := by
  unfold canonL at h
  split at h
  case h_2 => cases h
  next hst =>
  split at h <;> cases h
  next e hp he hhp =>
  intro B ρ own w hs
  refine ⟨renN l ρ, fun i => match l[i]? with | some n => own n | none => [], ⟨⟨fun n c _ hc => ?_, fun n m c d _ _ hne hc hd b hb hb' => ?_, fun n c _ hc b hb => ?_⟩, fun n hn => ?_, fun n hn => ?_, hs.base⟩, fun a ha t v ht => ?_, fun n c hc b hb => ?_, fun n hn => ?_⟩
  · obtain ⟨_, m, d, h1, h2, h3⟩ := renHp_get hhp hc
    rw [Nat.sub_zero] at h1
    obtain ⟨e0, h4, h5⟩ := hs.li.at_ m d trivial h2
    refine ⟨e0, by simp [renN, h1, h4], ?_⟩
    simp only [h1]
    cases d with
    | row cs t =>
      simp only [renC, Option.map_eq_some_iff] at h3
      obtain ⟨cs', h6, rfl⟩ := h3
      obtain ⟨g1, ds, vs, g2, g3, g4⟩ := h5
      exact ⟨g1, ds, vs, g2, denL_ren _ _ _ h6 g3, g4⟩
    | tab f len t => cases h3
    | emp =>
      simp only [renC, Option.some.injEq] at h3
      subst h3
      exact h5
    | rep r =>
      simp only [renC, Option.some.injEq] at h3
      subst h3
      exact h5
  · obtain ⟨_, m1, d1, h1, h2, h3⟩ := renHp_get hhp hc
    obtain ⟨_, m2, d2, h4, h5, h6⟩ := renHp_get hhp hd
    rw [Nat.sub_zero] at h1 h4
    simp only [h1, h4] at hb hb'
    refine hs.li.dis m1 m2 d1 d2 trivial trivial (fun e => hne ?_) h2 h5 b hb hb'
    subst e
    exact (List.getElem?_inj (lt_of_some h1) hnd).1 (h1.trans h4.symm)
  · obtain ⟨_, m, d, h1, h2, h3⟩ := renHp_get hhp hc
    rw [Nat.sub_zero] at h1
    simp only [h1] at hb
    exact hs.li.low m d trivial h2 b hb
  · cases hx : hget n hp with
    | none => rfl
    | some c =>
      obtain ⟨_, m, d, h1, _⟩ := renHp_get hhp hx
      rw [Nat.sub_zero] at h1
      have := lt_of_some h1
      simp only at hn
      omega
  · simp only [renN]
    rw [List.getElem?_eq_none hn]
  · obtain ⟨s0, h1, h2⟩ := renEnv_get he ht
    obtain ⟨x, h3, h4⟩ := ha t s0 h1
    exact ⟨x, h3, den_ren s0 v x h2 h4⟩
  · obtain ⟨_, m, d, h1, h2, h3⟩ := renHp_get hhp hc
    rw [Nat.sub_zero] at h1
    simp only [h1] at hb
    exact ⟨m, d, h2, hb⟩
  · have := starts_get hst (n := n) (by simpa using hn)
    rw [List.getElem?_range hn] at this
    simp [renN, this]
theorem canon_view {vars : List Nat} (h : canonX (List.range pin) vars s = some s') : View A P pin s s' := canonL_view (order_nodup List.nodup_nil) h
end
end Go.Proofs.Ytkndpdmopgmlcaa
end
section
/- A long run cut into pieces at a loop's rounds: each piece its own theorem. No condition. -/
namespace Go.Proofs.Ytkndpdmopgmlcaa
variable {R : Type} {P : Program} {lib : Lib R}

def fEnv {β : Type} : Env → (Env → β) → β
  | [], k => k []
  | (t, s) :: r, k => fNat t fun t => fTop s fun s => fEnv r fun r => k ((t, s) :: r)
theorem fEnv_eq {β : Type} (e : Env) (k : Env → β) : fEnv e k = k e := by
  induction e generalizing k with
  | nil => rfl
  | cons p e ih => obtain ⟨t, s⟩ := p; simp [fEnv, fNat_eq, fTop_eq, ih]
/-- One round of a loop: what the next begins with, reckoned out. -/
def roundX (fR : R → (R → Option (Env × St R)) → Option (Env × St R)) (P : Program) (lib : Lib R) (n sz : Nat) (c : Code) (e : Env) (st : St R) : Option (Env × St R) := match runX P lib n sz c e st with
  | .ok (.nor, e1) st1 => fEnv (pruneE (maskE e) e1) fun e2 => fSt fR st1 fun st2 => some (e2, st2)
  | _ => none
theorem loop_round {fR : R → (R → Option (Env × St R)) → Option (Env × St R)} (hR : ∀ r k, fR r k = k r) {n sz : Nat} {c : Code} {e e1 : Env} {st st1 : St R} (h : roundX fR P lib n sz c e st = some (e1, st1)) : runX P lib (n + 1) sz (.loop c) e st = runX P lib n sz (.loop c) e1 st1 := by
  unfold roundX at h
  simp only [runX, codeF, M.bind]
  cases hr : runX P lib n sz c e st with
  | no w l => rw [hr] at h; cases h
  | ok a s =>
    obtain ⟨ex, e2⟩ := a
    rw [hr] at h
    cases ex with
    | nor =>
      simp only [fEnv_eq, fSt_eq hR] at h
      injection h with h; injection h with h1 h2; subst h1; subst h2; rfl
    | ret => cases h
    | out id => cases h

/-- A run up to its first loop. -/
inductive Sus (R : Type) where
  | done (r : Res R (Ex × Env))
  | here (n : Nat) (c : Code) (e : Env) (st : St R)
def susX (P : Program) (lib : Lib R) : Nat → Nat → Code → Env → St R → Sus R
  | n + 1, sz, .seq a b, e, st => match susX P lib n sz a e st with
    | .done (.ok (.nor, e1) st1) => susX P lib n sz b e1 st1
    | x => x
  | n + 1, sz, .block id c, e, st => match susX P lib n sz c e st with
    | .here m c' e' st' => .here m c' e' st'
    | .done _ => .done (runX P lib (n + 1) sz (.block id c) e st)
  | n + 1, _, .loop c, e, st => .here n c e st
  | n, sz, c, e, st => .done (runX P lib n sz c e st)
/-- The same, with the first loop's outcome given. -/
def finX (P : Program) (lib : Lib R) (v : Res R (Ex × Env)) : Nat → Nat → Code → Env → St R → Res R (Ex × Env)
  | n + 1, sz, .seq a b, e, st => match susX P lib n sz a e st with
    | .done (.ok (.nor, e1) st1) => finX P lib v n sz b e1 st1
    | .done r => r
    | .here _ _ _ _ => match finX P lib v n sz a e st with
      | .ok (.nor, e1) st1 => runX P lib n sz b e1 st1
      | r => r
  | n + 1, sz, .block id c, e, st => match finX P lib v n sz c e st with
    | .ok (.out id', e1) st1 => match Nat.beq id' id with
      | true => .ok (.nor, e1) st1
      | false => .ok (.out id', e1) st1
    | r => r
  | _ + 1, _, .loop _, _, _ => v
  | n, sz, c, e, st => runX P lib n sz c e st

theorem run_seq (n sz : Nat) (a b : Code) (e : Env) (st : St R) : runX P lib (n + 1) sz (.seq a b) e st = (match runX P lib n sz a e st with
    | .ok (.nor, e1) st1 => runX P lib n sz b e1 st1
    | r => r) := by
  simp only [runX, codeF, M.bind]
  cases runX P lib n sz a e st with
  | no w l => rfl
  | ok a s => obtain ⟨ex, e2⟩ := a; cases ex <;> rfl
theorem run_block (n sz id : Nat) (c : Code) (e : Env) (st : St R) : runX P lib (n + 1) sz (.block id c) e st = (match runX P lib n sz c e st with
    | .ok (.out id', e1) st1 => (match Nat.beq id' id with
      | true => .ok (.nor, e1) st1
      | false => .ok (.out id', e1) st1)
    | r => r) := by
  simp only [runX, codeF, M.bind]
  cases runX P lib n sz c e st with
  | no w l => rfl
  | ok a s =>
    obtain ⟨ex, e2⟩ := a
    cases ex with
    | nor => rfl
    | ret => rfl
    | out id' => cases hb : Nat.beq id' id <;> simp only [hb] <;> rfl
theorem sus_run : ∀ (n sz : Nat) (c : Code) (e : Env) (st : St R), (∀ r, susX P lib n sz c e st = .done r → runX P lib n sz c e st = r) ∧
    ∀ m c' e' st', susX P lib n sz c e st = .here m c' e' st' → runX P lib n sz c e st = finX P lib (runX P lib (m + 1) sz (.loop c') e' st') n sz c e st := by
  intro n
  induction n with
  | zero => exact fun sz c e st => ⟨fun r h => by cases c <;> (injection h), fun m c' e' st' h => by cases c <;> cases h⟩
  | succ n ih =>
    intro sz c e st
    cases c with
    | seq a b =>
      have ia := ih sz a e st
      rw [run_seq]
      cases hs : susX P lib n sz a e st with
      | done r =>
        rw [ia.1 r hs]
        cases r with
        | no w l => exact ⟨fun r h => by rw [susX, hs] at h; injection h, fun m c' e' st' h => by rw [susX, hs] at h; cases h⟩
        | ok v st1 =>
          obtain ⟨ex, e1⟩ := v
          have ib := ih sz b e1 st1
          cases ex with
          | nor =>
            refine ⟨fun r h => ?_, fun m c' e' st' h => ?_⟩
            · rw [susX, hs] at h
              exact ib.1 r h
            · rw [susX, hs] at h
              rw [finX, hs]
              exact ib.2 m c' e' st' h
          | ret => exact ⟨fun r h => by rw [susX, hs] at h; injection h, fun m c' e' st' h => by rw [susX, hs] at h; cases h⟩
          | out id => exact ⟨fun r h => by rw [susX, hs] at h; injection h, fun m c' e' st' h => by rw [susX, hs] at h; cases h⟩
      | here m c' e' st' =>
        refine ⟨fun r h => (by rw [susX, hs] at h; cases h), fun m2 c2 e2 st2 h => ?_⟩
        rw [susX, hs] at h
        injection h with h1 h2 h3 h4
        subst h1; subst h2; subst h3; subst h4
        rw [finX, hs, ia.2 _ _ _ _ hs]
    | block id c =>
      have ic := ih sz c e st
      cases hs : susX P lib n sz c e st with
      | done r => exact ⟨fun r h => by rw [susX, hs] at h; injection h, fun m c' e' st' h => by rw [susX, hs] at h; cases h⟩
      | here m c' e' st' =>
        refine ⟨fun r h => (by rw [susX, hs] at h; cases h), fun m2 c2 e2 st2 h => ?_⟩
        rw [susX, hs] at h
        injection h with h1 h2 h3 h4
        subst h1; subst h2; subst h3; subst h4
        rw [run_block, finX, ic.2 _ _ _ _ hs]
    | loop c => exact ⟨fun r h => (by cases h), fun m c' e' st' h => by injection h with h1 h2 h3 h4; subst h1; subst h2; subst h3; subst h4; rfl⟩
    | _ => exact ⟨fun r h => (by injection h), fun m c' e' st' h => by cases h⟩
/-- Where a run stands at its first loop, reckoned out. -/
def susF (fR : R → (R → Option (Nat × Env × St R)) → Option (Nat × Env × St R)) (x : Sus R) : Option (Nat × Env × St R) := match x with
  | .here n _ e st => fNat n fun n => fEnv e fun e => fSt fR st fun st => some (n, e, st)
  | .done _ => none
def endF (fR : R → (R → Option (Ex × Env × St R)) → Option (Ex × Env × St R)) (x : Res R (Ex × Env)) : Option (Ex × Env × St R) := match x with
  | .ok (.out i, e) st => fEnv e fun e => fSt fR st fun st => some (.out i, e, st)
  | _ => none
theorem endF_eq {fR : R → (R → Option (Ex × Env × St R)) → Option (Ex × Env × St R)} (hR : ∀ r k, fR r k = k r) {x : Res R (Ex × Env)} {ex : Ex} {e : Env} {st : St R} (h : endF fR x = some (ex, e, st)) : x = .ok (ex, e) st := by
  cases x with
  | no w l => cases h
  | ok a s =>
    obtain ⟨x1, e2⟩ := a
    cases x1 with
    | nor => cases h
    | ret => cases h
    | out id =>
      simp only [endF, fEnv_eq, fSt_eq hR] at h
      injection h with h; injection h with h1 h2; injection h2 with h2 h3; subst h1; subst h2; subst h3; rfl
def firstLoop : Code → Code
  | .seq a b => match firstLoop a with
    | .skip => firstLoop b
    | c => c
  | .block _ c => firstLoop c
  | .loop c => c
  | _ => .skip
def bodyOf (P : Program) (f : FuncId) : Code := match P.funcs[f]? with
  | some fn => match fn.body with
    | some c => c
    | none => .skip
  | none => .skip
def slotsOf (P : Program) (f : FuncId) : Nat := match P.funcs[f]? with
  | some fn => fn.ntmps
  | none => 0
/-- A call by its body's run. -/
theorem call_run {n : Nat} {f : FuncId} {args : List SV} {st : St R} (hp : (lib.prim f args).isNone = true) {v : Res R (Ex × Env)}
    (hr : runX P lib n (slotsOf P f) (bodyOf P f) (args.zipIdx.map fun p => (p.2, p.1)) st = v) : callX P lib n f args st = callF P lib (fun _ _ _ _ => v) f args st := by
  subst hr
  cases h1 : lib.prim f args with
  | some m => rw [h1] at hp; cases hp
  | none =>
    cases h2 : P.funcs[f]? with
    | none => simp only [callX, callF, h1, h2]
    | some fn =>
      cases h3 : fn.body with
      | none => simp only [callX, callF, h1, h2, h3]
      | some c =>
        have e1 : bodyOf P f = c := by simp only [bodyOf, h2, h3]
        have e2 : slotsOf P f = fn.ntmps := by simp only [slotsOf, h2]
        simp only [callX, callF, h1, h2, h3, e1, e2, stNow, M.bind]
        cases hw : Nat.ble args.length fn.ntmps <;> rfl
end Go.Proofs.Ytkndpdmopgmlcaa
end
section
/- Paths of a body, and a call by its body's rule. Condition: the program follows the looser reading of Go's order. -/
namespace Go.Proofs.Ytkndpdmopgmlcaa

section
variable {R : Type}
/-- A path: where it comes to, in names anew; and its tests. -/
def pathX (P : Program) (lib : Lib R) (n sz k j : Nat) (pins vars : List Nat) (g : Goer) (fs : List Fr) (s : Sym R) (o : List (Option Bool)) : Option (Goer × List Fr × Sym R × List (Bool × Bool)) := match stepC P lib n sz k j g fs s.e ⟨s.hp, s.nx, [], [], [], o⟩ with
  | .ok r st => match canonX pins vars ⟨r.env, st.hp, st.nx⟩ with
    | some s' => some (r.next.1, r.next.2, s', st.ask)
    | none => none
  | .no _ _ => none
variable {A : RepAt R} {P : Program} {lib : Lib R} {n sz pin k j : Nat} {g g' : Goer} {fs fs' : List Fr} {s s' : Sym R} {Q : Ex → Sym R → Prop}
theorem Tri.path (hm : P.follows .mixedOrders = true) (hl : LibOK A P lib) {vars : List Nat} {o : List (Option Bool)} {asks : List (Bool × Bool)} (h : pathX P lib n sz k j (List.range pin) vars g fs s o = some (g', fs', s', asks)) (ha : AllAsk asks) (hpin : pin ≤ s.nx)
    (ht : Tri A P sz pin g' fs' s' Q) : Tri A P sz pin g fs s Q := by
  unfold pathX at h
  split at h
  · next r st hr =>
    split at h
    · next s1 hs =>
      simp only [Option.some.injEq, Prod.mk.injEq] at h
      obtain ⟨rfl, rfl, rfl, rfl⟩ := h
      exact Tri.run hm hl hr ha.all hpin (Tri.view (canon_view hs) ht)
    · cases h
  · cases h

/-- The loops of a body, each with what stands round it; those within loops are left out. -/
def loopsC : Code → List Fr → List (Code × List Fr)
  | .seq a b, fs => loopsC a (.sq b :: fs) ++ loopsC b fs
  | .block id c, fs => loopsC c (.bk id :: fs)
  | .cond _ a b, fs => loopsC a fs ++ loopsC b fs
  | .loop c, fs => [(c, fs)]
  | _, _ => []
def lpAt (l : List (Code × List Fr)) (i : Nat) : Code × List Fr := match l[i]? with
  | some x => x
  | none => (.skip, [])
def loopOf (P : Program) (f : FuncId) (i : Nat) : Code × List Fr := lpAt (loopsC (bodyOf P f) []) i
def loopIn (p : Code × List Fr) (i : Nat) : Code × List Fr := lpAt (loopsC p.1 []) i

/-- What a body's end hands back. -/
def Ends (P : Program) (fn : Func) (T : List SV → Sym R → Prop) (x : Ex) (s : Sym R) : Prop := (x = .ret ∨ x = .nor) ∧ ∃ l st, resX P s.e fn.results.toList (⟨s.hp, s.nx, [], [], [], []⟩ : St R) = .ok l st ∧ T l s
theorem Ends.one {P : Program} {fn : Func} {x : Ex} {s : Sym R} {t : Nat} {v : SV} (hr : fn.results.toList = [.tmp t]) (hx : x = .ret ∨ x = .nor) (he : elook t s.e = some v) : Ends P fn (fun l _ => l = [v]) x s := by
  refine ⟨hx, [v], ⟨s.hp, s.nx, [], [], [], []⟩, ?_, rfl⟩
  rw [hr]
  simp only [resX, M.bind, M.opt, he, M.ret]
def argsE (args : List SV) : Env := args.zipIdx.map fun p => (p.2, p.1)
theorem argsE_den {ρ : Names} {args : List SV} {vals : List Value} (h : denL ρ args = some vals) (m : Nat) : EnvR ρ (argsE args) { tmps := vals.toArray ++ Array.replicate m undef, defers := [] } := fun t s hs => by
  obtain ⟨_, h9⟩ := elook_zip hs
  rw [Nat.sub_zero] at h9
  obtain ⟨x, g1, g2⟩ := denL_get h h9
  refine ⟨x, ?_, g1⟩
  rw [Array.getElem?_append_left (by rw [List.size_toArray]; exact lt_of_some g2), List.getElem?_toArray]
  exact g2

theorem Tri.calls {f : FuncId} {fn : Func} {c : Code} (hf : P.funcs[f]? = some fn) (hb : fn.body = some c) {args : List SV} {hp : List (Nat × Chunk R)} {nx : Nat} {T : List SV → Sym R → Prop} (hle : args.length ≤ fn.ntmps)
    (h : Tri A P fn.ntmps pin (.go c) [] ⟨argsE args, hp, nx⟩ (Ends P fn T)) {B : Nat} {ρ : Names} {own : Nat → List Nat} {w : World} (hs : Stand A P B ⟨argsE args, hp, nx⟩ ρ own w) {vals : List Value} (hv : denL ρ args = some vals) :
    Calls P f vals.toArray w fun e w' => ∃ y l s' ρ' own', e = .returned y ∧ den ρ' (oneOf l) = some y ∧ T l s' ∧ Stand A P B s' ρ' own' w' ∧ Way hp own w s'.hp own' w' ∧ ∀ n, n < pin → ρ' n = ρ n := by
  have hlen := denL_length hv
  refine calls_of_wp hf hb ?_
  refine h B ρ own w _ hs (argsE_den hv _) (by simp; omega) _ (fun x s' ρ' own' w' a' ⟨hx, l, st, hres, ht⟩ hs' he hz hd hw hpp => ?_)
  obtain ⟨q, hr⟩ := res_s (A := A) (sz := fn.ntmps) hres
  obtain ⟨vs, g1, g2⟩ := hr B (fun _ => True) ρ' own' w' a' hs'.li (fun _ _ => trivial) he hz
  have hr : (results fn a'.tmps).run P w' = .ok (if h : vs.length = 1 then vs[0] else .tuple vs.toArray) w' := by
    have e : results fn a'.tmps = (do
        let vs ← fn.results.mapM (resOp a'.tmps)
        pure (if h : vs.size = 1 then vs[0] else .tuple vs)) := rfl
    rw [e, Array.mapM_eq_mapM_toList]
    simp only [Sem.run_bind, Sem.run_map, g2, Result.andThen_ok, Sem.run_pure]
    congr 1
  have hone : den ρ' (oneOf l) = some (if h : vs.length = 1 then vs[0] else .tuple vs.toArray) := by
    have hl := denL_length g1
    cases l with
    | nil =>
      simp only [denL, Option.some.injEq] at g1
      subst g1
      rfl
    | cons x l =>
      obtain ⟨y, ys, g3, g4, rfl⟩ := denL_cons.1 g1
      cases l with
      | nil =>
        simp only [denL, Option.some.injEq] at g4
        subst g4
        simpa [oneOf] using g3
      | cons z l =>
        simp only [List.length_cons] at hl
        rw [dif_neg (by simp only [List.length_cons]; omega)]
        simp only [oneOf, den, g1, Option.map_some]
  have hpost : ∃ v, (results fn a'.tmps).run P w' = .ok v w' ∧ ∃ y l s' ρ' own', Ending.returned v = .returned y ∧ den ρ' (oneOf l) = some y ∧ T l s' ∧ Stand A P B s' ρ' own' w' ∧ Way hp own w s'.hp own' w' ∧ ∀ n, n < pin → ρ' n = ρ n := ⟨_, hr, _, l, s', ρ', own', rfl, hone, ht, hs', hw, hpp⟩
  rcases hx with rfl | rfl
  · exact ⟨hd, hpost⟩
  · exact ⟨hd, hpost⟩

/-- A law's call: it answers true, and what was there is as it was. -/
theorem Tri.law {f : FuncId} {fn : Func} {c : Code} (hf : P.funcs[f]? = some fn) (hb : fn.body = some c) {args : List SV} {hp : List (Nat × Chunk R)} {nx : Nat} (hle : Nat.ble args.length fn.ntmps = true)
    (h : Tri A P fn.ntmps 0 (.go c) [] ⟨argsE args, hp, nx⟩ (Ends P fn fun l _ => l = [.v (.bool true)])) {ρ : Names} {own : Nat → List Nat} {w : World} (hs : Stand A P w.heap.size ⟨argsE args, hp, nx⟩ ρ own w) {vals : List Value} (hv : denL ρ args = some vals) :
    Calls P f vals.toArray w fun e w' => e = .returned (.bool true) ∧ Mod [] w w' := by
  refine (Tri.calls hf hb (Nat.le_of_ble_eq_true hle) h hs hv).mono fun e w' ⟨y, l, s', ρ', own', he, hy, hl, _, hw, _⟩ => ?_
  subst hl
  simp only [oneOf, den, Option.some.injEq] at hy
  subst hy
  refine ⟨he, hw.mod.mod fun b hb ⟨n, d, hd, hn⟩ => ?_⟩
  have := (hs.li.low n d trivial hd b hn).1
  omega
end
end Go.Proofs.Ytkndpdmopgmlcaa
end
section
/- A known row seen as a row of open number; nil seen as such a row. No condition. -/
namespace Go.Proofs.Ytkndpdmopgmlcaa
open Go.RowKit

mutual
/-- Slices of all of block n are seen as a row's. -/
def absS (sl : Bool) (n : Nat) : SV → Option SV
  | .v x => some (.v x)
  | .ptr m o => some (.ptr m o)
  | .sl m o i k => match Nat.beq m n with
    | true => match sl, o, i with
      | true, 0, 0 => some (.tsl m k)
      | _, _, _ => none
    | false => some (.sl m o i k)
  | .slE m => match Nat.beq m n with
    | true => none
    | false => some (.slE m)
  | .tptr m i j => match Nat.beq m n with
    | true => none
    | false => some (.tptr m i j)
  | .tsl m k => match Nat.beq m n with
    | true => none
    | false => some (.tsl m k)
  | .mp m => some (.mp m)
  | .ifc t x => (absS sl n x).map fun y => .ifc t y
  | .agg r => (absL sl n r).map fun r => .agg r
  | .tup r => (absL sl n r).map fun r => .tup r
  | .clo f a b => match absL sl n a, absL sl n b with
    | some a, some b => some (.clo f a b)
    | _, _ => none
def absL (sl : Bool) (n : Nat) : List SV → Option (List SV)
  | [] => some []
  | x :: r => match absS sl n x, absL sl n r with
    | some x, some r => some (x :: r)
    | _, _ => none
end
def absC (sl : Bool) (n : Nat) : Chunk Rep → Option (Chunk Rep)
  | .row l t => (absL sl n l).map fun l => .row l t
  | .tab _ _ _ => none
  | c => some c
def absHp (sl : Bool) (n : Nat) (c0 : Chunk Rep) : List (Nat × Chunk Rep) → Option (List (Nat × Chunk Rep))
  | [] => some []
  | (m, c) :: r => match Nat.beq m n with
    | true => (absHp sl n c0 r).map fun r => (m, c0) :: r
    | false => match absC sl n c, absHp sl n c0 r with
      | some c, some r => some ((m, c) :: r)
      | _, _ => none
def absE (sl : Bool) (n : Nat) : Env → Option Env
  | [] => some []
  | (t, s) :: r => match absS sl n s, absE sl n r with
    | some s, some r => some ((t, s) :: r)
    | _, _ => none
inductive Gen where
  | row (n m : Nat) (ks : List CK)
  | arr (n m : Nat) (ks : List CK)
  | nilE (tmp : Nat) (ks : List CK) (t : TypeId)
  | nilC (n j : Nat) (ks : List CK) (t : TypeId)
  | map (n : Nat)
  | junk (n : Nat)
def setAtE (t : Nat) (s : SV) : Env → Env
  | [] => []
  | (u, x) :: r => match Nat.beq t u with
    | true => (u, s) :: r
    | false => (u, x) :: setAtE t s r
def isNil : SV → Bool
  | .v (.slice none 0 0) => true
  | _ => false
def allInt (kd : IntKind) : List Value → Option (List Int)
  | [] => some []
  | .int kd' z :: r => match eqKd kd kd', allInt kd r with
    | true, some l => some (z :: l)
    | _, _ => none
  | _ :: _ => none
def allBool : List Value → Option (List Bool)
  | [] => some []
  | .bool b :: r => (allBool r).map fun l => b :: l
  | _ :: _ => none
def allStr : List Value → Option (List ByteArray)
  | [] => some []
  | .string b :: r => (allStr r).map fun l => b :: l
  | _ :: _ => none
def colOf : CK → List Value → Option Col
  | .int kd, l => (allInt kd l).map fun zs => .int kd fun i => zs.getD i 0
  | .bool, l => (allBool l).map fun bs => .bool fun i => bs.getD i false
  | .str, l => (allStr l).map fun bs => .str fun i => bs.getD i ByteArray.empty
  | .raw, l => some (.raw fun i => l.getD i undef)
def colVals (l : List Value) (m k j : Nat) : List Value := (List.range m).map fun i => l.getD (i * k + j) undef
def colsOf (l : List Value) (m k : Nat) : Nat → List CK → Option (List Col)
  | _, [] => some []
  | j, c :: r => match colOf c (colVals l m k j), colsOf l m k (j + 1) r with
    | some c, some r => some (c :: r)
    | _, _ => none
def nilCol : CK → Col
  | .int kd => .int kd fun _ => 0
  | .bool => .bool fun _ => false
  | .str => .str fun _ => ByteArray.empty
  | .raw => .raw fun _ => undef
def genX (P : Program) (g : Gen) (s : Sym Rep) : Option (Sym Rep) := match g with
  | .row n m ks => match hget n s.hp with
    | some (.row l t) => match plainL l with
      | some vs => match Nat.beq vs.length (m * ks.length) && Nat.beq (P.cellsOf t) ks.length && vs.all Value.oneCell' && !Nat.beq ks.length 0, colsOf vs m ks.length 0 ks with
        | true, some cs => match absE true n s.e, absHp true n (.rep (.vec cs m t)) s.hp with
          | some e, some hp => some ⟨e, hp, s.nx⟩
          | _, _ => none
        | _, _ => none
      | none => none
    | _ => none
  | .arr n m ks => match hget n s.hp with
    | some (.row l t) => match plainL l with
      | some vs => match Nat.beq vs.length (m * ks.length) && vs.all Value.oneCell' && !Nat.beq ks.length 0, colsOf vs m ks.length 0 ks with
        | true, some cs => match absE false n s.e, absHp false n (.rep (.vec cs m t)) s.hp with
          | some e, some hp => some ⟨e, hp, s.nx⟩
          | _, _ => none
        | _, _ => none
      | none => none
    | _ => none
  | .nilE tmp ks t => match elook tmp s.e with
    | some x => match isNil x with
      | true => some ⟨setAtE tmp (.tsl s.nx 0) s.e, (s.nx, .rep (.vec (ks.map nilCol) 0 t)) :: s.hp, s.nx + 1⟩
      | false => none
    | none => none
  | .nilC n j ks t => match hget n s.hp with
    | some (.row l t0) => match l[j]? with
      | some x => match isNil x with
        | true => some ⟨s.e, (s.nx, .rep (.vec (ks.map nilCol) 0 t)) :: hset n (.row (splice l j [.tsl s.nx 0]) t0) s.hp, s.nx + 1⟩
        | false => none
      | none => none
    | _ => none
  | .map n => match hget n s.hp with
    | some (.rep (.pmap l g c)) => some ⟨s.e, hset n (.rep (.pmap [] (getL l g) c)) s.hp, s.nx⟩
    | some (.rep (.ucells l g c)) => some ⟨s.e, hset n (.rep (.ucells [] (getL l g) c)) s.hp, s.nx⟩
    | some (.rep (.imap t l g c)) => some ⟨s.e, hset n (.rep (.imap t [] (getI l g) c)) s.hp, s.nx⟩
    | some (.row [.v (.slice none 0 0)] t) => match Nat.beq t tRC && Nat.beq (P.cellsOf tRC) 1 with
      | true => some ⟨s.e, hset n (.rep (.ucells [] zeroG 0)) s.hp, s.nx⟩
      | false => none
    | _ => none
  | .junk n => match hget n s.hp with
    | some _ => some ⟨s.e, hset n (.rep .junk) s.hp, s.nx⟩
    | none => none
def gensX (P : Program) : List Gen → Sym Rep → Option (Sym Rep)
  | [], s => some s
  | g :: r, s => match genX P g s with
    | some s => gensX P r s
    | none => none
/-- Names anew, seen otherwise, and anew. -/
def normX (P : Program) (gens : List Gen) (pins vars : List Nat) (s : Sym Rep) : Option (Sym Rep) := match canonX pins vars s with
  | some s1 => match gens with
    | [] => some s1
    | gens => match gensX P gens s1 with
      | some s2 => canonX pins vars s2
      | none => none
  | none => none

section
variable {P : Program} {ρ : Names} {n : Nat} {e e1 : Spot} {sl : Bool}
mutual
theorem den_abs (he : ρ n = some e) (hb : e1.b = e.b) (ho : e1.off = e.off) (hc : sl = true → e1.cap = e.cap) (had : sl = true → e1.ad = some ⟨e.b, e.off, none⟩) : ∀ (s s' : SV) (x : Value), absS sl n s = some s' → den ρ s = some x → den (ρ.put n e1) s' = some x
  | .v _, s', x, h, hx => by
    simp only [absS, Option.some.injEq] at h
    subst h
    exact hx
  | .ptr m o, s', x, h, hx => by
    simp only [absS, Option.some.injEq] at h
    subst h
    by_cases hm : m = n
    · subst hm
      simp only [den, Names.put_same, he, Option.map_some, hb, ho] at hx ⊢
      exact hx
    · simpa only [den, Names.put_other hm] using hx
  | .mp m, s', x, h, hx => by
    simp only [absS, Option.some.injEq] at h
    subst h
    by_cases hm : m = n
    · subst hm
      simp only [den, Names.put_same, he, Option.map_some, hb] at hx ⊢
      exact hx
    · simpa only [den, Names.put_other hm] using hx
  | .sl m o i k, s', x, h, hx => by
    simp only [absS] at h
    cases hq : Nat.beq m n with
    | true =>
      rw [hq] at h
      have hm := Nat.eq_of_beq_eq_true hq
      subst hm
      simp only at h
      split at h <;> cases h
      simp only [den, Names.put_same, he, Option.map_some, hc rfl, had rfl, Nat.add_zero, Nat.sub_zero] at hx ⊢
      exact hx
    | false =>
      rw [hq] at h
      injection h with h
      subst h
      simpa only [den, Names.put_other (Nat.ne_of_beq_eq_false hq)] using hx
  | .slE m, s', x, h, hx => by
    simp only [absS] at h
    cases hq : Nat.beq m n with
    | true => rw [hq] at h; cases h
    | false =>
      rw [hq] at h
      injection h with h
      subst h
      simpa only [den, Names.put_other (Nat.ne_of_beq_eq_false hq)] using hx
  | .tptr m i j, s', x, h, hx => by
    simp only [absS] at h
    cases hq : Nat.beq m n with
    | true => rw [hq] at h; cases h
    | false =>
      rw [hq] at h
      injection h with h
      subst h
      simpa only [den, Names.put_other (Nat.ne_of_beq_eq_false hq)] using hx
  | .tsl m k, s', x, h, hx => by
    simp only [absS] at h
    cases hq : Nat.beq m n with
    | true => rw [hq] at h; cases h
    | false =>
      rw [hq] at h
      injection h with h
      subst h
      simpa only [den, Names.put_other (Nat.ne_of_beq_eq_false hq)] using hx
  | .ifc t y, s', x, h, hx => by
    simp only [absS, Option.map_eq_some_iff] at h
    obtain ⟨y', hy, rfl⟩ := h
    simp only [den, Option.map_eq_some_iff] at hx ⊢
    obtain ⟨z, hz, hx⟩ := hx
    exact ⟨z, den_abs he hb ho hc had y y' z hy hz, hx⟩
  | .agg r, s', x, h, hx => by
    simp only [absS, Option.map_eq_some_iff] at h
    obtain ⟨y', hy, rfl⟩ := h
    simp only [den, Option.map_eq_some_iff] at hx ⊢
    obtain ⟨z, hz, hx⟩ := hx
    exact ⟨z, denL_abs he hb ho hc had r y' z hy hz, hx⟩
  | .tup r, s', x, h, hx => by
    simp only [absS, Option.map_eq_some_iff] at h
    obtain ⟨y', hy, rfl⟩ := h
    simp only [den, Option.map_eq_some_iff] at hx ⊢
    obtain ⟨z, hz, hx⟩ := hx
    exact ⟨z, denL_abs he hb ho hc had r y' z hy hz, hx⟩
  | .clo f a b, s', x, h, hx => by
    simp only [absS] at h
    split at h <;> cases h
    next a' b' ha hb' =>
    simp only [den] at hx ⊢
    split at hx <;> try cases hx
    next va vb h1 h2 =>
    rw [denL_abs he hb ho hc had a a' va ha h1, denL_abs he hb ho hc had b b' vb hb' h2]
theorem denL_abs (he : ρ n = some e) (hb : e1.b = e.b) (ho : e1.off = e.off) (hc : sl = true → e1.cap = e.cap) (had : sl = true → e1.ad = some ⟨e.b, e.off, none⟩) : ∀ (s s' : List SV) (x : List Value), absL sl n s = some s' → denL ρ s = some x → denL (ρ.put n e1) s' = some x
  | [], s', x, h, hx => by
    simp only [absL, Option.some.injEq] at h
    subst h
    exact hx
  | y :: r, s', x, h, hx => by
    simp only [absL] at h
    split at h <;> cases h
    next y' r' hy hr =>
    obtain ⟨a, b, h1, h2, rfl⟩ := denL_cons.1 hx
    exact denL_cons.2 ⟨a, b, den_abs he hb ho hc had y y' a hy h1, denL_abs he hb ho hc had r r' b hr h2, rfl⟩
end
theorem absHp_get {c0 : Chunk Rep} : ∀ {hp hp' : List (Nat × Chunk Rep)}, absHp sl n c0 hp = some hp' → ∀ m, (m = n → hget m hp' = (hget m hp).map fun _ => c0) ∧ (m ≠ n → ∀ c', hget m hp' = some c' → ∃ c, hget m hp = some c ∧ absC sl n c = some c') ∧ (hget m hp = none → hget m hp' = none)
  | [], hp', h, m => by
    simp only [absHp, Option.some.injEq] at h
    subst h
    exact ⟨fun _ => rfl, (fun _ c' hc => by cases hc), fun _ => rfl⟩
  | (k, c) :: r, hp', h, m => by
    simp only [absHp] at h
    cases hq : Nat.beq k n with
    | true =>
      rw [hq] at h
      simp only [Option.map_eq_some_iff] at h
      obtain ⟨r', hr, rfl⟩ := h
      have ih := absHp_get hr m
      have hk := Nat.eq_of_beq_eq_true hq
      subst hk
      simp only [hget_cons]
      refine ⟨fun hm => by subst hm; simp, fun hm c' hc' => ?_, fun hn => ?_⟩
      · rw [if_neg hm] at hc' ⊢
        exact ih.2.1 hm c' hc'
      · split at hn
        · cases hn
        · next hm => rw [if_neg hm]; exact ih.2.2 hn
    | false =>
      rw [hq] at h
      simp only at h
      split at h <;> cases h
      next c1 r' hc hr =>
      have ih := absHp_get hr m
      have hk := Nat.ne_of_beq_eq_false hq
      simp only [hget_cons]
      refine ⟨fun hm => ?_, fun hm c' hc' => ?_, fun hn => ?_⟩
      · subst hm
        rw [if_neg (Ne.symm hk), if_neg (Ne.symm hk)]
        exact ih.1 rfl
      · split at hc'
        · next hmk =>
          injection hc' with hc'
          subst hc'
          subst hmk
          exact ⟨c, by simp, hc⟩
        · next hmk =>
          rw [if_neg hmk]
          exact ih.2.1 hm c' hc'
      · split at hn
        · cases hn
        · next hm => rw [if_neg hm]; exact ih.2.2 hn
theorem absE_get : ∀ {en en' : Env}, absE sl n en = some en' → ∀ {t : Nat} {s : SV}, elook t en' = some s → ∃ s0, elook t en = some s0 ∧ absS sl n s0 = some s
  | [], en', h, t, s, hs => by
    simp only [absE, Option.some.injEq] at h
    subst h
    cases hs
  | (u, x) :: r, en', h, t, s, hs => by
    simp only [absE] at h
    split at h <;> cases h
    next x' r' hx hr =>
    rw [elook_cons] at hs ⊢
    split at hs
    · next htu =>
      injection hs with hs
      subst hs
      rw [if_pos htu]
      exact ⟨x, rfl, hx⟩
    · next htu =>
      rw [if_neg htu]
      exact absE_get hr hs

/-- Block n is seen otherwise. -/
theorem abs_view {pin : Nat} {s : Sym Rep} {l : List SV} {t : TypeId} {c0 : Chunk Rep} {en : Env} {hp : List (Nat × Chunk Rep)} (hn : hget n s.hp = some (.row l t)) (hpin : pin ≤ n) (hE : absE sl n s.e = some en) (hH : absHp sl n c0 s.hp = some hp)
    (hview : ∀ B (ρ : Names) own w e, ρ n = some e → CAt repAt P ρ B e own (.row l t) w → ∃ e1 : Spot, e1.b = e.b ∧ e1.off = e.off ∧ (sl = true → e1.cap = e.cap) ∧ (sl = true → e1.ad = some ⟨e.b, e.off, none⟩) ∧ CAt repAt P (ρ.put n e1) B e1 own c0 w) : View repAt P pin s ⟨en, hp, s.nx⟩ := by
  intro B ρ own w hs
  obtain ⟨e, he, hat⟩ := hs.li.at_ n _ trivial hn
  obtain ⟨e1, h1, h2, h3, h4, h5⟩ := hview B ρ (own n) w e he hat
  have hlt : n < s.nx := by
    rcases Nat.lt_or_ge n s.nx with h | h
    · exact h
    · rw [hs.top n h] at hn; cases hn
  have back : ∀ m c', hget m hp = some c' → ∃ c, hget m s.hp = some c := fun m c' hc' => by
    cases hx : hget m s.hp with
    | some c => exact ⟨c, rfl⟩
    | none => rw [(absHp_get hH m).2.2 hx] at hc'; cases hc'
  refine ⟨ρ.put n e1, own, ⟨⟨fun m c' _ hc' => ?_, fun m k c d _ _ hne hc hd => ?_, fun m c _ hc => ?_⟩, fun m hm => ?_, fun m hm => ?_, hs.base⟩, fun a ha u v hu => ?_, fun m c hc b hb => ?_, fun m hm => Names.put_other (by omega)⟩
  · by_cases hm : m = n
    · subst hm
      rw [(absHp_get hH m).1 rfl, hn] at hc'
      injection hc' with hc'
      subst hc'
      exact ⟨e1, Names.put_same, h5⟩
    · obtain ⟨c, hc, hcc⟩ := (absHp_get hH m).2.1 hm c' hc'
      obtain ⟨e2, g1, g2⟩ := hs.li.at_ m c trivial hc
      refine ⟨e2, by rw [Names.put_other hm]; exact g1, ?_⟩
      cases c with
      | row l' t' =>
        simp only [absC, Option.map_eq_some_iff] at hcc
        obtain ⟨l2, q1, rfl⟩ := hcc
        obtain ⟨q2, cs, vs, q3, q4, q5⟩ := g2
        exact ⟨q2, cs, vs, q3, denL_abs he h1 h2 h3 h4 _ _ _ q1 q4, q5⟩
      | tab f len t => cases hcc
      | emp => injection hcc with hcc; subst hcc; exact g2
      | rep r => injection hcc with hcc; subst hcc; exact g2
  · obtain ⟨c1, hc1⟩ := back m c hc
    obtain ⟨d1, hd1⟩ := back k d hd
    exact hs.li.dis m k c1 d1 trivial trivial hne hc1 hd1
  · obtain ⟨c1, hc1⟩ := back m c hc
    exact hs.li.low m c1 trivial hc1
  · exact (absHp_get hH m).2.2 (hs.top m hm)
  · simp only at hm
    rw [Names.put_other (by omega)]
    exact hs.fresh m hm
  · obtain ⟨s0, q1, q2⟩ := absE_get hE hu
    obtain ⟨x, q3, q4⟩ := ha u s0 q1
    exact ⟨x, q3, den_abs he h1 h2 h3 h4 s0 v x q2 q4⟩
  · obtain ⟨c1, hc1⟩ := back m c hc
    exact ⟨m, c1, hc1, hb⟩

theorem nil_of {x : SV} (h : isNil x = true) : x = .v (.slice none 0 0) := by
  unfold isNil at h
  split at h
  · rfl
  · cases h
theorem setAtE_get {t : Nat} {x : SV} : ∀ {en : Env} {u : Nat} {s : SV}, elook u (setAtE t x en) = some s → elook u en = some s ∨ (u = t ∧ s = x)
  | [], u, s, h => .inl h
  | (k, y) :: r, u, s, h => by
    simp only [setAtE] at h
    cases hb : Nat.beq t k with
    | true =>
      rw [hb] at h
      have htk := Nat.eq_of_beq_eq_true hb
      subst htk
      rw [elook_cons] at h ⊢
      split at h
      · next hu => injection h with h; exact .inr ⟨hu, h.symm⟩
      · next hu => rw [if_neg hu]; exact .inl h
    | false =>
      rw [hb] at h
      rw [elook_cons] at h ⊢
      split at h
      · next hu => rw [if_pos hu]; exact .inl h
      · next hu => rw [if_neg hu]; exact setAtE_get h
/-- A name more, for nil. -/
theorem nil_stand {s : Sym Rep} {B : Nat} {cs : List Col} {t : TypeId} {own : Nat → List Nat} {w : World} (hs : Stand repAt P B s ρ own w) : Stand repAt P B ⟨s.e, (s.nx, .rep (.vec cs 0 t)) :: s.hp, s.nx + 1⟩ (ρ.put s.nx ⟨0, 0, 0, cs.length, 0, none⟩) (ownPut own s.nx []) w ∧ ρ.le (ρ.put s.nx ⟨0, 0, 0, cs.length, 0, none⟩) := by
  have hle : ρ.le (ρ.put s.nx ⟨0, 0, 0, cs.length, 0, none⟩) := Names.put_le (hs.fresh _ (Nat.le_refl _))
  have hlt : ∀ m c, hget m s.hp = some c → m ≠ s.nx := fun m c hc e => by rw [e, hs.top _ (Nat.le_refl _)] at hc; cases hc
  refine ⟨⟨⟨fun m c _ hc => ?_, fun m k' c d _ _ hne hc hd b hb => ?_, fun m c _ hc b hb => ?_⟩, fun m hm => ?_, fun m hm => ?_, hs.base⟩, hle⟩
  · simp only [hget_cons] at hc
    split at hc
    · next e =>
      subst e
      injection hc with hc
      subst hc
      refine ⟨_, Names.put_same, ?_⟩
      rw [ownPut_same]
      exact (⟨rfl, rfl, Nat.le_refl _, (fun i hi => by omega), rfl, rfl⟩ : VecAt (colsF cs) 0 t cs.length ⟨0, 0, 0, cs.length, 0, none⟩ [] w)
    · next e =>
      obtain ⟨e2, g1, g2⟩ := hs.li.at_ m c trivial hc
      refine ⟨e2, hle _ _ g1, ?_⟩
      rw [ownPut_other e]
      exact g2.stable hle (ModP.refl (fun _ => False) w) (fun _ _ h => h) (fun _ h => h.elim)
  · simp only [hget_cons] at hc hd
    split at hc
    · next e => subst e; rw [ownPut_same] at hb; cases hb
    · next e =>
      split at hd
      · next e2 => subst e2; rw [ownPut_same]; simp
      · next e2 =>
        rw [ownPut_other e] at hb
        rw [ownPut_other e2]
        exact hs.li.dis m k' c d trivial trivial hne hc hd b hb
  · simp only [hget_cons] at hc
    split at hc
    · next e => subst e; rw [ownPut_same] at hb; cases hb
    · next e =>
      rw [ownPut_other e] at hb
      exact hs.li.low m c trivial hc b hb
  · simp only at hm
    rw [hget_cons, if_neg (by omega)]
    exact hs.top m (by omega)
  · simp only at hm
    rw [Names.put_other (by omega)]
    exact hs.fresh m (by omega)
/-- A piece is seen as something else. -/
theorem swap_view {pin n : Nat} {s : Sym Rep} {c0 c1 : Chunk Rep} (hn : hget n s.hp = some c0) (hc : ∀ B ρ own w e, ρ n = some e → CAt repAt P ρ B e own c0 w → ∃ own', CAt repAt P ρ B e own' c1 w ∧ ∀ x ∈ own', x ∈ own) : View repAt P pin s ⟨s.e, hset n c1 s.hp, s.nx⟩ := by
  intro B ρ own w hs
  have hsame : ∀ m d, hget m (hset n c1 s.hp) = some d → (m = n ∧ d = c1) ∨ (m ≠ n ∧ hget m s.hp = some d) := by
    intro m d hd
    rw [hget_set] at hd
    split at hd
    · next e =>
      rw [hn] at hd
      injection hd with hd
      exact .inl ⟨e, hd.symm⟩
    · next e => exact .inr ⟨e, hd⟩
  have any : ∀ m d, hget m (hset n c1 s.hp) = some d → ∃ d', hget m s.hp = some d' := fun m d hd => by
    rcases hsame m d hd with ⟨rfl, _⟩ | ⟨_, h⟩
    · exact ⟨_, hn⟩
    · exact ⟨_, h⟩
  obtain ⟨e, he, hat⟩ := hs.li.at_ n _ trivial hn
  obtain ⟨own', h1, h2⟩ := hc B ρ (own n) w e he hat
  have sub : ∀ m, ∀ x ∈ ownPut own n own' m, x ∈ own m := fun m x hx => by
    by_cases hm : m = n
    · subst hm
      rw [ownPut_same] at hx
      exact h2 x hx
    · rw [ownPut_other hm] at hx
      exact hx
  refine ⟨ρ, ownPut own n own', ⟨⟨fun m d _ hd => ?_, fun m k' d d' _ _ hne hd hd' b hb hb' => ?_, fun m d _ hd b hb => ?_⟩, fun m hm => ?_, hs.fresh, hs.base⟩, fun _ h => h, fun m d hd b hb => ?_, fun _ _ => rfl⟩
  · rcases hsame m d hd with ⟨rfl, rfl⟩ | ⟨hm, h⟩
    · exact ⟨e, he, by rw [ownPut_same]; exact h1⟩
    · rw [ownPut_other hm]
      exact hs.li.at_ m d trivial h
  · obtain ⟨d1, hd1⟩ := any m d hd
    obtain ⟨d2, hd2⟩ := any k' d' hd'
    exact hs.li.dis m k' d1 d2 trivial trivial hne hd1 hd2 b (sub m b hb) (sub k' b hb')
  · obtain ⟨d1, hd1⟩ := any m d hd
    exact hs.li.low m d1 trivial hd1 b (sub m b hb)
  · cases hq : hget m (hset n c1 s.hp) with
    | none => rfl
    | some d =>
      obtain ⟨d1, hd1⟩ := any m d hq
      rw [hs.top m hm] at hd1
      cases hd1
  · obtain ⟨d1, hd1⟩ := any m d hd
    exact ⟨m, d1, hd1, sub m b hb⟩
/-- A row's elements under another law. -/
theorem vec_view {pin n len : Nat} {t : TypeId} {cs cs' : List Col} {s : Sym Rep} (hn : hget n s.hp = some (.rep (.vec cs len t))) (hl : cs'.length = cs.length) (hf : ∀ i, i < len → colsF cs i = colsF cs' i) : View repAt P pin s ⟨s.e, hset n (.rep (.vec cs' len t)) s.hp, s.nx⟩ :=
  swap_view hn fun B ρ own w e he hat => ⟨own, by
    obtain ⟨h1, h2, h3, h4, h5⟩ := (show VecAt (colsF cs) len t cs.length e own w from hat)
    refine (⟨h1, by rw [hl]; exact h2, h3, fun i hi => by rw [← hf i hi, hl]; exact h4 i hi, ?_⟩ : VecAt (colsF cs') len t cs'.length e own w)
    rw [hl]
    cases ha : e.ad with
    | none => rw [ha] at h5; exact h5
    | some g =>
      rw [ha] at h5
      obtain ⟨g1, g2, cs, g3, g4, g5⟩ := h5
      exact ⟨g1, g2, cs, g3, g4, fun i hi j hj => by rw [← hf i hi]; exact g5 i hi j hj⟩, fun _ h => h⟩
theorem allInt_ok {kd : IntKind} : ∀ {l : List Value} {zs : List Int}, allInt kd l = some zs → l = zs.map (.int kd)
  | [], zs, h => by
    simp only [allInt, Option.some.injEq] at h
    subst h
    rfl
  | v :: r, zs, h => by
    cases v with
    | int kd' z =>
      simp only [allInt] at h
      split at h <;> cases h
      next l hk hl =>
      obtain rfl := eqKd_ok hk
      rw [allInt_ok hl]
      rfl
    | _ => cases h
theorem allBool_ok : ∀ {l : List Value} {bs : List Bool}, allBool l = some bs → l = bs.map .bool
  | [], zs, h => by
    simp only [allBool, Option.some.injEq] at h
    subst h
    rfl
  | v :: r, zs, h => by
    cases v with
    | bool b =>
      simp only [allBool, Option.map_eq_some_iff] at h
      obtain ⟨l, hl, rfl⟩ := h
      rw [allBool_ok hl]
      rfl
    | _ => cases h
theorem allStr_ok : ∀ {l : List Value} {bs : List ByteArray}, allStr l = some bs → l = bs.map .string
  | [], zs, h => by
    simp only [allStr, Option.some.injEq] at h
    subst h
    rfl
  | v :: r, zs, h => by
    cases v with
    | string b =>
      simp only [allStr, Option.map_eq_some_iff] at h
      obtain ⟨l, hl, rfl⟩ := h
      rw [allStr_ok hl]
      rfl
    | _ => cases h
theorem getD_map_lt {α β : Type} {f : α → β} {l : List α} {i : Nat} (hi : i < l.length) (d : α) (d' : β) : (l.map f).getD i d' = f (l.getD i d) := by
  simp [List.getD_eq_getElem?_getD, List.getElem?_map, List.getElem?_eq_getElem hi]
theorem colOf_ok {c : CK} {l : List Value} {r : Col} (h : colOf c l = some r) {i : Nat} (hi : i < l.length) : r.at i = l.getD i undef := by
  cases c with
  | int kd =>
    simp only [colOf, Option.map_eq_some_iff] at h
    obtain ⟨zs, hz, rfl⟩ := h
    rw [allInt_ok hz] at hi ⊢
    rw [List.length_map] at hi
    exact (getD_map_lt hi 0 undef).symm
  | bool =>
    simp only [colOf, Option.map_eq_some_iff] at h
    obtain ⟨zs, hz, rfl⟩ := h
    rw [allBool_ok hz] at hi ⊢
    rw [List.length_map] at hi
    exact (getD_map_lt hi false undef).symm
  | str =>
    simp only [colOf, Option.map_eq_some_iff] at h
    obtain ⟨zs, hz, rfl⟩ := h
    rw [allStr_ok hz] at hi ⊢
    rw [List.length_map] at hi
    exact (getD_map_lt hi ByteArray.empty undef).symm
  | raw =>
    simp only [colOf, Option.some.injEq] at h
    subst h
    rfl
theorem colsOf_ok {l : List Value} {m k : Nat} : ∀ {ks : List CK} {j : Nat} {cs : List Col}, colsOf l m k j ks = some cs → cs.length = ks.length ∧ ∀ i, i < m → colsF cs i = (List.range' j ks.length).map fun j => l.getD (i * k + j) undef
  | [], j, cs, h => by
    injection h with h
    subst h
    exact ⟨rfl, fun i _ => rfl⟩
  | c :: r, j, cs, h => by
    simp only [colsOf] at h
    split at h <;> cases h
    next c1 r1 h1 h2 =>
    obtain ⟨g1, g2⟩ := colsOf_ok h2
    refine ⟨by simp [g1], fun i hi => ?_⟩
    have hlen : i < (colVals l m k j).length := by simp [colVals, hi]
    simp only [colsF, colOf_ok h1 hlen, g2 i hi, List.length_cons, List.range'_succ, List.map_cons]
    congr 1
    simp [colVals, List.getD_eq_getElem?_getD, hi]
theorem colsOf_rows {l : List Value} {m : Nat} {ks : List CK} {cs : List Col} (h : colsOf l m ks.length 0 ks = some cs) (hl : l.length = m * ks.length) {i : Nat} (hi : i < m) : colsF cs i = rowsF ks.length l i := by
  obtain ⟨_, g⟩ := colsOf_ok h
  rw [g i hi]
  have hle : (i + 1) * ks.length ≤ m * ks.length := Nat.mul_le_mul_right _ hi
  rw [Nat.add_mul, Nat.one_mul] at hle
  apply List.ext_getElem?
  intro j
  by_cases hj : j < ks.length
  · rw [rowsF_get hj]
    simp only [List.getElem?_map, List.getElem?_range' hj, Option.map_some, Nat.zero_add, Nat.one_mul]
    rw [List.getD_eq_getElem?_getD, List.getElem?_eq_getElem (by omega)]
    rfl
  · rw [List.getElem?_eq_none (by simp; omega), List.getElem?_eq_none (by simp [rowsF]; omega)]
theorem nilU_at {B : Nat} {e : Spot} {own : List Nat} {w : World} (h1 : P.cellsOf tRC = 1) (h : CAt repAt P ρ B e own (.row [.v (.slice none 0 0)] tRC) w) : UAt (getL [] zeroG) 0 e own w := by
  obtain ⟨rfl, cs, vs, g1, g2, g3, g4, g5⟩ := h
  simp only [denL, den, Option.some.injEq] at g2
  subst g2
  rw [h1, Nat.mul_one] at g4 g5
  exact ⟨fun _ => 0, fun _ => 0, fun _ => 0, fun _ => 0, 0, ⟨0, 0, 0, 4, 0, none⟩, [], rfl, by simp, ⟨cs, g1, g3 0 (by simp), g4, g5⟩, ⟨rfl, rfl, Nat.le_refl _, (fun i hi => absurd hi (Nat.not_lt_zero _)), rfl, rfl⟩, ⟨(fun k hk => absurd hk (Nat.not_lt_zero _)), (fun k hk => absurd hk (Nat.not_lt_zero _)), fun _ _ => rfl, fun j k hj => absurd hj (Nat.not_lt_zero _)⟩, Nat.le_refl _⟩
theorem gen_view {pin : Nat} {g : Gen} {s s' : Sym Rep} (hpin : ∀ n m ks, g = .row n m ks ∨ g = .arr n m ks → pin ≤ n) (hnx : pin ≤ s.nx) (h : genX P g s = some s') : View repAt P pin s s' := by
  unfold genX at h
  split at h
  · next n m ks =>
    split at h <;> try cases h
    next l t hn =>
    split at h <;> try cases h
    next vs hvs =>
    split at h <;> try cases h
    next cs hb hcs =>
    split at h <;> cases h
    next e hp he hhp =>
    simp only [Bool.and_eq_true, Bool.not_eq_true'] at hb
    obtain ⟨⟨⟨hb1, hb2⟩, hb3⟩, hb4⟩ := hb
    have hb1 := Nat.eq_of_beq_eq_true hb1
    have hb2 := Nat.eq_of_beq_eq_true hb2
    have hb3 := List.all_eq_true.1 hb3
    have hb4 := Nat.ne_of_beq_eq_false hb4
    have hlen := (colsOf_ok hcs).1
    refine abs_view hn (hpin n m ks (.inl rfl)) he hhp fun B ρ own w e he hat => ?_
    obtain ⟨h1, ds, us, h2, h3, h4, h5, h6⟩ := hat
    have hus := plainL_den hvs h3
    subst hus
    rw [hb2] at h5 h6
    refine ⟨⟨e.b, e.cap, e.off, ks.length, m, some ⟨e.b, e.off, none⟩⟩, rfl, rfl, fun _ => rfl, fun _ => rfl, ?_⟩
    refine (⟨rfl, hlen.symm, ?_, fun i hi => ?_, rfl, h1, ds, h2, ?_, fun i hi j hj => ?_⟩ : VecAt (colsF cs) m t cs.length ⟨e.b, e.cap, e.off, ks.length, m, some ⟨e.b, e.off, none⟩⟩ own w)
    · rw [hb1] at h5
      exact Nat.le_of_mul_le_mul_right h5 (by omega)
    · rw [colsOf_rows hcs hb1 hi, hlen]
      exact rowsOK hb1 hb3 hi
    · rw [hlen]
      exact h6
    · rw [hlen] at hj ⊢
      have hx : (i + 1) * ks.length ≤ m * ks.length := Nat.mul_le_mul_right _ hi
      rw [Nat.add_mul, Nat.one_mul] at hx
      show ds[e.off + (i * ks.length + j)]? = _
      rw [h4 _ (by omega), colsOf_rows hcs hb1 hi, rowsF_get hj]
  · next n m ks =>
    split at h <;> try cases h
    next l t hn =>
    split at h <;> try cases h
    next vs hvs =>
    split at h <;> try cases h
    next cs hb hcs =>
    split at h <;> cases h
    next e hp he hhp =>
    simp only [Bool.and_eq_true, Bool.not_eq_true'] at hb
    obtain ⟨⟨hb1, hb3⟩, hb4⟩ := hb
    have hb1 := Nat.eq_of_beq_eq_true hb1
    have hb3 := List.all_eq_true.1 hb3
    have hb4 := Nat.ne_of_beq_eq_false hb4
    have hlen := (colsOf_ok hcs).1
    refine abs_view hn (hpin n m ks (.inr rfl)) he hhp fun B ρ own w e he hat => ?_
    obtain ⟨h1, ds, us, h2, h3, h4, h5, h6⟩ := hat
    have hus := plainL_den hvs h3
    subst hus
    refine ⟨⟨e.b, m, e.off, ks.length, m, some ⟨e.b, e.off, none⟩⟩, rfl, rfl, (fun h => by cases h), (fun h => by cases h), ?_⟩
    refine (⟨rfl, hlen.symm, Nat.le_refl _, fun i hi => ?_, rfl, h1, ds, h2, ?_, fun i hi j hj => ?_⟩ : VecAt (colsF cs) m t cs.length ⟨e.b, m, e.off, ks.length, m, some ⟨e.b, e.off, none⟩⟩ own w)
    · rw [colsOf_rows hcs hb1 hi, hlen]
      exact rowsOK hb1 hb3 hi
    · rw [hlen]
      show e.off + m * ks.length ≤ _
      omega
    · rw [hlen] at hj ⊢
      have hx : (i + 1) * ks.length ≤ m * ks.length := Nat.mul_le_mul_right _ hi
      rw [Nat.add_mul, Nat.one_mul] at hx
      show ds[e.off + (i * ks.length + j)]? = _
      rw [h4 _ (by omega), colsOf_rows hcs hb1 hi, rowsF_get hj]
  · next tmp ks t =>
    split at h <;> try cases h
    next x hx =>
    split at h <;> cases h
    next hnil =>
    have hnil := nil_of hnil
    subst hnil
    intro B ρ own w hs
    obtain ⟨h1, hle⟩ := nil_stand (t := t) (cs := ks.map nilCol) hs
    refine ⟨_, _, ⟨h1.li, h1.top, h1.fresh, h1.base⟩, fun a ha u v hu => ?_, fun m c hc b hb => ?_, fun m hm => Names.put_other (by omega)⟩
    · rcases setAtE_get hu with hu | ⟨rfl, rfl⟩
      · obtain ⟨y, q1, q2⟩ := ha u v hu
        exact ⟨y, q1, den_mono hle _ _ q2⟩
      · obtain ⟨y, q1, q2⟩ := ha u _ hx
        refine ⟨y, q1, ?_⟩
        simp only [den, Option.some.injEq, Names.put_same, Option.map_some] at q2 ⊢
        exact q2
    · simp only [hget_cons] at hc
      split at hc
      · next e => subst e; rw [ownPut_same] at hb; cases hb
      · next e => rw [ownPut_other e] at hb; exact ⟨m, c, hc, hb⟩
  · next n j ks t =>
    split at h <;> try cases h
    next l t0 hn =>
    split at h <;> try cases h
    next x hx =>
    split at h <;> cases h
    next hnil =>
    have hnil := nil_of hnil
    subst hnil
    intro B ρ own w hs
    obtain ⟨h1, hle⟩ := nil_stand (t := t) (cs := ks.map nilCol) hs
    have hlt : n ≠ s.nx := fun e => by rw [e, hs.top _ (Nat.le_refl _)] at hn; cases hn
    have hsame : ∀ m c, hget m ((s.nx, (.rep (.vec (ks.map nilCol) 0 t) : Chunk Rep)) :: hset n (.row (splice l j [.tsl s.nx 0]) t0) s.hp) = some c → (m = n ∧ c = .row (splice l j [.tsl s.nx 0]) t0) ∨ (m ≠ n ∧ hget m ((s.nx, (.rep (.vec (ks.map nilCol) 0 t) : Chunk Rep)) :: s.hp) = some c) := by
      intro m c hc
      by_cases hm : m = n
      · subst hm
        rw [hget_cons, if_neg hlt, hget_set, if_pos rfl, hn] at hc
        injection hc with hc
        exact .inl ⟨rfl, hc.symm⟩
      · refine .inr ⟨hm, ?_⟩
        rw [hget_cons] at hc ⊢
        split at hc
        · next e => rw [if_pos e]; exact hc
        · next e =>
          rw [if_neg e]
          rw [hget_set, if_neg hm] at hc
          exact hc
    have hold : hget n ((s.nx, (.rep (.vec (ks.map nilCol) 0 t) : Chunk Rep)) :: s.hp) = some (.row l t0) := by rw [hget_cons, if_neg hlt]; exact hn
    have any : ∀ m c, hget m ((s.nx, (.rep (.vec (ks.map nilCol) 0 t) : Chunk Rep)) :: hset n (.row (splice l j [.tsl s.nx 0]) t0) s.hp) = some c → ∃ d, hget m ((s.nx, (.rep (.vec (ks.map nilCol) 0 t) : Chunk Rep)) :: s.hp) = some d := fun m c hc => by
      rcases hsame m c hc with ⟨rfl, _⟩ | ⟨_, h⟩
      · exact ⟨_, hold⟩
      · exact ⟨_, h⟩
    refine ⟨_, ownPut own s.nx [], ⟨⟨fun m c _ hc => ?_, fun m k' c d _ _ hne hc hd => ?_, fun m c _ hc => ?_⟩, fun m hm => ?_, h1.fresh, h1.base⟩, fun a ha u v hu => ?_, fun m c hc b hb => ?_, fun m hm => Names.put_other (by omega)⟩
    · rcases hsame m c hc with ⟨rfl, rfl⟩ | ⟨hm, hc⟩
      · obtain ⟨e, g1, g2, cs, vs, g3, g4, g5, g6, g7⟩ := h1.li.at_ m _ trivial hold
        refine ⟨e, g1, g2, cs, vs, g3, ?_, g5, g6, g7⟩
        obtain ⟨y, q1, q2⟩ := denL_get g4 hx
        simp only [den, Option.some.injEq] at q1
        subst q1
        have hj := lt_of_some hx
        have hlen := denL_length g4
        have hsp := denL_splice g4 (m := [.tsl s.nx 0]) (us := [.slice none 0 0]) (by simp [denL, den, Names.put_same]) j
        rw [hsp]
        congr 1
        apply List.ext_getElem?
        intro i
        rw [show vs.take j ++ ([Value.slice none 0 0] ++ vs.drop (j + [Value.slice none 0 0].length)) = spliceV vs j [.slice none 0 0] from rfl, spliceV_get (by simp; omega)]
        split
        · rfl
        · split
          · next g8 g9 =>
            simp only [List.length_singleton] at g9
            obtain rfl : i = j := by omega
            simp [q2]
          · rfl
      · exact h1.li.at_ m c trivial hc
    · obtain ⟨c1, hc1⟩ := any m c hc
      obtain ⟨d1, hd1⟩ := any k' d hd
      exact h1.li.dis m k' c1 d1 trivial trivial hne hc1 hd1
    · obtain ⟨c1, hc1⟩ := any m c hc
      exact h1.li.low m c1 trivial hc1
    · cases hq : hget m ((s.nx, (.rep (.vec (ks.map nilCol) 0 t) : Chunk Rep)) :: hset n (.row (splice l j [.tsl s.nx 0]) t0) s.hp) with
      | none => rfl
      | some c =>
        obtain ⟨d, hd⟩ := any m c hq
        rw [h1.top m hm] at hd
        cases hd
    · obtain ⟨y, q1, q2⟩ := ha u v hu
      exact ⟨y, q1, den_mono hle _ _ q2⟩
    · obtain ⟨d, hd⟩ := any m c hc
      rw [hget_cons] at hd
      split at hd
      · next e => subst e; rw [ownPut_same] at hb; cases hb
      · next e => rw [ownPut_other e] at hb; exact ⟨m, d, hd, hb⟩
  · next n =>
    split at h <;> try cases h
    · next l g c hn => exact swap_view hn fun B ρ own w e he hat => ⟨own, hat, fun _ h => h⟩
    · next l g c hn => exact swap_view hn fun B ρ own w e he hat => ⟨own, hat, fun _ h => h⟩
    · next tt l g c hn => exact swap_view hn fun B ρ own w e he hat => ⟨own, hat, fun _ h => h⟩
    · next t hn =>
      split at h <;> cases h
      next hb =>
      simp only [Bool.and_eq_true] at hb
      obtain rfl := Nat.eq_of_beq_eq_true hb.1
      exact swap_view hn fun B ρ own w e he hat => ⟨own, nilU_at (Nat.eq_of_beq_eq_true hb.2) hat, fun _ h => h⟩
  · next n =>
    split at h <;> cases h
    next c0 hn =>
    exact swap_view hn fun B ρ own w e he hat => ⟨[], rfl, fun x hx => by cases hx⟩
theorem gens_view {s' : Sym Rep} : ∀ {gs : List Gen} {s : Sym Rep}, gensX P gs s = some s' → View repAt P 0 s s'
  | [], s, h => by
    simp only [gensX, Option.some.injEq] at h
    subst h
    exact View.refl
  | g :: r, s, h => by
    simp only [gensX] at h
    split at h
    · next s1 h1 => exact (gen_view (pin := 0) (fun _ _ _ _ => Nat.zero_le _) (Nat.zero_le _) h1).trans (gens_view h)
    · cases h
theorem norm_view {gs : List Gen} {vars : List Nat} {s s' : Sym Rep} (h : normX P gs [] vars s = some s') : View repAt P 0 s s' := by
  unfold normX at h
  split at h
  · next s1 h1 =>
    have v1 : View repAt P 0 s s1 := canon_view (pin := 0) h1
    split at h
    · injection h with h
      subst h
      exact v1
    · split at h
      · next s2 h2 => exact (v1.trans (gens_view h2)).trans (canon_view (pin := 0) h)
      · cases h
  · cases h
/-- A path: where it comes to, in names anew and seen otherwise; and its tests. -/
def pathG (P : Program) (lib : Lib Rep) (n sz k j : Nat) (cfg : Stop → List Gen × List Nat) (g : Goer) (fs : List Fr) (s : Sym Rep) (o : List (Option Bool)) : Option (Goer × List Fr × Sym Rep × List (Bool × Bool)) := match stepC P lib n sz k j g fs s.e ⟨s.hp, s.nx, [], [], [], o⟩ with
  | .ok r st => match normX P (cfg r).1 [] (cfg r).2 ⟨r.env, st.hp, st.nx⟩ with
    | some s' => some (r.next.1, r.next.2, s', st.ask)
    | none => none
  | .no _ _ => none
theorem Tri.pathG {lib : Lib Rep} {n sz k j : Nat} {g g' : Goer} {fs fs' : List Fr} {s s' : Sym Rep} {Q : Ex → Sym Rep → Prop} (hm : P.follows .mixedOrders = true) (hl : LibOK repAt P lib) {cfg : Stop → List Gen × List Nat} {o : List (Option Bool)} {asks : List (Bool × Bool)}
    (h : pathG P lib n sz k j cfg g fs s o = some (g', fs', s', asks)) (ha : AllAsk asks) (ht : Tri repAt P sz 0 g' fs' s' Q) : Tri repAt P sz 0 g fs s Q := by
  unfold Proofs.Ytkndpdmopgmlcaa.pathG at h
  split at h
  · next r st hr =>
    split at h
    · next s1 hs =>
      simp only [Option.some.injEq, Prod.mk.injEq] at h
      obtain ⟨rfl, rfl, rfl, rfl⟩ := h
      exact Tri.run hm hl hr ha.all (Nat.zero_le _) (Tri.view (norm_view hs) ht)
    · cases h
  · cases h
/-- The same, the first names kept. -/
def pinsB (pin : Nat) : Gen → Bool
  | .row n _ _ => Nat.ble pin n
  | .arr n _ _ => Nat.ble pin n
  | _ => true
def gensP (P : Program) (pin : Nat) : List Gen → Sym Rep → Option (Sym Rep)
  | [], s => some s
  | g :: r, s => match pinsB pin g && Nat.ble pin s.nx, genX P g s with
    | true, some s => gensP P pin r s
    | _, _ => none
theorem gensP_view {pin : Nat} {s' : Sym Rep} : ∀ {gs : List Gen} {s : Sym Rep}, gensP P pin gs s = some s' → View repAt P pin s s'
  | [], s, h => by
    simp only [gensP, Option.some.injEq] at h
    subst h
    exact View.refl
  | g :: r, s, h => by
    simp only [gensP] at h
    split at h
    · next hb h1 =>
      simp only [Bool.and_eq_true] at hb
      refine (gen_view (pin := pin) (fun n m ks hg => ?_) (Nat.le_of_ble_eq_true hb.2) h1).trans (gensP_view h)
      rcases hg with rfl | rfl <;> exact Nat.le_of_ble_eq_true hb.1
    · cases h
def normP (P : Program) (pin : Nat) (gens : List Gen) (vars : List Nat) (s : Sym Rep) : Option (Sym Rep) := match canonX (List.range pin) vars s with
  | some s1 => match gens with
    | [] => some s1
    | gens => match gensP P pin gens s1 with
      | some s2 => canonX (List.range pin) vars s2
      | none => none
  | none => none
theorem normP_view {pin : Nat} {gs : List Gen} {vars : List Nat} {s s' : Sym Rep} (h : normP P pin gs vars s = some s') : View repAt P pin s s' := by
  unfold normP at h
  split at h
  · next s1 h1 =>
    have v1 : View repAt P pin s s1 := canon_view h1
    split at h
    · injection h with h
      subst h
      exact v1
    · split at h
      · next s2 h2 => exact (v1.trans (gensP_view h2)).trans (canon_view h)
      · cases h
  · cases h
def pathP (P : Program) (lib : Lib Rep) (pin n sz k j : Nat) (cfg : Stop → List Gen × List Nat) (g : Goer) (fs : List Fr) (s : Sym Rep) (o : List (Option Bool)) : Option (Goer × List Fr × Sym Rep × List (Bool × Bool)) := match stepC P lib n sz k j g fs s.e ⟨s.hp, s.nx, [], [], [], o⟩ with
  | .ok r st => match normP P pin (cfg r).1 (cfg r).2 ⟨r.env, st.hp, st.nx⟩ with
    | some s' => some (r.next.1, r.next.2, s', st.ask)
    | none => none
  | .no _ _ => none
theorem Tri.pathP {lib : Lib Rep} {pin n sz k j : Nat} {g g' : Goer} {fs fs' : List Fr} {s s' : Sym Rep} {Q : Ex → Sym Rep → Prop} (hm : P.follows .mixedOrders = true) (hl : LibOK repAt P lib) {cfg : Stop → List Gen × List Nat} {o : List (Option Bool)} {asks : List (Bool × Bool)} (hpin : Nat.ble pin s.nx = true)
    (h : pathP P lib pin n sz k j cfg g fs s o = some (g', fs', s', asks)) (ha : AllAsk asks) (ht : Tri repAt P sz pin g' fs' s' Q) : Tri repAt P sz pin g fs s Q := by
  unfold Proofs.Ytkndpdmopgmlcaa.pathP at h
  split at h
  · next r st hr =>
    split at h
    · next s1 hs =>
      simp only [Option.some.injEq, Prod.mk.injEq] at h
      obtain ⟨rfl, rfl, rfl, rfl⟩ := h
      exact Tri.run hm hl hr ha.all (Nat.le_of_ble_eq_true hpin) (Tri.view (normP_view hs) ht)
    · cases h
  · cases h
end
end Go.Proofs.Ytkndpdmopgmlcaa
end
section
/- Maps from whole numbers to ints, for the executor. No condition. -/
namespace Go.Proofs.Ytkndpdmopgmlcaa
open Go.RowKit

def imInt (q : IntKind) : SV → Option Int
  | .v (.int kd x) => match decide (kd = q) with
    | true => some x
    | false => none
  | _ => none
theorem imInt_ok {q : IntKind} {s : SV} {x : Int} (h : imInt q s = some x) : s = .v (.int q x) := by
  unfold imInt at h
  split at h
  · split at h
    · next hd => obtain rfl := of_decide_eq_true hd; cases h; rfl
    · cases h
  · cases h
def imGet (t : TypeId) (q : IntKind) (ok : Bool) (m k : Option SV) : M Rep SV := (M.opt 350 m).bind fun
  | .mp n => (getC n).bind fun
    | .rep (.imap t' l g _) => (M.opt 351 (k.bind (imInt q))).bind fun p => (want 356 (Nat.beq t t')).bind fun _ => (need 352 (Lit.int q p).wf).bind fun _ =>
      .ret (match ok with
        | true => .tup [.v (.int .i64 ((getI l g p).getD 0)), .v (.bool (getI l g p).isSome)]
        | false => .v (.int .i64 ((getI l g p).getD 0)))
    | _ => .fail 353
  | _ => .fail 354
def imPut (t : TypeId) (q : IntKind) (m k v : Option SV) : M Rep SV := (M.opt 360 m).bind fun
  | .mp n => (getC n).bind fun
    | .rep (.imap t' l g c) => (M.opt 361 (k.bind (imInt q))).bind fun p => (M.opt 362 (v.bind (imInt .i64))).bind fun x => (want 366 (Nat.beq t t')).bind fun _ => (need 363 ((Lit.int q p).wf && (Lit.int .i64 x).wf && decide (c < maxLen))).bind fun _ =>
      (setC n (.rep (.imap t' ((p, some x) :: l) g (c + 1)))).bind fun _ => .ret undefX
    | _ => .fail 364
  | _ => .fail 365
def imDel (t : TypeId) (q : IntKind) (m k : Option SV) : M Rep SV := (M.opt 370 m).bind fun
  | .mp n => (getC n).bind fun
    | .rep (.imap t' l g c) => (M.opt 371 (k.bind (imInt q))).bind fun p => (want 376 (Nat.beq t t')).bind fun _ => (need 372 (Lit.int q p).wf).bind fun _ =>
      (setC n (.rep (.imap t' ((p, none) :: l) g c))).bind fun _ => .ret (.tup [])
    | _ => .fail 373
  | _ => .fail 374
noncomputable def extI (ev : Operand → Option SV) (o : Oper) : Option (M Rep SV) := match o.op with
  | .makeMap t none => (imKind t).map fun _ => (newC (.rep (.imap t [] noneG 0))).bind fun n => .ret (.mp n)
  | .lookup t m k ok => (imKind t).map fun kq => imGet t kq.2 ok (ev m) (ev k)
  | .mapUpdate t m k v => (imKind t).map fun kq => imPut t kq.2 (ev m) (ev k) (ev v)
  | .call ⟨.builtin .delete, ⟨[m, k]⟩, ⟨[t, kt]⟩⟩ => match imKind t with
    | some kq => match Nat.beq kt kq.1 with
      | true => some (imDel t kq.2 (ev m) (ev k))
      | false => none
    | none => none
  | _ => none

section
variable {st st' : St Rep} {o : Oper} {ev : Operand → Option SV} {s : SV}
set_option maxRecDepth 100000 in
theorem extI_ok : ∀ ev o m, extI ev o = some m → ∀ st s st', m st = .ok s st' → OpS repAt Try.prog o ev st st' s := by
  intro ev o m hm st s st' h
  obtain ⟨dst, op, ty, pos, aft, gu⟩ := o
  unfold extI at hm
  split at hm
  · -- makeMap
    next t he =>
    simp only at he
    subst he
    simp only [Option.map_eq_some_iff] at hm
    obtain ⟨⟨kt, q⟩, hk, rfl⟩ := hm
    obtain ⟨hu, hkk⟩ := imKind_ok hk
    obtain ⟨n, st1, h1, h2⟩ := bind_ok.1 h
    obtain ⟨rfl, rfl⟩ := newC_ok.1 h1
    obtain ⟨rfl, rfl⟩ := ret_ok.1 h2
    refine ⟨Fn.new _ _, fun B F ρ own w a si hev K Q hk' => ?_⟩
    have ht := Tr.new (w' := w.alloc (.map #[] 0)) si ⟨w.heap.size, 0, 0, 0, 0, none⟩ [w.heap.size] (alloc_mod w _) (show Rep.At B (.imap t [] noneG 0) ⟨w.heap.size, 0, 0, 0, 0, none⟩ [w.heap.size] _ from ⟨rfl, kt, q, hk, IMapAt.new kt q w⟩) (fun b hb => by
      rw [List.mem_singleton] at hb
      subst hb
      simp)
    refine wp_val (x := .map (some w.heap.size)) ?_ (hk' _ _ _ _ ht (by simp [den, Names.put_same]))
    simp only [execOp, Option.map_none, Sem.run_bind, run_makeMap]
    rfl
  · -- lookup
    next t m k ok he =>
    simp only at he
    subst he
    simp only [Option.map_eq_some_iff] at hm
    obtain ⟨⟨kt, q⟩, hk, rfl⟩ := hm
    obtain ⟨hu, hkk⟩ := imKind_ok hk
    obtain ⟨sm, _, h1, h2⟩ := bind_ok.1 h
    obtain ⟨hsm, rfl⟩ := opt_ok.1 h1
    split at h2
    · next n =>
      obtain ⟨c, st1, h3, h4⟩ := bind_ok.1 h2
      obtain ⟨hc, rfl⟩ := getC_ok.1 h3
      split at h4
      · next t' l g cnt =>
        obtain ⟨p, _, h5, h6⟩ := bind_ok.1 h4
        obtain ⟨hp, rfl⟩ := opt_ok.1 h5
        simp only [Option.bind_eq_some_iff] at hp
        obtain ⟨sk, hsk, hp⟩ := hp
        obtain ⟨_, _, hw1, hw2⟩ := bind_ok.1 h6
        obtain ⟨htt, rfl⟩ := want_ok.1 hw1
        obtain rfl := Nat.eq_of_beq_eq_true htt
        obtain ⟨_, st2, h7, h8⟩ := bind_ok.1 hw2
        obtain ⟨q2, hq⟩ := need_ok h7
        obtain ⟨rfl, rfl⟩ := ret_ok.1 h8
        have qq := Quiet.get.trans q2
        refine ⟨qq.fn, fun B F ρ own w a si hev K Q hk' => ?_⟩
        obtain ⟨e, he, hat⟩ := si.li.at_ n _ (si.log n (q2.fr n (mem_ins.2 (.inl rfl)))) hc
        have e1 := hev _ _ hsm
        simp only [den, he, Option.map_some, Option.some.injEq] at e1
        obtain rfl := imInt_ok hp
        have e2 := hev _ _ hsk
        simp only [den, Option.some.injEq] at e2
        obtain ⟨ho, kt', q', hk2, hmap⟩ := CAt_rep.1 hat
        obtain ⟨rfl, rfl⟩ := Prod.mk.inj (Option.some.inj (hk.symm.trans hk2))
        have hwf := hq si.ask
        cases ok with
        | false =>
          refine wp_val (vrun ?_) (hk' _ ρ own w (si.quiet qq) rfl)
          rw [← e1, ← e2]
          exact hmap.lookup hkk hwf hu
        | true =>
          refine wp_val (vrun ?_) (hk' _ ρ own w (si.quiet qq) (by simp [den, denL]; rfl))
          rw [← e1, ← e2]
          exact hmap.look_ok hkk hwf hu
      · exact (fail_ok.1 h4).elim
    · exact (fail_ok.1 h2).elim
  · -- update
    next t m k v he =>
    simp only at he
    subst he
    simp only [Option.map_eq_some_iff] at hm
    obtain ⟨⟨kt, q⟩, hk, rfl⟩ := hm
    obtain ⟨hu, hkk⟩ := imKind_ok hk
    obtain ⟨sm, _, h1, h2⟩ := bind_ok.1 h
    obtain ⟨hsm, rfl⟩ := opt_ok.1 h1
    split at h2
    · next n =>
      obtain ⟨c, st1, h3, h4⟩ := bind_ok.1 h2
      obtain ⟨hc, rfl⟩ := getC_ok.1 h3
      split at h4
      · next t' l g cnt =>
        obtain ⟨p, _, h5, h6⟩ := bind_ok.1 h4
        obtain ⟨hp, rfl⟩ := opt_ok.1 h5
        simp only [Option.bind_eq_some_iff] at hp
        obtain ⟨sk, hsk, hp⟩ := hp
        obtain ⟨x, _, h7, h8⟩ := bind_ok.1 h6
        obtain ⟨hx, rfl⟩ := opt_ok.1 h7
        simp only [Option.bind_eq_some_iff] at hx
        obtain ⟨sv, hsv, hx⟩ := hx
        obtain ⟨_, _, hw1, hw2⟩ := bind_ok.1 h8
        obtain ⟨htt, rfl⟩ := want_ok.1 hw1
        obtain rfl := Nat.eq_of_beq_eq_true htt
        obtain ⟨_, st2, h9, h10⟩ := bind_ok.1 hw2
        obtain ⟨q2, hq⟩ := need_ok h9
        obtain ⟨_, st3, h11, h12⟩ := bind_ok.1 h10
        obtain ⟨_, rfl⟩ := setC_ok.1 h11
        obtain ⟨rfl, rfl⟩ := ret_ok.1 h12
        have qq := Quiet.get.trans q2
        have hc2 : hget n st2.hp = some (.rep (.imap t l g cnt)) := by rw [qq.hp]; exact hc
        refine ⟨qq.fn.trans (Fn.set st2 n (.rep (.imap t ((p, some x) :: l) g (cnt + 1))) _ hc2), fun B F ρ own w a si hev K Q hk' => ?_⟩
        have s1 := si.of_quiet qq
        have hn := hq si.ask
        simp only [Bool.and_eq_true, decide_eq_true_eq] at hn
        obtain ⟨⟨n1, n2⟩, n4⟩ := hn
        obtain ⟨e, he, hat⟩ := s1.li.at_ n _ (s1.log n (mem_ins.2 (.inl rfl))) hc2
        have e1 := hev _ _ hsm
        simp only [den, he, Option.map_some, Option.some.injEq] at e1
        obtain rfl := imInt_ok hp
        have e2 := hev _ _ hsk
        obtain rfl := imInt_ok hx
        have e3 := hev _ _ hsv
        simp only [den, Option.some.injEq] at e2 e3
        obtain ⟨ho, kt', q', hk2, hmap⟩ := CAt_rep.1 hat
        obtain ⟨rfl, rfl⟩ := Prod.mk.inj (Option.some.inj (hk.symm.trans hk2))
        obtain ⟨w', hr, hm', hmod⟩ := hmap.store n4 hkk n1 n2 hu
        have ht := Tr.set s1 hc2 he (own n) ((ModP.of_mod hmod).mono (fun b _ hb => by rw [ho]; exact hb)) (show Rep.At B (.imap t ((p, some x) :: l) g (cnt + 1)) e (own n) w' from ⟨ho, kt, q, hk, hm'⟩) (fun b hb => .inl hb)
        refine wp_unit ?_ (hk' undef _ _ _ (Tr.of_quiet qq ht) rfl)
        simp only [execOp, ← e1, ← e2, ← e3, Sem.run_bind, hr, Result.andThen_ok]
        rfl
      · exact (fail_ok.1 h4).elim
    · exact (fail_ok.1 h2).elim
  · -- delete
    next m k t kt he =>
    simp only at he
    subst he
    split at hm <;> try cases hm
    next kq hk =>
    obtain ⟨kt0, q⟩ := kq
    obtain ⟨hu, hkk⟩ := imKind_ok hk
    split at hm <;> cases hm
    next ht2 =>
    have ht2 := Nat.eq_of_beq_eq_true ht2
    simp only at ht2
    subst ht2
    obtain ⟨sm, _, h1, h2⟩ := bind_ok.1 h
    obtain ⟨hsm, rfl⟩ := opt_ok.1 h1
    split at h2
    · next n =>
      obtain ⟨c, st1, h3, h4⟩ := bind_ok.1 h2
      obtain ⟨hc, rfl⟩ := getC_ok.1 h3
      split at h4
      · next t' l g cnt =>
        obtain ⟨p, _, h5, h6⟩ := bind_ok.1 h4
        obtain ⟨hp, rfl⟩ := opt_ok.1 h5
        simp only [Option.bind_eq_some_iff] at hp
        obtain ⟨sk, hsk, hp⟩ := hp
        obtain ⟨_, _, hw1, hw2⟩ := bind_ok.1 h6
        obtain ⟨htt, rfl⟩ := want_ok.1 hw1
        obtain rfl := Nat.eq_of_beq_eq_true htt
        obtain ⟨_, st2, h9, h10⟩ := bind_ok.1 hw2
        obtain ⟨q2, hq⟩ := need_ok h9
        obtain ⟨_, st3, h11, h12⟩ := bind_ok.1 h10
        obtain ⟨_, rfl⟩ := setC_ok.1 h11
        obtain ⟨rfl, rfl⟩ := ret_ok.1 h12
        have qq := Quiet.get.trans q2
        have hc2 : hget n st2.hp = some (.rep (.imap t l g cnt)) := by rw [qq.hp]; exact hc
        refine ⟨qq.fn.trans (Fn.set st2 n (.rep (.imap t ((p, none) :: l) g cnt)) _ hc2), fun B F ρ own w a si hev K Q hk' => ?_⟩
        have s1 := si.of_quiet qq
        obtain ⟨e, he, hat⟩ := s1.li.at_ n _ (s1.log n (mem_ins.2 (.inl rfl))) hc2
        have e1 := hev _ _ hsm
        simp only [den, he, Option.map_some, Option.some.injEq] at e1
        obtain rfl := imInt_ok hp
        have e2 := hev _ _ hsk
        simp only [den, Option.some.injEq] at e2
        obtain ⟨ho, kt', q', hk2, hmap⟩ := CAt_rep.1 hat
        obtain ⟨rfl, rfl⟩ := Prod.mk.inj (Option.some.inj (hk.symm.trans hk2))
        obtain ⟨w', hr, hm', hmod⟩ := hmap.drop hkk (hq si.ask) hu ty
        have ht := Tr.set s1 hc2 he (own n) ((ModP.of_mod hmod).mono (fun b _ hb => by rw [ho]; exact hb)) (show Rep.At B (.imap t ((p, none) :: l) g cnt) e (own n) w' from ⟨ho, kt, q, hk, hm'⟩) (fun b hb => .inl hb)
        refine wp_val (x := .tuple #[]) ?_ (hk' _ _ _ _ (Tr.of_quiet qq ht) rfl)
        have hargs : (#[m, k].map a.eval : Array Value) = #[.map (some e.b), .int q p] := by
          have : (#[m, k] : Array Operand).map a.eval = #[a.eval m, a.eval k] := by simp
          rw [this, ← e1, ← e2]
        simp only [execOp, resolve, Sem.run_bind, Sem.run_pure, Result.andThen_ok, invoke, builtin]
        rw [show (⟨[m, k]⟩ : Array Operand).map a.eval = #[.map (some e.b), .int q p] from hargs, hr]
        rfl
      · exact (fail_ok.1 h4).elim
    · exact (fail_ok.1 h2).elim
  · cases hm
end
end Go.Proofs.Ytkndpdmopgmlcaa
end
section
/- Tables of tables among the arguments, for the executor. No condition. -/
namespace Go.Proofs.Ytkndpdmopgmlcaa
open Go.RowKit

def plainT (P : Program) (t : TypeId) : Bool := match aggT P t with
  | some false => true
  | _ => false
theorem part_one {P : Program} {t : TypeId} (h : plainT P t = true) (x : Value) : partX P t ([x].map .v) 0 = some (.v x) := by
  unfold plainT at h
  split at h
  · next ha => unfold partX; rw [ha]; rfl
  · cases h
noncomputable def tabsLoad (t : TypeId) (n i : Nat) : M Rep SV := (getC n).bind fun
  | .rep (.tabs cs ln _) => (want 480 (plainT Try.prog t)).bind fun _ => (newC (.rep (.tab (cs i) (ln i)))).bind fun m => .ret (.tsl m (ln i))
  | _ => vecLoad Try.prog t n i 0
noncomputable def tabsIdx (n len : Nat) (elem : TypeId) (z : Int) : M Rep SV := (getC n).bind fun
  | .rep (.tabs _ _ len') => (want 482 (match szT Try.prog elem with | some k' => Nat.beq k' 1 | none => false)).bind fun _ => (need 483 (decide (0 ≤ z ∧ z < (len : Int) ∧ len ≤ len'))).bind fun _ => .ret (.tptr n z.toNat 0)
  | _ => vecIdx Try.prog n len elem z
noncomputable def extT (ev : Operand → Option SV) (o : Oper) : Option (M Rep SV) := match o.op with
  | .load t x => match ev x with
    | some (.tptr n i 0) => some (tabsLoad t n i)
    | _ => none
  | .indexAddr t x i => match ev x, ev i with
    | some (.tsl n len), some (.v (.int _ z)) => match Try.prog.underlying t with
      | some (.slice elem) => some (tabsIdx n len elem z)
      | _ => none
    | _, _ => none
  | _ => none
set_option maxRecDepth 100000 in
theorem tabsIdx_s {n len : Nat} {t elem : TypeId} {z : Int} {s : SV} {st st' : St Rep} (hu : Try.prog.underlying t = some (.slice elem)) (h : tabsIdx n len elem z st = .ok s st') : Quiet st st' ∧ ∀ B F ρ own w a kd, Sit repAt Try.prog B F st st' ρ own w → den ρ (.tsl n len) = some a →
    ∃ y, (Instr.indexAt t a (.int kd z)).run Try.prog w = .ok y w ∧ den ρ s = some y := by
  unfold tabsIdx at h
  obtain ⟨c, st1, h1, h2⟩ := bind_ok.1 h
  obtain ⟨hc, rfl⟩ := getC_ok.1 h1
  split at h2
  · next cs ln len' =>
    obtain ⟨_, _, h3, h4⟩ := bind_ok.1 h2
    obtain ⟨hsz, rfl⟩ := want_ok.1 h3
    obtain ⟨_, st2, h5, h6⟩ := bind_ok.1 h4
    obtain ⟨q, hq⟩ := need_ok h5
    obtain ⟨rfl, rfl⟩ := ret_ok.1 h6
    refine ⟨Quiet.get.trans q, fun B F ρ own w a kd s ha => ?_⟩
    obtain ⟨e, he, hat⟩ := s.li.at_ n _ (s.log n (q.fr n (mem_ins.2 (.inl rfl)))) hc
    have hv : TabsAt B cs ln len' e (own n) w := hat
    exact vkey he hv.2.1 hv.2.2.1 (fun hl => (hv.2.2.2.1 hl).1) (szB hsz) (of_decide_eq_true (hq s.ask)) hu a kd ha
  · obtain ⟨q, g⟩ := vecIdx_s hu h2
    have q0 : Quiet st { st with fr := insN n st.fr } := Quiet.get
    exact ⟨q0.trans q, fun B F ρ own w a kd si ha => g B F ρ own w a kd (si.of_quiet q0) ha⟩
set_option maxRecDepth 100000 in
theorem extT_ok : ∀ ev o m, extT ev o = some m → ∀ st s st', m st = .ok s st' → OpS repAt Try.prog o ev st st' s := by
  intro ev o m hm st s st' h
  obtain ⟨dst, op, ty, pos, aft, gu⟩ := o
  unfold extT at hm
  split at hm
  · next t x he =>
    simp only at he
    subst he
    split at hm <;> cases hm
    next n i hx =>
    unfold tabsLoad at h
    obtain ⟨c, st1, h1, h2⟩ := bind_ok.1 h
    obtain ⟨hc, rfl⟩ := getC_ok.1 h1
    have q0 : Quiet st { st with fr := insN n st.fr } := Quiet.get
    split at h2
    · next cs ln len =>
      obtain ⟨_, _, h3, h4⟩ := bind_ok.1 h2
      obtain ⟨hpt, rfl⟩ := want_ok.1 h3
      obtain ⟨m, st2, h5, h6⟩ := bind_ok.1 h4
      obtain ⟨rfl, rfl⟩ := newC_ok.1 h5
      obtain ⟨rfl, rfl⟩ := ret_ok.1 h6
      refine ⟨q0.fn.trans (Fn.new _ _), fun B F ρ own w a si hev K Q hk => ?_⟩
      have s1 := si.of_quiet q0
      obtain ⟨e, he, hat⟩ := s1.li.at_ n _ (s1.log n (mem_ins.2 (.inl rfl))) hc
      obtain ⟨t1, t2, t3, t4, sp, t5⟩ : TabsAt B cs ln len e (own n) w := hat
      have hden := hev _ _ hx
      simp only [den, he] at hden
      split at hden
      · next hlt =>
        simp only [Option.some.injEq] at hden
        rw [t2] at hlt
        obtain ⟨g1, g2⟩ := t5 i hlt
        have ht := Tr.new (w' := w) s1 (sp i) [] (ModP.refl _ w) (show Rep.At B (.tab (cs i) (ln i)) (sp i) [] w from g2) (fun b hb => by cases hb)
        obtain ⟨y, g3, g4⟩ := load_part (P := Try.prog) (ρ := ρ) (w := w) (b := e.b) (o := e.off + i * e.sz) (part_one hpt (.slice (sp i).ad (ln i) (sp i).cap)) (denL_vs _) fun m u hu => by
          cases m with
          | zero =>
            have hu : some (Value.slice (sp i).ad (ln i) (sp i).cap) = some u := hu
            injection hu with hu
            subst hu
            rw [t3, Nat.mul_one]
            exact g1
          | succ m => rw [show (0 + (m + 1)) = m + 1 by omega] at hu; cases hu
        simp only [den, Option.some.injEq] at g3
        subst g3
        refine wp_val (vrun ?_) (hk (.slice (sp i).ad (ln i) (sp i).cap) _ _ _ (Tr.of_quiet q0 ht) (by simp only [den, Names.put_same, Option.map_some]))
        rw [← hden]
        exact g4
      · cases hden
    · have hv : extV Try.prog ev ⟨dst, .load t x, ty, pos, aft, gu⟩ = some (vecLoad Try.prog t n i 0) := by simp only [extV, hx]
      obtain ⟨f, g⟩ := extV_ok ev _ _ hv _ _ _ h2
      exact ⟨q0.fn.trans f, fun B F ρ own w a si hev K Q hk => g B F ρ own w a (si.of_quiet q0) hev K Q fun x' ρ' own' w' ht hd => hk x' ρ' own' w' (Tr.of_quiet q0 ht) hd⟩
  · next t x i he =>
    simp only at he
    subst he
    split at hm <;> try cases hm
    next n len kd z hx hi =>
    generalize hu : Try.prog.underlying t = du at hm
    split at hm <;> cases hm
    obtain ⟨q, hs⟩ := tabsIdx_s hu h
    refine ⟨q.fn, fun B F ρ own w a si hev K Q hk => ?_⟩
    have e := hev _ _ hi
    simp only [den, Option.some.injEq] at e
    obtain ⟨y, g1, g2⟩ := hs B F ρ own w _ kd si (hev _ _ hx)
    exact wp_val (vrun (by rw [← e]; exact g1)) (hk y ρ own w (si.quiet q) g2)
  · cases hm
end Go.Proofs.Ytkndpdmopgmlcaa
end
section
/- What stands behind the first elements of a row of open number, for the executor. No condition. -/
namespace Go.Proofs.Ytkndpdmopgmlcaa
open Go.RowKit

def dropC (l : Nat) : Col → Col
  | .int kd W => .int kd fun i => W (i + l)
  | .bool W => .bool fun i => W (i + l)
  | .str W => .str fun i => W (i + l)
  | .raw W => .raw fun i => W (i + l)
theorem colsF_drop {l i : Nat} : ∀ {cs : List Col}, colsF (cs.map (dropC l)) i = colsF cs (i + l)
  | [] => rfl
  | c :: r => by
    simp only [List.map_cons, colsF, colsF_drop (cs := r)]
    cases c <;> rfl
theorem VecAt.drop {f : Nat → List Value} {len0 len l k : Nat} {t : TypeId} {e : Spot} {own : List Nat} {w : World} (h : VecAt f len0 t k e own w) (hl : l < len) (hle : len ≤ len0) :
    e.ad = some ⟨e.b, e.off, none⟩ ∧ len ≤ e.cap ∧ VecAt (fun i => f (i + l)) (len - l) t k ⟨e.b, e.cap - l, e.off + l * k, k, len - l, some ⟨e.b, e.off + l * k, none⟩⟩ own w := by
  obtain ⟨h1, h2, h3, h4, h5⟩ := h
  cases ha : e.ad with
  | none => rw [ha] at h5; have := h5.2; omega
  | some g =>
    rw [ha] at h5
    obtain ⟨rfl, g2, cs, g3, g4, g5⟩ := h5
    refine ⟨rfl, by omega, rfl, rfl, by simp only; omega, fun i hi => h4 _ (by omega), rfl, g2, cs, g3, ?_, fun i hi j hj => ?_⟩
    · have : (e.cap - l) * k + l * k = e.cap * k := by rw [← Nat.add_mul]; congr 1; omega
      simp only
      omega
    · have := g5 (i + l) (by omega) j hj
      rw [← this]
      simp only
      congr 1
      rw [Nat.add_mul]
      omega
noncomputable def vecCut (t : TypeId) (n len l : Nat) : M Rep SV := match Try.prog.underlying t with
  | some (.slice elem) => (M.opt 490 (szT Try.prog elem)).bind fun k => (want 491 (!Nat.beq k 0)).bind fun _ => (getC n).bind fun
    | .rep (.vec cs len' t') => (want 492 (Nat.beq cs.length k)).bind fun _ => (need 493 (decide (l ≤ len ∧ len ≤ len'))).bind fun _ => (askB (decide (l = len))).bind fun
      | true => (newC .emp).bind fun m => .ret (.slE m)
      | false => (delC n).bind fun _ => (newC (.rep (.vec (cs.map (dropC l)) (len - l) t'))).bind fun m => .ret (.tsl m (len - l))
    | _ => .fail 494
  | _ => .fail 495
noncomputable def extS (ev : Operand → Option SV) (o : Oper) : Option (M Rep SV) := match o.op with
  | .slice t x (some lo) none none => match ev x, (ev lo).bind natOf with
    | some (.tsl n len), some l => some (vecCut t n len l)
    | _, _ => none
  | _ => none
theorem cut_run {P : Program} {t elem : TypeId} {k len l cap : Nat} {b off : Nat} {kk : IntKind} {w : World} (hu : P.underlying t = some (.slice elem)) (hk : szT P elem = some k) (hl : l ≤ len) (hc : len ≤ cap) :
    (Instr.sliceAt t (.slice (some ⟨b, off, none⟩) len cap) (some (.int kk (l : Int))) none none).run P w = .ok (.slice (if cap = l then some ⟨b, off, none⟩ else some ⟨b, off + l * k, none⟩) (len - l) (cap - l)) w := by
  have hrun : (Instr.sliceBounds true len cap (some (.int kk (l : Int))) none none).run P w = .ok (l, len, cap) w := by
    simp only [Instr.sliceBounds, Sem.run_bind, Sem.run_pure, Result.andThen_ok, bound_run (P := P) (k := kk) hl, Option.isSome_none, Bool.false_eq_true, if_false]
  simp only [Instr.sliceAt, Sem.run_bind, run_underlying hu w, Result.andThen_ok, Instr.slice, hrun, szT_run hk w, Sem.run_pure]
  by_cases hx : cap = l
  · simp only [hx, if_true]
  · simp only [hx, if_false, Option.map_some, add_at]
theorem cut_nil {P : Program} {t elem : TypeId} {k : Nat} {kk : IntKind} {w : World} (hu : P.underlying t = some (.slice elem)) (hk : szT P elem = some k) :
    (Instr.sliceAt t (.slice none 0 0) (some (.int kk ((0 : Nat) : Int))) none none).run P w = .ok (.slice none 0 0) w := by
  have hrun : (Instr.sliceBounds true 0 0 (some (.int kk ((0 : Nat) : Int))) none none).run P w = .ok (0, 0, 0) w := by
    simp only [Instr.sliceBounds, Sem.run_bind, Sem.run_pure, Result.andThen_ok, bound_run (P := P) (k := kk) (Nat.le_refl 0), Option.isSome_none, Bool.false_eq_true, if_false]
  simp only [Instr.sliceAt, Sem.run_bind, run_underlying hu w, Result.andThen_ok, Instr.slice, hrun, szT_run hk w, Sem.run_pure]
  rfl
set_option maxRecDepth 100000 in
theorem extS_ok : ∀ ev o m, extS ev o = some m → ∀ st s st', m st = .ok s st' → OpS repAt Try.prog o ev st st' s := by
  intro ev o m hm st s st' h
  obtain ⟨dst, op, ty, pos, aft, gu⟩ := o
  unfold extS at hm
  split at hm
  · next t x lo he =>
    simp only at he
    subst he
    split at hm <;> cases hm
    next n len l hx hlo =>
    simp only [Option.bind_eq_some_iff] at hlo
    obtain ⟨sl, hsl, hnat⟩ := hlo
    unfold vecCut at h
    generalize hu : Try.prog.underlying t = du at h
    split at h
    · next elem =>
      obtain ⟨k, _, h1, h2⟩ := bind_ok.1 h
      obtain ⟨hk, rfl⟩ := opt_ok.1 h1
      obtain ⟨_, _, h3, h4⟩ := bind_ok.1 h2
      obtain ⟨hk0, rfl⟩ := want_ok.1 h3
      obtain ⟨c, st1, h5, h6⟩ := bind_ok.1 h4
      obtain ⟨hc, rfl⟩ := getC_ok.1 h5
      have q0 : Quiet st { st with fr := insN n st.fr } := Quiet.get
      split at h6
      · next cs len' t' =>
        obtain ⟨_, _, h7, h8⟩ := bind_ok.1 h6
        obtain ⟨hcs, rfl⟩ := want_ok.1 h7
        have hcs := Nat.eq_of_beq_eq_true hcs
        obtain ⟨_, st2, h9, h10⟩ := bind_ok.1 h8
        obtain ⟨q1, hq1⟩ := need_ok h9
        obtain ⟨bb, st3, h11, h12⟩ := bind_ok.1 h10
        obtain ⟨q2, hq2⟩ := ask_ok h11
        have q : Quiet st st3 := (q0.trans q1).trans q2
        have hc3 : hget n st3.hp = some (.rep (.vec cs len' t')) := by rw [q.hp]; exact hc
        have hfr : n ∈ st3.fr := q2.fr n (q1.fr n (mem_ins.2 (.inl rfl)))
        cases bb with
        | true =>
          obtain ⟨m, st4, h13, h14⟩ := bind_ok.1 h12
          obtain ⟨rfl, rfl⟩ := newC_ok.1 h13
          obtain ⟨rfl, rfl⟩ := ret_ok.1 h14
          refine ⟨q.fn.trans (Fn.new _ _), fun B F ρ own w a si hev K Q hk' => ?_⟩
          have s1 := si.of_quiet q
          obtain ⟨h21, h22⟩ := of_decide_eq_true (hq1 fun p hp => si.ask p (q2.ask p hp))
          have h23 := of_decide_eq_true (hq2 si.ask)
          subst h23
          obtain ⟨e, he, hat⟩ := s1.li.at_ n _ (s1.log n hfr) hc3
          have hv : VecAt (colsF cs) len' t' cs.length e (own n) w := hat
          have hden := hev _ _ hx
          simp only [den, he, Option.map_some, Option.some.injEq] at hden
          obtain ⟨kk, hkk⟩ := natOf_ok hnat (hev _ _ hsl)
          obtain ⟨v1, v2, v3, v4, v5⟩ := hv
          cases ha : e.ad with
          | none =>
            rw [ha] at v5
            obtain ⟨v5, v6⟩ := v5
            have hl0 : l = 0 := by omega
            subst hl0
            have ht := Tr.new (A := repAt) (P := Try.prog) (w' := w) s1 ⟨0, 0, 0, 0, 0, none⟩ [] (ModP.refl _ w) (show CAt repAt Try.prog _ B ⟨0, 0, 0, 0, 0, none⟩ [] .emp w from rfl) (fun b hb => by cases hb)
            refine wp_val (x := .slice none 0 0) (vrun ?_) (hk' _ _ _ _ (Tr.of_quiet q ht) (by simp only [den, Names.put_same, Option.map_some]))
            rw [← hden, ha, v6]
            simp only [Option.map_some, hkk]
            exact cut_nil hu hk
          | some g =>
            rw [ha] at v5
            obtain ⟨rfl, _⟩ := v5
            have ht := Tr.new (A := repAt) (P := Try.prog) (w' := w) s1 ⟨0, e.cap - l, 0, 0, 0, if e.cap = l then some ⟨e.b, e.off, none⟩ else some ⟨e.b, e.off + l * k, none⟩⟩ [] (ModP.refl _ w) (show CAt repAt Try.prog _ B ⟨0, e.cap - l, 0, 0, 0, if e.cap = l then some ⟨e.b, e.off, none⟩ else some ⟨e.b, e.off + l * k, none⟩⟩ [] .emp w from rfl) (fun b hb => by cases hb)
            refine wp_val (vrun ?_) (hk' (.slice (if e.cap = l then some ⟨e.b, e.off, none⟩ else some ⟨e.b, e.off + l * k, none⟩) (l - l) (e.cap - l)) _ _ _ (Tr.of_quiet q ht) (by simp only [den, Names.put_same, Option.map_some, Nat.sub_self]))
            rw [← hden, ha]
            simp only [Option.map_some, hkk]
            exact cut_run hu hk (Nat.le_refl _) (by omega)
        | false =>
          obtain ⟨_, st4, h13, h14⟩ := bind_ok.1 h12
          obtain ⟨_, rfl⟩ := delC_ok.1 h13
          obtain ⟨m, st5, h15, h16⟩ := bind_ok.1 h14
          obtain ⟨rfl, rfl⟩ := newC_ok.1 h15
          obtain ⟨rfl, rfl⟩ := ret_ok.1 h16
          refine ⟨q.fn.trans (Fn.move st3 n _ _ hc3), fun B F ρ own w a si hev K Q hk' => ?_⟩
          have s1 := si.of_quiet q
          obtain ⟨h21, h22⟩ := of_decide_eq_true (hq1 fun p hp => si.ask p (q2.ask p hp))
          have h23 := of_decide_eq_false (hq2 si.ask)
          obtain ⟨e, he, hat⟩ := si.li.at_ n _ (si.log n (mem_ins.2 (.inl rfl))) (show hget n st.hp = some (.rep (.vec cs len' t')) from hc)
          have hv : VecAt (colsF cs) len' t' cs.length e (own n) w := hat
          have hden := hev _ _ hx
          simp only [den, he, Option.map_some, Option.some.injEq] at hden
          obtain ⟨kk, hkk⟩ := natOf_ok hnat (hev _ _ hsl)
          obtain ⟨g1, g2, g3⟩ := hv.drop (l := l) (len := len) (by omega) h22
          have hv2 : VecAt (colsF (cs.map (dropC l))) (len - l) t' (cs.map (dropC l)).length ⟨e.b, e.cap - l, e.off + l * cs.length, cs.length, len - l, some ⟨e.b, e.off + l * cs.length, none⟩⟩ (own n) w := by
            rw [List.length_map, show colsF (cs.map (dropC l)) = fun i => colsF cs (i + l) from funext fun i => colsF_drop]
            exact g3
          have ht := Tr.move s1 hc3 ⟨e.b, e.cap - l, e.off + l * cs.length, cs.length, len - l, some ⟨e.b, e.off + l * cs.length, none⟩⟩ (own n) (ModP.refl _ w) (show CAt repAt Try.prog (ρ.put st3.nx ⟨e.b, e.cap - l, e.off + l * cs.length, cs.length, len - l, some ⟨e.b, e.off + l * cs.length, none⟩⟩) B _ (own n) (.rep (.vec (cs.map (dropC l)) (len - l) t')) w from hv2) (fun b hb => .inl hb)
          refine wp_val (vrun ?_) (hk' (.slice (some ⟨e.b, e.off + l * cs.length, none⟩) (len - l) (e.cap - l)) _ _ _ (Tr.of_quiet q ht) (by simp only [den, Names.put_same, Option.map_some]))
          rw [← hden, g1]
          simp only [Option.map_some, Option.map_none, hkk]
          rw [cut_run hu hk (by omega) g2, if_neg (by omega), hcs]
      · exact (fail_ok.1 h6).elim
    · exact (fail_ok.1 h).elim
  · cases hm
end Go.Proofs.Ytkndpdmopgmlcaa
end
section
/- The executor with maps from places to words. No condition. -/
namespace Go.Proofs.Ytkndpdmopgmlcaa
theorem own_ : ownKnob Try.prog.godebug = none := by kernel_rfl
theorem laid_ : laidOutB Try.prog = true := by kernel_rfl
theorem mixed : Try.prog.follows .mixedOrders = true := by kernel_rfl
noncomputable def extX (ev : Operand → Option SV) (o : Oper) : Option (M Rep SV) := match extM ev o with
  | some m => some m
  | none => match extI ev o with
    | some m => some m
    | none => match extT ev o with
      | some m => some m
      | none => match extS ev o with
        | some m => some m
        | none => extV Try.prog ev o
theorem ext_ok : ∀ ev o m, extX ev o = some m → ∀ st s st', m st = .ok s st' → OpS repAt Try.prog o ev st st' s := by
  intro ev o m hm
  unfold extX at hm
  split at hm
  · next m' h =>
    injection hm with hm
    subst hm
    exact extM_ok ev o m' h
  · split at hm
    · next m' h =>
      injection hm with hm
      subst hm
      exact extI_ok ev o m' h
    · split at hm
      · next m' h =>
        injection hm with hm
        subst hm
        exact extT_ok ev o m' h
      · split at hm
        · next m' h =>
          injection hm with hm
          subst hm
          exact extS_ok ev o m' h
        · exact extV_ok ev o m hm
noncomputable def lib0 : Lib Rep := ⟨fun _ _ => none, extX, some tidyG⟩
theorem lib0_ok : LibOK repAt Try.prog lib0 := ⟨(fun _ _ _ h => by cases h), ext_ok, fun f h st s k => by injection h with h; subst h; exact tidyG_eq st s k⟩
/-- For calls of which all is known. -/
noncomputable def libT : Lib Rep := ⟨fun _ _ => none, extX, some (tidyF fRep)⟩
theorem libT_ok : LibOK repAt Try.prog libT := ⟨(fun _ _ _ h => by cases h), ext_ok, fun f h st s k => by injection h with h; subst h; exact tidyF_eq fRep_eq st s k⟩
noncomputable abbrev runT : FuncId → List SV → M Rep SV := callX Try.prog libT 10000
theorem runT_ok : CallOK repAt Try.prog runT := callX_s mixed libT_ok 10000
noncomputable abbrev run0 : FuncId → List SV → M Rep SV := callX Try.prog lib0 10000
theorem run0_ok : CallOK repAt Try.prog run0 := callX_s mixed lib0_ok 10000
end Go.Proofs.Ytkndpdmopgmlcaa
end
section
/- slices.Sorted of a map's keys at uint64, where the map has one key; as a known call. -/
namespace Go.Proofs.Ytkndpdmopgmlcaa
open Go.RowKit Go.Maps

noncomputable abbrev usF : FuncId := 128
noncomputable abbrev usZ : Nat := slotsOf Try.prog usF
abbrev usRow (x : Int) : Chunk Rep := .row [.v (.int .u64 x)] 41
theorem us_tri (x : Int) : Tri repAt Try.prog usZ 1 (.go (bodyOf Try.prog usF)) [] ⟨argsE [.sl 0 0 0 1], [(0, usRow x)], 1⟩ (Ends Try.prog Try.f128 fun l s => l = [] ∧ s.hp = [(0, usRow x)]) :=
  Tri.path mixed lib0_ok (n := 10000) (k := 10000) (j := 0) (vars := []) (o := []) (g' := .out .nor) (fs' := []) (s' := ⟨[], [(0, usRow x)], 1⟩) (asks := []) (by kernel_rfl) trivial (Nat.le_refl _)
    (Tri.fin ⟨.inr rfl, [], ⟨[(0, usRow x)], 1, [], [], [], []⟩, by kernel_rfl, rfl, rfl⟩)
/-- A row of one number. -/
def OneAt (sp : Spot) (x : Int) (w : World) : Prop := CAt repAt Try.prog noNames 0 sp [sp.b] (usRow x) w
set_option maxRecDepth 100000 in
theorem usort_at {w : World} {sp : Spot} {x : Int} (h : OneAt sp x w) :
    Calls Try.prog 128 #[.slice (some ⟨sp.b, sp.off, none⟩) 1 sp.cap] w fun e w' => e = .returned (.tuple #[]) ∧ OneAt sp x w' ∧ ModP (fun b => b = sp.b) w w' := by
  have hb := h.2
  have hs : Stand repAt Try.prog 0 ⟨argsE [.sl 0 0 0 1], [(0, usRow x)], 1⟩ (fun n => if n = 0 then some sp else none) (fun _ => [sp.b]) w := by
    have hlt : sp.b < w.heap.size := by obtain ⟨cs, vs, h1, _⟩ := h.2; exact heap_lt h1
    refine ⟨⟨fun n c _ hc => ?_, fun n m c d _ _ hne hc hd => ?_, fun n c _ hc b hb => ?_⟩, fun n hn => ?_, fun n hn => ?_, Nat.zero_le _⟩
    · cases n with
      | zero =>
        injection hc with hc
        subst hc
        obtain ⟨h1, cs, vs, h2, h3, h4⟩ := h
        exact ⟨sp, rfl, rfl, cs, vs, h2, denL_mono (ρ := noNames) (fun _ _ h => by cases h) _ _ h3, h4⟩
      | succ n => cases hc
    · cases n with
      | zero =>
        cases m with
        | zero => exact absurd rfl hne
        | succ m => cases hd
      | succ n => cases hc
    · rw [List.mem_singleton] at hb
      subst hb
      exact ⟨Nat.zero_le _, hlt⟩
    · cases n with
      | zero => simp at hn
      | succ n => rfl
    · cases n with
      | zero => simp at hn
      | succ n => rfl
  refine (Tri.calls (fn := Try.f128) Try.func128 (c := bodyOf Try.prog usF) (by kernel_rfl) (Nat.le_of_ble_eq_true (by kernel_rfl)) (us_tri x) hs (vals := [.slice (some ⟨sp.b, sp.off, none⟩) 1 sp.cap]) (by simp [denL, den])).mono ?_
  rintro e w' ⟨y, l, s', ρ', own', rfl, hy, ⟨rfl, hhp⟩, hst, hw, hp⟩
  simp only [oneOf, den, denL, Option.map_some, Option.some.injEq] at hy
  subst hy
  obtain ⟨sp', h1, h2, cs, vs, h3, h4, h5⟩ := hst.li.at_ 0 (usRow x) trivial (by rw [hhp]; rfl)
  rw [hp 0 (by decide)] at h1
  injection h1 with h1
  subst h1
  refine ⟨rfl, ⟨rfl, cs, vs, h3, ?_, h5⟩, hw.mod.mono fun b _ ⟨n, c, _, hb⟩ => by simpa using hb⟩
  simpa [denL, den] using h4

set_option maxRecDepth 100000 in
set_option maxHeartbeats 2000000 in
theorem usorted_in (n : Nat) (hn : 4 ≤ n) (g : Nat) (lb : Array Value) (eg : ∀ args w, (callFunc g args).run Try.prog w = .ok (.enter g args) w)
    (N : Nat) (hN : N ≤ maxLen) (hNb : N * 8 ≤ 140737488355328) (w : World) (x : Int) (hseq : SeqGives Fence.wide (n - 1 - 1 - 1) Try.prog g lb encU (fun ss => ss = [x]) N w) :
    CallsIn Fence.wide n Try.prog 100 #[.func (.func g) #[] lb] w fun e w' => ∃ sp : Spot, e = .returned (.slice (some ⟨sp.b, sp.off, none⟩) 1 sp.cap) ∧ w.heap.size ≤ sp.b ∧ OneAt sp x w' ∧ Below w.heap.size w w' := by
  have h1 : 1 ≤ n := by omega
  have h8 : Fence.wide.fn 127 := trivial
  have h9 : Fence.wide.fn 128 := trivial
  have e8 : ∀ args w, (callFunc 127 args).run Try.prog w = .ok (.enter 127 args) w := enters_of Try.func127 (by kernel_rfl) rfl
  have e9 : ∀ args w, (callFunc 128 args).run Try.prog w = .ok (.enter 128 args) w := enters_of Try.func128 (by kernel_rfl) rfl
  have cC := ucollect_in Fence.wide (n - 1) trivial trivial rfl (by omega) g lb trivial eg _ N hN hNb w hseq.bounded
  refine callsIn_of_wp Try.func100 rfl trivial ?_ rfl
  simp only [Try.ntmps100, List.size_toArray, List.length_cons, List.length_nil, Nat.reduceAdd, Nat.reduceSub, Array.replicate_succ, Array.replicate_zero, List.push_toArray, List.append_toArray, List.nil_append, List.cons_append]
  gi_wp2_with (gi_at_fn 127; refine cC.mono ?_; rintro e W ⟨v, ss, rfl, ⟨hS, hlen⟩, hrow, hnil, hb⟩)
  subst hS
  rcases hrow.2 with ⟨rfl, hz⟩ | ⟨gb, cap, cur, rfl, hbase, hgb, r1, r2, r3, r4⟩
  · cases hz
  · have hO : OneAt ⟨gb, cap, 0, 0, 0, none⟩ x W := by
      refine ⟨rfl, cur, [.int .u64 x], hgb, rfl, fun i hi => ?_, ?_, ?_⟩
      · have hi0 : i = 0 := by simpa using hi
        subst hi0
        have h := congrArg (·[0]?) r4
        simp only [List.map_cons, List.map_nil, List.length_cons, List.length_nil, List.getElem?_cons_zero] at h
        rw [List.getElem?_take_of_lt (by decide)] at h
        simpa using h
      · rw [show Try.prog.cellsOf 41 = 1 by kernel_rfl]
        simp only [List.length_cons, List.length_nil] at r1 ⊢
        omega
      · rw [show Try.prog.cellsOf 41 = 1 by kernel_rfl]
        simp only []
        omega
    have cS := usort_at hO
    gi_wp2_with (gi_at_fn 128; refine (callsIn_wide.2 cS).mono ?_; rintro e w' ⟨rfl, hO', hm⟩)
    go_ret
    refine ⟨⟨gb, cap, 0, 0, 0, none⟩, rfl, hbase, hO', ?_⟩
    exact ⟨hm.os.trans hb.os, hm.tape.trans hb.tape, hm.output.trans hb.output, Nat.le_trans hb.size hm.size, fun k hk => (hm.block k (Nat.lt_of_lt_of_le hk hb.size) (fun e => by subst e; exact absurd hk (by simpa using hbase))).trans (hb.block k hk)⟩

/-- A statement as a Bool. -/
noncomputable def asB (p : Prop) : Bool := @decide p (Classical.propDecidable p)
theorem asB_iff {p : Prop} : asB p = true ↔ p := by unfold asB; exact @decide_eq_true_iff p (Classical.propDecidable p)
theorem asB_true {p : Prop} (h : p) : asB p = true := asB_iff.2 h
abbrev tMU : TypeId := 176
noncomputable def usortedX : List SV → M Rep SV
  | [.clo (.func f) [] [.ptr n o]] => (want 350 (Nat.beq f 129)).bind fun _ => (getC n).bind fun
    | .row l _ => (M.opt 351 l[o]?).bind fun
      | .mp m => (getC m).bind fun
        | .rep (.imap t l g c) => (want 352 (Nat.beq t tMU)).bind fun _ => match l with
          | (p, some _) :: _ => (need 353 (Nat.ble c 1000000 && (Lit.int .u64 p).wf)).bind fun _ => (need 354 (asB (∀ x, wfU x → ((getI l g x).isSome = true ↔ x = p)))).bind fun _ => (newC (usRow p)).bind fun k => .ret (.sl k 0 0 1)
          | _ => .fail 355
        | _ => .fail 356
      | _ => .fail 357
    | _ => .fail 358
  | _ => .fail 359
theorem uimap_kind : imKind tMU = some (41, .u64) := by kernel_rfl
theorem usorted_at {w : World} {c o b n : Nat} {f : Int → Option Int} (h0 : w.cell? ⟨c, o, none⟩ = some (.map (some b))) (hc : c < w.heap.size) (hm : IMapAt 41 .u64 w b f n) (hn : n ≤ 1000000) {p : Int} (hp : wfU p) (hf : ∀ x, wfU x → ((f x).isSome = true ↔ x = p)) :
    Calls Try.prog 100 #[.func (.func 129) #[] #[.pointer (some ⟨c, o, none⟩)]] w fun e w' => ∃ sp : Spot, e = .returned (.slice (some ⟨sp.b, sp.off, none⟩) 1 sp.cap) ∧ w.heap.size ≤ sp.b ∧ OneAt sp p w' ∧ Below w.heap.size w w' := by
  obtain ⟨D, hown, _, hhas⟩ := hm
  have hsz := hown.size_le
  have hseq0 := ukeys_gives Fence.wide 5 trivial rfl (by omega) c o b n D w hc h0 hown
  have hseq : SeqGives Fence.wide (8 - 1 - 1 - 1) Try.prog 129 #[.pointer (some ⟨c, o, none⟩)] encU (fun ss => ss = [p]) (Maps.size D) w := fun l J W hW hJ hY hJ0 => (hseq0 l J W hW hJ hY hJ0).mono fun e W' ⟨h1, ss, hg, h2⟩ => ⟨h1, ss, by
    obtain ⟨g1, g2, g3⟩ := hg
    have hmem : ∀ x, x ∈ ss ↔ x = p := fun x => ⟨fun hx => (hf x (g2 x hx)).1 (by rw [← hhas x (g2 x hx)]; exact (g3 x (g2 x hx)).1 hx), fun hx => by subst hx; exact (g3 x hp).2 (by rw [hhas x hp]; exact (hf x hp).2 rfl)⟩
    match ss, g1, hmem with
    | [], _, hm => exact absurd ((hm p).2 rfl) (by simp)
    | [a], _, hm => rw [(hm a).1 (by simp)]
    | a :: b :: r, hn, hm =>
      have ha := (hm a).1 (by simp)
      have hb := (hm b).1 (by simp)
      simp [ha, hb] at hn, h2⟩
  refine (callsIn_wide (n := 8)).1 ?_
  exact usorted_in 8 (by omega) _ _ (enters_of Try.func129 (by kernel_rfl) rfl) _ (by unfold maxLen; omega) (by omega) w p hseq
theorem usorted_s {args : List SV} {st st' : St Rep} {s : SV} (h : usortedX args st = .ok s st') : CallS repAt Try.prog 100 args st st' s := by
  unfold usortedX at h
  split at h
  · next f n o =>
    obtain ⟨_, st0, hw, hh⟩ := bind_ok.1 h
    obtain ⟨hfb, rfl⟩ := want_ok.1 hw
    have hfe := Nat.eq_of_beq_eq_true hfb
    subst hfe
    obtain ⟨c, st1, h3, h4⟩ := bind_ok.1 hh
    obtain ⟨hc, rfl⟩ := getC_ok.1 h3
    split at h4
    · next l t =>
      obtain ⟨sv, _, h5, h6⟩ := bind_ok.1 h4
      obtain ⟨hsv, rfl⟩ := opt_ok.1 h5
      split at h6
      · next m =>
        obtain ⟨c2, st2, h7, h8⟩ := bind_ok.1 h6
        obtain ⟨hc2, rfl⟩ := getC_ok.1 h7
        split at h8
        · next t2 l2 g cnt =>
          obtain ⟨_, st0, hw2, h8'⟩ := bind_ok.1 h8
          obtain ⟨htb, rfl⟩ := want_ok.1 hw2
          have hte := Nat.eq_of_beq_eq_true htb
          subst hte
          split at h8'
          · next p v r =>
            obtain ⟨_, st3, h9, h10⟩ := bind_ok.1 h8'
            obtain ⟨q2, hq⟩ := need_ok h9
            obtain ⟨_, st5, h13, h14⟩ := bind_ok.1 h10
            obtain ⟨q3, hq3⟩ := need_ok h13
            obtain ⟨k, st4, h11, h12⟩ := bind_ok.1 h14
            obtain ⟨rfl, rfl⟩ := newC_ok.1 h11
            obtain ⟨rfl, rfl⟩ := ret_ok.1 h12
            have q1 := (Quiet.get (n := n) (st := st)).trans (Quiet.get (n := m) (st := { st with fr := insN n st.fr }))
            have q : Quiet st st5 := (q1.trans q2).trans q3
            refine ⟨q.fn.trans (Fn.new _ _), fun B F ρ own w vals si hv => ?_⟩
            have s1 := si.of_quiet q
            have hn : n ∈ st5.fr := q3.fr n (q2.fr n (mem_ins.2 (.inr (mem_ins.2 (.inl rfl)))))
            have hm : m ∈ st5.fr := q3.fr m (q2.fr m (mem_ins.2 (.inl rfl)))
            obtain ⟨e, he, hat⟩ := s1.li.at_ n _ (s1.log n hn) (by rw [q.hp]; exact hc)
            obtain ⟨e2, he2, hat2⟩ := s1.li.at_ m _ (s1.log m hm) (by rw [q.hp]; exact hc2)
            simp only [denL, den, he, Option.map_some, Option.some.injEq] at hv
            subst hv
            obtain ⟨_, cs, vs, g1, g2, g3, _⟩ := hat
            obtain ⟨x, g5, g4⟩ := denL_get g2 hsv
            simp only [den, he2, Option.map_some, Option.some.injEq] at g5
            subst g5
            have hcell : w.cell? ⟨e.b, e.off + o, none⟩ = some (.map (some e2.b)) := by
              rw [cell_of_row w e.b _ cs t (0, 0) g1, g3 o (lt_of_some g4)]
              exact g4
            obtain ⟨_, k1, q1, hk, hmap⟩ := (CAt_rep.1 hat2)
            rw [uimap_kind] at hk
            injection hk with hk
            injection hk with hk1 hk2
            subst hk1
            subst hk2
            have ht1 := hq3 s1.ask
            have ht2 := hq (fun p hp => s1.ask p (q3.ask p hp))
            simp only [Bool.and_eq_true] at ht2
            refine (usorted_at hcell (heap_lt g1) hmap (Nat.le_of_ble_eq_true ht2.1) ht2.2 (asB_iff.1 ht1)).mono ?_
            rintro ex w' ⟨sp, rfl, hsp, hone, hb⟩
            have hlt : sp.b < w'.heap.size := by obtain ⟨_, cs, vs, h1, _⟩ := hone; exact heap_lt h1
            have hcat : CAt repAt Try.prog (ρ.put st5.nx sp) B sp [sp.b] (usRow p) w' := by
              obtain ⟨_, cs, vs, h1, h2, h3⟩ := hone
              exact ⟨rfl, cs, vs, h1, denL_mono (ρ := noNames) (fun _ _ h => by cases h) _ _ h2, h3⟩
            have ht := Tr.new (w' := w') s1 sp [sp.b] ⟨hb.os, hb.tape, hb.output, hb.size, fun k hk _ => hb.block k hk⟩ hcat (fun b hb' => by
              rw [List.mem_singleton] at hb'
              subst hb'
              exact ⟨hsp, hlt⟩)
            exact ⟨_, _, _, rfl, by simp [den, Names.put_same], Tr.of_quiet q ht⟩
          · exact (fail_ok.1 h8').elim
        · exact (fail_ok.1 h8).elim
      · exact (fail_ok.1 h6).elim
    · exact (fail_ok.1 h4).elim
  · exact (fail_ok.1 h).elim
/-- With slices.Sorted known. -/
noncomputable def Lib.usorted (l : Lib Rep) : Lib Rep := ⟨fun f args => match Nat.beq f 100 with
  | true => some (usortedX args)
  | false => l.prim f args, l.ext, l.tidy⟩
theorem Lib.usorted_ok {l : Lib Rep} (hl : LibOK repAt Try.prog l) : LibOK repAt Try.prog l.usorted := by
  refine ⟨fun f args m hm => ?_, hl.ext, hl.tidy⟩
  simp only [Lib.usorted] at hm
  split at hm
  · next hb =>
    obtain rfl := Nat.eq_of_beq_eq_true hb
    injection hm with hm
    subst hm
    exact fun st s st' h => usorted_s h
  · exact hl.prim f args m hm
end Go.Proofs.Ytkndpdmopgmlcaa
end
section
/- Calls whose answers are known. No condition. -/
namespace Go.Proofs.Ytkndpdmopgmlcaa
/-- A word and two ints in, a value out. -/
def kUII (g : Int → Int → Int → Value) : List SV → Option SV
  | [.v (.int .u64 a), .v (.int .i64 b), .v (.int .i64 c)] => some (.v (g a b c))
  | _ => none
/-- A link in, a value out. -/
def kLink (g : Bool → Int → Int → Value) : List SV → Option SV
  | [.agg [.v (.bool m), .v (.int .i64 b), .v (.int .i64 c)]] => some (.v (g m b c))
  | _ => none
theorem good_calls {f : FuncId} {args : List SV} {x : Value} (h : Good (fun o => run0 f args (St.none o)) (fun y => y = x)) {vals : List Value} (hv : denL noNames args = some vals) (w : World) : Calls Try.prog f vals.toArray w fun e w' => e = .returned x ∧ Mod [] w w' :=
  (good_ans run0_ok h w hv).mono fun e w' ⟨y, hy, he, hm⟩ => ⟨by rw [he, hy], hm⟩
end Go.Proofs.Ytkndpdmopgmlcaa
end
section
/- Rows of numbers as functions. No condition. -/
namespace Go.Proofs.Ytkndpdmopgmlcaa
theorem updI_same {α : Type} {W : Nat → α} {i : Nat} {v : α} : updI W i v i = v := by simp [updI]
theorem updI_other {α : Type} {W : Nat → α} {i j : Nat} {v : α} (h : j ≠ i) : updI W i v j = W j := by simp [updI, h]
theorem joinI_old {α : Type} {W V : Nat → α} {n i : Nat} (h : i < n) : joinI W n V i = W i := by simp [joinI, h]
theorem joinI_new {α : Type} {W V : Nat → α} {n i : Nat} (h : n ≤ i) : joinI W n V i = V (i - n) := by simp [joinI, Nat.not_lt.2 h]
theorem getL_nil {g : Pl → Int} : getL [] g = g := rfl
theorem getL_same {l : List (Pl × Int)} {g : Pl → Int} {p : Pl} {v : Int} : getL ((p, v) :: l) g p = v := by simp [getL]
theorem getL_other {l : List (Pl × Int)} {g : Pl → Int} {p q : Pl} {v : Int} (h : q ≠ p) : getL ((p, v) :: l) g q = getL l g q := by simp [getL, h]
end Go.Proofs.Ytkndpdmopgmlcaa
end
section
/- Words and their bits: wrapping, masks, shifts, in numbers. No condition. -/
namespace Go.Proofs.Ytkndpdmopgmlcaa

theorem wrapU {x : Int} (h0 : 0 ≤ x) (h1 : x < 18446744073709551616) : IntKind.u64.wrap x = x := by
  unfold IntKind.wrap
  simp [IntKind.bits, IntKind.signed]
  omega
theorem wrapI {x : Int} (h0 : -9223372036854775808 ≤ x) (h1 : x < 9223372036854775808) : IntKind.i64.wrap x = x := by
  unfold IntKind.wrap
  simp [IntKind.bits, IntKind.signed]
  omega
theorem wrapU_pos (x : Int) : 0 ≤ IntKind.u64.wrap x ∧ IntKind.u64.wrap x < 18446744073709551616 := by
  unfold IntKind.wrap
  simp [IntKind.bits, IntKind.signed]
  omega
theorem wrapU_mod (x : Int) : IntKind.u64.wrap x = x % 18446744073709551616 := by
  unfold IntKind.wrap
  simp [IntKind.bits, IntKind.signed]
theorem fdiv_nat (a b : Nat) : Int.fdiv (a : Int) (b : Int) = ((a / b : Nat) : Int) := by
  rw [Int.fdiv_eq_ediv_of_nonneg _ (by omega)]
  simp
theorem tdiv_nat (a b : Nat) : Int.tdiv (a : Int) (b : Int) = ((a / b : Nat) : Int) := rfl
theorem tmod_nat (a b : Nat) : Int.tmod (a : Int) (b : Int) = ((a % b : Nat) : Int) := rfl
theorem ofInt_nat (n : Nat) : BitVec.ofInt 64 (n : Int) = BitVec.ofNat 64 n := by simp
/-- A number's low bits. -/
theorem and_mask (a k : Nat) (hk : k ≤ 64) : (BitVec.ofNat 64 a &&& BitVec.ofNat 64 (2 ^ k - 1)).toNat = a % 2 ^ k := by
  rw [BitVec.toNat_and, BitVec.toNat_ofNat, BitVec.toNat_ofNat]
  have hp : 2 ^ k ≤ 2 ^ 64 := Nat.pow_le_pow_right (by omega) hk
  have h0 : 0 < 2 ^ k := Nat.two_pow_pos k
  rw [Nat.mod_eq_of_lt (a := 2 ^ k - 1) (by omega), Nat.and_two_pow_sub_one_eq_mod]
  have : 2 ^ 64 = 2 ^ k * 2 ^ (64 - k) := by rw [← Nat.pow_add]; congr 1; omega
  rw [this, Nat.mod_mul_right_mod]
/-- A word's field, as the program takes it: shifted, and masked. -/
def fieldP (w : Int) (sh k : Int) : Int := IntKind.u64.wrap ↑(BitVec.ofInt IntKind.u64.bits (w.fdiv (2 ^ min (IntKind.u64.wrap sh).toNat IntKind.u64.bits)) &&&
  BitVec.ofInt IntKind.u64.bits (Int.fdiv 18446744073709551615 (2 ^ min (IntKind.u64.wrap (IntKind.i64.wrap k)).toNat IntKind.u64.bits))).toNat
theorem fieldP_eq {w : Int} (h0 : 0 ≤ w) (sh k : Nat) (hsh : sh < 64) (hk : k ≤ 64) : fieldP w sh (64 - k : Nat) = w / 2 ^ sh % 2 ^ k := by
  obtain ⟨n, rfl⟩ := Int.eq_ofNat_of_zero_le h0
  unfold fieldP
  rw [wrapU (x := (sh : Int)) (by omega) (by omega), wrapI (x := ((64 - k : Nat) : Int)) (by omega) (by omega), wrapU (x := ((64 - k : Nat) : Int)) (by omega) (by omega)]
  simp only [Int.toNat_natCast]
  have e1 : min sh IntKind.u64.bits = sh := Nat.min_eq_left (by simp [IntKind.bits]; omega)
  have e2 : min (64 - k) IntKind.u64.bits = 64 - k := Nat.min_eq_left (by simp [IntKind.bits])
  rw [e1, e2]
  have e3 : (n : Int).fdiv (2 ^ sh) = ((n / 2 ^ sh : Nat) : Int) := by
    have := fdiv_nat n (2 ^ sh)
    simpa using this
  have e4 : Int.fdiv 18446744073709551615 (2 ^ (64 - k)) = ((2 ^ k - 1 : Nat) : Int) := by
    have h1 := fdiv_nat 18446744073709551615 (2 ^ (64 - k))
    have h2 : 18446744073709551615 / 2 ^ (64 - k) = 2 ^ k - 1 := by
      have h3 : 2 ^ 64 = 2 ^ k * 2 ^ (64 - k) := by rw [← Nat.pow_add]; congr 1; omega
      have h4 : 0 < 2 ^ (64 - k) := Nat.two_pow_pos _
      have h5 : 0 < 2 ^ k := Nat.two_pow_pos _
      have h6 : 18446744073709551615 = (2 ^ k - 1) * 2 ^ (64 - k) + (2 ^ (64 - k) - 1) := by
        rw [Nat.sub_mul, Nat.one_mul, ← h3]
        have : 2 ^ (64 - k) ≤ 2 ^ 64 := Nat.pow_le_pow_right (by omega) (by omega)
        omega
      rw [h6, Nat.mul_comm, Nat.mul_add_div h4, Nat.div_eq_of_lt (by omega)]
      omega
    rw [← h2]
    simpa using h1
  have e5 : (BitVec.ofInt IntKind.u64.bits ((n / 2 ^ sh : Nat) : Int) &&& BitVec.ofInt IntKind.u64.bits ((2 ^ k - 1 : Nat) : Int)).toNat = n / 2 ^ sh % 2 ^ k := by
    show (BitVec.ofInt 64 _ &&& BitVec.ofInt 64 _).toNat = _
    rw [ofInt_nat, ofInt_nat, and_mask _ k hk]
  rw [e3, e4, e5]
  have h6 : n / 2 ^ sh % 2 ^ k < 2 ^ 64 := Nat.lt_of_lt_of_le (Nat.mod_lt _ (Nat.two_pow_pos _)) (Nat.pow_le_pow_right (by omega) hk)
  rw [wrapU (by omega) (by omega)]
  simp
end Go.Proofs.Ytkndpdmopgmlcaa
end
section
/- Small words of many laws. No condition. -/
namespace Go.Proofs.Ytkndpdmopgmlcaa
abbrev iv (z : Int) : SV := .v (.int .i64 z)
abbrev uv (z : Int) : SV := .v (.int .u64 z)
theorem beq_flip (a b : Int) : (a == b) = (b == a) := by
  rw [Bool.eq_iff_iff, beq_iff_eq, beq_iff_eq]
  exact eq_comm
theorem beq_turn (a b : Int) : ((a == b) == (b == a)) = true := by
  rw [beq_iff_eq, Bool.eq_iff_iff, beq_iff_eq, beq_iff_eq]
  exact eq_comm
theorem put_ok {z : Int} {n : Nat} {p : Pl} (hp : plWfB p = true) (h0 : 0 < z) (h1 : z < 18446744073709551616) (hn : n < 9223372036854775807) : (plWfB p && (Lit.int IntKind.u64 z).wf && z != 0 && decide (n < maxLen)) = true := by
  simp only [Bool.and_eq_true, bne_iff_ne, decide_eq_true_eq, hp, true_and]
  refine ⟨⟨?_, by omega⟩, by unfold maxLen; omega⟩
  simp [Lit.wf, IntKind.min, IntKind.max, IntKind.signed, IntKind.bits]
  omega
theorem wb_put {z : Int} {n : Nat} {p : Pl} (hp : plWfB p = true) (hw : (Lit.int .u64 z).wf = true) (h0 : (z == 0) = false) (hn : (n : Int) ≤ 1000) : (plWfB p && (Lit.int IntKind.u64 z).wf && z != 0 && decide (n < maxLen)) = true := by
  simp only [Bool.and_eq_true, bne, h0, decide_eq_true_eq, hp, hw, true_and, Bool.not_false]
  unfold maxLen
  omega
theorem wrap_wf (z : Int) : (Lit.int .u64 (IntKind.u64.wrap z)).wf = true := by
  have h := wrapU_pos z
  simp [Lit.wf, IntKind.min, IntKind.max, IntKind.signed, IntKind.bits]
  omega
theorem two_uncons {α β : Type} {R : α → β → Prop} {l : α} {ls : List α} {c : List β} (h : Two R (l :: ls) c) : ∃ a r, c = a :: r ∧ R l a ∧ Two R ls r := by
  cases h with
  | cons h1 h2 => exact ⟨_, _, rfl, h1, h2⟩
theorem two_nil {α β : Type} {R : α → β → Prop} {c : List β} (h : Two R [] c) : c = [] := by
  cases h
  rfl
end Go.Proofs.Ytkndpdmopgmlcaa
end
section
/- Words on calls of layer 24. No condition. -/
namespace Go.Proofs.Ytkndpdmopgmlcaa
/-- Whether a call can't be by itself. -/
def badB (F T e : Int) (d : Bool) (v : Int) : Bool := decide (F < 0) || (decide (T < F) && !(T == -1)) || ((T == -1) && !((e == 0) && ((d == false) && ((v == 0) && true))))
def aheadB (T F' : Int) : Bool := !(T == -1) && decide (T < F')
noncomputable abbrev libHK : Lib Rep := lib0.usorted
noncomputable abbrev runHK : FuncId → List SV → M Rep SV := callX Try.prog libHK 10000
theorem runHK_ok : CallOK repAt Try.prog runHK := callX_s mixed (Lib.usorted_ok lib0_ok) 10000
end Go.Proofs.Ytkndpdmopgmlcaa
end
section
/- isBad, Ahead, awake of layer 24 as known calls. No condition. -/
namespace Go.Proofs.Ytkndpdmopgmlcaa
set_option linter.unusedVariables false
set_option linter.unusedSimpArgs false
set_option maxRecDepth 100000
set_option maxHeartbeats 8000000

theorem bad_good (th at_ k key val lev F T e : Int) (d : Bool) (v : Int)  : Good (fun o => run0 92 [.agg [iv th, iv at_, iv k, uv key, uv val, iv lev, iv F, iv T, iv e, .v (.bool d), uv v]] (St.none o)) (fun x => x = .bool (badB F T e d v)) := by
  rcases Bool.eq_false_or_eq_true (decide (F < 0)) with h0 | h0
  · exact ⟨List.replicate 8 (some true), [((decide (F < 0)), true), ((decide (F < 0)), true), ((decide (F < 0)), true), ((decide (F < 0)), true), ((decide (F < 0)), true), ((decide (F < 0)), true), ((decide (F < 0)), true), ((decide (F < 0)), true)], Value.bool true, by kernel_rfl, ⟨h0, h0, h0, h0, h0, h0, h0, h0, trivial⟩, (by first | rfl | (simp_all [badB]; done) | (simp_all [badB]; intros; omega))⟩
  · rcases Bool.eq_false_or_eq_true (decide (T < F)) with h1 | h1
    · rcases Bool.eq_false_or_eq_true (T != -1) with h3 | h3
      · exact ⟨List.replicate 6 (some false) ++ List.replicate 3 (some true) ++ [some false] ++ [some true] ++ [some false] ++ List.replicate 6 (some true), [((T != -1), true), ((T != -1), true), ((T != -1), true), ((T != -1), true), ((T != -1), true), ((T != -1), true), ((decide (F < 0)), false), ((decide (T < F)), true), ((decide (F < 0)), false), ((decide (T < F)), true), ((decide (T < F)), true), ((decide (T < F)), true), ((decide (F < 0)), false), ((decide (F < 0)), false), ((decide (F < 0)), false), ((decide (F < 0)), false), ((decide (F < 0)), false), ((decide (F < 0)), false)], Value.bool true, by kernel_rfl, ⟨h3, h3, h3, h3, h3, h3, h0, h1, h0, h1, h1, h1, h0, h0, h0, h0, h0, h0, trivial⟩, (by first | rfl | (simp_all [badB]; done) | (simp_all [badB]; intros; omega))⟩
      · rcases Bool.eq_false_or_eq_true (T == -1) with h2 | h2
        · exact ⟨List.replicate 6 (some false) ++ List.replicate 3 (some true) ++ [some false] ++ [some true] ++ List.replicate 5 (some false) ++ List.replicate 4 (some true) ++ [some false] ++ [some true] ++ [some false], [((T != -1), false), ((T == -1), true), ((T != -1), false), ((T == -1), true), ((T == -1), true), ((T == -1), true), ((T == -1), true), ((T != -1), false), ((T != -1), false), ((T != -1), false), ((T != -1), false), ((decide (F < 0)), false), ((decide (T < F)), true), ((decide (F < 0)), false), ((decide (T < F)), true), ((decide (T < F)), true), ((decide (T < F)), true), ((decide (F < 0)), false), ((decide (F < 0)), false), ((decide (F < 0)), false), ((decide (F < 0)), false), ((decide (F < 0)), false), ((decide (F < 0)), false)], Value.bool !(e == 0 && (d == false && (v == 0 && true))), by kernel_rfl, ⟨h3, h2, h3, h2, h2, h2, h2, h3, h3, h3, h3, h0, h1, h0, h1, h1, h1, h0, h0, h0, h0, h0, h0, trivial⟩, (by first | rfl | (simp_all [badB]; done) | (simp_all [badB]; intros; omega))⟩
        · exact ⟨List.replicate 6 (some false) ++ List.replicate 3 (some true) ++ [some false] ++ [some true] ++ List.replicate 12 (some false), [((T != -1), false), ((T == -1), false), ((T != -1), false), ((T == -1), false), ((T == -1), false), ((T == -1), false), ((T == -1), false), ((T != -1), false), ((T != -1), false), ((T != -1), false), ((T != -1), false), ((decide (F < 0)), false), ((decide (T < F)), true), ((decide (F < 0)), false), ((decide (T < F)), true), ((decide (T < F)), true), ((decide (T < F)), true), ((decide (F < 0)), false), ((decide (F < 0)), false), ((decide (F < 0)), false), ((decide (F < 0)), false), ((decide (F < 0)), false), ((decide (F < 0)), false)], Value.bool false, by kernel_rfl, ⟨h3, h2, h3, h2, h2, h2, h2, h3, h3, h3, h3, h0, h1, h0, h1, h1, h1, h0, h0, h0, h0, h0, h0, trivial⟩, (by first | rfl | (simp_all [badB]; done) | (simp_all [badB]; intros; omega))⟩
    · rcases Bool.eq_false_or_eq_true (T == -1) with h2 | h2
      · exact ⟨List.replicate 12 (some false) ++ List.replicate 4 (none) ++ List.replicate 4 (some true) ++ [none] ++ [some true], [((T == -1), true), ((T == -1), true), ((T == -1), true), ((T == -1), true), ((T == -1), true), ((decide (F < 0)), false), ((decide (T < F)), false), ((decide (F < 0)), false), ((decide (T < F)), false), ((decide (T < F)), false), ((decide (T < F)), false), ((decide (F < 0)), false), ((decide (F < 0)), false), ((decide (F < 0)), false), ((decide (F < 0)), false), ((decide (F < 0)), false), ((decide (F < 0)), false)], Value.bool !(e == 0 && (d == false && (v == 0 && true))), by kernel_rfl, ⟨h2, h2, h2, h2, h2, h0, h1, h0, h1, h1, h1, h0, h0, h0, h0, h0, h0, trivial⟩, (by first | rfl | (simp_all [badB]; done) | (simp_all [badB]; intros; omega))⟩
      · exact ⟨List.replicate 12 (some false) ++ List.replicate 4 (none) ++ List.replicate 4 (some false) ++ [none] ++ [some false], [((T == -1), false), ((T == -1), false), ((T == -1), false), ((T == -1), false), ((T == -1), false), ((decide (F < 0)), false), ((decide (T < F)), false), ((decide (F < 0)), false), ((decide (T < F)), false), ((decide (T < F)), false), ((decide (T < F)), false), ((decide (F < 0)), false), ((decide (F < 0)), false), ((decide (F < 0)), false), ((decide (F < 0)), false), ((decide (F < 0)), false), ((decide (F < 0)), false)], Value.bool false, by kernel_rfl, ⟨h2, h2, h2, h2, h2, h0, h1, h0, h1, h1, h1, h0, h0, h0, h0, h0, h0, trivial⟩, (by first | rfl | (simp_all [badB]; done) | (simp_all [badB]; intros; omega))⟩
theorem ahead_good (th at_ k key val lev F T e : Int) (d : Bool) (v : Int) (th' at' k' key' val' lev' F' T' e' : Int) (d' : Bool) (v' : Int)  : Good (fun o => run0 26 [.agg [iv th, iv at_, iv k, uv key, uv val, iv lev, iv F, iv T, iv e, .v (.bool d), uv v], .agg [iv th', iv at', iv k', uv key', uv val', iv lev', iv F', iv T', iv e', .v (.bool d'), uv v']] (St.none o)) (fun x => x = .bool (aheadB T F')) := by
  rcases Bool.eq_false_or_eq_true (T != -1) with h0 | h0
  · exact ⟨List.replicate 6 (some true), [((T != -1), true), ((T != -1), true), ((T != -1), true), ((T != -1), true), ((T != -1), true), ((T != -1), true)], Value.bool (decide (T < F')), by kernel_rfl, ⟨h0, h0, h0, h0, h0, h0, trivial⟩, (by first | rfl | (simp_all [aheadB]; done))⟩
  · exact ⟨List.replicate 6 (some false), [((T != -1), false), ((T != -1), false), ((T != -1), false), ((T != -1), false), ((T != -1), false), ((T != -1), false)], Value.bool false, by kernel_rfl, ⟨h0, h0, h0, h0, h0, h0, trivial⟩, (by first | rfl | (simp_all [aheadB]; done))⟩
theorem awake24_good   : Good (fun o => runHK 21 [] (St.none o)) (fun x => x = .bool true) := by
  have h0 : (asB (∀ (x : Int), wfU x → ((getI [(4, some (IntKind.i64.wrap ((getI [(4, some (IntKind.i64.wrap ((getI [] noneG 4).getD 0 + 1)))] noneG 4).getD 0 + 1))), (4, some (IntKind.i64.wrap ((getI [] noneG 4).getD 0 + 1)))] noneG x).isSome = true ↔ x = 4))) = true := by (exact asB_true fun x hx => by simp only [getI, noneG]; split <;> simp_all)
  exact ⟨List.replicate 175 (none) ++ [some true], [((asB (∀ (x : Int), wfU x → ((getI [(4, some (IntKind.i64.wrap ((getI [(4, some (IntKind.i64.wrap ((getI [] noneG 4).getD 0 + 1)))] noneG 4).getD 0 + 1))), (4, some (IntKind.i64.wrap ((getI [] noneG 4).getD 0 + 1)))] noneG x).isSome = true ↔ x = 4))), true)], Value.bool true, by kernel_rfl, ⟨h0, trivial⟩, rfl⟩
def kBad : List SV → Option SV
  | [.agg [.v (.int .i64 th), .v (.int .i64 at_), .v (.int .i64 k), .v (.int .u64 key), .v (.int .u64 val), .v (.int .i64 lev), .v (.int .i64 F), .v (.int .i64 T), .v (.int .i64 e), .v (.bool d), .v (.int .u64 v)]] => some (.v (.bool (badB F T e d v)))
  | _ => none
theorem bad_tab : TabOK Try.prog (Tab.one 92 kBad) := TabOK.one fun args s hs ρ vals w hv => by
  unfold kBad at hs
  split at hs <;> cases hs
  simp only [denL, den, Option.map_some, Option.some.injEq] at hv
  subst hv
  exact (good_calls (bad_good _ _ _ _ _ _ _ _ _ _ _) rfl w).mono fun e w' ⟨he, hm⟩ => ⟨_, he, rfl, hm⟩
def kAhead : List SV → Option SV
  | [.agg [.v (.int .i64 th), .v (.int .i64 at_), .v (.int .i64 k), .v (.int .u64 key), .v (.int .u64 val), .v (.int .i64 lev), .v (.int .i64 F), .v (.int .i64 T), .v (.int .i64 e), .v (.bool d), .v (.int .u64 v)], .agg [.v (.int .i64 th'), .v (.int .i64 at'), .v (.int .i64 k'), .v (.int .u64 key'), .v (.int .u64 val'), .v (.int .i64 lev'), .v (.int .i64 F'), .v (.int .i64 T'), .v (.int .i64 e'), .v (.bool d'), .v (.int .u64 v')]] => some (.v (.bool (aheadB T F')))
  | _ => none
theorem ahead_tab : TabOK Try.prog (Tab.one 26 kAhead) := TabOK.one fun args s hs ρ vals w hv => by
  unfold kAhead at hs
  split at hs <;> cases hs
  simp only [denL, den, Option.map_some, Option.some.injEq] at hv
  subst hv
  exact (good_calls (ahead_good _ _ _ _ _ _ _ _ _ _ _ _ _ _ _ _ _ _ _ _ _ _) rfl w).mono fun e w' ⟨he, hm⟩ => ⟨_, he, rfl, hm⟩
theorem awake24 (w : World) : Calls Try.prog 21 #[] w fun e w' => e = .returned (.bool true) ∧ Mod [] w w' := (good_ans runHK_ok awake24_good w (vals := []) rfl).mono fun e w' ⟨x, hx, he, hm⟩ => by subst hx; exact ⟨he, hm⟩
noncomputable abbrev tabHA : Tab := (Tab.one 21 kTrue).or ((Tab.one 92 kBad).or (Tab.one 26 kAhead))
theorem tabHA_ok : TabOK Try.prog tabHA := (TabOK.true awake24).or (bad_tab.or ahead_tab)
noncomputable abbrev libHA : Lib Rep := lib0.with tabHA
theorem libHA_ok : LibOK repAt Try.prog libHA := Lib.with_ok lib0_ok tabHA_ok
noncomputable abbrev runHA : FuncId → List SV → M Rep SV := callX Try.prog libHA 10000
theorem runHA_ok : CallOK repAt Try.prog runHA := callX_s mixed libHA_ok 10000
end Go.Proofs.Ytkndpdmopgmlcaa
end
section
/- Events and calls of layer 24, in plain words. No condition. -/
namespace Go.Proofs.Ytkndpdmopgmlcaa

structure HE where
  th : Int
  idle : Bool
  k : Int
  key : Int
  val : Int
  lev : Int
  at_ : Int
  began : Bool
  over : Bool
  e : Int
  d : Bool
  v : Int
structure HC where
  th : Int
  at_ : Int
  k : Int
  key : Int
  val : Int
  lev : Int
  F : Int
  T : Int
  e : Int
  d : Bool
  v : Int
def hc0 : HC := ⟨0, 0, 0, 0, 0, 0, 0, 0, 0, false, 0⟩
/-- Where a thread's call stands that goes on; -1: there is none. -/
def lastAt (cs : List HC) (t : Int) : Nat → Int
  | 0 => -1
  | n + 1 => if (cs.getD n hc0).th = t ∧ (cs.getD n hc0).T = -1 then (n : Int) else lastAt cs t n
def HE.new (x : HE) (i : Int) : HC := ⟨x.th, x.at_, x.k, x.key, x.val, x.lev, i, -1, 0, false, 0⟩
def badOp (c : HC) (x : HE) : Bool := !(c.k == x.k && (c.key == x.key && (c.val == x.val && (c.lev == x.lev && true))))
def noAns (e : Int) (d : Bool) (v : Int) : Bool := e == 0 && (d == false && (v == 0 && true))
def HC.close (c : HC) (x : HE) (i : Int) : HC := { c with T := i, e := x.e, d := x.d, v := x.v }
/-- An event, seen. -/
def seeC (cs : List HC) (x : HE) (i : Int) : Option (List HC) :=
  if x.idle = true then some cs
  else if lastAt cs x.th cs.length = -1 then
    if x.began = false then none
    else if x.over = false ∧ noAns x.e x.d x.v = false then none
    else some (cs ++ [if x.over = true then (x.new i).close x i else x.new i])
  else
    if x.began = true then none
    else if badOp (cs.getD (lastAt cs x.th cs.length).toNat hc0) x = true then none
    else if ((cs.getD (lastAt cs x.th cs.length).toNat hc0).at_ != x.at_) = true then none
    else if x.over = false ∧ noAns x.e x.d x.v = false then none
    else if x.over = true then some (cs.set (lastAt cs x.th cs.length).toNat ((cs.getD (lastAt cs x.th cs.length).toNat hc0).close x i)) else some cs
structure HEA where
  ST : Nat → Int
  TH : Nat → Int
  ID : Nat → Bool
  K : Nat → Int
  KY : Nat → Int
  VL : Nat → Int
  LV : Nat → Int
  AT : Nat → Int
  BG : Nat → Bool
  OV : Nat → Bool
  ER : Nat → Int
  DN : Nat → Bool
  AV : Nat → Int
  len : Nat
def HEA.at (a : HEA) (i : Nat) : HE := ⟨a.TH i, a.ID i, a.K i, a.KY i, a.VL i, a.LV i, a.AT i, a.BG i, a.OV i, a.ER i, a.DN i, a.AV i⟩
def HEA.calls (a : HEA) : Nat → Option (List HC)
  | 0 => some []
  | n + 1 => match a.calls n with
    | none => none
    | some cs => seeC cs (a.at n) n

theorem lastAt_lt {cs : List HC} {t : Int} : ∀ {n : Nat}, lastAt cs t n ≠ -1 → 0 ≤ lastAt cs t n ∧ lastAt cs t n < n ∧ (cs.getD (lastAt cs t n).toNat hc0).th = t ∧ (cs.getD (lastAt cs t n).toNat hc0).T = -1
  | 0, h => absurd rfl h
  | n + 1, h => by
    unfold lastAt at h ⊢
    split at h
    · next hc => rw [if_pos hc]; simp only [Int.toNat_natCast]; exact ⟨Int.natCast_nonneg n, by omega, hc⟩
    · next hc =>
      rw [if_neg hc]
      have := lastAt_lt h
      exact ⟨this.1, by omega, this.2.2⟩
theorem lastAt_none {cs : List HC} {t : Int} : ∀ {n : Nat}, lastAt cs t n = -1 ↔ ∀ j, j < n → ¬ ((cs.getD j hc0).th = t ∧ (cs.getD j hc0).T = -1)
  | 0 => by simp [lastAt]
  | n + 1 => by
    unfold lastAt
    split
    · next hc => exact ⟨fun h => by omega, fun h => absurd hc (h n (by omega))⟩
    · next hc =>
      rw [lastAt_none (n := n)]
      exact ⟨fun h j hj => by
        rcases Nat.lt_or_ge j n with h1 | h1
        · exact h j h1
        · obtain rfl : j = n := by omega
          exact hc, fun h j hj => h j (by omega)⟩
/-- The program's map tells where each thread's call stands; each thread has one at most. -/
structure OnOK (G : Int → Option Int) (cs : List HC) : Prop where
  one : ∀ j k, j < cs.length → k < cs.length → (cs.getD j hc0).T = -1 → (cs.getD k hc0).T = -1 → (cs.getD j hc0).th = (cs.getD k hc0).th → j = k
  on : ∀ t, (Lit.int .i64 t).wf = true → G t = if lastAt cs t cs.length = -1 then none else some (lastAt cs t cs.length)
theorem OnOK.nil : OnOK noneG [] := ⟨fun j k hj => absurd hj (by simp), fun t _ => by simp [noneG, lastAt]⟩
theorem OnOK.same {G : Int → Option Int} {cs : List HC} (h : OnOK G cs) {t : Int} (ht : (Lit.int .i64 t).wf = true) : (G t).isSome = !(lastAt cs t cs.length == -1) := by
  rw [h.on t ht]
  split
  · next h1 => rw [h1]; rfl
  · next h1 => simp [h1]
theorem OnOK.val {G : Int → Option Int} {cs : List HC} (h : OnOK G cs) {t : Int} (ht : (Lit.int .i64 t).wf = true) (hs : (G t).isSome = true) : (G t).getD 0 = lastAt cs t cs.length ∧ lastAt cs t cs.length ≠ -1 := by
  rw [h.on t ht] at hs ⊢
  split at hs
  · cases hs
  · next h1 => rw [if_neg h1]; exact ⟨rfl, h1⟩
theorem lastAt_at {cs : List HC} {t : Int} {n j : Nat} (hj : j < n) (h1 : (cs.getD j hc0).th = t ∧ (cs.getD j hc0).T = -1) (hu : ∀ k, k < n → (cs.getD k hc0).th = t ∧ (cs.getD k hc0).T = -1 → k = j) : lastAt cs t n = j := by
  by_cases h : lastAt cs t n = -1
  · exact absurd h1 (lastAt_none.1 h j hj)
  · obtain ⟨g1, g2, g3⟩ := lastAt_lt h
    have := hu _ (by omega) g3
    omega
theorem lastAt_eq {cs ds : List HC} {t : Int} : ∀ {n : Nat}, (∀ j, j < n → (((cs.getD j hc0).th = t ∧ (cs.getD j hc0).T = -1) ↔ ((ds.getD j hc0).th = t ∧ (ds.getD j hc0).T = -1))) → lastAt cs t n = lastAt ds t n
  | 0, _ => rfl
  | n + 1, h => by
    unfold lastAt
    rw [lastAt_eq (fun j hj => h j (by omega))]
    by_cases hc : (cs.getD n hc0).th = t ∧ (cs.getD n hc0).T = -1
    · rw [if_pos hc, if_pos ((h n (by omega)).1 hc)]
    · rw [if_neg hc, if_neg (fun h' => hc ((h n (by omega)).2 h'))]
theorem getD_app_old {cs : List HC} {c : HC} {j : Nat} (h : j < cs.length) : (cs ++ [c]).getD j hc0 = cs.getD j hc0 := by
  simp [List.getD, List.getElem?_append_left h]
theorem getD_app_new {cs : List HC} {c : HC} : (cs ++ [c]).getD cs.length hc0 = c := by simp [List.getD]
theorem getD_set {cs : List HC} {c : HC} {i j : Nat} (hi : i < cs.length) : (cs.set i c).getD j hc0 = if j = i then c else cs.getD j hc0 := by
  simp only [List.getD, List.getElem?_set]
  by_cases h : i = j
  · subst h; simp [hi]
  · simp [h, Ne.symm h, fun e : j = i => h e.symm]
theorem lastAt_push {cs : List HC} {c : HC} {t : Int} : lastAt (cs ++ [c]) t (cs.length + 1) = if c.th = t ∧ c.T = -1 then (cs.length : Int) else lastAt cs t cs.length := by
  show (if _ then _ else _) = _
  rw [getD_app_new, lastAt_eq (cs := cs ++ [c]) (ds := cs) fun j hj => by rw [getD_app_old hj]]
/-- A new one that goes on. -/
theorem OnOK.push {G : Int → Option Int} {cs : List HC} (h : OnOK G cs) {c : HC} (hT : c.T = -1) (hw : (Lit.int .i64 c.th).wf = true) (hn : lastAt cs c.th cs.length = -1) : OnOK (fun t => if t = c.th then some (cs.length : Int) else G t) (cs ++ [c]) := by
  have hlen : (cs ++ [c]).length = cs.length + 1 := by simp
  refine ⟨fun j k hj hk h1 h2 h3 => ?_, fun t ht => ?_⟩
  · rw [hlen] at hj hk
    rcases Nat.lt_or_ge j cs.length with gj | gj <;> rcases Nat.lt_or_ge k cs.length with gk | gk
    · rw [getD_app_old gj] at h1 h3
      rw [getD_app_old gk] at h2 h3
      exact h.one j k gj gk h1 h2 h3
    · obtain rfl : k = cs.length := by omega
      rw [getD_app_old gj] at h1 h3
      rw [getD_app_new] at h3
      exact absurd ⟨h3, h1⟩ (lastAt_none.1 hn j gj)
    · obtain rfl : j = cs.length := by omega
      rw [getD_app_old gk] at h2 h3
      rw [getD_app_new] at h3
      exact absurd ⟨h3.symm, h2⟩ (lastAt_none.1 hn k gk)
    · omega
  · rw [hlen, lastAt_push]
    show (if t = c.th then some (cs.length : Int) else G t) = _
    by_cases e : t = c.th
    · rw [if_pos e, if_pos (⟨e.symm, hT⟩ : c.th = t ∧ c.T = -1), if_neg (by omega)]
    · rw [if_neg e, if_neg (fun h' : c.th = t ∧ c.T = -1 => e h'.1.symm)]
      exact h.on t ht
/-- A new one that is over at once. -/
theorem OnOK.pushOver {G : Int → Option Int} {cs : List HC} (h : OnOK G cs) {c : HC} (hT : c.T ≠ -1) : OnOK G (cs ++ [c]) := by
  have hlen : (cs ++ [c]).length = cs.length + 1 := by simp
  refine ⟨fun j k hj hk h1 h2 h3 => ?_, fun t ht => ?_⟩
  · rw [hlen] at hj hk
    rcases Nat.lt_or_ge j cs.length with gj | gj <;> rcases Nat.lt_or_ge k cs.length with gk | gk
    · rw [getD_app_old gj] at h1 h3
      rw [getD_app_old gk] at h2 h3
      exact h.one j k gj gk h1 h2 h3
    · obtain rfl : k = cs.length := by omega
      rw [getD_app_new] at h2
      exact absurd h2 hT
    · obtain rfl : j = cs.length := by omega
      rw [getD_app_new] at h1
      exact absurd h1 hT
    · omega
  · rw [hlen, lastAt_push, if_neg (fun h' : c.th = t ∧ c.T = -1 => hT h'.2)]
    exact h.on t ht
/-- One that is over now. -/
theorem OnOK.over {G : Int → Option Int} {cs : List HC} (h : OnOK G cs) {x : HE} {i : Int} (hi : i ≠ -1) (hl : lastAt cs x.th cs.length ≠ -1) : OnOK (fun t => if t = x.th then none else G t) (cs.set (lastAt cs x.th cs.length).toNat ((cs.getD (lastAt cs x.th cs.length).toNat hc0).close x i)) := by
  obtain ⟨g1, g2, g3, g4⟩ := lastAt_lt hl
  generalize hp : (lastAt cs x.th cs.length).toNat = p at *
  have hpl : p < cs.length := by omega
  refine ⟨fun j k hj hk h1 h2 h3 => ?_, fun t ht => ?_⟩
  · rw [List.length_set] at hj hk
    rw [getD_set hpl] at h1 h2 h3
    rw [getD_set hpl] at h3
    split at h1
    · exact absurd h1 hi
    · split at h2
      · exact absurd h2 hi
      · next e1 e2 => rw [if_neg e1, if_neg e2] at h3; exact h.one j k hj hk h1 h2 h3
  · rw [List.length_set]
    by_cases e : t = x.th
    · rw [if_pos e, if_pos]
      refine lastAt_none.2 fun j hj ⟨q1, q2⟩ => ?_
      rw [getD_set hpl] at q1 q2
      split at q2
      · exact hi q2
      · next e1 =>
        rw [if_neg e1] at q1
        exact e1 (h.one j p hj hpl q2 g4 (by rw [q1, g3, e]))
    · rw [if_neg e, h.on t ht]
      rw [lastAt_eq (cs := cs.set p _) (ds := cs) fun j hj => ?_]
      rw [getD_set hpl]
      by_cases e1 : j = p
      · rw [if_pos e1, e1]
        constructor
        · rintro ⟨_, q⟩; exact absurd q hi
        · rintro ⟨q, _⟩; exact absurd (q.symm.trans g3) e
      · rw [if_neg e1]
end Go.Proofs.Ytkndpdmopgmlcaa
end
