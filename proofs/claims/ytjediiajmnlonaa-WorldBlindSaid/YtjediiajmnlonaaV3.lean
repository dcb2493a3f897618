/- What the executor says of append at rows of open number, the machine does. No condition. -/
import Derived.Test.YtjediiajmnlonaaV2
namespace Go.Proofs.Ytjediiajmnlonaa
open Go.RowKit

theorem flatF_congr {f g : Nat → List Value} : ∀ {n : Nat}, (∀ i, i < n → f i = g i) → flatF f n = flatF g n
  | 0, _ => rfl
  | n + 1, h => by rw [flatF, flatF, flatF_congr (fun i hi => h i (by omega)), h n (by omega)]
theorem flatF_join {f g : Nat → List Value} {len : Nat} : ∀ m, flatF (joinF f len g) (len + m) = flatF f len ++ flatF g m
  | 0 => by
    rw [Nat.add_zero, flatF, List.append_nil]
    exact flatF_congr fun i hi => by simp [joinF, hi]
  | m + 1 => by
    rw [← Nat.add_assoc, flatF, flatF_join m, flatF, List.append_assoc]
    rw [joinF, if_neg (by omega), Nat.add_sub_cancel_left]
theorem flatF_rows {k : Nat} {l : List Value} : ∀ n, flatF (rowsF k l) n = l.take (n * k)
  | 0 => by simp [flatF]
  | n + 1 => by rw [flatF, flatF_rows n, rowsF, Nat.add_mul, Nat.one_mul, List.take_add]

theorem joinC_ok {c d r : Col} {n : Nat} (h : joinC c n d = some r) (i : Nat) : r.at i = if i < n then c.at i else d.at (i - n) := by
  unfold joinC at h
  split at h
  · split at h <;> cases h
    next hk =>
    obtain rfl := eqKd_ok hk
    simp only [Col.at, joinI]
    split <;> rfl
  · injection h with h
    subst h
    simp only [Col.at, joinI]
    split <;> rfl
  · injection h with h
    subst h
    simp only [Col.at, joinI]
    split <;> rfl
  · injection h with h
    subst h
    simp only [Col.at, joinI]
  · cases h
theorem joinCs_ok : ∀ {cs ds r : List Col} {n : Nat}, joinCs cs n ds = some r → r.length = cs.length ∧ ds.length = cs.length ∧ colsF r = joinF (colsF cs) n (colsF ds)
  | [], [], r, n, h => by
    injection h with h
    subst h
    exact ⟨rfl, rfl, by funext i; simp [joinF, colsF]⟩
  | c :: cs, d :: ds, r, n, h => by
    simp only [joinCs] at h
    split at h <;> cases h
    next c1 r1 h1 h2 =>
    obtain ⟨g1, g2, g3⟩ := joinCs_ok h2
    refine ⟨by simp [g1], by simp [g2], ?_⟩
    funext i
    simp only [colsF, g3, joinC_ok h1, joinF]
    split <;> rfl
  | [], _ :: _, _, _, h => by cases h
  | _ :: _, [], _, _, h => by cases h
theorem constC_at (v : Value) (i : Nat) : (constC v).at i = v := by
  unfold constC
  split <;> rfl
theorem constCs : ∀ (vs : List Value) (i : Nat), colsF (vs.map constC) i = vs
  | [], _ => rfl
  | v :: vs, i => by simp [colsF, constC_at, constCs vs]

section
variable {P : Program} {st st1 st' : St Rep} {B : Nat} {F : Nat → Prop} {ρ ρ' : Names} {own own' : Nat → List Nat} {w w' : World}
def SrcR (k : Nat) (g : Nat → List Value) (m : Nat) (a : Value) (w : World) : Prop := ∃ ad c, a = .slice ad m c ∧ (∀ i, i < m → RowOK k (g i)) ∧ (∀ a', ad = some a' → ∀ j u, (flatF g m)[j]? = some u → w.cell? (a'.add j) = some u) ∧ (ad = none → m = 0)
theorem vecSrc_s {k : Nat} {x : SV} {m : Nat} {g : List Col} (h : vecSrc k x st = .ok (m, g) st') : Quiet st st' ∧ ∀ B F ρ own w a, Sit repAt P B F st st' ρ own w → den ρ x = some a → SrcR k (colsF g) m a w := by
  unfold vecSrc at h
  split at h
  · next n m0 =>
    obtain ⟨c, st1, h1, h2⟩ := bind_ok.1 h
    obtain ⟨hc, rfl⟩ := getC_ok.1 h1
    split at h2
    · next cs len' t' =>
      obtain ⟨_, _, h3, h4⟩ := bind_ok.1 h2
      obtain ⟨hk, rfl⟩ := want_ok.1 h3
      obtain ⟨_, st2, h5, h6⟩ := bind_ok.1 h4
      obtain ⟨q, hq⟩ := need_ok h5
      obtain ⟨e, rfl⟩ := ret_ok.1 h6
      injection e with e1 e2
      subst e1
      subst e2
      have hk := Nat.eq_of_beq_eq_true hk
      subst hk
      refine ⟨Quiet.get.trans q, fun B F ρ own w a s ha => ?_⟩
      obtain ⟨e, he, hat⟩ := s.li.at_ n _ (s.log n (q.fr n (mem_ins.2 (.inl rfl)))) hc
      have hv : VecAt (colsF cs) len' t' cs.length e (own n) w := hat
      have hle := of_decide_eq_true (hq s.ask)
      simp only [den, he, Option.map_some, Option.some.injEq] at ha
      refine ⟨e.ad, e.cap, ha.symm, fun i hi => hv.2.2.2.1 i (by omega), fun a' ha' => hv.flat hle ha', fun hn => ?_⟩
      obtain ⟨_, _, g3, _, g5⟩ := hv
      rw [hn] at g5
      have := g5.2
      omega
    · next cs len' =>
      obtain ⟨_, _, h3, h4⟩ := bind_ok.1 h2
      obtain ⟨hk, rfl⟩ := want_ok.1 h3
      obtain ⟨_, st2, h5, h6⟩ := bind_ok.1 h4
      obtain ⟨q, hq⟩ := need_ok h5
      obtain ⟨e, rfl⟩ := ret_ok.1 h6
      injection e with e1 e2
      subst e1
      subst e2
      have hk := Nat.eq_of_beq_eq_true hk
      subst hk
      refine ⟨Quiet.get.trans q, fun B F ρ own w a s ha => ?_⟩
      obtain ⟨e, he, hat⟩ := s.li.at_ n _ (s.log n (q.fr n (mem_ins.2 (.inl rfl)))) hc
      have hv : TabAt B (colsF cs) len' cs.length e (own n) w := hat
      have hle := of_decide_eq_true (hq s.ask)
      simp only [den, he, Option.map_some, Option.some.injEq] at ha
      refine ⟨e.ad, e.cap, ha.symm, fun i hi => (hv.2.2.2.2 i (by omega)).1, fun a' ha' => hv.flat hle ha', fun hn => ?_⟩
      obtain ⟨_, _, _, g4, _⟩ := hv
      rcases Nat.eq_zero_or_pos m0 with h | h
      · exact h
      · have := (g4 (by omega)).1
        rw [hn] at this
        cases this
    · exact (fail_ok.1 h2).elim
  · next x _ =>
    obtain ⟨⟨m', cs⟩, st1, h1, h2⟩ := bind_ok.1 h
    obtain ⟨q1, hsrc⟩ := src_s (A := repAt) (P := P) h1
    obtain ⟨vs, _, h3, h4⟩ := bind_ok.1 h2
    obtain ⟨hvs, rfl⟩ := opt_ok.1 h3
    obtain ⟨_, _, h5, h6⟩ := bind_ok.1 h4
    obtain ⟨hone, rfl⟩ := want_ok.1 h5
    obtain ⟨e, rfl⟩ := ret_ok.1 h6
    simp only [Bool.and_eq_true] at hone
    have hm1 := Nat.eq_of_beq_eq_true hone.1
    have hone1 := List.all_eq_true.1 hone.2
    injection e with e1 e2
    subst e1
    change m' = 1 at hm1
    subst hm1
    refine ⟨q1, fun B F ρ own w a s ha => ?_⟩
    obtain ⟨ad, c, news, rfl, g1, g2, g3, g4⟩ := hsrc B F ρ own w a s.li s.log ha
    have hpl := plainL_den hvs g1
    subst hpl
    subst e2
    refine ⟨ad, c, rfl, fun i hi => by rw [constCs]; exact ⟨by rw [g2, Nat.one_mul], hone1⟩, fun a' ha' j u hu => ?_, g4⟩
    simp only [flatF, constCs, List.nil_append] at hu
    exact g3 a' ha' j u hu

theorem SrcR.src {k m : Nat} {g : Nat → List Value} {a : Value} {tx e : TypeId} (h : SrcR k g m a w) (hk : P.underlying tx = some (.slice e)) : Src P k tx a m (flatF g m) w := by
  obtain ⟨ad, c, rfl, h1, h2, h3⟩ := h
  exact src_of hk (flatF_length fun i hi => (h1 i hi).1) h2 h3 (fun v hv => by
    obtain ⟨i, hi, hv⟩ := flatF_mem hv
    exact (h1 i hi).2 v hv)

/-- The elements fill a new block. -/
theorem VecAt.fresh {f : Nat → List Value} {n k cap b : Nat} {t : TypeId} {cs : Array Value} (hb : w.heap[b]? = some (.cells cs t (0, 0))) (hr : ∀ i, i < n → RowOK k (f i)) (hc : ∀ j, j < n * k → cs[j]? = (flatF f n)[j]?) (hn : n ≤ cap) (hcap : cap * k ≤ cs.size) :
    VecAt f n t k ⟨b, cap, 0, k, n, some ⟨b, 0, none⟩⟩ [b] w := by
  refine ⟨rfl, rfl, hn, hr, rfl, rfl, cs, hb, by show 0 + cap * k ≤ _; omega, fun i hi j hj => ?_⟩
  show cs[0 + (i * k + j)]? = _
  have : (i + 1) * k ≤ n * k := Nat.mul_le_mul_right _ hi
  rw [Nat.add_mul, Nat.one_mul] at this
  rw [Nat.zero_add, hc _ (by omega), flatF_get (fun i hi => (hr i hi).1) hi hj]

theorem VecAt.trim {f g : Nat → List Value} {len len0 k : Nat} {t : TypeId} {e : Spot} {own : List Nat} (h : VecAt f len0 t k e own w) (hle : len ≤ len0) : VecAt (joinF f len g) len t k ⟨e.b, e.cap, e.off, k, len, e.ad⟩ own w := by
  obtain ⟨h1, h2, h3, h4, h5⟩ := h
  refine ⟨rfl, rfl, Nat.le_trans hle h3, fun i hi => by simp only [joinF, hi, if_true]; exact h4 i (by omega), ?_⟩
  cases ha : e.ad with
  | none => rw [ha] at h5; exact h5
  | some q =>
    rw [ha] at h5
    obtain ⟨g1, g2, cs, g3, g4, g5⟩ := h5
    refine ⟨g1, g2, cs, g3, g4, fun i hi j hj => ?_⟩
    simp only [joinF, hi, if_true]
    exact g5 i (by omega) j hj

/-- An append to a slice whose elements are known, in place or not. -/
theorem append_core {t tx ty elem : TypeId} {i : TypeInfo} (hu : P.underlying t = some (.slice elem)) (hi : P.info? elem = some i) (hb0 : i.bytes ≠ 0) {zv : Value} (hz : i.zero = some zv) (hzs : zv.cells.size = i.size) {et : TypeId} (hkx : P.underlying tx = some (.slice et))
    {f g : Nat → List Value} {len len0 m : Nat} {e : Spot} {own0 : List Nat} (hv : VecAt f len0 elem i.size e own0 w) (hle : len ≤ len0) (hby : (len + m) * i.bytes ≤ 140737488351232) {b : Value} (hsrc : SrcR i.size g m b w) :
    ∃ e' own1 w', (Builtin.append_ #[t, tx] ty #[.slice e.ad len e.cap, b]).run P w = .ok (.slice e'.ad (len + m) e'.cap) w' ∧ ModP (fun x => x ∈ own0) w w' ∧ VecAt (joinF f len g) (len + m) elem i.size e' own1 w' ∧ ∀ x ∈ own1, x ∈ own0 ∨ (w.heap.size ≤ x ∧ x < w'.heap.size) := by
  have hsr := hsrc.src hkx
  have hcap : len ≤ e.cap := Nat.le_trans hle hv.2.2.1
  have hfl : (flatF f len).length = len * i.size := flatF_length fun j hj => (hv.2.2.2.1 j (by omega)).1
  obtain ⟨ad, c, hbv, hg, hgc, hgn⟩ := hsrc
  rcases Nat.eq_zero_or_pos m with h0 | h0
  · subst h0
    exact ⟨⟨e.b, e.cap, e.off, i.size, len, e.ad⟩, own0, w, run_append_nothing w t tx ty elem i hu hi e.ad len e.cap hcap b hsr, ModP.refl _ _, hv.trim hle, fun x hx => .inl hx⟩
  · by_cases hroom : len + m ≤ e.cap
    · obtain ⟨w', had, hst, hm, hv'⟩ := hv.extend (P := P) hle hroom h0 hg (flatF_length fun j hj => (hg j hj).1) (fun j hj q hq => flatF_get (fun j hj => (hg j hj).1) hj hq) hsr.one
      refine ⟨_, own0, w', ?_, hm, hv', fun x hx => .inl hx⟩
      simp only
      rw [had]
      exact append_room (ty := ty) hu hi e.b e.off len e.cap b m _ hsr hroom hst
    · have hold : (Builtin.firstCells i.size len (.slice e.ad len e.cap)).run P w.drew = .ok (flatF f len).toArray w.drew := by
        cases ha : e.ad with
        | none =>
          obtain ⟨_, _, _, _, h5⟩ := hv
          rw [ha] at h5
          have : len = 0 := by have := h5.2; omega
          subst this
          exact run_firstCells_none w.drew i.size 0 0 _
        | some q => exact run_firstCells_some w.drew i.size len _ _ _ _ hfl (fun j u hu' => hv.flat hle ha j u hu')
      have hb1' : len + m ≤ (len + m) * i.bytes := Nat.le_mul_of_pos_right _ (by omega)
      have hr := run_append_grow_src w t tx ty elem i zv hu hi hz e.ad len e.cap (flatF f len) hold b m (flatF g m) hsr (by omega) (by omega) (growslice_fits (by omega) (by omega))
      have hge := grownCap_ge w (len + m) e.cap elem
      generalize grownCap w (len + m) e.cap elem = gc at hr hge
      refine ⟨⟨w.heap.size, gc, 0, i.size, len + m, some ⟨w.heap.size, 0, none⟩⟩, [w.heap.size], _, hr, ⟨rfl, rfl, rfl, by simp, fun k hk _ => RowKit.Below.heap_alloc w.drew _ k hk⟩, VecAt.fresh (heap_alloc_new w.drew _) (fun j hj => ?_) (fun j hj => ?_) hge ?_, fun x hx => .inr ?_⟩
      · unfold joinF
        by_cases hjl : j < len
        · rw [if_pos hjl]; exact hv.2.2.2.1 j (by omega)
        · rw [if_neg hjl]; exact hg _ (by omega)
      · rw [flatF_join, Array.getElem?_append_left (by
          simp only [List.size_toArray, List.length_append, hfl, flatF_length (fun j hj => (hg j hj).1)]
          rw [← Nat.add_mul]; exact hj), List.getElem?_toArray]
      · have e3 : (len + m) * i.size + (gc - (len + m)) * i.size = gc * i.size := by
          rw [← Nat.add_mul]
          congr 1
          omega
        rw [Array.size_append, size_zeroCells, hzs]
        simp only [List.size_toArray, List.length_append, hfl, flatF_length (fun j hj => (hg j hj).1)]
        rw [Nat.add_mul] at e3
        omega
      · rw [List.mem_singleton] at hx
        subst hx
        exact ⟨Nat.le_refl _, by simp⟩

theorem vecAppend_s {t tx ty : TypeId} {x y s : SV} (h : vecAppend P t tx x y st = .ok s st') : Fn st st' ∧ ∀ B F ρ own w a b, Sit repAt P B F st st' ρ own w → den ρ x = some a → den ρ y = some b →
    ∃ v ρ' own' w', (Builtin.append_ #[t, tx] ty #[a, b]).run P w = .ok v w' ∧ den ρ' s = some v ∧ Tr repAt P B F st st' ρ own w ρ' own' w' := by
  unfold vecAppend at h
  generalize hu : P.underlying t = du at h
  split at h
  case h_2 => exact (fail_ok.1 h).elim
  next elem =>
  obtain ⟨i, _, h1, h2⟩ := bind_ok.1 h
  obtain ⟨hi, rfl⟩ := opt_ok.1 h1
  obtain ⟨_, _, h3, h4⟩ := bind_ok.1 h2
  obtain ⟨hb, rfl⟩ := want_ok.1 h3
  obtain ⟨⟨m, g⟩, st1, h5, h6⟩ := bind_ok.1 h4
  obtain ⟨q1, hsrc⟩ := vecSrc_s (P := P) h5
  simp only [Bool.and_eq_true, Bool.not_eq_true'] at hb
  obtain ⟨⟨⟨hb1, hb2⟩, hb3⟩, hb4⟩ := hb
  have hb1 := Nat.ne_of_beq_eq_false hb1
  have hb2 := Nat.ne_of_beq_eq_false hb2
  obtain ⟨e', hkx⟩ := isSliceT_ok hb4 rfl
  obtain ⟨zv, hz, hzs⟩ : ∃ z, i.zero = some z ∧ z.cells.size = i.size := by
    unfold zeroFits at hb3
    split at hb3
    · next z hz => exact ⟨z, hz, Nat.eq_of_beq_eq_true hb3⟩
    · cases hb3
  clear h h1 h2 h3 h4 h5 hb4
  simp only at h6
  split at h6
  · -- a row of open number
    next n len =>
    obtain ⟨c, st2, h7, h8⟩ := bind_ok.1 h6
    obtain ⟨hc, rfl⟩ := getC_ok.1 h7
    split at h8
    · next cs len' t' =>
      obtain ⟨_, _, h9, h10⟩ := bind_ok.1 h8
      obtain ⟨hw, rfl⟩ := want_ok.1 h9
      simp only [Bool.and_eq_true] at hw
      obtain ⟨hw1, hw2⟩ := hw
      have hw1 := Nat.eq_of_beq_eq_true hw1
      have hw2 := Nat.eq_of_beq_eq_true hw2
      obtain ⟨_, st2, h11, h12⟩ := bind_ok.1 h10
      obtain ⟨q3, hq3⟩ := need_ok h11
      obtain ⟨cs', _, h13, h12⟩ := bind_ok.1 h12
      obtain ⟨hjoin, rfl⟩ := opt_ok.1 h13
      obtain ⟨hj1, _, hj3⟩ := joinCs_ok hjoin
      obtain ⟨_, st3, h15, h16⟩ := bind_ok.1 h12
      obtain ⟨_, rfl⟩ := delC_ok.1 h15
      obtain ⟨n', st4, h17, h18⟩ := bind_ok.1 h16
      obtain ⟨rfl, rfl⟩ := newC_ok.1 h17
      obtain ⟨rfl, rfl⟩ := ret_ok.1 h18
      clear h6 h7 h8 h9
      subst hw1
      have q2 : Quiet st1 { st1 with fr := insN n st1.fr } := Quiet.get
      have q := (q1.trans q2).trans q3
      have hc0 : hget n st.hp = some (.rep (.vec cs len' t')) := by rw [← q1.hp]; exact hc
      have hc2 : hget n st2.hp = some (.rep (.vec cs len' t')) := by rw [q.hp]; exact hc0
      refine ⟨q.fn.trans (Fn.move st2 n _ _ hc2), fun B F ρ own w a b s ha hb => ?_⟩
      have s1 := s.of_quiet q
      obtain ⟨hle, hby⟩ := of_decide_eq_true (hq3 s.ask)
      have hF : F n := s.log n (mem_ins.2 (.inl rfl))
      have ssrc : Sit repAt P B F st st1 ρ own w := ⟨fun k hk => s.log k (mem_ins.2 (.inr (q3.fr k (q2.fr k hk)))), s.wf, fun k hk => absurd hk (newN_self q1.nx), s.li, fun p hp => s.ask p (q3.ask p (q2.ask p hp)), s.base⟩
      have hsr := hsrc B F ρ own w b ssrc hb
      obtain ⟨e, he, hat⟩ := s.li.at_ n _ hF hc0
      have hv : VecAt (colsF cs) len' t' i.size e (own n) w := by rw [← hw2]; exact hat
      simp only [den, he, Option.map_some, Option.some.injEq] at ha
      subst ha
      obtain ⟨e1, own1, w', hr, hm, hv', ho⟩ := append_core (ty := ty) hu hi hb2 hz hzs hkx hv hle hby hsr
      have hv2 : VecAt (colsF cs') (len + m) t' cs'.length e1 own1 w' := by rw [hj3, hj1, hw2]; exact hv'
      have ht := Tr.move s1 hc2 e1 own1 hm (show CAt repAt P (ρ.put st2.nx e1) B e1 own1 (.rep (.vec cs' (len + m) t')) w' from hv2) ho
      refine ⟨_, _, _, _, hr, ?_, Tr.of_quiet q ht⟩
      simp only [den]
      rw [Names.put_same]
      rfl
    · exact (fail_ok.1 h8).elim
  · -- an empty row
    next n =>
    obtain ⟨c, st2, h7, h8⟩ := bind_ok.1 h6
    obtain ⟨hc, rfl⟩ := getC_ok.1 h7
    split at h8
    · next t' =>
      obtain ⟨_, _, h9, h10⟩ := bind_ok.1 h8
      obtain ⟨hw, rfl⟩ := want_ok.1 h9
      simp only [Bool.and_eq_true] at hw
      obtain ⟨hw1, hw2⟩ := hw
      have hw1 := Nat.eq_of_beq_eq_true hw1
      have hw2 := Nat.eq_of_beq_eq_true hw2
      obtain ⟨_, st2, h11, h12⟩ := bind_ok.1 h10
      obtain ⟨q3, hq3⟩ := need_ok h11
      obtain ⟨_, st3, h15, h16⟩ := bind_ok.1 h12
      obtain ⟨_, rfl⟩ := delC_ok.1 h15
      obtain ⟨n', st4, h17, h18⟩ := bind_ok.1 h16
      obtain ⟨rfl, rfl⟩ := newC_ok.1 h17
      obtain ⟨rfl, rfl⟩ := ret_ok.1 h18
      clear h6 h7 h8 h9
      subst hw1
      have q2 : Quiet st1 { st1 with fr := insN n st1.fr } := Quiet.get
      have q := (q1.trans q2).trans q3
      have hc0 : hget n st.hp = some (.row [] t') := by rw [← q1.hp]; exact hc
      have hc2 : hget n st2.hp = some (.row [] t') := by rw [q.hp]; exact hc0
      refine ⟨q.fn.trans (Fn.move st2 n _ _ hc2), fun B F ρ own w a b s ha hb => ?_⟩
      have s1 := s.of_quiet q
      have hby := of_decide_eq_true (hq3 s.ask)
      have hF : F n := s.log n (mem_ins.2 (.inl rfl))
      have ssrc : Sit repAt P B F st st1 ρ own w := ⟨fun k hk => s.log k (mem_ins.2 (.inr (q3.fr k (q2.fr k hk)))), s.wf, fun k hk => absurd hk (newN_self q1.nx), s.li, fun p hp => s.ask p (q3.ask p (q2.ask p hp)), s.base⟩
      have hsr := hsrc B F ρ own w b ssrc hb
      obtain ⟨e, he, hat⟩ := s.li.at_ n _ hF hc0
      obtain ⟨ho, cs, vs, g1, g2, _, _, g5⟩ := hat
      have hcell : P.cellsOf t' = i.size := by simp [Program.cellsOf, hi]
      rw [hcell] at g5
      have hv : VecAt (fun _ => []) 0 t' i.size ⟨e.b, e.cap, e.off, i.size, 0, some ⟨e.b, e.off, none⟩⟩ (own n) w := ⟨rfl, rfl, Nat.zero_le _, (fun i hi => by omega), rfl, ho, cs, g1, g5, fun i hi => by omega⟩
      simp only [den, he, Option.map_some, Option.some.injEq, Nat.add_zero, Nat.sub_zero] at ha
      subst ha
      obtain ⟨e1, own1, w', hr, hm, hv', ho'⟩ := append_core (ty := ty) hu hi hb2 hz hzs hkx hv (Nat.le_refl 0) (by rw [Nat.zero_add]; exact hby) hsr
      have hj : joinF (fun _ => []) 0 (colsF g) = colsF g := by funext j; simp [joinF]
      rw [hj, Nat.zero_add] at hv'
      rw [Nat.zero_add] at hr
      have ht := Tr.move s1 hc2 e1 own1 hm (show CAt repAt P (ρ.put st2.nx e1) B e1 own1 (.rep (.vec g m t')) w' from (by rw [← hw2] at hv'; exact hv')) ho'
      refine ⟨_, _, _, _, hr, ?_, Tr.of_quiet q ht⟩
      simp only [den]
      rw [Names.put_same]
      rfl
    · exact (fail_ok.1 h8).elim
  · -- nil
    obtain ⟨_, _, h9, h6⟩ := bind_ok.1 h6
    obtain ⟨hw2, rfl⟩ := want_ok.1 h9
    have hw2 := Nat.eq_of_beq_eq_true hw2
    obtain ⟨_, st2, h11, h12⟩ := bind_ok.1 h6
    obtain ⟨q3, hq3⟩ := need_ok h11
    obtain ⟨n', st4, h17, h18⟩ := bind_ok.1 h12
    obtain ⟨rfl, rfl⟩ := newC_ok.1 h17
    obtain ⟨rfl, rfl⟩ := ret_ok.1 h18
    have q := q1.trans q3
    refine ⟨quiet_new q _, fun B F ρ own w a b s ha hb => ?_⟩
    have s1 := s.of_quiet q
    have hby := of_decide_eq_true (hq3 s.ask)
    have ssrc : Sit repAt P B F st st1 ρ own w := ⟨fun k hk => s.log k (q3.fr k hk), s.wf, fun k hk => absurd hk (newN_self q1.nx), s.li, fun p hp => s.ask p (q3.ask p hp), s.base⟩
    have hsr := hsrc B F ρ own w b ssrc hb
    have hv : VecAt (fun _ => []) 0 elem i.size ⟨0, 0, 0, i.size, 0, none⟩ [] w := ⟨rfl, rfl, Nat.zero_le _, (fun i hi => by omega), rfl, rfl⟩
    simp only [den, Option.some.injEq] at ha
    subst ha
    obtain ⟨e1, own1, w', hr, hm, hv', ho'⟩ := append_core (ty := ty) hu hi hb2 hz hzs hkx hv (Nat.le_refl 0) (by rw [Nat.zero_add]; exact hby) hsr
    have hj : joinF (fun _ => []) 0 (colsF g) = colsF g := by funext j; simp [joinF]
    rw [hj, Nat.zero_add] at hv'
    rw [Nat.zero_add] at hr
    have ht := Tr.new s1 e1 own1 (hm.mono fun x _ hx => by cases hx) (show CAt repAt P (ρ.put st2.nx e1) B e1 own1 (.rep (.vec g m elem)) w' from (by rw [← hw2] at hv'; exact hv')) (fun x hx => (ho' x hx).resolve_left (fun h => by cases h))
    refine ⟨_, _, _, _, hr, ?_, Tr.of_quiet q ht⟩
    simp only [den]
    rw [Names.put_same]
    rfl
  · exact (fail_ok.1 h6).elim

theorem extV_ok : ∀ ev o m, extV P ev o = some m → ∀ st s st', m st = .ok s st' → OpS repAt P o ev st st' s := by
  intro ev o m hm st s st' h
  obtain ⟨dst, op, ty, pos, aft, gu⟩ := o
  unfold extV at hm
  split at hm
  · next t x i he =>
    simp only at he
    subst he
    split at hm
    · next n len kd z hx hi =>
      generalize hu : P.underlying t = du at hm
      split at hm <;> cases hm
      obtain ⟨q, hs⟩ := vecIdx_s hu h
      refine ⟨q.fn, fun B F ρ own w a si hev K Q hk => ?_⟩
      have e := hev _ _ hi
      simp only [den, Option.some.injEq] at e
      obtain ⟨y, g1, g2⟩ := hs B F ρ own w _ kd si (hev _ _ hx)
      exact wp_val (vrun (by rw [← e]; exact g1)) (hk y ρ own w (si.quiet q) g2)
    · next n kd z hx hi =>
      generalize hu : P.underlying t = du at hm
      split at hm <;> cases hm
      obtain ⟨q, hs⟩ := arrIdx_s hu h
      refine ⟨q.fn, fun B F ρ own w a si hev K Q hk => ?_⟩
      have e := hev _ _ hi
      simp only [den, Option.some.injEq] at e
      obtain ⟨y, g1, g2⟩ := hs B F ρ own w _ si (hev _ _ hx)
      exact wp_val (vrun (by rw [← e]; exact g1)) (hk y ρ own w (si.quiet q) g2)
    · next n off idx len kd z hx hi =>
      generalize hu : P.underlying t = du at hm
      split at hm <;> try cases hm
      next elem =>
      split at hm <;> cases hm
      next k hp hk =>
      obtain ⟨q, hs⟩ := concIdx_s (idx := idx) (kd := kd) hu hk h
      refine ⟨q.fn, fun B F ρ own w a si hev K Q hk => ?_⟩
      have e := hev _ _ hi
      simp only [den, Option.some.injEq] at e
      obtain ⟨y, g1, g2⟩ := hs B F ρ own w _ si (hev _ _ hx)
      exact wp_val (vrun (by rw [← e]; exact g1)) (hk y ρ own w (si.quiet q) g2)
    · cases hm
  · next t x he =>
    simp only at he
    subst he
    split at hm <;> cases hm
    next n i j hx =>
    obtain ⟨q, hs⟩ := vecLoad_s h
    refine ⟨q.fn, fun B F ρ own w a si hev K Q hk => ?_⟩
    obtain ⟨y, g1, g2⟩ := hs B F ρ own w _ si (hev _ _ hx)
    exact wp_val (vrun g2) (hk y ρ own w (si.quiet q) g1)
  · next t x y he =>
    simp only at he
    subst he
    split at hm <;> try cases hm
    next n i j hx =>
    split at hm <;> cases hm
    next v hv =>
    obtain ⟨rfl, hf, hs⟩ := vecStore_s h
    refine ⟨hf, fun B F ρ own w a si hev K Q hk => ?_⟩
    obtain ⟨ρ', own', w', g1, g2⟩ := hs B F ρ own w _ _ si (hev _ _ hx) (hev _ _ hv)
    refine wp_unit ?_ (hk undef ρ' own' w' g2 rfl)
    simp only [execOp, Sem.run_bind, g1, Result.andThen_ok]
    rfl
  · next s0 x t tx he =>
    simp only at he
    subst he
    split at hm <;> try cases hm
    next a b ha hb =>
    split at hm <;> cases hm
    obtain ⟨hf, hs⟩ := vecAppend_s (ty := ty) h
    refine ⟨hf, fun B F ρ own w ac si hev K Q hk => ?_⟩
    obtain ⟨v, ρ', own', w', g1, g2, g3⟩ := hs B F ρ own w _ _ si (hev _ _ ha) (hev _ _ hb)
    refine wp_val ?_ (hk v ρ' own' w' g3 g2)
    have g4 : ∀ cs, (builtin .append #[t, tx] ty cs #[ac.eval s0, ac.eval x]).run P w = .ok (.value v) w' := fun cs => vrun g1
    simp only [execOp, resolve, Sem.run_bind, Sem.run_pure, Result.andThen_ok, invoke]
    rw [show (⟨[s0, x]⟩ : Array Operand).map ac.eval = #[ac.eval s0, ac.eval x] by simp]
    exact g4 _
  · cases hm
end
end Go.Proofs.Ytjediiajmnlonaa
