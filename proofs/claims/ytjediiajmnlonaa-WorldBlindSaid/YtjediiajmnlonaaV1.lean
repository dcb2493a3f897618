/- Rows of elements of open number, in memory: what it means, a store into one, and elements behind all. No condition. -/
import Derived.Test.YtjediiajmnlonaaEM
namespace Go.Proofs.Ytjediiajmnlonaa
open Go.RowKit

/-- An element's cells. -/
def RowOK (k : Nat) (r : List Value) : Prop := r.length = k ∧ ∀ v ∈ r, v.oneCell' = true
/-- A row of len elements of k cells each. -/
def VecAt (f : Nat → List Value) (len : Nat) (t : TypeId) (k : Nat) (e : Spot) (own : List Nat) (w : World) : Prop :=
  e.len = len ∧ e.sz = k ∧ len ≤ e.cap ∧ (∀ i, i < len → RowOK k (f i)) ∧ match e.ad with
  | none => own = [] ∧ e.cap = 0
  | some g => g = ⟨e.b, e.off, none⟩ ∧ own = [e.b] ∧ ∃ cs, w.heap[e.b]? = some (.cells cs t (0, 0)) ∧ e.off + e.cap * k ≤ cs.size ∧ ∀ i, i < len → ∀ j, j < k → cs[e.off + (i * k + j)]? = (f i)[j]?
/-- The same of an argument's, that nobody writes. -/
def TabAt (B : Nat) (f : Nat → List Value) (len : Nat) (k : Nat) (e : Spot) (own : List Nat) (w : World) : Prop :=
  own = [] ∧ e.len = len ∧ e.sz = k ∧ (0 < len → e.ad = some ⟨e.b, e.off, none⟩ ∧ e.b < B ∧ e.b < w.heap.size) ∧ ∀ i, i < len → RowOK k (f i) ∧ ∀ j, j < k → w.cell? ⟨e.b, e.off + i * k + j, none⟩ = (f i)[j]?

section
variable {f : Nat → List Value} {len k B : Nat} {t : TypeId} {e : Spot} {own : List Nat} {w w' : World} {P : Program}
theorem VecAt.modP {T : Nat → Prop} (h : VecAt f len t k e own w) (hm : ModP T w w') (hT : ∀ x ∈ own, ¬ T x) : VecAt f len t k e own w' := by
  obtain ⟨h1, h2, h3, h4, h5⟩ := h
  refine ⟨h1, h2, h3, h4, ?_⟩
  cases ha : e.ad with
  | none => rw [ha] at h5; exact h5
  | some g =>
    rw [ha] at h5
    obtain ⟨g1, g2, cs, g3, g4⟩ := h5
    refine ⟨g1, g2, cs, ?_, g4⟩
    rw [hm.block e.b (heap_lt g3) (hT _ (by rw [g2]; simp))]
    exact g3
theorem TabAt.modP {T : Nat → Prop} (h : TabAt B f len k e own w) (hm : ModP T w w') (hB : ∀ x, T x → B ≤ x) : TabAt B f len k e own w' := by
  obtain ⟨h1, h2, h3, h4, h5⟩ := h
  refine ⟨h1, h2, h3, fun hl => ?_, fun i hi => ?_⟩
  · obtain ⟨g1, g2, g3⟩ := h4 hl
    exact ⟨g1, g2, Nat.lt_of_lt_of_le g3 hm.size⟩
  · obtain ⟨g1, g2, g3⟩ := h4 (by omega)
    obtain ⟨g4, g5⟩ := h5 i hi
    refine ⟨g4, fun j hj => ?_⟩
    rw [← g5 j hj]
    exact World.cell?_of_block (w := w) (hm.block e.b g3 (fun ht => by have := hB _ ht; omega))

theorem VecAt.cell (h : VecAt f len t k e own w) {i j : Nat} (hi : i < len) {v : Value} (hv : (f i)[j]? = some v) : w.cell? ⟨e.b, e.off + i * k + j, none⟩ = some v := by
  obtain ⟨h1, h2, h3, h4, h5⟩ := h
  have hj := lt_of_some hv
  rw [(h4 i hi).1] at hj
  cases ha : e.ad with
  | none => rw [ha] at h5; have := h5.2; omega
  | some g =>
    rw [ha] at h5
    obtain ⟨g1, g2, cs, g3, g4, g5⟩ := h5
    rw [cell_of_row w e.b _ cs t (0, 0) g3, Nat.add_assoc, g5 i hi j hj]
    exact hv
theorem TabAt.cell (h : TabAt B f len k e own w) {i j : Nat} (hi : i < len) {v : Value} (hv : (f i)[j]? = some v) : w.cell? ⟨e.b, e.off + i * k + j, none⟩ = some v := by
  obtain ⟨_, _, _, _, h5⟩ := h
  obtain ⟨g4, g5⟩ := h5 i hi
  have hj := lt_of_some hv
  rw [g5 j (by rw [← g4.1]; omega)]
  exact hv

def spliceV (l : List Value) (off : Nat) (cs : List Value) : List Value := l.take off ++ (cs ++ l.drop (off + cs.length))
theorem spliceV_length {l cs : List Value} {off : Nat} (h : off + cs.length ≤ l.length) : (spliceV l off cs).length = l.length := splice_length h
theorem spliceV_get {l cs : List Value} {off : Nat} (h : off + cs.length ≤ l.length) (i : Nat) : (spliceV l off cs)[i]? = if i < off then l[i]? else if i < off + cs.length then cs[i - off]? else l[i]? := splice_get h i

/-- An element's cells are written. -/
theorem VecAt.write (h : VecAt f len t k e own w) {i j : Nat} (hi : i < len) {us : List Value} (hj : j + us.length ≤ k) (h1 : ∀ v ∈ us, v.oneCell' = true) :
    ∃ w', (storeCells ⟨e.b, e.off + i * k + j, none⟩ us).run P w = .ok () w' ∧ ModP (fun b => b ∈ own) w w' ∧ VecAt (fun m => if m = i then spliceV (f i) j us else f m) len t k e own w' := by
  obtain ⟨g1, g2, g3, g4, h5⟩ := h
  cases ha : e.ad with
  | none => rw [ha] at h5; have := h5.2; omega
  | some g =>
    rw [ha] at h5
    obtain ⟨a1, a2, cs, a3, a4, a5⟩ := h5
    have hik : i * k + k ≤ e.cap * k := by
      have : (i + 1) * k ≤ e.cap * k := Nat.mul_le_mul_right _ (by omega)
      rw [Nat.add_mul, Nat.one_mul] at this
      exact this
    have hst := run_storeCells_at (P := P) e.b (e.off + i * k + j) t us 0 cs w a3 (by simp only [Nat.add_zero]; omega) h1
    simp only [Nat.add_zero] at hst
    refine ⟨_, hst, ⟨rfl, rfl, rfl, by simp, fun q hq hn => ?_⟩, g1, g2, g3, fun m hm => ?_, ?_⟩
    · exact setRow_other w e.b q _ (fun hke => hn (by rw [a2, hke]; simp))
    · by_cases hmi : m = i
      · subst hmi
        simp only [if_true]
        refine ⟨by rw [spliceV_length (by rw [(g4 m hm).1]; omega), (g4 m hm).1], fun v hv => ?_⟩
        simp only [spliceV, List.mem_append] at hv
        rcases hv with hv | hv | hv
        · exact (g4 m hm).2 v (List.mem_of_mem_take hv)
        · exact h1 v hv
        · exact (g4 m hm).2 v (List.mem_of_mem_drop hv)
      · simp only [hmi, if_false]
        exact g4 m hm
    · rw [ha]
      refine ⟨a1, a2, _, setRow_heap w e.b cs _ t (0, 0) a3, ?_, fun m hm c hc => ?_⟩
      · rw [List.size_toArray, List.append_assoc, splice_length (by simp; omega)]
        simpa using a4
      · rw [List.getElem?_toArray, List.append_assoc, splice_get (by simp; omega)]
        by_cases hmi : m = i
        · subst hmi
          simp only [if_true]
          rw [spliceV_get (by rw [(g4 m hm).1]; omega)]
          by_cases q1 : c < j
          · rw [if_pos (by omega), if_pos q1, Array.getElem?_toList]
            exact a5 m hm c hc
          · rw [if_neg (by omega), if_neg q1]
            by_cases q2 : c < j + us.length
            · rw [if_pos (by omega), if_pos q2]
              congr 1
              omega
            · rw [if_neg (by omega), if_neg q2, Array.getElem?_toList]
              exact a5 m hm c hc
        · simp only [hmi, if_false]
          have hsep : m * k + c < i * k ∨ i * k + k ≤ m * k + c := by
            rcases Nat.lt_or_gt_of_ne hmi with hl | hl
            · have : (m + 1) * k ≤ i * k := Nat.mul_le_mul_right _ hl
              rw [Nat.add_mul, Nat.one_mul] at this
              omega
            · have : (i + 1) * k ≤ m * k := Nat.mul_le_mul_right _ hl
              rw [Nat.add_mul, Nat.one_mul] at this
              omega
          rcases hsep with hl | hl
          · rw [if_pos (by omega), Array.getElem?_toList]
            exact a5 m hm c hc
          · rw [if_neg (by omega), if_neg (by omega), Array.getElem?_toList]
            exact a5 m hm c hc

/-- The elements behind len are others. -/
def joinF (f : Nat → List Value) (len : Nat) (g : Nat → List Value) : Nat → List Value := fun i => if i < len then f i else g (i - len)
/-- Cells stand as elements. -/
def rowsF (k : Nat) (l : List Value) : Nat → List Value := fun i => (l.drop (i * k)).take k
theorem rowsF_length {k : Nat} {l : List Value} {m i : Nat} (hl : l.length = m * k) (hi : i < m) : (rowsF k l i).length = k := by
  have : (i + 1) * k ≤ m * k := Nat.mul_le_mul_right _ hi
  rw [Nat.add_mul, Nat.one_mul] at this
  simp [rowsF]
  omega
theorem rowsF_get {k : Nat} {l : List Value} {i j : Nat} (hj : j < k) : (rowsF k l i)[j]? = l[i * k + j]? := by
  simp [rowsF, hj]

/-- There is room behind the first elements: cells are written there. -/
theorem VecAt.extend {len0 : Nat} (h : VecAt f len0 t k e own w) (hlen : len ≤ len0) {m : Nat} (hroom : len + m ≤ e.cap) (hm0 : 0 < m) {g : Nat → List Value} (hg : ∀ i, i < m → RowOK k (g i)) {us : List Value} (hus : us.length = m * k)
    (hug : ∀ i, i < m → ∀ j, j < k → us[i * k + j]? = (g i)[j]?) (h1 : ∀ v ∈ us, v.oneCell' = true) :
    ∃ w', e.ad = some ⟨e.b, e.off, none⟩ ∧ (storeCells ⟨e.b, e.off + len * k, none⟩ us).run P w = .ok () w' ∧ ModP (fun b => b ∈ own) w w' ∧ VecAt (joinF f len g) (len + m) t k ⟨e.b, e.cap, e.off, k, len + m, e.ad⟩ own w' := by
  obtain ⟨g1, g2, g3, g4, h5⟩ := h
  cases ha : e.ad with
  | none => rw [ha] at h5; have := h5.2; omega
  | some ad =>
    rw [ha] at h5
    obtain ⟨a1, a2, cs, a3, a4, a5⟩ := h5
    have hik : (len + m) * k ≤ e.cap * k := Nat.mul_le_mul_right _ hroom
    rw [Nat.add_mul] at hik
    have hst := run_storeCells_at (P := P) e.b (e.off + len * k) t us 0 cs w a3 (by simp only [Nat.add_zero]; omega) h1
    simp only [Nat.add_zero] at hst
    refine ⟨_, by rw [a1], hst, ⟨rfl, rfl, rfl, by simp, fun q hq hn => ?_⟩, rfl, rfl, hroom, fun i hi => ?_, a1, a2, _, setRow_heap w e.b cs _ t (0, 0) a3, ?_, fun i hi c hc => ?_⟩
    · exact setRow_other w e.b q _ (fun hke => hn (by rw [a2, hke]; simp))
    · unfold joinF
      by_cases hil : i < len
      · rw [if_pos hil]; exact g4 i (by omega)
      · rw [if_neg hil]; exact hg _ (by omega)
    · rw [List.size_toArray, List.append_assoc, splice_length (by simp; omega)]
      simpa using a4
    · change (List.toArray _)[e.off + (i * k + c)]? = _
      rw [List.getElem?_toArray, List.append_assoc, splice_get (by simp; omega)]
      unfold joinF
      by_cases hil : i < len
      · have : (i + 1) * k ≤ len * k := Nat.mul_le_mul_right _ hil
        rw [Nat.add_mul, Nat.one_mul] at this
        rw [if_pos (by omega), if_pos hil, Array.getElem?_toList]
        exact a5 i (by omega) c hc
      · have h6 : len * k ≤ i * k := Nat.mul_le_mul_right _ (by omega)
        have h7 : (i - len + 1) * k ≤ m * k := Nat.mul_le_mul_right _ (by omega)
        have h8 : i * k = len * k + (i - len) * k := by
          rw [← Nat.add_mul]
          congr 1
          omega
        rw [Nat.add_mul, Nat.one_mul] at h7
        rw [if_neg (by omega), if_pos (by omega), if_neg hil, ← hug (i - len) (by omega) c hc]
        congr 1
        omega
/-- The elements' cells, one behind the other. -/
def flatF (f : Nat → List Value) : Nat → List Value
  | 0 => []
  | n + 1 => flatF f n ++ f n
theorem flatF_length {f : Nat → List Value} {k : Nat} : ∀ {n : Nat}, (∀ i, i < n → (f i).length = k) → (flatF f n).length = n * k
  | 0, _ => by simp [flatF]
  | n + 1, h => by
    rw [flatF, List.length_append, flatF_length (fun i hi => h i (by omega)), h n (by omega), Nat.add_mul, Nat.one_mul]
theorem flatF_get {f : Nat → List Value} {k : Nat} : ∀ {n : Nat}, (∀ i, i < n → (f i).length = k) → ∀ {i j : Nat}, i < n → j < k → (flatF f n)[i * k + j]? = (f i)[j]?
  | 0, _, i, _, hi, _ => by omega
  | n + 1, h, i, j, hi, hj => by
    have hl := flatF_length (n := n) (fun i hi => h i (by omega))
    rw [flatF, List.getElem?_append]
    by_cases hin : i < n
    · have : (i + 1) * k ≤ n * k := Nat.mul_le_mul_right _ hin
      rw [Nat.add_mul, Nat.one_mul] at this
      rw [if_pos (by omega)]
      exact flatF_get (fun i hi => h i (by omega)) hin hj
    · obtain rfl : i = n := by omega
      rw [if_neg (by omega), hl]
      congr 1
      omega
theorem flatF_mem {f : Nat → List Value} {v : Value} : ∀ {n : Nat}, v ∈ flatF f n → ∃ i, i < n ∧ v ∈ f i
  | 0, h => by cases h
  | n + 1, h => by
    rw [flatF, List.mem_append] at h
    rcases h with h | h
    · obtain ⟨i, hi, hv⟩ := flatF_mem h
      exact ⟨i, by omega, hv⟩
    · exact ⟨n, by omega, h⟩
theorem VecAt.flat (h : VecAt f len t k e own w) {n : Nat} (hn : n ≤ len) {g : Addr} (hg : e.ad = some g) : ∀ j u, (flatF f n)[j]? = some u → w.cell? (g.add j) = some u := by
  intro j u hu
  have hl := flatF_length (n := n) (fun i hi => (h.2.2.2.1 i (by omega)).1)
  have hj := lt_of_some hu
  rw [hl] at hj
  obtain ⟨h1, h2, h3, h4, h5⟩ := h
  rw [hg] at h5
  obtain ⟨g1, g2, cs, g3, g4, g5⟩ := h5
  have hk : 0 < k := by
    rcases Nat.eq_zero_or_pos k with h | h
    · subst h; simp at hj
    · exact h
  have hq : j / k < n := (Nat.div_lt_iff_lt_mul hk).2 hj
  have e1 : j = j / k * k + j % k := by rw [Nat.mul_comm]; exact (Nat.div_add_mod j k).symm
  have hr := Nat.mod_lt j hk
  rw [g1, add_at, cell_of_row w e.b _ cs t (0, 0) g3]
  rw [e1] at hu ⊢
  rw [flatF_get (fun i hi => (h4 i (by omega)).1) hq hr] at hu
  rw [g5 _ (by omega) _ hr]
  exact hu
theorem TabAt.flat (h : TabAt B f len k e own w) {n : Nat} (hn : n ≤ len) {g : Addr} (hg : e.ad = some g) : ∀ j u, (flatF f n)[j]? = some u → w.cell? (g.add j) = some u := by
  intro j u hu
  obtain ⟨h1, h2, h3, h4, h5⟩ := h
  have hl := flatF_length (n := n) (fun i hi => (h5 i (by omega)).1.1)
  have hj := lt_of_some hu
  rw [hl] at hj
  have hk : 0 < k := by
    rcases Nat.eq_zero_or_pos k with h | h
    · subst h; simp at hj
    · exact h
  have hq : j / k < n := (Nat.div_lt_iff_lt_mul hk).2 hj
  have e1 : j = j / k * k + j % k := by rw [Nat.mul_comm]; exact (Nat.div_add_mod j k).symm
  have hr := Nat.mod_lt j hk
  have h6 := (h4 (Nat.lt_of_lt_of_le (Nat.zero_lt_of_lt hq) hn)).1
  rw [hg] at h6
  injection h6 with h6
  subst h6
  rw [add_at]
  rw [e1] at hu ⊢
  rw [flatF_get (fun i hi => (h5 i (by omega)).1.1) hq hr] at hu
  rw [← Nat.add_assoc, (h5 _ (by omega)).2 _ hr]
  exact hu
theorem rowsOK {k m : Nat} {l : List Value} (hl : l.length = m * k) (h1 : ∀ v ∈ l, v.oneCell' = true) {i : Nat} (hi : i < m) : RowOK k (rowsF k l i) :=
  ⟨rowsF_length hl hi, fun v hv => h1 v (List.mem_of_mem_drop (List.mem_of_mem_take hv))⟩
end
end Go.Proofs.Ytjediiajmnlonaa
