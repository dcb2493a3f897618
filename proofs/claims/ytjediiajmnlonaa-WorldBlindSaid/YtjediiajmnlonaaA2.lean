/- Slices among the arguments: as rows of open number. No condition. -/
import Derived.Test.YtjediiajmnlonaaA1
import Derived.Test.YtjediiajmnlonaaV5
namespace Go.Proofs.Ytjediiajmnlonaa
open Go.ChangeShapes Go.WideShapes Go.ChangeAt Go.RowKit Go.Deep

def colOfLeaf (l : Leaf) (g : Nat → Value) : Col := match l with
  | .int k => .int k fun i => match g i with
    | .int _ z => z
    | _ => 0
  | .bool => .bool fun i => match g i with
    | .bool b => b
    | _ => false
  | .str => .str fun i => match g i with
    | .string s => s
    | _ => ByteArray.empty
def colsOfLeaves : List Leaf → (Nat → List Value) → List Col
  | [], _ => []
  | l :: r, f => colOfLeaf l (fun i => (f i).headD undef) :: colsOfLeaves r fun i => (f i).tail
/-- A column of n cells of a kind. -/
def ColOK (n : Nat) : Leaf → Col → Prop
  | .int k, c => ∃ W : Nat → Int, c = .int k W ∧ ∀ i, i < n → (Lit.int k (W i)).wf = true
  | .bool, c => ∃ W : Nat → Bool, c = .bool W
  | .str, c => ∃ W : Nat → ByteArray, c = .str W ∧ ∀ i, i < n → (W i).size ≤ maxLen
theorem colsOfLeaves_length : ∀ {ls : List Leaf} {f : Nat → List Value}, (colsOfLeaves ls f).length = ls.length
  | [], _ => rfl
  | _ :: r, f => by simp [colsOfLeaves, colsOfLeaves_length (ls := r)]
theorem colsOfLeaves_at : ∀ {ls : List Leaf} {f : Nat → List Value} {i : Nat}, Two LeafOK ls (f i) → colsF (colsOfLeaves ls f) i = f i
  | [], f, i, h => by
    cases hf : f i with
    | nil => rfl
    | cons a l => rw [hf] at h; cases h
  | l :: r, f, i, h => by
    cases hf : f i with
    | nil => rw [hf] at h; cases h
    | cons a t =>
      rw [hf] at h
      cases h with
      | cons h1 h2 =>
        have ih := colsOfLeaves_at (ls := r) (f := fun i => (f i).tail) (i := i) (by simp only [hf, List.tail_cons]; exact h2)
        simp only [colsOfLeaves, colsF, ih, hf, List.tail_cons]
        congr 1
        cases l with
        | int k => obtain ⟨z, rfl, _⟩ := h1; simp [colOfLeaf, Col.at, hf]
        | bool => obtain ⟨b, rfl⟩ := h1; simp [colOfLeaf, Col.at, hf]
        | str => obtain ⟨s, rfl, _⟩ := h1; simp [colOfLeaf, Col.at, hf]
theorem colsOfLeaves_ok {n : Nat} : ∀ {ls : List Leaf} {f : Nat → List Value}, (∀ i, i < n → Two LeafOK ls (f i)) → Two (ColOK n) ls (colsOfLeaves ls f)
  | [], _, _ => .nil
  | l :: r, f, h => by
    have hd : ∀ i, i < n → ∃ a t, f i = a :: t ∧ LeafOK l a ∧ Two LeafOK r t := fun i hi => by
      have := h i hi
      cases hf : f i with
      | nil => rw [hf] at this; cases this
      | cons a t =>
        rw [hf] at this
        cases this with
        | cons h1 h2 => exact ⟨a, t, rfl, h1, h2⟩
    refine .cons ?_ (colsOfLeaves_ok fun i hi => ?_)
    · cases l with
      | int k =>
        refine ⟨_, rfl, fun i hi => ?_⟩
        obtain ⟨a, t, h1, ⟨z, rfl, hz⟩, _⟩ := hd i hi
        simpa [h1] using hz
      | bool => exact ⟨_, rfl⟩
      | str =>
        refine ⟨_, rfl, fun i hi => ?_⟩
        obtain ⟨a, t, h1, ⟨z, rfl, hz⟩, _⟩ := hd i hi
        simpa [h1] using hz
    · obtain ⟨a, t, h1, _, h2⟩ := hd i hi
      simpa [h1] using h2
theorem leaf_one {l : Leaf} {v : Value} (h : LeafOK l v) : v.oneCell' = true := by
  cases l with
  | int k => obtain ⟨z, rfl, _⟩ := h; rfl
  | bool => obtain ⟨b, rfl⟩ := h; rfl
  | str => obtain ⟨s, rfl, _⟩ := h; rfl
theorem leaves_one : ∀ {ls : List Leaf} {vs : List Value}, Two LeafOK ls vs → ∀ v ∈ vs, v.oneCell' = true
  | _, _, .nil, v, h => by cases h
  | _, _, .cons h t, v, hv => by
    rcases List.mem_cons.1 hv with rfl | hv
    · exact leaf_one h
    · exact leaves_one t v hv

section
variable {H : Type} {enc : TypeId × Value → H} {P : Program} {w : World} {base : Nat} {spare : Nat → Bool} {held : Bool}
/-- A slice of elements without pointers, as an argument. -/
theorem tab_slice {d : Nat} {t e : TypeId} {ls : List Leaf} {fuel : Nat} {cs : List Value} {x : DataW H × List MemPlace} (ht : P.underlying t = some (.slice e)) (hl : leaves P d e = some ls) (hC : P.cellsOf e = ls.length) (h0 : 0 < ls.length)
    (h : DataW.trod enc P w base spare held fuel t cs = some x) : ∃ (cols : List Col) (n : Nat) (sp : Spot), cs = [.slice sp.ad n sp.cap] ∧ n ≤ maxLen ∧ Two (ColOK n) ls cols ∧ cols.length = ls.length ∧ TabAt w.heap.size (colsF cols) n cols.length sp [] w := by
  obtain ⟨A, cap, b, o, xs, hcs, hn, hr, _⟩ := rd_slice (α := { r : List Value // Two LeafOK ls r }) (cells := fun a => a.1) (C := ls.length) (fun a => a.2.length.symm) h0 (fun _ => True) ht hC (fun n cs d hd => ⟨⟨cs, leaves_trod hl hd⟩, rfl, trivial⟩) h
  have hf : ∀ i, i < xs.length → ∃ a : { r : List Value // Two LeafOK ls r }, xs[i]? = some a := fun i hi => ⟨_, List.getElem?_eq_getElem hi⟩
  have hT : ∀ i, i < xs.length → Two LeafOK ls (match xs[i]? with | some a => a.1 | none => []) := fun i hi => by
    obtain ⟨a, ha⟩ := hf i hi
    rw [ha]
    exact a.2
  refine ⟨colsOfLeaves ls fun i => match xs[i]? with | some a => a.1 | none => [], xs.length, ⟨b, cap, o, ls.length, xs.length, A⟩, hcs, hn, colsOfLeaves_ok hT, colsOfLeaves_length, ?_⟩
  have hcell : ∀ i, i < xs.length → ∀ j, j < ls.length → ∃ v, (colsF (colsOfLeaves ls fun i => match xs[i]? with | some a => a.1 | none => []) i)[j]? = some v ∧ A = some ⟨b, o, none⟩ ∧ w.cell? ⟨b, o + (i * ls.length + j), none⟩ = some v := fun i hi j hj => by
    rw [colsOfLeaves_at (hT i hi)]
    obtain ⟨a, ha⟩ := hf i hi
    rw [ha]
    have hlen : a.1.length = ls.length := a.2.length.symm
    obtain ⟨v, hv⟩ : ∃ v, a.1[j]? = some v := ⟨_, List.getElem?_eq_getElem (by omega)⟩
    have hfl := flat_get (enc := fun a : { r : List Value // Two LeafOK ls r } => a.1) (fun a => a.2.length.symm) xs i j hj
    rw [ha] at hfl
    have := hr (i * ls.length + j) v (by rw [hfl]; exact hv)
    exact ⟨v, hv, this⟩
  rw [colsOfLeaves_length]
  refine ⟨rfl, rfl, rfl, fun hl0 => ?_, fun i hi => ⟨⟨?_, ?_⟩, fun j hj => ?_⟩⟩
  · obtain ⟨v, _, h1, h2⟩ := hcell 0 hl0 0 h0
    exact ⟨h1, World.block_lt_of_cell? w _ h2, World.block_lt_of_cell? w _ h2⟩
  · rw [colsF_length, colsOfLeaves_length]
  · rw [colsOfLeaves_at (hT i hi)]
    exact leaves_one (hT i hi)
  · obtain ⟨v, h1, _, h2⟩ := hcell i hi j hj
    rw [h1]
    show w.cell? ⟨b, o + i * ls.length + j, none⟩ = _
    rw [Nat.add_assoc]
    exact h2
end

/-- Tables as pieces, and where they lie. -/
def tabsHp : List (List Col × Nat × Spot) → Nat → List (Nat × Chunk Rep)
  | [], _ => []
  | a :: r, i => (i, .rep (.tab a.1 a.2.1)) :: tabsHp r (i + 1)
def tabsN (l : List (List Col × Nat × Spot)) : Names := fun m => (l[m]?).map fun a => a.2.2
theorem tabsHp_get : ∀ {l : List (List Col × Nat × Spot)} {i m : Nat} {c : Chunk Rep}, hget m (tabsHp l i) = some c → i ≤ m ∧ ∃ a, l[m - i]? = some a ∧ c = .rep (.tab a.1 a.2.1)
  | [], _, _, _, h => by cases h
  | a :: r, i, m, c, h => by
    simp only [tabsHp, hget_cons] at h
    split at h
    · next e =>
      subst e
      injection h with h
      exact ⟨Nat.le_refl _, a, by simp, h.symm⟩
    · obtain ⟨h1, b, h2, h3⟩ := tabsHp_get h
      refine ⟨by omega, b, ?_, h3⟩
      rw [show m - i = (m - (i + 1)) + 1 by omega, List.getElem?_cons_succ]
      exact h2
theorem stand_args {P : Program} {w : World} {l : List (List Col × Nat × Spot)} (h : ∀ a ∈ l, TabAt w.heap.size (colsF a.1) a.2.1 a.1.length a.2.2 [] w) (e : Env) : Stand repAt P w.heap.size ⟨e, tabsHp l 0, l.length⟩ (tabsN l) (fun _ => []) w := by
  refine ⟨⟨fun n c _ hc => ?_, (fun n m c d _ _ _ _ _ b hb => by cases hb), (fun n c _ _ b hb => by cases hb)⟩, fun n hn => ?_, fun n hn => ?_, Nat.le_refl _⟩
  · obtain ⟨_, a, h1, rfl⟩ := tabsHp_get hc
    rw [Nat.sub_zero] at h1
    exact ⟨a.2.2, by simp [tabsN, h1], h a (List.mem_of_getElem? h1)⟩
  · cases hx : hget n (tabsHp l 0) with
    | none => rfl
    | some c =>
      obtain ⟨_, a, h1, _⟩ := tabsHp_get hx
      rw [Nat.sub_zero] at h1
      have := lt_of_some h1
      simp only at hn
      omega
  · simp only [tabsN]
    rw [List.getElem?_eq_none hn]
    rfl
end Go.Proofs.Ytjediiajmnlonaa
