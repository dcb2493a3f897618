/- How the arguments of these rows stand in memory: a slice of structs of three cells, and of entries and deeds. No condition. -/
import Derived.Test.YtjediiajmnlonaaProg
import Derived.Test.YtjediiajmnlonaaBase
import Derived.Test.YtjediiajmnlonaaSlices
import Derived.ProofKit
import Derived.Deep.Slices
import Derived.Deep.Strs
import Derived.ChangeArms
import Derived.Carry
namespace Go.Proofs.Ytjediiajmnlonaa
open Go.RowKit Go.WideShapes Go.ChangeShapes Go.Deep

theorem exists_list {α : Type} {n : Nat} {R : Nat → α → Prop} (h : ∀ i, i < n → ∃ a, R i a) : ∃ l : List α, l.length = n ∧ ∀ i a, l[i]? = some a → R i a := by
  induction n with
  | zero => exact ⟨[], rfl, fun i a h => by simp at h⟩
  | succ n ih =>
    obtain ⟨l, hl, hg⟩ := ih (fun i hi => h i (by omega))
    obtain ⟨a, ha⟩ := h n (by omega)
    refine ⟨l ++ [a], by simp [hl], fun i b hb => ?_⟩
    rcases Nat.lt_or_ge i n with h1 | h1
    · exact hg i b (by rwa [List.getElem?_append_left (by omega)] at hb)
    · rw [List.getElem?_append_right (by omega)] at hb
      have h2 : i - l.length < 1 := by
        have := (List.getElem?_eq_some_iff.1 hb).1
        simpa using this
      have h3 : i = n := by omega
      subst h3
      rw [hl, Nat.sub_self] at hb
      simp at hb
      exact hb ▸ ha

section
variable {H : Type} {enc : TypeId × Value → H} {P : Program} {w : World} {base : Nat} {spare : Nat → Bool} {held : Bool}

/-- A slice whose elements are of a known form: where it lies, and what it holds. -/
theorem rd_slice {α : Type} {cells : α → List Value} {C : Nat} (hcl : ∀ a, (cells a).length = C) (hC0 : 0 < C) {t e : TypeId} {fuel : Nat} {cs : List Value} {x : DataW H × List MemPlace} (G : α → Prop)
    (ht : P.underlying t = some (.slice e)) (hC : P.cellsOf e = C) (one : ∀ n cs d, DataW.trod enc P w base spare held n e cs = some d → ∃ a : α, cs = cells a ∧ G a)
    (h : DataW.trod enc P w base spare held fuel t cs = some x) :
    ∃ (A : Option Addr) (cap b o : Nat) (xs : List α), cs = [.slice A xs.length cap] ∧ xs.length ≤ maxLen ∧ Rd w b o A (flat cells xs) ∧ ∀ a ∈ xs, G a := by
  rcases open_slice ht h with ⟨rfl, _⟩ | ⟨a, len, cap, m, n, D, Pl, rfl, _, hl, hm, hmm, _, hi⟩
  · exact ⟨none, 0, 0, 0, [], rfl, Nat.zero_le _, (fun j u hj => by simp [flat] at hj), fun a ha => by cases ha⟩
  · have hle : len ≤ m := by rw [hmm]; split <;> omega
    obtain ⟨xs, hxl, hx⟩ := exists_list (n := len) (R := fun i y => w.cells? base (a.add (i * C)) C = some (cells y) ∧ G y) (fun i hil => by
      obtain ⟨cs', h1, h2⟩ := hi i (by omega)
      obtain ⟨y, rfl, hg⟩ := one _ _ _ h2
      rw [hC] at h1
      exact ⟨y, h1, hg⟩)
    obtain ⟨ab, ao, asp⟩ := a
    have hspot : xs ≠ [] → asp = none := fun hne => by
      obtain ⟨y, l, rfl⟩ := List.exists_cons_of_ne_nil hne
      have h1 := (World.cells?_some (hx 0 y rfl).1).2.2 0 hC0
      obtain ⟨u, hu⟩ : ∃ u, (cells y)[0]? = some u := ⟨_, List.getElem?_eq_getElem (by rw [hcl]; exact hC0)⟩
      rw [hu, Nat.zero_mul] at h1
      exact World.cell?_spot (a := ⟨ab, ao, asp⟩) (by simpa [Addr.add] using h1)
    have hcell : ∀ i y j, xs[i]? = some y → j < C → w.cell? ⟨ab, ao + (i * C + j), none⟩ = (cells y)[j]? := fun i y j hy hj => by
      have h1 := (World.cells?_some (hx i y hy).1).2.2 j hj
      obtain rfl := hspot (fun e => by rw [e] at hy; simp at hy)
      rw [← h1]
      congr 1
      by_cases h2 : i * C = 0 <;> by_cases h3 : j = 0 <;> simp [Addr.add, h2, h3, Nat.add_assoc]
    refine ⟨some ⟨ab, ao, asp⟩, cap, ab, ao, xs, by rw [hxl], by omega, fun j u hj => ?_, fun y hy => ?_⟩
    · have hjl : j < (flat cells xs).length := (List.getElem?_eq_some_iff.1 hj).1
      rw [flat_length hcl] at hjl
      have hd : j / C < xs.length := Nat.div_lt_of_lt_mul (by rwa [Nat.mul_comm] at hjl)
      have hr : j % C < C := Nat.mod_lt _ hC0
      have hjj : j = j / C * C + j % C := by rw [Nat.mul_comm]; exact (Nat.div_add_mod j C).symm
      obtain ⟨y, hy⟩ : ∃ y, xs[j / C]? = some y := ⟨_, List.getElem?_eq_getElem hd⟩
      have hc := hcell _ y _ hy hr
      have hf := flat_get hcl xs (j / C) (j % C) hr
      rw [← hjj, hj, hy] at hf
      rw [← hjj] at hc
      obtain rfl := hspot (fun e => by rw [e] at hy; simp at hy)
      refine ⟨rfl, ?_⟩
      rw [hc]
      simpa using hf.symm
    · obtain ⟨i, hil, he⟩ := List.getElem_of_mem hy
      exact (hx i y (by rw [← he]; exact List.getElem?_eq_getElem hil)).2

/-- The outer form of a slice, its cells known. -/
theorem slice_of_cells {r : Reach} {b0 : Nat} {t e : TypeId} {v : Value} {A : Option Addr} {n c : Nat} (ht : P.underlying t = some (.slice e)) (hval : Value.okWide P w r b0 t v) (hc : v.cells.toList = [.slice A n c]) : v = .slice A n c := by
  obtain ⟨A', n', c', rfl⟩ := okWide_slice ht hval
  simpa [Value.cells] using hc
end
end Go.Proofs.Ytjediiajmnlonaa
