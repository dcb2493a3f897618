/- What maps.Equal answers at maps of places: whether they are one as functions. -/
import Derived.Test.YtjediiajmnlonaaK1
namespace Go.Proofs.Ytjediiajmnlonaa
open Go.RowKit Go.Maps
open Go.WideShapes
open Go.WideElems (Fit rg rd_key rg_of)

theorem keys_owned {R : Value → Option (DataW Unit × List MemPlace)} {w : World} {b n : Nat} {D : DataW Unit} (h : w.ownsMap Try.prog 53 R b n D) {k : Lit} (hk : has D k = true) : ∃ q, PlWf q ∧ k = litP q := by
  obtain ⟨es, clock, _, F, _, rfl⟩ := h
  rw [has_eq] at hk
  obtain ⟨p, hp, e⟩ := List.any_eq_true.1 hk
  have e := WideAt.sameKey_eq e
  subst e
  obtain ⟨x, hx, rfl⟩ := List.mem_map.1 (mem_sorted.1 hp)
  obtain ⟨y, hy⟩ := F.reads x hx
  rw [rg_of hy]
  obtain ⟨q, _, hq, h2⟩ := keyOf_inv (rd_key hy)
  exact ⟨q, hq, h2⟩

theorem sub_back {α : Type} : ∀ {l1 l2 : List α}, l1.Pairwise (· ≠ ·) → (∀ x ∈ l1, x ∈ l2) → l2.length ≤ l1.length → ∀ x ∈ l2, x ∈ l1
  | [], l2, _, _, hl, x, hx => by cases l2 <;> simp_all
  | a :: r, l2, hp, hs, hl, x, hx => by
    classical
    obtain ⟨ha, hr⟩ := List.pairwise_cons.1 hp
    have ha2 := hs a (by simp)
    by_cases e : x = a
    · simp [e]
    · have h1 : (l2.erase a).length ≤ r.length := by rw [List.length_erase_of_mem ha2]; simp at hl; omega
      exact List.mem_cons_of_mem _ (sub_back hr (fun y hy => (List.mem_erase_of_ne (fun e => (ha y hy) e.symm)).2 (hs y (by simp [hy]))) h1 x ((List.mem_erase_of_ne e).2 hx))

theorem equal_iff {w w' : World} {b1 b2 n1 n2 : Nat} {D1 D2 : DataW Unit} {R : Value → Option (DataW Unit × List MemPlace)} {f g : Pl → Int}
    (o1 : w.ownsMap Try.prog 53 R b1 n1 D1) (o2 : w'.ownsMap Try.prog 53 R b2 n2 D2)
    (a1 : ∀ p, PlWf p → D1.atKey (litP p) (.lit (.int .u64 0)) = .lit (.int .u64 (f p))) (h1 : ∀ p, PlWf p → has D1 (litP p) = decide (f p ≠ 0))
    (a2 : ∀ p, PlWf p → D2.atKey (litP p) (.lit (.int .u64 0)) = .lit (.int .u64 (g p))) (h2 : ∀ p, PlWf p → has D2 (litP p) = decide (g p ≠ 0)) :
    Lib.equalFuncD eqU D1 D2 = true ↔ ∀ p, PlWf p → f p = g p := by
  have c1 := o1.canon place_keyed
  have c2 := o2.canon place_keyed
  have k1 := fun k => keys_owned o1 (k := k)
  have k2 := fun k => keys_owned o2 (k := k)
  constructor
  · intro he
    obtain ⟨es1, rfl, s1, q1⟩ := c1
    obtain ⟨es2, rfl, s2, q2⟩ := c2
    unfold Lib.equalFuncD at he
    simp only [Bool.and_eq_true, decide_eq_true_eq, List.all_eq_true, Lib.entriesD, size_eq] at he
    obtain ⟨hz, hg⟩ := he
    have p1 := apart_of_rising s1
    have sub : ∀ x ∈ es1.map (·.1), x ∈ es2.map (·.1) := by
      intro x hx
      obtain ⟨p, hp, rfl⟩ := List.mem_map.1 hx
      have := hg p hp
      unfold Lib.goodD at this
      rw [Bool.and_eq_true, has_eq] at this
      obtain ⟨q, hq, e⟩ := List.any_eq_true.1 this.1
      exact List.mem_map.2 ⟨q, hq, WideAt.sameKey_eq e⟩
    have back := sub_back (List.pairwise_map.2 p1) sub (by rw [List.length_map, List.length_map]; exact Nat.le_of_eq (of_decide_eq_true hz).symm)
    intro p hp
    by_cases h0 : f p = 0
    · by_cases g0 : g p = 0
      · rw [h0, g0]
      · have := h2 p hp
        rw [decide_eq_true g0, has_eq] at this
        obtain ⟨q, hq, e⟩ := List.any_eq_true.1 this
        have e := WideAt.sameKey_eq e
        obtain ⟨q', hq', e'⟩ := List.mem_map.1 (back q.1 (List.mem_map.2 ⟨q, hq, rfl⟩))
        have h3 := h1 p hp
        rw [decide_eq_false (by simpa using h0)] at h3
        have : has (.map es1) (litP p) = true := by
          rw [has_eq]
          exact List.any_eq_true.2 ⟨q', hq', by rw [← e, ← e']; exact WideAt.sameKey_self (q1 q' hq')⟩
        rw [h3] at this
        cases this
    · have h3 := h1 p hp
      rw [decide_eq_true h0] at h3
      have h4 := h3
      rw [has_eq] at h4
      obtain ⟨q, hq, e⟩ := List.any_eq_true.1 h4
      have e := WideAt.sameKey_eq e
      have h5 := hg q hq
      unfold Lib.goodD at h5
      rw [e, Bool.and_eq_true, atKey_indep h5.1 .nil (.lit (.int .u64 0)), a2 p hp] at h5
      have h6 : q.2 = (DataW.map es1).atKey (litP p) (.lit (.int .u64 0)) := (WideAt.atKey_mem _ (e ▸ q1 q hq) p1 (by rw [← e]; exact hq)).symm
      rw [h6, a1 p hp] at h5
      simpa [eqU] using h5.2
  · intro hfg
    have hh : ∀ k, has D1 k = has D2 k := by
      intro k
      cases hx : has D1 k with
      | true =>
        obtain ⟨q, hq, rfl⟩ := k1 k hx
        rw [← hx, h1 q hq, h2 q hq, hfg q hq]
      | false =>
        cases hy : has D2 k with
        | false => rfl
        | true =>
          obtain ⟨q, hq, rfl⟩ := k2 k hy
          rw [← hx, ← hy, h1 q hq, h2 q hq, hfg q hq]
    have : D1 = D2 := Maps.ext c1 c2 hh (fun k z hk => by
      obtain ⟨q, hq, rfl⟩ := k1 k hk
      rw [atKey_indep hk z (.lit (.int .u64 0)), atKey_indep (hh _ ▸ hk) z (.lit (.int .u64 0)), a1 q hq, a2 q hq, hfg q hq])
    subst this
    obtain ⟨es1, rfl, s1, q1⟩ := c1
    unfold Lib.equalFuncD
    simp only [Bool.and_eq_true, decide_eq_true_eq, List.all_eq_true, Lib.entriesD, true_and]
    intro p hp
    have hk : has (.map es1) p.1 = true := by
      rw [has_eq]
      exact List.any_eq_true.2 ⟨p, hp, WideAt.sameKey_self (q1 p hp)⟩
    have hat : (DataW.map es1).atKey p.1 .nil = p.2 := WideAt.atKey_mem .nil (q1 p hp) (apart_of_rising s1) hp
    obtain ⟨q, hq, e⟩ := k1 _ hk
    unfold Lib.goodD
    rw [hk, hat, Bool.true_and, ← hat, atKey_indep hk .nil (.lit (.int .u64 0)), e, a1 q hq]
    simp [eqU]

set_option maxRecDepth 100000 in
theorem equal_at {w : World} {b1 b2 n1 n2 : Nat} {f g : Pl → Int} (m1 : MapAt w b1 f n1) (m2 : MapAt w b2 g n2) :
    Calls Try.prog 94 #[.map (some b1), .map (some b2)] w fun e w' => ∃ r : Bool, e = .returned (.bool r) ∧ (r = true ↔ ∀ p, PlWf p → f p = g p) ∧ w.grownBy w' none := by
  obtain ⟨D1, o1, a1, h1⟩ := m1
  obtain ⟨D2, o2, a2, h2⟩ := m2
  refine (equal_maps (plainElem Try.prog 56) (fun {v z} h => ?_) b1 b2 n1 n2 D1 D2 w o1 o2 [] (plainElem_int Try.underlying56 (by decide)) Try.zeroValue56 ?_).mono ?_
  · obtain ⟨a, h1, h2, _⟩ := plainElem_int_inv Try.underlying56 h
    exact ⟨a, h1, h2⟩
  · intro W x y xd yd xp yp hx hy
    obtain ⟨i, rfl, e1, _⟩ := plainElem_int_inv Try.underlying56 hx
    obtain ⟨j, rfl, e2, _⟩ := plainElem_int_inv Try.underlying56 hy
    injection e1 with e1 _
    injection e2 with e2 _
    subst e1 e2
    constructor
    · simp [go_sem, eqU, binOp]
      rfl
    · intro a b
      simp [eqGuard]
  · rintro e w' ⟨rfl, hg⟩
    exact ⟨_, rfl, equal_iff o1 o2 a1 h1 a2 h2, hg⟩
end Go.Proofs.Ytjediiajmnlonaa
