/- A region whose order is open: what is needed of orders. No condition. -/
import Derived.Test.YtjediiajmnlonaaEF
import Derived.Orders
namespace Go.Proofs.Ytjediiajmnlonaa

section
variable {α : Type}
/-- What the last of those that have a say gives. -/
def view (base : α) (res : Nat → α) (p : Nat → Bool) : Nat → α
  | 0 => base
  | n + 1 => if p n = true then res n else view base res p n
variable {base : α} {res : Nat → α} {p q : Nat → Bool} {n : Nat}
theorem view_congr (h : ∀ j, j < n → p j = q j) : view base res p n = view base res q n := by
  induction n with
  | zero => rfl
  | succ n ih => simp only [view, h n (Nat.lt_succ_self n), ih (fun j hj => h j (Nat.lt_succ_of_lt hj))]
theorem view_above {i : Nat} (hi : i ≤ n) (h : ∀ j, i ≤ j → j < n → p j = false) : view base res p n = view base res p i := by
  induction n with
  | zero =>
    obtain rfl : i = 0 := by omega
    rfl
  | succ n ih =>
    by_cases e : i = n + 1
    · subst e; rfl
    · simp only [view, h n (by omega) (Nat.lt_succ_self n), Bool.false_eq_true, if_false]
      exact ih (by omega) (fun j h1 h2 => h j h1 (by omega))
theorem view_text {X : Nat → α} (h0 : X 0 = base) (hs : ∀ k, k < n → X (k + 1) = if p k = true then res k else X k) : ∀ i, i ≤ n → X i = view base res p i
  | 0, _ => h0
  | i + 1, hi => by rw [hs i (by omega), view, view_text h0 hs i (by omega)]
theorem view_at {X : Nat → α} {D : Nat → Bool} {i : Nat} (h0 : X 0 = base) (hs : ∀ k, k < n → X (k + 1) = if p k = true then res k else X k) (hi : i ≤ n) (hl : ∀ j, j < i → p j = true → D j = true) (hu : ∀ j, i ≤ j → j < n → p j = true → D j = false) :
    view base res (fun j => D j && p j) n = X i := by
  rw [view_above hi (fun j h1 h2 => by
    cases hp : p j with
    | false => simp
    | true => rw [hu j h1 h2 hp]; rfl), view_text h0 hs i hi]
  refine view_congr fun j hj => ?_
  cases hp : p j with
  | false => simp
  | true => rw [hl j hj hp]; rfl
theorem view_set {D D' : Nat → Bool} {i : Nat} (hi : i < n) (hD : ∀ j, D' j = (D j || j == i)) (hu : p i = true → ∀ j, i < j → j < n → p j = true → D j = false) :
    view base res (fun j => D' j && p j) n = if p i = true then res i else view base res (fun j => D j && p j) n := by
  split
  · next hp =>
    rw [view_above (i := i + 1) (by omega) (fun j h1 h2 => by
      cases hpj : p j with
      | false => simp
      | true =>
        have : (j == i) = false := by simp; omega
        rw [hD, hu hp j (by omega) h2 hpj, this]
        rfl)]
    have : D' i = true := by rw [hD]; simp
    simp [view, this, hp]
  · next hp =>
    refine view_congr fun j hj => ?_
    rw [hD]
    by_cases e : j = i
    · subst e
      have : p j = false := by simpa using hp
      simp [this]
    · have : (j == i) = false := by simpa using e
      rw [this, Bool.or_false]
end

/-- A set of operations that holds what stands ahead of its own. -/
def Closed (l : List Oper) (D : Nat → Bool) : Prop := ∀ (j : Nat) (o : Oper), l[j]? = some o → D j = true → ∀ e ∈ o.after, Region.binds .any e = true → D e.on = true
def Ahead (l : List Oper) (m j : Nat) : Prop := ∀ i, m.testBit i = true → ∀ D, Closed l D → D j = true → D i = true
theorem maskOf_ahead {l : List Oper} {acc : List Nat} {o : Oper} (ho : l[acc.length]? = some o) (hacc : ∀ k m, acc[k]? = some m → Ahead l m (acc.length - 1 - k)) : Ahead l (maskOf acc o) acc.length := by
  intro i hi D hD hj
  unfold maskOf at hi
  have key : ∀ (es : List Edge), (∀ e ∈ es, e ∈ o.after) → (es.foldr (fun e s => match Region.binds .any e && Nat.blt e.on acc.length with
      | true => (s ||| 2 ^ e.on) ||| acc.getD (acc.length - 1 - e.on) 0
      | false => s) 0).testBit i = true → D i = true := by
    intro es
    induction es with
    | nil => intro _ h; simp at h
    | cons e es ih =>
      intro hm h
      rw [List.foldr_cons] at h
      cases hb : (Region.binds .any e && Nat.blt e.on acc.length) with
      | false =>
        rw [hb] at h
        exact ih (fun e he => hm e (List.mem_cons_of_mem _ he)) h
      | true =>
        rw [hb] at h
        simp only [Nat.testBit_or, Bool.or_eq_true] at h
        simp only [Bool.and_eq_true] at hb
        have hlt : e.on < acc.length := by simpa [Nat.blt_eq] using hb.2
        have hon := hD acc.length o ho hj e (hm e (List.mem_cons_self ..)) hb.1
        rcases h with (h | h) | h
        · exact ih (fun e he => hm e (List.mem_cons_of_mem _ he)) h
        · rw [Nat.testBit_two_pow] at h
          simp only [decide_eq_true_eq] at h
          rw [← h]
          exact hon
        · have hg : acc[acc.length - 1 - e.on]? = some (acc.getD (acc.length - 1 - e.on) 0) := by
            rw [List.getD_eq_getElem?_getD, List.getElem?_eq_getElem (by omega)]
            rfl
          have := hacc _ _ hg
          rw [show acc.length - 1 - (acc.length - 1 - e.on) = e.on by omega] at this
          exact this i h D hD hon
  exact key o.after.toList (fun e he => by simpa using he) hi
theorem masks_ahead {l : List Oper} : ∀ {r : List Oper} {acc : List Nat}, (∀ k, r[k]? = l[acc.length + k]?) → (∀ k m, acc[k]? = some m → Ahead l m (acc.length - 1 - k)) →
    (masks r acc).length = acc.length + r.length ∧ ∀ k m, (masks r acc)[k]? = some m → Ahead l m (acc.length + r.length - 1 - k)
  | [], acc, _, h => ⟨by simp [masks], by simpa [masks] using h⟩
  | o :: r, acc, hr, h => by
    have ho : l[acc.length]? = some o := by have := hr 0; simpa using this.symm
    obtain ⟨h1, h2⟩ := masks_ahead (r := r) (acc := maskOf acc o :: acc) (fun k => by
      have := hr (k + 1)
      rw [List.getElem?_cons_succ] at this
      rw [this, List.length_cons]
      congr 1
      omega) (fun k m hk => by
      cases k with
      | zero =>
        simp only [List.getElem?_cons_zero, Option.some.injEq] at hk
        subst hk
        simpa using maskOf_ahead ho h
      | succ k =>
        have := h k m (by simpa using hk)
        rw [List.length_cons, show acc.length + 1 - 1 - (k + 1) = acc.length - 1 - k by omega]
        exact this)
    simp only [List.length_cons] at h1 h2
    refine ⟨by simp only [masks, List.length_cons]; omega, fun k m hk => ?_⟩
    have := h2 k m hk
    rw [List.length_cons, show acc.length + (r.length + 1) - 1 - k = acc.length + 1 + r.length - 1 - k by omega]
    exact this

theorem ordered_spec {L : Nat → Log} : ∀ {n : Nat} {ms : List Nat}, ms.length = n → ordered ms ((List.range n).reverse.map L) = true → ∀ i j, i < j → j < n → clash (L i) (L j) = true → ∃ m, ms[n - 1 - j]? = some m ∧ m.testBit i = true
  | 0, _, _, _, i, j, _, h, _ => by omega
  | n + 1, [], hl, _, _, _, _, _, _ => by simp at hl
  | n + 1, m :: ms, hl, h, i, j, hij, hj, hc => by
    rw [List.range_succ, List.reverse_append, List.map_append] at h
    simp only [List.reverse_cons, List.reverse_nil, List.nil_append, List.map_cons, List.map_nil, List.singleton_append, ordered, Bool.and_eq_true] at h
    by_cases e : j = n
    · subst e
      refine ⟨m, by simp, ?_⟩
      have h1 := List.all_eq_true.1 h.1 (L i, j - 1 - i) (by
        rw [List.mem_zipIdx_iff_getElem?, List.getElem?_map, List.getElem?_reverse (by simp; omega), List.length_range, List.getElem?_range (by omega)]
        simp only [Option.map_some, Option.some.injEq]
        congr 1
        omega)
      simp only [hc, Bool.not_true, Bool.false_or, List.length_map, List.length_reverse, List.length_range] at h1
      rw [show j - 1 - (j - 1 - i) = i by omega] at h1
      exact h1
    · obtain ⟨m', h1, h2⟩ := ordered_spec (n := n) (ms := ms) (by simpa using hl) h.2 i j hij (by omega) hc
      refine ⟨m', ?_, h2⟩
      rw [show n + 1 - 1 - j = (n - 1 - j) + 1 by omega, List.getElem?_cons_succ]
      exact h1
end Go.Proofs.Ytjediiajmnlonaa
