/- How the executor's state goes on, and that the machine's does: steps, and one behind the other. No condition. -/
import Derived.Test.YtjediiajmnlonaaE2
namespace Go.Proofs.Ytjediiajmnlonaa

section
variable {R α β : Type}
theorem bind_ok {m : M R α} {f : α → M R β} {st st' : St R} {b : β} : (m.bind f) st = .ok b st' ↔ ∃ a st1, m st = .ok a st1 ∧ f a st1 = .ok b st' := by
  unfold M.bind
  cases h : m st with
  | ok a st1 =>
    constructor
    · exact fun hf => ⟨a, st1, rfl, hf⟩
    · rintro ⟨a', st2, he, hf⟩
      injection he with h1 h2
      subst h1
      subst h2
      exact hf
  | no e l => simp
theorem ret_ok {a b : α} {st st' : St R} : (M.ret a) st = .ok b st' ↔ a = b ∧ st = st' := by simp [M.ret]
theorem fail_ok {e : Nat} {b : α} {st st' : St R} : (M.fail e) st = .ok b st' ↔ False := by simp [M.fail]
theorem opt_ok {e : Nat} {o : Option α} {b : α} {st st' : St R} : (M.opt e o) st = .ok b st' ↔ o = some b ∧ st = st' := by
  cases o <;> simp [M.opt, M.ret, M.fail]
theorem getC_ok {n : Nat} {c : Chunk R} {st st' : St R} : (getC n) st = .ok c st' ↔ hget n st.hp = some c ∧ st' = { st with fr := insN n st.fr } := by
  obtain ⟨hp, nx, fr, wr, ak, oc⟩ := st
  simp only [getC]
  cases hget n hp <;> simp [eq_comm]
theorem setC_ok {n : Nat} {c : Chunk R} {st st' : St R} {u : Unit} : (setC n c) st = .ok u st' ↔ (∃ d, hget n st.hp = some d) ∧ st' = { st with hp := hset n c st.hp, fr := insN n st.fr, wr := insN n st.wr } := by
  obtain ⟨hp, nx, fr, wr, ak, oc⟩ := st
  simp only [setC]
  cases hget n hp <;> simp [eq_comm]
theorem delC_ok {n : Nat} {st st' : St R} {u : Unit} : (delC n) st = .ok u st' ↔ (∃ d, hget n st.hp = some d) ∧ st' = { st with hp := hdel n st.hp, fr := insN n st.fr, wr := insN n st.wr } := by
  obtain ⟨hp, nx, fr, wr, ak, oc⟩ := st
  simp only [delC]
  cases hget n hp <;> simp [eq_comm]
theorem newC_ok {n : Nat} {c : Chunk R} {st st' : St R} : (newC c) st = .ok n st' ↔ n = st.nx ∧ st' = { st with hp := (st.nx, c) :: st.hp, nx := st.nx + 1 } := by
  obtain ⟨hp, nx, fr, wr, ak, oc⟩ := st
  simp [newC, eq_comm]
theorem want_ok {e : Nat} {b : Bool} {u : Unit} {st st' : St R} : (want e b) st = .ok u st' ↔ b = true ∧ st = st' := by
  cases b <;> simp [want, M.ret, M.fail]
theorem mem_ins {n m : Nat} {l : List Nat} : m ∈ insN n l ↔ m = n ∨ m ∈ l := by
  have hm : memN n l = true ↔ n ∈ l := by
    induction l with
    | nil => simp [memN]
    | cons x l ih =>
      simp only [memN]
      cases h : Nat.beq n x with
      | true => simp [Nat.eq_of_beq_eq_true h]
      | false => simp [ih, Nat.ne_of_beq_eq_false h]
  unfold insN
  cases h : memN n l with
  | true =>
    have := hm.1 h
    constructor
    · exact .inr
    · rintro (rfl | h) <;> assumption
  | false => simp
theorem memN_iff {n : Nat} {l : List Nat} : memN n l = true ↔ n ∈ l := by
  induction l with
  | nil => simp [memN]
  | cons x l ih =>
    simp only [memN]
    cases h : Nat.beq n x with
    | true => simp [Nat.eq_of_beq_eq_true h]
    | false => simp [ih, Nat.ne_of_beq_eq_false h]
theorem mem_uni {m : Nat} {a b : List Nat} : m ∈ uniN a b ↔ m ∈ a ∨ m ∈ b := by
  unfold uniN
  induction a with
  | nil => simp
  | cons x a ih => simp [mem_ins, ih, or_assoc]
theorem beq_no {m n : Nat} (h : ¬ m = n) : Nat.beq m n = false := by
  cases hb : Nat.beq m n with
  | true => exact absurd (Nat.eq_of_beq_eq_true hb) h
  | false => rfl
theorem hget_set {n m : Nat} {c : Chunk R} {hp : List (Nat × Chunk R)} : hget m (hset n c hp) = if m = n then (hget n hp).map (fun _ => c) else hget m hp := by
  induction hp with
  | nil => simp [hset, hget]
  | cons p hp ih =>
    obtain ⟨k, d⟩ := p
    simp only [hset]
    cases h : Nat.beq n k with
    | true =>
      obtain rfl := Nat.eq_of_beq_eq_true h
      simp only [hget, h]
      by_cases hm : m = n
      · subst hm; simp
      · have : Nat.beq m n = false := beq_no hm
        simp [this, hm]
    | false =>
      simp only [hget, h]
      by_cases hm : m = n
      · subst hm; simp [h, ih]
      · cases hk : Nat.beq m k with
        | true => simp [hm]
        | false => simp [ih, hm]
theorem hget_del {n m : Nat} {hp : List (Nat × Chunk R)} : hget m (hdel n hp) = if m = n then none else hget m hp := by
  induction hp with
  | nil => simp [hdel, hget]
  | cons p hp ih =>
    obtain ⟨k, d⟩ := p
    simp only [hdel]
    cases h : Nat.beq n k with
    | true =>
      obtain rfl := Nat.eq_of_beq_eq_true h
      simp only [hget, ih]
      by_cases hm : m = n
      · simp [hm]
      · have : Nat.beq m n = false := beq_no hm
        simp [this, hm]
    | false =>
      simp only [hget, ih]
      by_cases hm : m = n
      · subst hm; simp [h]
      · cases hk : Nat.beq m k <;> simp [hm]
theorem hget_cons {n m : Nat} {c : Chunk R} {hp : List (Nat × Chunk R)} : hget m ((n, c) :: hp) = if m = n then some c else hget m hp := by
  simp only [hget]
  by_cases hm : m = n
  · subst hm; simp
  · have : Nat.beq m n = false := beq_no hm
    simp [this, hm]

def newN (st st' : St R) (n : Nat) : Prop := st.nx ≤ n ∧ n < st'.nx
structure Wf (st : St R) : Prop where
  wr : ∀ n ∈ st.wr, n ∈ st.fr ∧ n < st.nx
  top : ∀ n, st.nx ≤ n → hget n st.hp = none
theorem Wf.lt {st : St R} (h : Wf st) {n : Nat} {c : Chunk R} (hc : hget n st.hp = some c) : n < st.nx := by
  rcases Nat.lt_or_ge n st.nx with h1 | h1
  · exact h1
  · rw [h.top n h1] at hc; cases hc

/-- What the executor's own state keeps. -/
structure Fn (st st' : St R) : Prop where
  nx : st.nx ≤ st'.nx
  fr : ∀ n ∈ st.fr, n ∈ st'.fr
  wr : ∀ n ∈ st.wr, n ∈ st'.wr
  ask : ∀ p ∈ st.ask, p ∈ st'.ask
  hp : ∀ n, n ∉ st'.wr → n < st.nx → hget n st'.hp = hget n st.hp
  wf : Wf st → Wf st'
  al : ∀ n ∈ st'.wr, n ∈ st.wr ∨ st.nx ≤ n ∨ ∃ c, hget n st.hp = some c

theorem Fn.refl (st : St R) : Fn st st := ⟨Nat.le_refl _, fun _ h => h, fun _ h => h, fun _ h => h, fun _ _ _ => rfl, fun h => h, fun _ h => .inl h⟩
theorem Fn.trans {a b c : St R} (h : Fn a b) (k : Fn b c) : Fn a c where
  nx := Nat.le_trans h.nx k.nx
  fr n hn := k.fr n (h.fr n hn)
  wr n hn := k.wr n (h.wr n hn)
  ask p hp := k.ask p (h.ask p hp)
  hp n hn hl := (k.hp n hn (Nat.lt_of_lt_of_le hl h.nx)).trans (h.hp n (fun hw => hn (k.wr n hw)) hl)
  wf ht := k.wf (h.wf ht)
  al n hn := by
    rcases k.al n hn with h1 | h1 | ⟨d, h1⟩
    · exact h.al n h1
    · exact .inr (.inl (Nat.le_trans h.nx h1))
    · by_cases hb : n ∈ b.wr
      · exact h.al n hb
      · rcases Nat.lt_or_ge n a.nx with hl | hl
        · exact .inr (.inr ⟨d, (h.hp n hb hl).symm.trans h1⟩)
        · exact .inr (.inl hl)

/-- Only notes have been taken. -/
structure Quiet (st st' : St R) : Prop where
  hp : st'.hp = st.hp
  nx : st'.nx = st.nx
  wr : st'.wr = st.wr
  fr : ∀ n ∈ st.fr, n ∈ st'.fr
  ask : ∀ p ∈ st.ask, p ∈ st'.ask
theorem Quiet.refl (st : St R) : Quiet st st := ⟨rfl, rfl, rfl, fun _ h => h, fun _ h => h⟩
theorem Quiet.trans {a b c : St R} (h : Quiet a b) (k : Quiet b c) : Quiet a c := ⟨k.hp.trans h.hp, k.nx.trans h.nx, k.wr.trans h.wr, fun n hn => k.fr n (h.fr n hn), fun p hp => k.ask p (h.ask p hp)⟩
theorem Quiet.fn {st st' : St R} (h : Quiet st st') : Fn st st' where
  nx := by rw [h.nx]; exact Nat.le_refl _
  fr := h.fr
  wr n hn := by rw [h.wr]; exact hn
  ask := h.ask
  hp n _ _ := by rw [h.hp]
  wf hw := ⟨fun n hn => by rw [h.wr] at hn; rw [h.nx]; exact ⟨h.fr n (hw.wr n hn).1, (hw.wr n hn).2⟩, fun n hn => by rw [h.hp]; exact hw.top n (h.nx ▸ hn)⟩
  al n hn := .inl (h.wr ▸ hn)
theorem Quiet.get {n : Nat} {st : St R} : Quiet st { st with fr := insN n st.fr } := ⟨rfl, rfl, rfl, fun _ h => mem_ins.2 (.inr h), fun _ h => h⟩
theorem ask_ok {b r : Bool} {st st' : St R} (h : (askB b) st = .ok r st') : Quiet st st' ∧ ((∀ p ∈ st'.ask, p.1 = p.2) → b = r) := by
  obtain ⟨hp, nx, fr, wr, ak, oc⟩ := st
  simp only [askB] at h
  split at h <;> simp only [Res.ok.injEq] at h <;> obtain ⟨rfl, rfl⟩ := h
  · exact ⟨⟨rfl, rfl, rfl, fun _ h => h, fun _ h => List.mem_cons_of_mem _ h⟩, fun h => h _ (List.mem_cons_self ..)⟩
  · exact ⟨⟨rfl, rfl, rfl, fun _ h => h, fun _ h => h⟩, fun _ => rfl⟩
  · exact ⟨⟨rfl, rfl, rfl, fun _ h => h, fun _ h => h⟩, fun _ => rfl⟩
theorem need_ok {e : Nat} {b : Bool} {u : Unit} {st st' : St R} (h : (need e b) st = .ok u st') : Quiet st st' ∧ ((∀ p ∈ st'.ask, p.1 = p.2) → b = true) := by
  obtain ⟨r, st1, h1, h2⟩ := bind_ok.1 h
  obtain ⟨hq, hb⟩ := ask_ok h1
  cases r with
  | false => simp [M.fail] at h2
  | true =>
    simp only [M.ret, Res.ok.injEq] at h2
    obtain ⟨_, rfl⟩ := h2
    exact ⟨hq, hb⟩
end

section
variable {R : Type} (A : RepAt R) (P : Program)
/-- The machine has gone along. -/
structure Tr (B : Nat) (F : Nat → Prop) (st st' : St R) (ρ : Names) (own : Nat → List Nat) (w : World) (ρ' : Names) (own' : Nat → List Nat) (w' : World) : Prop where
  le : ρ.le ρ'
  out : ∀ n, ¬ newN st st' n → ρ' n = ρ n
  same : ∀ n, ¬ newN st st' n → n ∉ st'.wr → own' n = own n
  pool : ∀ n, newN st st' n ∨ n ∈ st'.wr → ∀ b ∈ own' n, w.heap.size ≤ b ∨ ∃ m, m ∈ st'.wr ∧ ¬ newN st st' m ∧ b ∈ own m
  li : LI A P B ρ' own' st'.hp (fun n => F n ∨ newN st st' n) w'
  mod : ModP (fun b => ∃ m, m ∈ st'.wr ∧ ¬ newN st st' m ∧ b ∈ own m) w w'

/-- How things stand ahead of a step that ends in st'. -/
structure Sit (B : Nat) (F : Nat → Prop) (st st' : St R) (ρ : Names) (own : Nat → List Nat) (w : World) : Prop where
  log : ∀ n ∈ st'.fr, F n
  wf : Wf st
  fresh : ∀ n, newN st st' n → ρ n = none
  li : LI A P B ρ own st.hp F w
  ask : ∀ p ∈ st'.ask, p.1 = p.2
  base : B ≤ w.heap.size

variable {A P} {B : Nat} {F : Nat → Prop} {st st1 st' : St R} {ρ ρ1 ρ' : Names} {own own1 own' : Nat → List Nat} {w w1 w' : World}
theorem newN_self {n : Nat} (h : st'.nx = st.nx) : ¬ newN st st' n := fun ⟨h1, h2⟩ => by omega
theorem Tr.quiet (h : Quiet st st') (hli : LI A P B ρ own st.hp F w) : Tr A P B F st st' ρ own w ρ own w where
  le := Names.le.refl _
  out _ _ := rfl
  same _ _ _ := rfl
  pool n hn b hb := by
    have := newN_self (n := n) h.nx
    exact .inr ⟨n, hn.resolve_left this, this, hb⟩
  li := by rw [h.hp]; exact hli.sub fun n hn => hn.resolve_right (newN_self h.nx)
  mod := ModP.refl _ _
theorem Sit.quiet (s : Sit A P B F st st' ρ own w) (h : Quiet st st') : Tr A P B F st st' ρ own w ρ own w := Tr.quiet h s.li

theorem new_of (f1 : Fn st st1) (f2 : Fn st1 st') {n : Nat} : newN st st' n ↔ newN st st1 n ∨ newN st1 st' n := by
  have := f1.nx
  have := f2.nx
  unfold newN
  omega
theorem Tr.trans (h : Tr A P B F st st1 ρ own w ρ1 own1 w1) (k : Tr A P B (fun n => F n ∨ newN st st1 n) st1 st' ρ1 own1 w1 ρ' own' w') (f1 : Fn st st1) (f2 : Fn st1 st') (hw : Wf st1) : Tr A P B F st st' ρ own w ρ' own' w' := by
  have back : ∀ {n b}, ¬ newN st1 st' n → n ∈ st'.wr → b ∈ own1 n → w.heap.size ≤ b ∨ ∃ m, m ∈ st'.wr ∧ ¬ newN st st' m ∧ b ∈ own m := by
    intro n b hn hnw hb
    by_cases h1 : newN st st1 n ∨ n ∈ st1.wr
    · rcases h.pool n h1 b hb with h2 | ⟨m, h2, h3, h4⟩
      · exact .inl h2
      · refine .inr ⟨m, f2.wr m h2, fun hx => ?_, h4⟩
        rcases (new_of f1 f2).1 hx with h5 | h5
        · exact h3 h5
        · have := (hw.wr m h2).2
          have := h5.1
          omega
    · rw [not_or] at h1
      rw [h.same n h1.1 h1.2] at hb
      exact .inr ⟨n, hnw, fun hx => ((new_of f1 f2).1 hx).elim h1.1 hn, hb⟩
  refine ⟨h.le.trans k.le, fun n hn => ?_, fun n hn hnw => ?_, fun n hn b hb => ?_, k.li.sub fun n hn => ?_, ?_⟩
  · rw [new_of f1 f2, not_or] at hn
    rw [k.out n hn.2, h.out n hn.1]
  · rw [new_of f1 f2, not_or] at hn
    rw [k.same n hn.2 hnw, h.same n hn.1 (fun hx => hnw (f2.wr n hx))]
  · by_cases h2 : newN st1 st' n ∨ n ∈ st'.wr
    · rcases k.pool n h2 b hb with h3 | ⟨m, h3, h4, h5⟩
      · exact .inl (Nat.le_trans h.mod.size h3)
      · exact back h4 h3 h5
    · rw [not_or] at h2
      have h3 : newN st st1 n := by
        rcases hn with hn | hn
        · exact ((new_of f1 f2).1 hn).resolve_right h2.1
        · exact absurd hn h2.2
      rw [k.same n h2.1 h2.2] at hb
      rcases h.pool n (.inl h3) b hb with h4 | ⟨m, h4, h5, h6⟩
      · exact .inl h4
      · refine .inr ⟨m, f2.wr m h4, fun hx => ?_, h6⟩
        rcases (new_of f1 f2).1 hx with h7 | h7
        · exact h5 h7
        · have := (hw.wr m h4).2
          have := h7.1
          omega
  · rw [or_assoc, ← new_of f1 f2]
    exact hn
  · have m1 : ModP (fun b => ∃ m, m ∈ st'.wr ∧ ¬ newN st st' m ∧ b ∈ own m) w w1 := h.mod.mono (fun b _ ⟨m, h1, h2, h3⟩ => by
      refine ⟨m, f2.wr m h1, fun hx => ?_, h3⟩
      rcases (new_of f1 f2).1 hx with h7 | h7
      · exact h2 h7
      · have := (hw.wr m h1).2
        have := h7.1
        omega)
    exact m1.trans k.mod (fun b hb ⟨m, h1, h2, h3⟩ => (back h2 h1 h3).resolve_left (by omega))

/-- The next step's situation. -/
theorem Sit.next (s : Sit A P B F st st' ρ own w) (f1 : Fn st st1) (f2 : Fn st1 st') (t : Tr A P B F st st1 ρ own w ρ1 own1 w1) : Sit A P B (fun n => F n ∨ newN st st1 n) st1 st' ρ1 own1 w1 where
  log n hn := .inl (s.log n hn)
  wf := f1.wf s.wf
  fresh n hn := by
    rw [t.out n (fun hx => by have := hx.2; have := hn.1; omega)]
    exact s.fresh n ((new_of f1 f2).2 (.inr hn))
  li := t.li
  ask := s.ask
  base := Nat.le_trans s.base t.mod.size
/-- The first step's. -/
theorem Sit.head (s : Sit A P B F st st' ρ own w) (f1 : Fn st st1) (f2 : Fn st1 st') : Sit A P B F st st1 ρ own w where
  log n hn := s.log n (f2.fr n hn)
  wf := s.wf
  fresh n hn := s.fresh n ((new_of f1 f2).2 (.inl hn))
  li := s.li
  ask p hp := s.ask p (f2.ask p hp)
  base := s.base
end
end Go.Proofs.Ytjediiajmnlonaa
