/- A region whose order is open, as a whole. Condition: the program follows the looser reading of Go's order. -/
import Derived.Test.YtdjogfofedbohaaG1
import Derived.Laws.StructEq
import Derived.Deep.AppendSrc
import Derived.Deep.MidRow
import Derived.ChangeKeysEq
import Derived.Below
import Derived.Deep.Upon
import Derived.Tactics
import Derived.Orders
section
/- How the executor's state goes on, and that the machine's does: steps, and one behind the other. No condition. -/
namespace Go.Proofs.Ytdjogfofedbohaa

section
variable {R α β : Type}
theorem bind_ok {m : M R α} {f : α → M R β} {st st' : St R} {b : β} : (m.bind f) st = .ok b st' ↔ ∃ a st1, m st = .ok a st1 ∧ f a st1 = .ok b st' := by
  unfold M.bind
  cases h : m st with
  | ok a st1 =>
    constructor
    · exact fun hf => ⟨a, st1, rfl, hf⟩
    · rintro ⟨a', st2, he, hf⟩
      injection he with h1 h2
      subst h1
      subst h2
      exact hf
  | no e l => simp
theorem ret_ok {a b : α} {st st' : St R} : (M.ret a) st = .ok b st' ↔ a = b ∧ st = st' := by simp [M.ret]
theorem fail_ok {e : Nat} {b : α} {st st' : St R} : (M.fail e) st = .ok b st' ↔ False := by simp [M.fail]
theorem opt_ok {e : Nat} {o : Option α} {b : α} {st st' : St R} : (M.opt e o) st = .ok b st' ↔ o = some b ∧ st = st' := by
  cases o <;> simp [M.opt, M.ret, M.fail]
theorem getC_ok {n : Nat} {c : Chunk R} {st st' : St R} : (getC n) st = .ok c st' ↔ hget n st.hp = some c ∧ st' = { st with fr := insN n st.fr } := by
  obtain ⟨hp, nx, fr, wr, ak, oc⟩ := st
  simp only [getC]
  cases hget n hp <;> simp [eq_comm]
theorem setC_ok {n : Nat} {c : Chunk R} {st st' : St R} {u : Unit} : (setC n c) st = .ok u st' ↔ (∃ d, hget n st.hp = some d) ∧ st' = { st with hp := hset n c st.hp, fr := insN n st.fr, wr := insN n st.wr } := by
  obtain ⟨hp, nx, fr, wr, ak, oc⟩ := st
  simp only [setC]
  cases hget n hp <;> simp [eq_comm]
theorem delC_ok {n : Nat} {st st' : St R} {u : Unit} : (delC n) st = .ok u st' ↔ (∃ d, hget n st.hp = some d) ∧ st' = { st with hp := hdel n st.hp, fr := insN n st.fr, wr := insN n st.wr } := by
  obtain ⟨hp, nx, fr, wr, ak, oc⟩ := st
  simp only [delC]
  cases hget n hp <;> simp [eq_comm]
theorem newC_ok {n : Nat} {c : Chunk R} {st st' : St R} : (newC c) st = .ok n st' ↔ n = st.nx ∧ st' = { st with hp := (st.nx, c) :: st.hp, nx := st.nx + 1 } := by
  obtain ⟨hp, nx, fr, wr, ak, oc⟩ := st
  simp [newC, eq_comm]
theorem want_ok {e : Nat} {b : Bool} {u : Unit} {st st' : St R} : (want e b) st = .ok u st' ↔ b = true ∧ st = st' := by
  cases b <;> simp [want, M.ret, M.fail]
theorem mem_ins {n m : Nat} {l : List Nat} : m ∈ insN n l ↔ m = n ∨ m ∈ l := by
  have hm : memN n l = true ↔ n ∈ l := by
    induction l with
    | nil => simp [memN]
    | cons x l ih =>
      simp only [memN]
      cases h : Nat.beq n x with
      | true => simp [Nat.eq_of_beq_eq_true h]
      | false => simp [ih, Nat.ne_of_beq_eq_false h]
  unfold insN
  cases h : memN n l with
  | true =>
    have := hm.1 h
    constructor
    · exact .inr
    · rintro (rfl | h) <;> assumption
  | false => simp
theorem memN_iff {n : Nat} {l : List Nat} : memN n l = true ↔ n ∈ l := by
  induction l with
  | nil => simp [memN]
  | cons x l ih =>
    simp only [memN]
    cases h : Nat.beq n x with
    | true => simp [Nat.eq_of_beq_eq_true h]
    | false => simp [ih, Nat.ne_of_beq_eq_false h]
theorem mem_uni {m : Nat} {a b : List Nat} : m ∈ uniN a b ↔ m ∈ a ∨ m ∈ b := by
  unfold uniN
  induction a with
  | nil => simp
  | cons x a ih => simp [mem_ins, ih, or_assoc]
theorem beq_no {m n : Nat} (h : ¬ m = n) : Nat.beq m n = false := by
  cases hb : Nat.beq m n with
  | true => exact absurd (Nat.eq_of_beq_eq_true hb) h
  | false => rfl
theorem hget_set {n m : Nat} {c : Chunk R} {hp : List (Nat × Chunk R)} : hget m (hset n c hp) = if m = n then (hget n hp).map (fun _ => c) else hget m hp := by
  induction hp with
  | nil => simp [hset, hget]
  | cons p hp ih =>
    obtain ⟨k, d⟩ := p
    simp only [hset]
    cases h : Nat.beq n k with
    | true =>
      obtain rfl := Nat.eq_of_beq_eq_true h
      simp only [hget, h]
      by_cases hm : m = n
      · subst hm; simp
      · have : Nat.beq m n = false := beq_no hm
        simp [this, hm]
    | false =>
      simp only [hget, h]
      by_cases hm : m = n
      · subst hm; simp [h, ih]
      · cases hk : Nat.beq m k with
        | true => simp [hm]
        | false => simp [ih, hm]
theorem hget_del {n m : Nat} {hp : List (Nat × Chunk R)} : hget m (hdel n hp) = if m = n then none else hget m hp := by
  induction hp with
  | nil => simp [hdel, hget]
  | cons p hp ih =>
    obtain ⟨k, d⟩ := p
    simp only [hdel]
    cases h : Nat.beq n k with
    | true =>
      obtain rfl := Nat.eq_of_beq_eq_true h
      simp only [hget, ih]
      by_cases hm : m = n
      · simp [hm]
      · have : Nat.beq m n = false := beq_no hm
        simp [this, hm]
    | false =>
      simp only [hget, ih]
      by_cases hm : m = n
      · subst hm; simp [h]
      · cases hk : Nat.beq m k <;> simp [hm]
theorem hget_cons {n m : Nat} {c : Chunk R} {hp : List (Nat × Chunk R)} : hget m ((n, c) :: hp) = if m = n then some c else hget m hp := by
  simp only [hget]
  by_cases hm : m = n
  · subst hm; simp
  · have : Nat.beq m n = false := beq_no hm
    simp [this, hm]

def newN (st st' : St R) (n : Nat) : Prop := st.nx ≤ n ∧ n < st'.nx
structure Wf (st : St R) : Prop where
  wr : ∀ n ∈ st.wr, n ∈ st.fr ∧ n < st.nx
  top : ∀ n, st.nx ≤ n → hget n st.hp = none
theorem Wf.lt {st : St R} (h : Wf st) {n : Nat} {c : Chunk R} (hc : hget n st.hp = some c) : n < st.nx := by
  rcases Nat.lt_or_ge n st.nx with h1 | h1
  · exact h1
  · rw [h.top n h1] at hc; cases hc

/-- What the executor's own state keeps. -/
structure Fn (st st' : St R) : Prop where
  nx : st.nx ≤ st'.nx
  fr : ∀ n ∈ st.fr, n ∈ st'.fr
  wr : ∀ n ∈ st.wr, n ∈ st'.wr
  ask : ∀ p ∈ st.ask, p ∈ st'.ask
  hp : ∀ n, n ∉ st'.wr → n < st.nx → hget n st'.hp = hget n st.hp
  wf : Wf st → Wf st'
  al : ∀ n ∈ st'.wr, n ∈ st.wr ∨ st.nx ≤ n ∨ ∃ c, hget n st.hp = some c

theorem Fn.refl (st : St R) : Fn st st := ⟨Nat.le_refl _, fun _ h => h, fun _ h => h, fun _ h => h, fun _ _ _ => rfl, fun h => h, fun _ h => .inl h⟩
theorem Fn.trans {a b c : St R} (h : Fn a b) (k : Fn b c) : Fn a c where
  nx := Nat.le_trans h.nx k.nx
  fr n hn := k.fr n (h.fr n hn)
  wr n hn := k.wr n (h.wr n hn)
  ask p hp := k.ask p (h.ask p hp)
  hp n hn hl := (k.hp n hn (Nat.lt_of_lt_of_le hl h.nx)).trans (h.hp n (fun hw => hn (k.wr n hw)) hl)
  wf ht := k.wf (h.wf ht)
  al n hn := by
    rcases k.al n hn with h1 | h1 | ⟨d, h1⟩
    · exact h.al n h1
    · exact .inr (.inl (Nat.le_trans h.nx h1))
    · by_cases hb : n ∈ b.wr
      · exact h.al n hb
      · rcases Nat.lt_or_ge n a.nx with hl | hl
        · exact .inr (.inr ⟨d, (h.hp n hb hl).symm.trans h1⟩)
        · exact .inr (.inl hl)

/-- Only notes have been taken. -/
structure Quiet (st st' : St R) : Prop where
  hp : st'.hp = st.hp
  nx : st'.nx = st.nx
  wr : st'.wr = st.wr
  fr : ∀ n ∈ st.fr, n ∈ st'.fr
  ask : ∀ p ∈ st.ask, p ∈ st'.ask
theorem Quiet.refl (st : St R) : Quiet st st := ⟨rfl, rfl, rfl, fun _ h => h, fun _ h => h⟩
theorem Quiet.trans {a b c : St R} (h : Quiet a b) (k : Quiet b c) : Quiet a c := ⟨k.hp.trans h.hp, k.nx.trans h.nx, k.wr.trans h.wr, fun n hn => k.fr n (h.fr n hn), fun p hp => k.ask p (h.ask p hp)⟩
theorem Quiet.fn {st st' : St R} (h : Quiet st st') : Fn st st' where
  nx := by rw [h.nx]; exact Nat.le_refl _
  fr := h.fr
  wr n hn := by rw [h.wr]; exact hn
  ask := h.ask
  hp n _ _ := by rw [h.hp]
  wf hw := ⟨fun n hn => by rw [h.wr] at hn; rw [h.nx]; exact ⟨h.fr n (hw.wr n hn).1, (hw.wr n hn).2⟩, fun n hn => by rw [h.hp]; exact hw.top n (h.nx ▸ hn)⟩
  al n hn := .inl (h.wr ▸ hn)
theorem Quiet.get {n : Nat} {st : St R} : Quiet st { st with fr := insN n st.fr } := ⟨rfl, rfl, rfl, fun _ h => mem_ins.2 (.inr h), fun _ h => h⟩
theorem ask_ok {b r : Bool} {st st' : St R} (h : (askB b) st = .ok r st') : Quiet st st' ∧ ((∀ p ∈ st'.ask, p.1 = p.2) → b = r) := by
  obtain ⟨hp, nx, fr, wr, ak, oc⟩ := st
  simp only [askB] at h
  split at h <;> simp only [Res.ok.injEq] at h <;> obtain ⟨rfl, rfl⟩ := h
  · exact ⟨⟨rfl, rfl, rfl, fun _ h => h, fun _ h => List.mem_cons_of_mem _ h⟩, fun h => h _ (List.mem_cons_self ..)⟩
  · exact ⟨⟨rfl, rfl, rfl, fun _ h => h, fun _ h => h⟩, fun _ => rfl⟩
  · exact ⟨⟨rfl, rfl, rfl, fun _ h => h, fun _ h => h⟩, fun _ => rfl⟩
theorem need_ok {e : Nat} {b : Bool} {u : Unit} {st st' : St R} (h : (need e b) st = .ok u st') : Quiet st st' ∧ ((∀ p ∈ st'.ask, p.1 = p.2) → b = true) := by
  obtain ⟨r, st1, h1, h2⟩ := bind_ok.1 h
  obtain ⟨hq, hb⟩ := ask_ok h1
  cases r with
  | false => simp [M.fail] at h2
  | true =>
    simp only [M.ret, Res.ok.injEq] at h2
    obtain ⟨_, rfl⟩ := h2
    exact ⟨hq, hb⟩
end

section
variable {R : Type} (A : RepAt R) (P : Program)
/-- The machine has gone along. -/
structure Tr (B : Nat) (F : Nat → Prop) (st st' : St R) (ρ : Names) (own : Nat → List Nat) (w : World) (ρ' : Names) (own' : Nat → List Nat) (w' : World) : Prop where
  le : ρ.le ρ'
  out : ∀ n, ¬ newN st st' n → ρ' n = ρ n
  same : ∀ n, ¬ newN st st' n → n ∉ st'.wr → own' n = own n
  pool : ∀ n, newN st st' n ∨ n ∈ st'.wr → ∀ b ∈ own' n, w.heap.size ≤ b ∨ ∃ m, m ∈ st'.wr ∧ ¬ newN st st' m ∧ b ∈ own m
  li : LI A P B ρ' own' st'.hp (fun n => F n ∨ newN st st' n) w'
  mod : ModP (fun b => ∃ m, m ∈ st'.wr ∧ ¬ newN st st' m ∧ b ∈ own m) w w'

/-- How things stand ahead of a step that ends in st'. -/
structure Sit (B : Nat) (F : Nat → Prop) (st st' : St R) (ρ : Names) (own : Nat → List Nat) (w : World) : Prop where
  log : ∀ n ∈ st'.fr, F n
  wf : Wf st
  fresh : ∀ n, newN st st' n → ρ n = none
  li : LI A P B ρ own st.hp F w
  ask : ∀ p ∈ st'.ask, p.1 = p.2
  base : B ≤ w.heap.size

variable {A P} {B : Nat} {F : Nat → Prop} {st st1 st' : St R} {ρ ρ1 ρ' : Names} {own own1 own' : Nat → List Nat} {w w1 w' : World}
theorem newN_self {n : Nat} (h : st'.nx = st.nx) : ¬ newN st st' n := fun ⟨h1, h2⟩ => by omega
theorem Tr.quiet (h : Quiet st st') (hli : LI A P B ρ own st.hp F w) : Tr A P B F st st' ρ own w ρ own w where
  le := Names.le.refl _
  out _ _ := rfl
  same _ _ _ := rfl
  pool n hn b hb := by
    have := newN_self (n := n) h.nx
    exact .inr ⟨n, hn.resolve_left this, this, hb⟩
  li := by rw [h.hp]; exact hli.sub fun n hn => hn.resolve_right (newN_self h.nx)
  mod := ModP.refl _ _
theorem Sit.quiet (s : Sit A P B F st st' ρ own w) (h : Quiet st st') : Tr A P B F st st' ρ own w ρ own w := Tr.quiet h s.li

theorem new_of (f1 : Fn st st1) (f2 : Fn st1 st') {n : Nat} : newN st st' n ↔ newN st st1 n ∨ newN st1 st' n := by
  have := f1.nx
  have := f2.nx
  unfold newN
  omega
theorem Tr.trans (h : Tr A P B F st st1 ρ own w ρ1 own1 w1) (k : Tr A P B (fun n => F n ∨ newN st st1 n) st1 st' ρ1 own1 w1 ρ' own' w') (f1 : Fn st st1) (f2 : Fn st1 st') (hw : Wf st1) : Tr A P B F st st' ρ own w ρ' own' w' := by
  have back : ∀ {n b}, ¬ newN st1 st' n → n ∈ st'.wr → b ∈ own1 n → w.heap.size ≤ b ∨ ∃ m, m ∈ st'.wr ∧ ¬ newN st st' m ∧ b ∈ own m := by
    intro n b hn hnw hb
    by_cases h1 : newN st st1 n ∨ n ∈ st1.wr
    · rcases h.pool n h1 b hb with h2 | ⟨m, h2, h3, h4⟩
      · exact .inl h2
      · refine .inr ⟨m, f2.wr m h2, fun hx => ?_, h4⟩
        rcases (new_of f1 f2).1 hx with h5 | h5
        · exact h3 h5
        · have := (hw.wr m h2).2
          have := h5.1
          omega
    · rw [not_or] at h1
      rw [h.same n h1.1 h1.2] at hb
      exact .inr ⟨n, hnw, fun hx => ((new_of f1 f2).1 hx).elim h1.1 hn, hb⟩
  refine ⟨h.le.trans k.le, fun n hn => ?_, fun n hn hnw => ?_, fun n hn b hb => ?_, k.li.sub fun n hn => ?_, ?_⟩
  · rw [new_of f1 f2, not_or] at hn
    rw [k.out n hn.2, h.out n hn.1]
  · rw [new_of f1 f2, not_or] at hn
    rw [k.same n hn.2 hnw, h.same n hn.1 (fun hx => hnw (f2.wr n hx))]
  · by_cases h2 : newN st1 st' n ∨ n ∈ st'.wr
    · rcases k.pool n h2 b hb with h3 | ⟨m, h3, h4, h5⟩
      · exact .inl (Nat.le_trans h.mod.size h3)
      · exact back h4 h3 h5
    · rw [not_or] at h2
      have h3 : newN st st1 n := by
        rcases hn with hn | hn
        · exact ((new_of f1 f2).1 hn).resolve_right h2.1
        · exact absurd hn h2.2
      rw [k.same n h2.1 h2.2] at hb
      rcases h.pool n (.inl h3) b hb with h4 | ⟨m, h4, h5, h6⟩
      · exact .inl h4
      · refine .inr ⟨m, f2.wr m h4, fun hx => ?_, h6⟩
        rcases (new_of f1 f2).1 hx with h7 | h7
        · exact h5 h7
        · have := (hw.wr m h4).2
          have := h7.1
          omega
  · rw [or_assoc, ← new_of f1 f2]
    exact hn
  · have m1 : ModP (fun b => ∃ m, m ∈ st'.wr ∧ ¬ newN st st' m ∧ b ∈ own m) w w1 := h.mod.mono (fun b _ ⟨m, h1, h2, h3⟩ => by
      refine ⟨m, f2.wr m h1, fun hx => ?_, h3⟩
      rcases (new_of f1 f2).1 hx with h7 | h7
      · exact h2 h7
      · have := (hw.wr m h1).2
        have := h7.1
        omega)
    exact m1.trans k.mod (fun b hb ⟨m, h1, h2, h3⟩ => (back h2 h1 h3).resolve_left (by omega))

/-- The next step's situation. -/
theorem Sit.next (s : Sit A P B F st st' ρ own w) (f1 : Fn st st1) (f2 : Fn st1 st') (t : Tr A P B F st st1 ρ own w ρ1 own1 w1) : Sit A P B (fun n => F n ∨ newN st st1 n) st1 st' ρ1 own1 w1 where
  log n hn := .inl (s.log n hn)
  wf := f1.wf s.wf
  fresh n hn := by
    rw [t.out n (fun hx => by have := hx.2; have := hn.1; omega)]
    exact s.fresh n ((new_of f1 f2).2 (.inr hn))
  li := t.li
  ask := s.ask
  base := Nat.le_trans s.base t.mod.size
/-- The first step's. -/
theorem Sit.head (s : Sit A P B F st st' ρ own w) (f1 : Fn st st1) (f2 : Fn st1 st') : Sit A P B F st st1 ρ own w where
  log n hn := s.log n (f2.fr n hn)
  wf := s.wf
  fresh n hn := s.fresh n ((new_of f1 f2).2 (.inl hn))
  li := s.li
  ask p hp := s.ask p (f2.ask p hp)
  base := s.base
end
end Go.Proofs.Ytdjogfofedbohaa
end
section
/- The executor's three ways to turn memory: a new piece, another content, a piece that goes on under a new name. No condition. -/
namespace Go.Proofs.Ytdjogfofedbohaa

section
variable {R : Type} {A : RepAt R} {P : Program} {B : Nat} {F : Nat → Prop} {st st' : St R} {ρ : Names} {own : Nat → List Nat} {w w' : World}

def Names.put (ρ : Names) (n : Nat) (e : Spot) : Names := fun m => if m = n then some e else ρ m
theorem Names.put_le {n : Nat} {e : Spot} (h : ρ n = none) : ρ.le (ρ.put n e) := fun m d hm => by
  unfold Names.put
  by_cases hn : m = n
  · subst hn; rw [h] at hm; cases hm
  · simp [hn, hm]
theorem Names.put_same {n : Nat} {e : Spot} : (ρ.put n e) n = some e := by simp [Names.put]
theorem Names.put_other {n m : Nat} {e : Spot} (h : m ≠ n) : (ρ.put n e) m = ρ m := by simp [Names.put, h]
def ownPut (own : Nat → List Nat) (n : Nat) (l : List Nat) : Nat → List Nat := fun m => if m = n then l else own m
theorem ownPut_same {n : Nat} {l : List Nat} : ownPut own n l n = l := by simp [ownPut]
theorem ownPut_other {n m : Nat} {l : List Nat} (h : m ≠ n) : ownPut own n l m = own m := by simp [ownPut, h]

def St.new (st : St R) (c : Chunk R) : St R := { st with hp := (st.nx, c) :: st.hp, nx := st.nx + 1 }
def St.set (st : St R) (n : Nat) (c : Chunk R) : St R := { st with hp := hset n c st.hp, fr := insN n st.fr, wr := insN n st.wr }
def St.move (st : St R) (n : Nat) (c : Chunk R) : St R := { st with hp := (st.nx, c) :: hdel n st.hp, nx := st.nx + 1, fr := insN n st.fr, wr := insN n st.wr }

theorem Fn.new (st : St R) (c : Chunk R) : Fn st (st.new c) where
  nx := Nat.le_succ _
  fr _ h := h
  wr _ h := h
  ask _ h := h
  hp n _ hl := by simp only [St.new]; rw [hget_cons, if_neg (by omega)]
  wf hw := ⟨fun n hn => ⟨(hw.wr n hn).1, Nat.lt_succ_of_lt (hw.wr n hn).2⟩, fun n hn => by
    simp only [St.new] at hn ⊢
    rw [hget_cons, if_neg (by omega)]
    exact hw.top n (by omega)⟩
  al _ h := .inl h
theorem Fn.set (st : St R) (n : Nat) (c d : Chunk R) (hd : hget n st.hp = some d) : Fn st (st.set n c) where
  nx := Nat.le_refl _
  fr _ h := mem_ins.2 (.inr h)
  wr _ h := mem_ins.2 (.inr h)
  ask _ h := h
  hp m hm _ := by
    simp only [St.set] at hm ⊢
    rw [mem_ins, not_or] at hm
    rw [hget_set, if_neg hm.1]
  wf hw := ⟨fun m hm => by
    simp only [St.set] at hm ⊢
    rcases mem_ins.1 hm with rfl | hm
    · exact ⟨mem_ins.2 (.inl rfl), hw.lt hd⟩
    · exact ⟨mem_ins.2 (.inr (hw.wr m hm).1), (hw.wr m hm).2⟩, fun m hm => by
    simp only [St.set] at hm ⊢
    rw [hget_set, hw.top m hm]
    split
    · next e => subst e; rw [hw.top m hm]; rfl
    · rfl⟩
  al m hm := by
    simp only [St.set] at hm
    rcases mem_ins.1 hm with rfl | hm
    · exact .inr (.inr ⟨d, hd⟩)
    · exact .inl hm
theorem Fn.move (st : St R) (n : Nat) (c d : Chunk R) (hd : hget n st.hp = some d) : Fn st (st.move n c) where
  nx := Nat.le_succ _
  fr _ h := mem_ins.2 (.inr h)
  wr _ h := mem_ins.2 (.inr h)
  ask _ h := h
  hp m hm hl := by
    simp only [St.move] at hm ⊢
    rw [mem_ins, not_or] at hm
    rw [hget_cons, if_neg (by omega), hget_del, if_neg hm.1]
  wf hw := ⟨fun m hm => by
    simp only [St.move] at hm ⊢
    rcases mem_ins.1 hm with rfl | hm
    · exact ⟨mem_ins.2 (.inl rfl), Nat.lt_succ_of_lt (hw.lt hd)⟩
    · exact ⟨mem_ins.2 (.inr (hw.wr m hm).1), Nat.lt_succ_of_lt (hw.wr m hm).2⟩, fun m hm => by
    simp only [St.move] at hm ⊢
    rw [hget_cons, if_neg (by omega), hget_del, hw.top m (by omega)]
    split <;> rfl⟩
  al m hm := by
    simp only [St.move] at hm
    rcases mem_ins.1 hm with rfl | hm
    · exact .inr (.inr ⟨d, hd⟩)
    · exact .inl hm

theorem newN_new {c : Chunk R} {n : Nat} : newN st (st.new c) n ↔ n = st.nx := by unfold newN St.new; simp only; omega
theorem newN_set {c : Chunk R} {k n : Nat} : ¬ newN st (st.set k c) n := by unfold newN St.set; simp only; omega
theorem newN_move {c : Chunk R} {k n : Nat} : newN st (st.move k c) n ↔ n = st.nx := by unfold newN St.move; simp only; omega

/-- A new piece. -/
theorem Tr.new {c : Chunk R} (s : Sit A P B F st (st.new c) ρ own w) (e : Spot) (own0 : List Nat) (hm : ModP (fun _ => False) w w') (hc : CAt A P (ρ.put st.nx e) B e own0 c w') (ho : ∀ b ∈ own0, w.heap.size ≤ b ∧ b < w'.heap.size) :
    Tr A P B F st (st.new c) ρ own w (ρ.put st.nx e) (ownPut own st.nx own0) w' := by
  have hle : ρ.le (ρ.put st.nx e) := Names.put_le (s.fresh st.nx (newN_new.2 rfl))
  refine ⟨hle, fun n hn => Names.put_other (fun h => hn (newN_new.2 h)), fun n hn _ => ownPut_other (fun h => hn (newN_new.2 h)), fun n hn b hb => ?_, ?_, hm.mono (fun _ _ h => h.elim)⟩
  · rw [newN_new] at hn
    by_cases h : n = st.nx
    · subst h
      rw [ownPut_same] at hb
      exact .inl (ho b hb).1
    · rw [ownPut_other h] at hb
      exact .inr ⟨n, hn.resolve_left h, fun hx => h (newN_new.1 hx), hb⟩
  · refine s.li.step (X := fun n => n = st.nx) hm hle (fun b hb => hb.elim) (fun n d hn hX hd => ?_) (fun n d _ hX hd => ?_) (fun n d _ hX _ b hb => ?_) (fun n m _ _ _ _ h1 h2 hne => absurd (h1.trans h2.symm) hne)
    · rw [newN_new] at hn
      simp only [St.new] at hd
      rw [hget_cons, if_neg hX] at hd
      exact ⟨hn.resolve_right hX, hd, ownPut_other hX⟩
    · subst hX
      simp only [St.new] at hd
      rw [hget_cons, if_pos rfl] at hd
      injection hd with hd
      subst hd
      exact ⟨e, Names.put_same, by rw [ownPut_same]; exact hc⟩
    · subst hX
      rw [ownPut_same] at hb
      exact ⟨(ho b hb).2, Nat.le_trans s.base (ho b hb).1, .inl (ho b hb).1⟩

/-- Another content. -/
theorem Tr.set {n : Nat} {c d : Chunk R} {e : Spot} (s : Sit A P B F st (st.set n c) ρ own w) (hd : hget n st.hp = some d) (he : ρ n = some e) (own0 : List Nat) (hm : ModP (fun b => b ∈ own n) w w')
    (hc : CAt A P ρ B e own0 c w') (ho : ∀ b ∈ own0, b ∈ own n ∨ (w.heap.size ≤ b ∧ b < w'.heap.size)) : Tr A P B F st (st.set n c) ρ own w ρ (ownPut own n own0) w' := by
  have hF : F n := s.log n (mem_ins.2 (.inl rfl))
  have hwr : n ∈ (st.set n c).wr := mem_ins.2 (.inl rfl)
  have hlow := fun b hb => s.li.low n d hF hd b hb
  refine ⟨Names.le.refl _, fun _ _ => rfl, fun m _ hm => ownPut_other (fun h => hm (h ▸ hwr)), fun m hmm b hb => ?_, ?_, hm.mono (fun b _ h => ⟨n, hwr, newN_set, h⟩)⟩
  · by_cases h : m = n
    · subst h
      rw [ownPut_same] at hb
      rcases ho b hb with h1 | h1
      · exact .inr ⟨m, hwr, newN_set, h1⟩
      · exact .inl h1.1
    · rw [ownPut_other h] at hb
      exact .inr ⟨m, hmm.resolve_left newN_set, newN_set, hb⟩
  · refine s.li.step (X := fun m => m = n) hm (Names.le.refl _) (fun b hb => ⟨n, d, rfl, hF, hd, hb⟩) (fun m x hx hX hx' => ?_) (fun m x _ hX hx => ?_) (fun m x _ hX _ b hb => ?_) (fun m k _ _ _ _ h1 h2 hne => absurd (h1.trans h2.symm) hne)
    · simp only [St.set] at hx'
      rw [hget_set, if_neg hX] at hx'
      exact ⟨hx.resolve_right newN_set, hx', ownPut_other hX⟩
    · subst hX
      simp only [St.set] at hx
      rw [hget_set, if_pos rfl, hd] at hx
      injection hx with hx
      subst hx
      exact ⟨e, he, by rw [ownPut_same]; exact hc⟩
    · subst hX
      rw [ownPut_same] at hb
      rcases ho b hb with h1 | h1
      · exact ⟨Nat.lt_of_lt_of_le (hlow b h1).2 hm.size, (hlow b h1).1, .inr ⟨m, d, rfl, hF, hd, h1⟩⟩
      · exact ⟨h1.2, Nat.le_trans s.base h1.1, .inl h1.1⟩

/-- A piece goes on under a new name. -/
theorem Tr.move {n : Nat} {c d : Chunk R} (s : Sit A P B F st (st.move n c) ρ own w) (hd : hget n st.hp = some d) (e : Spot) (own0 : List Nat) (hm : ModP (fun b => b ∈ own n) w w')
    (hc : CAt A P (ρ.put st.nx e) B e own0 c w') (ho : ∀ b ∈ own0, b ∈ own n ∨ (w.heap.size ≤ b ∧ b < w'.heap.size)) : Tr A P B F st (st.move n c) ρ own w (ρ.put st.nx e) (ownPut own st.nx own0) w' := by
  have hF : F n := s.log n (mem_ins.2 (.inl rfl))
  have hwr : n ∈ (st.move n c).wr := mem_ins.2 (.inl rfl)
  have hlt := s.wf.lt hd
  have hnn : ¬ newN st (st.move n c) n := fun h => by rw [newN_move] at h; omega
  have hlow := fun b hb => s.li.low n d hF hd b hb
  have hle : ρ.le (ρ.put st.nx e) := Names.put_le (s.fresh st.nx (newN_move.2 rfl))
  refine ⟨hle, fun n hn => Names.put_other (fun h => hn (newN_move.2 h)), fun n hn _ => ownPut_other (fun h => hn (newN_move.2 h)), fun m hmm b hb => ?_, ?_, hm.mono (fun b _ h => ⟨n, hwr, hnn, h⟩)⟩
  · rw [newN_move] at hmm
    by_cases h : m = st.nx
    · subst h
      rw [ownPut_same] at hb
      rcases ho b hb with h1 | h1
      · exact .inr ⟨n, hwr, hnn, h1⟩
      · exact .inl h1.1
    · rw [ownPut_other h] at hb
      exact .inr ⟨m, hmm.resolve_left h, fun hx => h (newN_move.1 hx), hb⟩
  · refine s.li.step (X := fun m => m = n ∨ m = st.nx) hm hle (fun b hb => ⟨n, d, .inl rfl, hF, hd, hb⟩) (fun m x hx hX hx' => ?_) (fun m x _ hX hx => ?_) (fun m x _ hX hx b hb => ?_) (fun m k x y _ _ h1 h2 hne hx hy => ?_)
    · rw [not_or] at hX
      simp only [St.move] at hx'
      rw [hget_cons, if_neg hX.2, hget_del, if_neg hX.1] at hx'
      exact ⟨hx.resolve_right (fun h => hX.2 (newN_move.1 h)), hx', ownPut_other hX.2⟩
    · simp only [St.move] at hx
      rw [hget_cons] at hx
      by_cases h : m = st.nx
      · subst h
        rw [if_pos rfl] at hx
        injection hx with hx
        subst hx
        exact ⟨e, Names.put_same, by rw [ownPut_same]; exact hc⟩
      · rw [if_neg h, hget_del, if_pos (hX.resolve_right h)] at hx
        cases hx
    · simp only [St.move] at hx
      rw [hget_cons] at hx
      by_cases h : m = st.nx
      · subst h
        rw [ownPut_same] at hb
        rcases ho b hb with h1 | h1
        · exact ⟨Nat.lt_of_lt_of_le (hlow b h1).2 hm.size, (hlow b h1).1, .inr ⟨n, d, .inl rfl, hF, hd, h1⟩⟩
        · exact ⟨h1.2, Nat.le_trans s.base h1.1, .inl h1.1⟩
      · rw [if_neg h, hget_del, if_pos (hX.resolve_right h)] at hx
        cases hx
    · simp only [St.move] at hx hy
      rw [hget_cons] at hx hy
      have g1 : m = st.nx := by
        by_cases h : m = st.nx
        · exact h
        · rw [if_neg h, hget_del, if_pos (h1.resolve_right h)] at hx; cases hx
      have g2 : k = st.nx := by
        by_cases h : k = st.nx
        · exact h
        · rw [if_neg h, hget_del, if_pos (h2.resolve_right h)] at hy; cases hy
      exact absurd (g1.trans g2.symm) hne
end
end Go.Proofs.Ytdjogfofedbohaa
end
section
/- What the executor says of operations that neither read nor write, the machine does. No condition. -/
namespace Go.Proofs.Ytdjogfofedbohaa

def Ev (ρ : Names) (ev : Operand → Option SV) (a : Act) : Prop := ∀ x s, ev x = some s → den ρ s = some (a.eval x)

section
variable {P : Program}
theorem pureRun_run {α : Type} : ∀ {m : Sem α} {x : α}, pureRun P m = some x → ∀ w, m.run P w = .ok x w
  | .pure a, x, h, w => by
    simp only [pureRun, Option.some.injEq] at h
    rw [h]
    rfl
  | .program k, x, h, w => by
    simp only [pureRun] at h
    exact pureRun_run h w
  | .load _ _ _, _, h, _ | .store _ _ _ _, _, h, _ | .new _ _, _, h, _ | .shape _ _, _, h, _ | .freeze _ _ _, _, h, _ | .frozen _ _, _, h, _ | .getObj _ _, _, h, _
  | .setObj _ _ _, _, h, _ | .choose _ _, _, h, _ | .sys _ _, _, h, _ | .mark _ _, _, h, _ | .halt _, _, h, _ => by simp [pureRun] at h
theorem szT_size {t : TypeId} {k : Nat} (h : szT P t = some k) : ∃ i, P.info? t = some i ∧ i.size = k := by
  unfold szT at h
  cases hi : P.info? t with
  | none => rw [hi] at h; cases h
  | some i => rw [hi] at h; exact ⟨i, rfl, by simpa using h⟩
theorem szT_run {t : TypeId} {k : Nat} (h : szT P t = some k) (w : World) : (sizeOf t).run P w = .ok k w := by
  obtain ⟨i, hi, rfl⟩ := szT_size h
  simp [sizeOf, run_typeInfo w hi]
theorem szT_cells {t : TypeId} {k : Nat} (h : szT P t = some k) : P.cellsOf t = k := by
  obtain ⟨i, hi, rfl⟩ := szT_size h
  simp [Program.cellsOf, hi]
theorem aggT_run {t : TypeId} {b : Bool} (h : aggT P t = some b) (w : World) : (isAgg t).run P w = .ok b w := by
  unfold aggT at h
  cases hu : P.underlying t with
  | none => rw [hu] at h; cases h
  | some d =>
    rw [hu] at h
    unfold isAgg
    rw [Sem.run_bind, run_underlying hu w]
    cases d <;> simp_all
theorem cut_ok {l r : List SV} {off k : Nat} (h : cut l off k = some r) : r = (l.drop off).take k ∧ r.length = k := by
  unfold cut at h
  split at h
  · next hb =>
    injection h with h
    have hb' := Nat.eq_of_beq_eq_true hb
    subst h
    exact ⟨rfl, hb'⟩
  · cases h
theorem part_run {ρ : Names} {t : TypeId} {l : List SV} {off : Nat} {s : SV} {vs : List Value} (h : partX P t l off = some s) (hl : denL ρ l = some vs) :
    ∃ x, den ρ s = some x ∧ ∀ w, (part t vs.toArray off).run P w = .ok x w := by
  unfold partX at h
  cases ha : aggT P t with
  | none => rw [ha] at h; cases h
  | some b =>
    rw [ha] at h
    cases b with
    | true =>
      simp only [Option.bind_eq_some_iff, Option.map_eq_some_iff] at h
      obtain ⟨k, hk, r, hr, rfl⟩ := h
      obtain ⟨rfl, hr⟩ := cut_ok hr
      refine ⟨_, den_agg.2 ⟨_, denL_take (denL_drop hl off) k, rfl⟩, fun w => ?_⟩
      simp only [part, Sem.run_bind, aggT_run ha w, Result.andThen_ok, if_true, szT_run hk w, Sem.run_pure]
      congr 2
      apply Array.ext'
      simp
    | false =>
      simp only at h
      obtain ⟨x, hx, hg⟩ := denL_get hl h
      refine ⟨x, hx, fun w => ?_⟩
      simp only [part, Sem.run_bind, aggT_run ha w, Result.andThen_ok, Bool.false_eq_true, if_false]
      rw [List.getElem?_toArray, hg]
      rfl
theorem fieldOf_ok {t : TypeId} {f : Nat} {fd : Field} (h : fieldOf P t f = some fd) : ∃ fs, P.underlying t = some (.struct fs) ∧ fs[f]? = some fd := by
  unfold fieldOf at h
  split at h
  · next fs hu => exact ⟨fs, hu, h⟩
  · cases h
theorem aggV {ρ : Names} {y : SV} {v : Value} (h : isAggV y = true) (hy : den ρ y = some v) : v = .agg v.cells := by
  cases y with
  | agg l =>
    obtain ⟨vs, _, rfl⟩ := den_agg.1 hy
    rfl
  | v x =>
    simp only [den, Option.some.injEq] at hy
    subst hy
    cases x <;> first | rfl | cases h
  | _ => cases h
theorem fieldX_run {ρ : Names} {t : TypeId} {f : Nat} {y s : SV} {v : Value} (h : fieldX P t f y = some s) (hy : den ρ y = some v) : ∃ x, den ρ s = some x ∧ ∀ w, (Instr.field t v f).run P w = .ok x w := by
  unfold fieldX at h
  cases hf : fieldOf P t f with
  | none => rw [hf] at h; cases h
  | some fd =>
    rw [hf] at h
    obtain ⟨fs, hu, hfs⟩ := fieldOf_ok hf
    simp only at h
    split at h
    · next ha =>
      obtain ⟨x, h1, h2⟩ := part_run h (den_cells hy)
      refine ⟨x, h1, fun w => ?_⟩
      rw [aggV ha hy]
      simp only [Instr.field, Sem.run_bind, run_underlying hu w, Result.andThen_ok, hfs, asAgg, Sem.run_pure]
      simpa using h2 w
    · cases h
theorem add_at (b o k : Nat) : (⟨b, o, none⟩ : Addr).add k = ⟨b, o + k, none⟩ := Addr.add_mid b o k
theorem fieldAddrX_run {ρ : Names} {t : TypeId} {f : Nat} {y s : SV} {v : Value} (h : fieldAddrX P t f y = some s) (hy : den ρ y = some v) : ∃ x, den ρ s = some x ∧ ∀ w, (Instr.fieldAt t v f).run P w = .ok x w := by
  unfold fieldAddrX at h
  cases hf : fieldOf P t f with
  | none => rw [hf] at h; cases h
  | some fd =>
    rw [hf] at h
    obtain ⟨fs, hu, hfs⟩ := fieldOf_ok hf
    simp only at h
    split at h
    · next k hk =>
      have key : ∀ b o, v = .pointer (some ⟨b, o, none⟩) → ∀ w, (Instr.fieldAt t v f).run P w = .ok (.pointer (some ⟨b, o + fd.offset, none⟩)) w := by
        rintro b o rfl w
        simp only [Instr.fieldAt, Sem.run_bind, run_underlying hu w, Result.andThen_ok, hfs, Instr.sureAddr, Sem.run_pure, fieldPlace, szT_run hk w, Nat.succ_ne_zero, if_false, add_at]
      split at h <;> try cases h
      · simp only [den, Option.map_eq_some_iff] at hy ⊢
        obtain ⟨e, he, rfl⟩ := hy
        exact ⟨_, ⟨e, he, rfl⟩, fun w => by rw [key _ _ rfl w, Nat.add_assoc]⟩
      · simp only [den] at hy ⊢
        split at hy <;> try cases hy
        next e he =>
        split at hy <;> cases hy
        next hlt =>
        exact ⟨_, by simp [hlt]; rfl, fun w => by rw [key _ _ rfl w, Nat.add_assoc]⟩
    · cases h

inductive Two {α β : Type} (R : α → β → Prop) : List α → List β → Prop where
  | nil : Two R [] []
  | cons {a : α} {b : β} {l : List α} {m : List β} (h : R a b) (t : Two R l m) : Two R (a :: l) (b :: m)
theorem mapM_two {α β γ : Type} {f : α → Option β} {g : α → γ} {R : β → γ → Prop} (hR : ∀ a b, f a = some b → R b (g a)) : ∀ {l : List α} {r : List β}, l.mapM f = some r → Two R r (l.map g)
  | [], r, h => by
    simp only [List.mapM_nil, Option.pure_def, Option.some.injEq] at h
    subst h
    exact .nil
  | a :: l, r, h => by
    simp only [List.mapM_cons, Option.bind_eq_bind, Option.bind_eq_some_iff, Option.pure_def, Option.some.injEq] at h
    obtain ⟨b, hb, r', hr, rfl⟩ := h
    exact .cons (hR a b hb) (mapM_two hR hr)
theorem denL_two {ρ : Names} : ∀ {l : List SV} {vs : List Value}, Two (fun s x => den ρ s = some x) l vs → denL ρ l = some vs
  | _, _, .nil => rfl
  | _, _, .cons h t => denL_cons.2 ⟨_, _, h, denL_two t, rfl⟩
theorem ev_list {ρ : Names} {ev : Operand → Option SV} {a : Act} (hev : Ev ρ ev a) {l : List Operand} {r : List SV} (h : l.mapM ev = some r) : denL ρ r = some (l.map a.eval) :=
  denL_two (mapM_two (R := fun s x => den ρ s = some x) (fun x s hs => hev x s hs) h)
theorem fill_run {ρ : Names} {place : Nat → Option (Nat × Nat)} : ∀ {parts : List (Nat × SV)} {vparts : List (Nat × Value)} {cells r : List SV} {vs : List Value}, fillX place cells parts = some r → denL ρ cells = some vs →
    Two (fun p q => p.1 = q.1 ∧ den ρ p.2 = some q.2) parts vparts → ∃ rs, denL ρ r = some rs ∧ Instr.fill place vs.toArray vparts = some rs.toArray
  | [], vparts, cells, r, vs, h, hc, hp => by
    cases hp
    simp only [fillX, Option.some.injEq] at h
    subst h
    exact ⟨vs, hc, rfl⟩
  | (i, s) :: parts, vparts, cells, r, vs, h, hc, hp => by
    cases hp with
    | cons h1 h2 =>
      rename_i q qs
      obtain ⟨j, x⟩ := q
      obtain ⟨rfl, hx⟩ := h1
      simp only [fillX] at h
      cases hpl : place i with
      | none => rw [hpl] at h; cases h
      | some os =>
        obtain ⟨off, size⟩ := os
        rw [hpl] at h
        simp only at h
        split at h
        · next hb =>
          simp only [Bool.and_eq_true] at hb
          have hsz := Nat.eq_of_beq_eq_true hb.1
          have hle := Nat.le_of_ble_eq_true hb.2
          have hcx := den_cells hx
          have hl := denL_length hcx
          have hlv := denL_length hc
          simp only [Array.length_toList] at hl
          have e : denL ρ (splice cells off s.cells) = some (vs.take off ++ (x.cells.toList ++ vs.drop (off + x.cells.size))) := by
            unfold splice
            refine denL_append.2 ⟨_, _, denL_take hc off, denL_append.2 ⟨_, _, hcx, ?_, rfl⟩, rfl⟩
            rw [← hl]
            exact denL_drop hc _
          obtain ⟨rs, h3, h4⟩ := fill_run h e h2
          refine ⟨rs, h3, ?_⟩
          simp only [Instr.fill, hpl]
          rw [if_neg (by simp; omega)]
          rw [← h4]
          congr 1
          have key : ∀ (l : List Value) (k : Nat) (cur : Array Value), off + k + l.length ≤ cur.size → ((l.zipIdx k).foldl (fun cs (p : Value × Nat) => cs.setIfInBounds (off + p.2) p.1) cur).toList = cur.toList.take (off + k) ++ (l ++ cur.toList.drop (off + k + l.length)) := by
            intro l
            induction l with
            | nil => intro k cur _; simp
            | cons v l ih =>
              intro k cur hk
              simp only [List.length_cons] at hk
              rw [List.zipIdx_cons, List.foldl_cons, ih (k + 1) _ (by simp; omega)]
              have e := list_seg_step cur.toList (off + k) v l (by simp; omega)
              simpa [Array.toList_setIfInBounds, Nat.add_assoc, List.append_assoc] using e
          apply Array.ext'
          have := key x.cells.toList 0 vs.toArray (by simp; omega)
          rw [← Array.foldl_toList, Array.toList_zipIdx]
          simpa using this
        · cases h
end
end Go.Proofs.Ytdjogfofedbohaa
end
section
/- What the executor says of operations that neither read nor write, the machine does: the operations. No condition. -/
namespace Go.Proofs.Ytdjogfofedbohaa

section
variable {P : Program} {ρ : Names}
theorem zeroT_run {t : TypeId} {l : List SV} (h : zeroT P t = some l) : ∃ z : Value, denL ρ l = some z.cells.toList ∧ ∀ w, (zeroValue t).run P w = .ok z w := by
  simp only [zeroT, Option.map_eq_some_iff, Option.bind_eq_some_iff] at h
  obtain ⟨z, ⟨i, hi, hz⟩, rfl⟩ := h
  exact ⟨z, denL_vs _, fun w => by simp [zeroValue, run_typeInfo w hi, hz]⟩
theorem mapM_places (w : World) : ∀ (l : List Field) (_ : ∀ f ∈ l, ∃ k, szT P f.type = some k), (l.mapM fun f => (do pure (f.offset, ← sizeOf f.type) : Sem (Nat × Nat))).run P w = .ok (l.map fun f => (f.offset, P.cellsOf f.type)) w
  | [], _ => by simp
  | f :: l, h => by
    obtain ⟨k, hk⟩ := h f (List.mem_cons_self ..)
    have ih := mapM_places w l (fun g hg => h g (List.mem_cons_of_mem _ hg))
    simp only [List.mapM_cons, Sem.run_bind, szT_run hk w, Result.andThen_ok, Sem.run_pure, ih, List.map_cons, szT_cells hk]
theorem fill_congr {p q : Nat → Option (Nat × Nat)} : ∀ {parts : List (Nat × SV)} {cells r : List SV}, fillX p cells parts = some r → (∀ i x, p i = some x → q i = some x) → fillX q cells parts = some r
  | [], _, _, h, _ => h
  | (i, s) :: parts, cells, r, h, hpq => by
    simp only [fillX] at h ⊢
    cases hp : p i with
    | none => rw [hp] at h; cases h
    | some x =>
      obtain ⟨off, size⟩ := x
      rw [hp] at h
      rw [hpq i _ hp]
      simp only at h ⊢
      split at h
      · exact fill_congr h hpq
      · cases h
theorem buildX_run {t : TypeId} {parts : List (Nat × SV)} {vparts : Array (Nat × Value)} {s : SV} (h : buildX P t parts = some s) (hp : Two (fun p q => p.1 = q.1 ∧ den ρ p.2 = some q.2) parts vparts.toList) : ∃ x, den ρ s = some x ∧ ∀ w, (Instr.build t vparts).run P w = .ok x w := by
  unfold buildX at h
  split at h
  · next fs hu =>
    split at h
    case h_2 => cases h
    next hfa =>
    have hall : ∀ f ∈ fs, ∃ k, szT P f.type = some k := fun f hf => Option.isSome_iff_exists.1 (Array.all_eq_true_iff_forall_mem.1 hfa f hf)
    simp only [Option.bind_eq_some_iff, Option.map_eq_some_iff] at h
    obtain ⟨zl, hz, r, hr, rfl⟩ := h
    obtain ⟨z, hz1, hz2⟩ := zeroT_run (ρ := ρ) hz
    have hr' := fill_congr (q := fun i => (fs.map fun f => (f.offset, P.cellsOf f.type))[i]?) hr (fun i x hx => by
      show (fs.map fun f => (f.offset, P.cellsOf f.type))[i]? = some x
      rw [Array.getElem?_map]
      cases hf : fs[i]? with
      | none => rw [hf] at hx; cases hx
      | some f =>
        rw [hf] at hx
        simp only [Option.map_eq_some_iff] at hx
        obtain ⟨k, hk, rfl⟩ := hx
        simp [szT_cells hk])
    obtain ⟨rs, h1, h2⟩ := fill_run hr' hz1 hp
    clear hr hr'
    refine ⟨_, den_agg.2 ⟨rs, h1, rfl⟩, fun w => ?_⟩
    simp only [Instr.build, Sem.run_bind, hz2 w, Result.andThen_ok, run_underlying hu w]
    rw [Array.mapM_eq_mapM_toList]
    simp only [Sem.run_map, mapM_places w fs.toList (fun f hf => hall f (by simpa using hf)), Result.andThen_ok]
    have e : (fs.toList.map fun f => (f.offset, P.cellsOf f.type)).toArray = fs.map fun f => (f.offset, P.cellsOf f.type) := by
      apply Array.ext'
      simp
    rw [e]
    simp only [Array.toArray_toList] at h2
    rw [h2]
    rfl
  · next n elem hu =>
    simp only [Option.bind_eq_some_iff, Option.map_eq_some_iff] at h
    obtain ⟨zl, hz, k, hk, r, hr, rfl⟩ := h
    obtain ⟨z, hz1, hz2⟩ := zeroT_run (ρ := ρ) hz
    obtain ⟨rs, h1, h2⟩ := fill_run hr hz1 hp
    refine ⟨_, den_agg.2 ⟨rs, h1, rfl⟩, fun w => ?_⟩
    simp only [Instr.build, Sem.run_bind, hz2 w, Result.andThen_ok, run_underlying hu w, szT_run hk w]
    simp only [Array.toArray_toList] at h2
    rw [h2]
    rfl
  · cases h

/-- The value of cells of a type. -/
def ofCells (P : Program) (t : TypeId) (vs : List Value) : Value := match aggT P t with
  | some true => .agg vs.toArray
  | _ => vs.headD undef
theorem part_cells {t : TypeId} {k off : Nat} {b : Bool} {vs : List Value} (hk : szT P t = some k) (hb : aggT P t = some b) (hl : off + k ≤ vs.length) (h1 : b = false → k = 1) (w : World) :
    (part t vs.toArray off).run P w = .ok (ofCells P t ((vs.drop off).take k)) w := by
  unfold part ofCells
  rw [hb]
  simp only [Sem.run_bind, aggT_run hb w, Result.andThen_ok]
  cases b with
  | true =>
    simp only [if_true, Sem.run_bind, szT_run hk w, Result.andThen_ok, Sem.run_pure]
    congr 2
    apply Array.ext'
    simp
  | false =>
    obtain rfl := h1 rfl
    simp only [Bool.false_eq_true, if_false]
    rw [List.getElem?_toArray, List.getElem?_eq_getElem (by omega)]
    simp only [Sem.run_pure]
    congr 1
    cases hd : vs.drop off with
    | nil => have := congrArg List.length hd; simp at this; omega
    | cons x l =>
      have : vs[off]? = some x := by
        have := congrArg List.head? hd
        rw [List.head?_drop] at this
        exact this
      rw [List.getElem?_eq_getElem (by omega)] at this
      injection this
theorem eqX_run : ∀ {n : Nat} {t : TypeId} {xs ys : List SV} {b : Bool} {us vs : List Value}, eqX P n t xs ys = some b → denL ρ xs = some us → denL ρ ys = some vs → ∀ d, n ≤ d → ∀ w, (Op.equalIn d t (ofCells P t us) (ofCells P t vs)).run P w = .ok b w
  | 0, _, _, _, _, _, _, h, _, _, _, _, _ => by simp [eqX] at h
  | n + 1, t, xs, ys, b, us, vs, h, hx, hy, d, hd, w => by
    obtain ⟨d, rfl⟩ : ∃ e, d = e + 1 := ⟨d - 1, by omega⟩
    simp only [eqX] at h
    split at h
    · next hu =>
      split at h <;> try cases h
      simp only [denL, den, Option.some.injEq] at hx hy
      subst hx
      subst hy
      simp only [ofCells, aggT, hu, List.headD_cons]
      exact run_equalIn_bool' w d t _ _ hu
    · next k0 hu =>
      split at h <;> try cases h
      next k a k' c =>
      split at h <;> cases h
      next hk =>
      subst hk
      simp only [denL, den, Option.some.injEq] at hx hy
      subst hx
      subst hy
      simp only [ofCells, aggT, hu, List.headD_cons]
      exact run_equalIn_int w d t _ k0 _ _ hu
    · next hu =>
      split at h <;> try cases h
      simp only [denL, den, Option.some.injEq] at hx hy
      subst hx
      subst hy
      simp only [ofCells, aggT, hu, List.headD_cons]
      rw [run_equalIn_string w d t _ _ hu, beq_toListBytes]
    · next fs hu =>
      split at h
      · cases h
      · next hst =>
        have hf : P.fieldsOf t = fs := by simp [Program.fieldsOf, hu]
        simp only [ofCells, aggT, hu]
        rw [run_equalIn_struct w d t _ _ (by rw [hf]; exact hu) hst, hf]
        clear hu hf hst
        generalize fs.toList = l at h
        induction l generalizing b with
        | nil =>
          simp only [eqF, Option.some.injEq] at h
          subst h
          rfl
        | cons f l ih =>
          simp only [eqF] at h
          simp only [Op.eqFields]
          split at h
          · next hne =>
            simp only [bne_iff_ne, ne_eq] at hne
            rw [if_pos hne]
            split at h <;> try cases h
            next p q hp hq =>
            obtain ⟨k, bb, r1, r2, hk, hb, h1k, h1, h2, h3⟩ : ∃ k bb r1 r2, szT P f.type = some (k + 1) ∧ aggT P f.type = some bb ∧ (bb = false → k = 0) ∧ cut xs f.offset (k + 1) = some r1 ∧ cut ys f.offset (k + 1) = some r2 ∧ eqX P n f.type r1 r2 = some p := by
              split at hp <;> try cases hp
              next k g hk hg =>
              split at hp <;> try cases hp
              next r1 r2 he h1 h2 =>
              refine ⟨k, g, r1, r2, hk, hg, fun e => ?_, h1, h2, hp⟩
              subst e
              simp only [Bool.false_or] at he
              exact Nat.eq_of_beq_eq_true he
            obtain ⟨rfl, h4⟩ := cut_ok h1
            obtain ⟨rfl, h5⟩ := cut_ok h2
            have hxl := denL_length hx
            have hyl := denL_length hy
            have hrec := eqX_run h3 (denL_take (denL_drop hx f.offset) (k + 1)) (denL_take (denL_drop hy f.offset) (k + 1)) d (by omega) w
            simp only [List.length_take, List.length_drop] at h4 h5
            have e1 := part_cells (P := P) (off := f.offset) (vs := us) hk hb (by omega) (fun e => by rw [h1k e]) w
            have e2 := part_cells (P := P) (off := f.offset) (vs := vs) hk hb (by omega) (fun e => by rw [h1k e]) w
            simp only [Sem.run_bind, e1, e2, Result.andThen_ok, hrec, Sem.run_ite, Sem.run_pure]
            cases p with
            | true => simpa using ih _ hq
            | false => rfl
          · next hne =>
            simp only [bne_eq_false_iff_eq] at hne
            rw [if_neg (by simp [hne])]
            exact ih _ h
    · cases h
end
end Go.Proofs.Ytdjogfofedbohaa
end
section
/- What the executor says of operations that neither read nor write, the machine does: all of them. No condition. -/
namespace Go.Proofs.Ytdjogfofedbohaa

section
variable {P : Program} {ρ : Names}
theorem noGuard_run {v y : Value} (h : noGuard v = true) (op : BinOp) (t : TypeId) (ox oy : Operand) (w : World) : (eqGuard op t ox oy v y).run P w = .ok () w := by
  cases op <;> cases v <;> first | rfl | cases h
theorem eql_of {t : TypeId} {x y : Value} {r : Bool} {w : World} (hq : (Op.equal t x y).run P w = .ok r w) (h1 : binOp .eql t x y = do pure (.bool (← Op.equal t x y))) (h2 : binOp .neq t x y = do pure (.bool (!(← Op.equal t x y))))
    {op : BinOp} (ho : op = .eql ∨ op = .neq) (ox oy : Operand) (hg : (eqGuard op t ox oy x y).run P w = .ok () w) : (do eqGuard op t ox oy x y; binOp op t x y : Sem Value).run P w = .ok (.bool (if op = .eql then r else !r)) w := by
  rw [Sem.run_bind, hg]
  simp only [Result.andThen_ok]
  rcases ho with rfl | rfl
  · rw [h1, Sem.run_bind, hq]
    rfl
  · rw [h2, Sem.run_bind, hq]
    rfl
theorem nilX_run {t : TypeId} {a b : SV} {x y : Value} {r : Bool} (h : nilX (P.underlying t) a b = some r) (hx : den ρ a = some x) (hy : den ρ b = some y) (op : BinOp) (ho : op = .eql ∨ op = .neq) (ox oy : Operand) (w : World) :
    (do eqGuard op t ox oy x y; binOp op t x y : Sem Value).run P w = .ok (.bool (if op = .eql then r else !r)) w := by
  unfold nilX at h
  split at h <;> (try cases h)
  · next hu =>
    simp only [den, Option.map_eq_some_iff, Option.some.injEq] at hx hy
    obtain ⟨e, _, rfl⟩ := hx
    subst hy
    exact eql_of (by show (Op.equalIn (9999 + 1) t _ _).run P w = _; unfold Op.equalIn; rw [Sem.run_bind, run_underlying hu w]; rfl) rfl rfl ho ox oy (noGuard_run rfl op t ox oy w)
  · next hu =>
    simp only [den, Option.map_eq_some_iff, Option.some.injEq] at hx hy
    obtain ⟨e, _, rfl⟩ := hy
    subst hx
    exact eql_of (by show (Op.equalIn (9999 + 1) t _ _).run P w = _; unfold Op.equalIn; rw [Sem.run_bind, run_underlying hu w]; rfl) rfl rfl ho ox oy (noGuard_run rfl op t ox oy w)
  · next hu =>
    simp only [den, Option.map_eq_some_iff, Option.some.injEq] at hx hy
    obtain ⟨e, _, rfl⟩ := hx
    subst hy
    exact eql_of (by show (Op.equalIn (9999 + 1) t _ _).run P w = _; unfold Op.equalIn; rw [Sem.run_bind, run_underlying hu w]; rfl) rfl rfl ho ox oy (noGuard_run rfl op t ox oy w)
  · next hu =>
    simp only [den, Option.map_eq_some_iff, Option.some.injEq] at hx hy
    obtain ⟨e, _, rfl⟩ := hy
    subst hx
    exact eql_of (by show (Op.equalIn (9999 + 1) t _ _).run P w = _; unfold Op.equalIn; rw [Sem.run_bind, run_underlying hu w]; rfl) rfl rfl ho ox oy (by cases op <;> rfl)
  · next hu =>
    simp only [den, Option.some.injEq] at hx hy
    split at hx <;> cases hx
    subst hy
    exact eql_of (by show (Op.equalIn (9999 + 1) t _ _).run P w = _; unfold Op.equalIn; rw [Sem.run_bind, run_underlying hu w]; rfl) rfl rfl ho ox oy (noGuard_run rfl op t ox oy w)
  · next hu =>
    simp only [den, Option.some.injEq] at hx hy
    split at hy <;> cases hy
    subst hx
    exact eql_of (by show (Op.equalIn (9999 + 1) t _ _).run P w = _; unfold Op.equalIn; rw [Sem.run_bind, run_underlying hu w]; rfl) rfl rfl ho ox oy (noGuard_run rfl op t ox oy w)
  · next hu =>
    simp only [den, Option.map_eq_some_iff, Option.some.injEq] at hx hy
    obtain ⟨e, _, rfl⟩ := hx
    subst hy
    exact eql_of (by show (Op.equalIn (9999 + 1) t _ _).run P w = _; unfold Op.equalIn; rw [Sem.run_bind, run_underlying hu w]; rfl) rfl rfl ho ox oy (noGuard_run rfl op t ox oy w)
theorem eqlX_run {t : TypeId} {a b : SV} {x y : Value} {r : Bool} (h : eqlX P t a b = some r) (hx : den ρ a = some x) (hy : den ρ b = some y) (op : BinOp) (ho : op = .eql ∨ op = .neq) (ox oy : Operand) (w : World) :
    (do eqGuard op t ox oy x y; binOp op t x y : Sem Value).run P w = .ok (.bool (if op = .eql then r else !r)) w := by
  unfold eqlX at h
  split at h
  · next r' hn =>
    injection h with h
    subst h
    exact nilX_run hn hx hy op ho ox oy w
  · split at h
    · next hc =>
      simp only [Bool.and_eq_true, Bool.not_eq_true'] at hc
      obtain ⟨⟨⟨ha, hb⟩, hg⟩, hagg⟩ := hc
      have ex := aggV ha hx
      have ey := aggV hb hy
      have hagg : aggT P t = some true := by
        split at hagg
        · assumption
        · cases hagg
      have hr := eqX_run h (den_cells hx) (den_cells hy) 10000 (by omega) w
      simp only [ofCells, hagg, Array.toArray_toList] at hr
      rw [ex, ey, Sem.run_bind, run_eqGuard_agg w op t ox oy _ _ hg]
      simp only [Result.andThen_ok]
      rcases ho with rfl | rfl
      · rw [run_eql_struct, hr]
        simp
      · rw [run_neq_struct, hr]
        simp
    · cases h
theorem binX_run {op : BinOp} {t : TypeId} {a b s : SV} {x y : Value} (h : binX P op t a b = some s) (hx : den ρ a = some x) (hy : den ρ b = some y) (ox oy : Operand) :
    ∃ z, den ρ s = some z ∧ ∀ w, (do eqGuard op t ox oy x y; binOp op t x y : Sem Value).run P w = .ok z w := by
  have heq : eqNe op (eqlX P t a b) = some s → ∃ z, den ρ s = some z ∧ ∀ w, (do eqGuard op t ox oy x y; binOp op t x y : Sem Value).run P w = .ok z w := by
    intro h1
    cases op <;> simp only [eqNe, Option.map_eq_some_iff, reduceCtorEq] at h1
    · obtain ⟨r, hr, rfl⟩ := h1
      exact ⟨_, rfl, fun w => by rw [eqlX_run hr hx hy .eql (.inl rfl) ox oy w]; rfl⟩
    · obtain ⟨r, hr, rfl⟩ := h1
      exact ⟨_, rfl, fun w => by rw [eqlX_run hr hx hy .neq (.inr rfl) ox oy w]; rfl⟩
  unfold binX at h
  split at h
  · next x' y' =>
    split at h
    · next hg =>
      simp only [Option.map_eq_some_iff] at h
      obtain ⟨z, hz, rfl⟩ := h
      simp only [den, Option.some.injEq] at hx hy
      subst hx
      subst hy
      exact ⟨z, rfl, fun w => by rw [Sem.run_bind, noGuard_run hg]; exact pureRun_run hz w⟩
    · exact heq h
  · exact heq h

theorem methodX_run {t : TypeId} {name : String} {g : FuncId} (h : methodX P t name = some g) (v : Value) (n : Nat) (w : World) : (method (n + 1) t v name).run P w = .ok (g, v) w := by
  unfold methodX at h
  generalize hu : P.underlying t = du at h
  split at h
  · next e =>
    cases hi : P.info? t with
    | none => rw [hi] at h; cases h
    | some i =>
      rw [hi] at h
      simp only at h
      cases hm : i.methods.find? (·.name == name) with
      | none => rw [hm] at h; cases h
      | some m =>
        rw [hm] at h
        simp only at h
        split at h
        · next f hp hf =>
          injection h with h
          subst h
          have hpath : m.path.toList = [] := by
            have : m.path = #[] := by simpa using hp
            rw [this]
          simp only [method, Sem.run_bind, run_typeInfo w hi, Result.andThen_ok, hm, hpath, follow, Sem.run_pure, hf, receiverAt, run_underlying hu w, Place.get]
        · cases h
  · cases h

theorem nilAhead_run {t : TypeId} {name : String} {g : FuncId} (h : methodX P t name = some g) (v : Value) (n : Nat) (w : World) : (nilAhead (n + 1) t v name).run P w = .ok (some false) w := by
  unfold methodX at h
  generalize hu : P.underlying t = du at h
  split at h
  · next e =>
    cases hi : P.info? t with
    | none => rw [hi] at h; cases h
    | some i =>
      rw [hi] at h
      simp only at h
      cases hm : i.methods.find? (·.name == name) with
      | none => rw [hm] at h; cases h
      | some m =>
        rw [hm] at h
        simp only at h
        split at h
        · next f hp hf =>
          injection h with h
          subst h
          have hpath : m.path.toList = [] := by
            have : m.path = #[] := by simpa using hp
            rw [this]
          simp only [nilAhead, Sem.run_bind, run_typeInfo w hi, Result.andThen_ok, hm, hpath, followBlind, Sem.run_pure, hf]
        · cases h
  · cases h

theorem plain_run {o : Oper} {ev : Operand → Option SV} {a : Act} {s : SV} (h : plainX P ev o.op = some s) (hev : Ev ρ ev a) : ∃ x, den ρ s = some x ∧ ∀ w, (execOp a.eval o).run P w = .ok (.value x) w := by
  obtain ⟨dst, op, ty, pos, aft, gu⟩ := o
  have vrun : ∀ {m : Sem Value} {x : Value}, (∀ w, m.run P w = .ok x w) → ∀ w, (do pure (.value (← m)) : Sem Next).run P w = .ok (.value x) w := fun hm w => by
    rw [Sem.run_bind, hm w]
    rfl
  cases op <;> simp only [plainX, reduceCtorEq, Option.bind_eq_some_iff, Option.map_eq_some_iff] at h
  case move x => exact ⟨_, hev _ _ h, fun w => rfl⟩
  case assign x => exact ⟨_, hev _ _ h, fun w => rfl⟩
  case build t parts =>
    obtain ⟨ps, hps, h⟩ := h
    have h2 := mapM_two (g := fun (p : Nat × Operand) => (p.1, a.eval p.2)) (R := fun (p : Nat × SV) (q : Nat × Value) => p.1 = q.1 ∧ den ρ p.2 = some q.2) (fun p b hb => by
      simp only [Option.map_eq_some_iff] at hb
      obtain ⟨s, hs, rfl⟩ := hb
      exact ⟨rfl, hev _ _ hs⟩) hps
    obtain ⟨x, h3, h4⟩ := buildX_run (vparts := parts.map fun (i, x) => (i, a.eval x)) h (by simpa using h2)
    exact ⟨x, h3, vrun h4⟩
  case nilCheck x =>
    obtain ⟨y, hy, h⟩ := h
    have hx := hev _ _ hy
    split at h <;> simp only [Option.some.injEq, reduceCtorEq, Option.map_eq_some_iff] at h <;> (first | subst h | (obtain ⟨g, hg, h⟩ := h; subst h))
    · refine ⟨_, hx, fun w => ?_⟩
      simp only [den, Option.map_eq_some_iff] at hx
      obtain ⟨e, _, hx⟩ := hx
      simp only [execOp, ← hx]
      rfl
    · refine ⟨_, hx, fun w => ?_⟩
      simp only [den] at hx
      split at hx <;> try cases hx
      split at hx <;> simp only [Option.some.injEq, reduceCtorEq] at hx
      simp only [execOp, ← hx]
      rfl
    · refine ⟨_, hx, fun w => ?_⟩
      simp only [den, Option.map_eq_some_iff] at hx
      obtain ⟨e, _, hx⟩ := hx
      simp only [execOp, ← hx]
      rfl
    · refine ⟨_, hx, fun w => ?_⟩
      simp only [den] at hx
      split at hx <;> simp only [Option.some.injEq, reduceCtorEq] at hx
      simp only [execOp, ← hx]
      rfl
    · refine ⟨_, hx, fun w => ?_⟩
      next name t y a b =>
      simp only [den] at hx
      split at hx <;> simp only [Option.some.injEq, reduceCtorEq] at hx
      next va vb hva hvb =>
      obtain ⟨u, us, h1, h2, rfl⟩ := denL_cons.1 hva
      simp only [den, Option.map_eq_some_iff] at h1
      obtain ⟨v, hv, rfl⟩ := h1
      have hna := nilAhead_run hg v (P.types.size + 99) w
      simp only [execOp, ← hx]
      simp only [List.getElem?_toArray, List.getElem?_cons_zero, Sem.run_bind, run_program, Result.andThen_ok]
      rw [show P.types.size + Made.depth = (P.types.size + 99) + 1 from rfl, hna]
      rfl
  case binOp op t x y ty2 =>
    obtain ⟨s1, h1, s2, h2, h⟩ := h
    split at h
    · next hnn =>
      unfold nilNil at hnn
      split at hnn
      · next hu =>
        have e1 := hev _ _ h1
        have e2 := hev _ _ h2
        simp only [den, Option.some.injEq] at e1 e2
        have heq : ∀ w, (Op.equal t .nilIface .nilIface).run P w = .ok true w := fun w => by show (Op.equalIn (9999 + 1) t _ _).run P w = _; unfold Op.equalIn; rw [Sem.run_bind, run_underlying hu w]; rfl
        cases op <;> simp only [eqNe, Option.map_some, Option.some.injEq, reduceCtorEq] at h
        · subst h
          refine ⟨_, rfl, vrun fun w => ?_⟩
          rw [← e1, ← e2]
          exact eql_of (heq w) rfl rfl (.inl rfl) _ _ (by simp [eqGuard])
        · subst h
          refine ⟨_, rfl, vrun fun w => ?_⟩
          rw [← e1, ← e2]
          exact eql_of (heq w) rfl rfl (.inr rfl) _ _ (by simp [eqGuard])
      · cases hnn
    obtain ⟨z, h3, h4⟩ := binX_run h (hev _ _ h1) (hev _ _ h2) x y
    exact ⟨z, h3, vrun h4⟩
  case unOp op t x =>
    obtain ⟨y, hy, h⟩ := h
    have hx := hev _ _ hy
    split at h <;> simp only [Option.map_eq_some_iff, reduceCtorEq] at h
    obtain ⟨z, hz, rfl⟩ := h
    simp only [den, Option.some.injEq] at hx
    rw [hx] at hz
    exact ⟨z, rfl, vrun (pureRun_run hz)⟩
  case convert sr ds x =>
    obtain ⟨y, hy, h⟩ := h
    have hx := hev _ _ hy
    split at h <;> simp only [Option.map_eq_some_iff, reduceCtorEq] at h
    obtain ⟨z, hz, rfl⟩ := h
    simp only [den, Option.some.injEq] at hx
    rw [hx] at hz
    exact ⟨z, rfl, vrun (pureRun_run hz)⟩
  case makeInterface t x =>
    split at h <;> simp only [Option.map_eq_some_iff, reduceCtorEq] at h
    next d hn hu =>
    obtain ⟨y, hy, rfl⟩ := h
    refine ⟨.iface t (a.eval x), by simp [den, hev _ _ hy], vrun fun w => ?_⟩
    simp only [Instr.makeInterface, Sem.run_bind, run_underlying hu w, Result.andThen_ok]
    cases d <;> first | rfl | (exact (hn _ rfl).elim)
  case makeFunc fn f c =>
    obtain ⟨l1, h1, l2, h2, rfl⟩ := h
    refine ⟨.func fn (f.map a.eval) (c.map a.eval), ?_, vrun fun w => rfl⟩
    simp only [den, ev_list hev h1, ev_list hev h2]
    congr 2 <;> (apply Array.ext'; simp)
  case fieldAddr t x f =>
    obtain ⟨y, hy, h⟩ := h
    obtain ⟨z, h3, h4⟩ := fieldAddrX_run h (hev _ _ hy)
    exact ⟨z, h3, vrun h4⟩
  case field t x f =>
    obtain ⟨y, hy, h⟩ := h
    obtain ⟨z, h3, h4⟩ := fieldX_run h (hev _ _ hy)
    exact ⟨z, h3, vrun h4⟩
  case extract x i =>
    obtain ⟨y, hy, h⟩ := h
    have hx := hev _ _ hy
    split at h
    · next l =>
      simp only [den, Option.map_eq_some_iff] at hx
      obtain ⟨vs, hv, hx⟩ := hx
      obtain ⟨z, h1, h2⟩ := denL_get hv h
      refine ⟨z, h1, vrun fun w => ?_⟩
      rw [← hx]
      simp only [Instr.extract, List.getElem?_toArray, h2]
      rfl
    · cases h
end
end Go.Proofs.Ytdjogfofedbohaa
end
section
/- What the executor says of operations that read and write, the machine does. No condition. -/
namespace Go.Proofs.Ytdjogfofedbohaa

section
variable {R : Type} {A : RepAt R} {P : Program} {B : Nat} {F : Nat → Prop} {st st1 st' : St R} {ρ ρ' : Names} {own own' : Nat → List Nat} {w w' : World}

theorem newN_quiet (q : Quiet st st1) {n : Nat} : newN st1 st' n ↔ newN st st' n := by unfold newN; rw [q.nx]
theorem Sit.of_quiet (s : Sit A P B F st st' ρ own w) (q : Quiet st st1) : Sit A P B F st1 st' ρ own w :=
  ⟨s.log, q.fn.wf s.wf, fun n hn => s.fresh n ((newN_quiet q).1 hn), by rw [q.hp]; exact s.li, s.ask, s.base⟩
theorem Tr.of_quiet (q : Quiet st st1) (t : Tr A P B F st1 st' ρ own w ρ' own' w') : Tr A P B F st st' ρ own w ρ' own' w' where
  le := t.le
  out n hn := t.out n (fun h => hn ((newN_quiet q).1 h))
  same n hn hw := t.same n (fun h => hn ((newN_quiet q).1 h)) hw
  pool _ hn _ hb := (t.pool _ (hn.imp_left (newN_quiet q).2) _ hb).imp_right fun ⟨m, h1, h2, h3⟩ => ⟨m, h1, fun h => h2 ((newN_quiet q).2 h), h3⟩
  li := t.li.sub fun _ hn => hn.imp_right (newN_quiet q).2
  mod := t.mod.mono fun _ _ ⟨m, h1, h2, h3⟩ => ⟨m, h1, fun h => h2 ((newN_quiet q).2 h), h3⟩

theorem oneC_of {s : SV} {x : Value} (h : s.oneC = true) (hx : den ρ s = some x) : x.oneCell' = true := by
  cases s with
  | v y =>
    simp only [den, Option.some.injEq] at hx
    subst hx
    cases y <;> first | rfl | cases h
  | agg l => cases h
  | tup l => cases h
  | tptr n i j =>
    simp only [den] at hx
    split at hx <;> try cases hx
    split at hx <;> cases hx
    rfl
  | clo fn f c =>
    simp only [den] at hx
    split at hx <;> cases hx
    rfl
  | _ =>
    simp only [den, Option.map_eq_some_iff] at hx
    obtain ⟨e, _, rfl⟩ := hx
    rfl
theorem oneC_all : ∀ {l : List SV} {vs : List Value}, l.all SV.oneC = true → denL ρ l = some vs → ∀ v ∈ vs, v.oneCell' = true
  | [], vs, _, h => by
    simp only [denL, Option.some.injEq] at h
    subst h
    exact fun v hv => by cases hv
  | s :: l, vs, h1, h => by
    obtain ⟨a, b, h2, h3, rfl⟩ := denL_cons.1 h
    simp only [List.all_cons, Bool.and_eq_true] at h1
    intro v hv
    rcases List.mem_cons.1 hv with rfl | hv
    · exact oneC_of h1.1 h2
    · exact oneC_all h1.2 h3 v hv

theorem load_part {t : TypeId} {l : List SV} {off b o : Nat} {s : SV} {vs : List Value} (h : partX P t l off = some s) (hl : denL ρ l = some vs) (hc : ∀ j v, vs[off + j]? = some v → w.cell? ⟨b, o + j, none⟩ = some v) :
    ∃ y, den ρ s = some y ∧ (Instr.loadAt t (.pointer (some ⟨b, o, none⟩))).run P w = .ok y w := by
  unfold partX at h
  cases ha : aggT P t with
  | none => rw [ha] at h; cases h
  | some g =>
    rw [ha] at h
    cases g with
    | true =>
      simp only [Option.bind_eq_some_iff, Option.map_eq_some_iff] at h
      obtain ⟨k, hk, r, hr, rfl⟩ := h
      obtain ⟨rfl, hr⟩ := cut_ok hr
      have hd := denL_take (denL_drop hl off) k
      have hlen := denL_length hd
      refine ⟨_, den_agg.2 ⟨_, hd, rfl⟩, ?_⟩
      have hlc := run_loadCells_list (P := P) w ⟨b, o, none⟩ ((vs.drop off).take k) (fun j v hv => by
        rw [add_at]
        refine hc j v ?_
        rw [List.getElem?_take] at hv
        split at hv
        · rw [List.getElem?_drop] at hv; exact hv
        · cases hv)
      rw [hlen, hr] at hlc
      simp only [Instr.loadAt, Instr.sureAddr, loadVar, Sem.run_bind, Sem.run_pure, Result.andThen_ok, aggT_run ha w, if_true, szT_run hk w, hlc]
    | false =>
      simp only at h
      obtain ⟨x, hx, hg⟩ := denL_get hl h
      refine ⟨x, hx, ?_⟩
      have := hc 0 x hg
      rw [Nat.add_zero] at this
      simp only [Instr.loadAt, Instr.sureAddr, loadVar, Sem.run_bind, Sem.run_pure, Result.andThen_ok, aggT_run ha w, Bool.false_eq_true, if_false, run_load, this]

theorem loadX_run {t : TypeId} {x s : SV} {v : Value} (h : loadX P t x st = .ok s st') (hli : LI A P B ρ own st.hp F w) (hF : ∀ n ∈ st'.fr, F n) (hx : den ρ x = some v) :
    ∃ y, den ρ s = some y ∧ (Instr.loadAt t v).run P w = .ok y w := by
  unfold loadX at h
  split at h
  · next n off =>
    obtain ⟨c, st1, h1, h2⟩ := bind_ok.1 h
    obtain ⟨hc, rfl⟩ := getC_ok.1 h1
    split at h2
    · next l t0 =>
      obtain ⟨hp, rfl⟩ := opt_ok.1 h2
      obtain ⟨e, he, _, cs, vs, h3, h4, h5, _⟩ := hli.at_ n _ (hF n (mem_ins.2 (.inl rfl))) hc
      simp only [den, he, Option.map_some, Option.some.injEq] at hx
      subst hx
      exact load_part hp h4 fun j u hu => by
        rw [cell_of_row w e.b _ cs t0 (0, 0) h3, Nat.add_assoc, h5 _ (lt_of_some hu)]
        exact hu
    · exact (fail_ok.1 h2).elim
  · next n i j =>
    obtain ⟨c, st1, h1, h2⟩ := bind_ok.1 h
    obtain ⟨hc, rfl⟩ := getC_ok.1 h1
    split at h2
    · next f len t0 =>
      obtain ⟨hp, rfl⟩ := opt_ok.1 h2
      obtain ⟨e, he, _, h3, h4, h5, h6⟩ := hli.at_ n _ (hF n (mem_ins.2 (.inl rfl))) hc
      simp only [den, he] at hx
      split at hx
      · next hlt =>
        simp only [Option.some.injEq] at hx
        subst hx
        obtain ⟨vs, h7, h8, h9⟩ := h6 i (by omega)
        exact load_part hp h7 fun m u hu => by
          have hm := lt_of_some hu
          rw [Nat.add_assoc, h9 (j + m) (by omega)]
          exact hu
      · cases hx
    · exact (fail_ok.1 h2).elim
  · exact (fail_ok.1 h).elim
theorem loadX_quiet {t : TypeId} {x s : SV} (h : loadX P t x st = .ok s st') : Quiet st st' := by
  unfold loadX at h
  split at h
  · obtain ⟨c, st1, h1, h2⟩ := bind_ok.1 h
    obtain ⟨hc, rfl⟩ := getC_ok.1 h1
    split at h2
    · obtain ⟨_, rfl⟩ := opt_ok.1 h2
      exact Quiet.get
    · exact (fail_ok.1 h2).elim
  · obtain ⟨c, st1, h1, h2⟩ := bind_ok.1 h
    obtain ⟨hc, rfl⟩ := getC_ok.1 h1
    split at h2
    · obtain ⟨_, rfl⟩ := opt_ok.1 h2
      exact Quiet.get
    · exact (fail_ok.1 h2).elim
  · exact (fail_ok.1 h).elim

theorem splice_get {α : Type} {l m : List α} {off : Nat} (h : off + m.length ≤ l.length) (i : Nat) : (l.take off ++ (m ++ l.drop (off + m.length)))[i]? = if i < off then l[i]? else if i < off + m.length then m[i - off]? else l[i]? := by
  rw [List.getElem?_append]
  simp only [List.length_take]
  rw [Nat.min_eq_left (by omega)]
  by_cases h1 : i < off
  · simp [h1]
  · rw [if_neg h1, if_neg h1, List.getElem?_append]
    by_cases h2 : i < off + m.length
    · rw [if_pos (by omega), if_pos h2]
    · rw [if_neg (by omega), if_neg h2, List.getElem?_drop]
      congr 1
      omega
theorem splice_length {α : Type} {l m : List α} {off : Nat} (h : off + m.length ≤ l.length) : (l.take off ++ (m ++ l.drop (off + m.length))).length = l.length := by
  simp only [List.length_append, List.length_take, List.length_drop]
  omega
theorem denL_splice {l m : List SV} {vs us : List Value} (hl : denL ρ l = some vs) (hm : denL ρ m = some us) (off : Nat) : denL ρ (splice l off m) = some (vs.take off ++ (us ++ vs.drop (off + us.length))) := by
  unfold splice
  refine denL_append.2 ⟨_, _, denL_take hl off, denL_append.2 ⟨_, _, hm, ?_, rfl⟩, rfl⟩
  rw [denL_length hm]
  exact denL_drop hl _

/-- Cells of a known row are written. -/
theorem row_write {t : TypeId} {l m : List SV} {e : Spot} {own0 : List Nat} {off : Nat} (h : CAt A P ρ B e own0 (.row l t) w) {us : List Value} (hm : denL ρ m = some us) (hle : off + m.length ≤ l.length) (h1 : m.all SV.oneC = true) :
    ∃ w', (storeCells ⟨e.b, e.off + off, none⟩ us).run P w = .ok () w' ∧ ModP (fun b => b ∈ own0) w w' ∧ CAt A P ρ B e own0 (.row (splice l off m) t) w' := by
  obtain ⟨ho, cs, vs, h2, h3, h4, h5, h6⟩ := h
  have hlv := denL_length h3
  have hlu := denL_length hm
  have hst := run_storeCells_at (P := P) e.b (e.off + off) t us 0 cs w h2 (by simp only [Nat.add_zero]; omega) (oneC_all h1 hm)
  simp only [Nat.add_zero] at hst
  refine ⟨_, hst, ⟨rfl, rfl, rfl, by simp, fun k hk hn => ?_⟩, ho, _, _, setRow_heap w e.b cs _ t (0, 0) h2, denL_splice h3 hm off, ?_, ?_, ?_⟩
  · exact setRow_other w e.b k _ (fun hke => hn (by rw [ho, hke]; simp))
  · intro i hi
    rw [splice_length (by omega)] at hi
    rw [splice_get (by omega), List.getElem?_toArray]
    rw [List.append_assoc, splice_get (by simp; omega)]
    by_cases g1 : i < off
    · rw [if_pos g1, if_pos (by omega), Array.getElem?_toList]
      exact h4 i hi
    · rw [if_neg g1, if_neg (by omega)]
      by_cases g2 : i < off + us.length
      · rw [if_pos g2, if_pos (by omega)]
        congr 1
        omega
      · rw [if_neg g2, if_neg (by omega), Array.getElem?_toList]
        exact h4 i hi
  · rw [splice_length (by omega)]
    exact h5
  · rw [List.size_toArray, List.append_assoc, splice_length (by simp; omega)]
    simpa using h6
end
end Go.Proofs.Ytdjogfofedbohaa
end
section
/- What the executor says of operations that read and write, the machine does: one by one. No condition. -/
namespace Go.Proofs.Ytdjogfofedbohaa

section
variable {R : Type} {A : RepAt R} {P : Program} {B : Nat} {F : Nat → Prop} {st st1 st' : St R} {ρ ρ' : Names} {own own' : Nat → List Nat} {w w' : World}

theorem quiet_new {st st1 : St R} (q : Quiet st st1) (c : Chunk R) : Fn st (st1.new c) := q.fn.trans (Fn.new st1 c)
theorem hget_quiet {st st1 : St R} (q : Quiet st st1) {n : Nat} {c : Chunk R} (h : hget n st.hp = some c) : hget n st1.hp = some c := by rw [q.hp]; exact h

theorem alloc_mod (w : World) (o : Obj) : ModP (fun _ => False) w (w.alloc o) := ⟨rfl, rfl, rfl, by simp, fun k hk _ => RowKit.Below.heap_alloc w o k hk⟩
/-- A new row. -/
theorem Tr.newRow {l : List SV} {t : TypeId} (s : Sit A P B F st (st.new (.row l t)) ρ own w) {w1 w' : World} (hw : ModP (fun _ => False) w w1) (hz : w1.heap.size = w.heap.size) {cs : Array Value} (h : w' = w1.alloc (.cells cs t)) {vs : List Value}
    (hd : denL ρ l = some vs) (hcs : ∀ i, i < vs.length → cs[i]? = vs[i]?) (cap : Nat) (h1 : vs.length ≤ cap * P.cellsOf t) (h2 : cap * P.cellsOf t ≤ cs.size) :
    ∃ ρ' own', Tr A P B F st (st.new (.row l t)) ρ own w ρ' own' w' ∧ ρ' st.nx = some ⟨w.heap.size, cap, 0, 0, 0, none⟩ := by
  subst h
  refine ⟨_, _, Tr.new s ⟨w.heap.size, cap, 0, 0, 0, none⟩ [w.heap.size] (hw.trans (alloc_mod w1 _) (fun _ _ h => h)) ⟨rfl, cs, vs, ?_, denL_mono (Names.put_le (s.fresh _ (newN_new.2 rfl))) _ _ hd, fun i hi => by rw [Nat.zero_add]; exact hcs i hi, h1, by simpa using h2⟩ (fun b hb => ?_), Names.put_same⟩
  · rw [← hz]
    exact heap_alloc_new w1 _
  · rw [List.mem_singleton] at hb
    subst hb
    simp [hz]

theorem newRow_run {t : TypeId} {cs : Array Value} : (Go.newRow t cs).run P w = .ok ⟨w.heap.size, 0, none⟩ (w.alloc (.cells cs t)) := rfl
theorem zeroT_len {t : TypeId} {z : List SV} (h : zeroT P t = some z) : ∃ v, z = v.cells.toList.map .v ∧ ∀ w, (zeroValue t).run P w = .ok v w := by
  simp only [zeroT, Option.map_eq_some_iff, Option.bind_eq_some_iff] at h
  obtain ⟨z, ⟨i, hi, hz⟩, rfl⟩ := h
  exact ⟨z, rfl, fun w => by simp [zeroValue, run_typeInfo w hi, hz]⟩

theorem store_s {t : TypeId} {v x : SV} {u : Unit} (h : storeX P t v x st = .ok u st') : Fn st st' ∧ ∀ B F ρ own w a b, Sit A P B F st st' ρ own w → den ρ x = some a → den ρ v = some b →
    ∃ ρ' own' w', (Instr.storeAt t a b).run P w = .ok () w' ∧ Tr A P B F st st' ρ own w ρ' own' w' := by
  unfold storeX at h
  split at h
  · next n off =>
    obtain ⟨c, st1, h1, h2⟩ := bind_ok.1 h
    obtain ⟨hc, rfl⟩ := getC_ok.1 h1
    split at h2
    · next l t0 =>
      obtain ⟨k, _, h3, h2⟩ := bind_ok.1 h2
      obtain ⟨hk, rfl⟩ := opt_ok.1 h3
      obtain ⟨_, _, h3, h2⟩ := bind_ok.1 h2
      obtain ⟨hb, rfl⟩ := want_ok.1 h3
      obtain ⟨_, rfl⟩ := setC_ok.1 h2
      simp only [Bool.and_eq_true] at hb
      obtain ⟨⟨hb1, hb2⟩, hb3⟩ := hb
      have hb1 := Nat.eq_of_beq_eq_true hb1
      have hb2 := Nat.le_of_ble_eq_true hb2
      have q : Quiet st { st with fr := insN n st.fr } := Quiet.get
      refine ⟨q.fn.trans (Fn.set _ n _ _ hc), fun B F ρ own w a b s hx hv => ?_⟩
      have s1 := s.of_quiet q
      have hcv := den_cells hv
      have hlen := denL_length hcv
      simp only [den, Option.map_eq_some_iff] at hx
      obtain ⟨e, he, rfl⟩ := hx
      obtain ⟨e', he', hat⟩ := s1.li.at_ n _ (s1.log n (mem_ins.2 (.inl rfl))) hc
      rw [he] at he'
      injection he' with he'
      subst he'
      obtain ⟨w', hr, hm, hat'⟩ := row_write (off := off) hat hcv (by omega) hb3
      refine ⟨_, _, w', ?_, Tr.of_quiet q (Tr.set s1 hc he (own n) hm hat' (fun b hb => .inl hb))⟩
      simp only [Array.length_toList] at hlen
      simp only [Instr.storeAt, Instr.sureAddr, storeVar, Sem.run_bind, Sem.run_pure, Result.andThen_ok, szT_run hk w, Sem.run_ite]
      rw [if_neg (by omega)]
      exact hr
    · exact (fail_ok.1 h2).elim
  · exact (fail_ok.1 h).elim

theorem alloc_s {t : TypeId} {z : List SV} {k : Nat} (hz : zeroT P t = some z) (hk : szT P t = some k) (hl : z.length = k) : Fn st (st.new (.row z t)) ∧ ∀ B F ρ own w, Sit A P B F st (st.new (.row z t)) ρ own w →
    ∃ y ρ' own' w', (Instr.alloc t true (.tuple #[])).run P w = .ok y w' ∧ den ρ' (.ptr st.nx 0) = some y ∧ Tr A P B F st (st.new (.row z t)) ρ own w ρ' own' w' := by
  refine ⟨Fn.new _ _, fun B F ρ own w s => ?_⟩
  obtain ⟨v, rfl, hv⟩ := zeroT_len hz
  simp only [List.length_map, Array.length_toList] at hl
  obtain ⟨ρ', own', ht, he⟩ := Tr.newRow (w' := w.alloc (.cells v.cells t)) s (ModP.refl _ _) rfl rfl (denL_vs (ρ := ρ) _) (fun i _ => by simp) 1 (by rw [szT_cells hk]; simp; omega) (by rw [szT_cells hk]; omega)
  refine ⟨_, ρ', own', _, ?_, by simp [den, he]; rfl, ht⟩
  simp only [Instr.alloc, Sem.run_bind, hv w, Result.andThen_ok, newVar, newRow_run, Sem.run_pure]

theorem box_s {t : TypeId} {v : SV} {k : Nat} (hk : szT P t = some k) (hl : v.cells.length = k) : Fn st (st.new (.row v.cells t)) ∧ ∀ B F ρ own w b, Sit A P B F st (st.new (.row v.cells t)) ρ own w → den ρ v = some b →
    ∃ y ρ' own' w', (Instr.box t b).run P w = .ok y w' ∧ den ρ' (.ptr st.nx 0) = some y ∧ Tr A P B F st (st.new (.row v.cells t)) ρ own w ρ' own' w' := by
  refine ⟨Fn.new _ _, fun B F ρ own w b s hv => ?_⟩
  have hcv := den_cells hv
  have hlen := denL_length hcv
  obtain ⟨ρ', own', ht, he⟩ := Tr.newRow (w' := w.alloc (.cells b.cells t)) s (ModP.refl _ _) rfl rfl hcv (fun i _ => by simp) 1 (by rw [szT_cells hk]; omega) (by rw [szT_cells hk]; simp at hlen; omega)
  refine ⟨_, ρ', own', _, ?_, by simp [den, he]; rfl, ht⟩
  simp only [Instr.box, newVar, Sem.run_bind, newRow_run, Result.andThen_ok, Sem.run_pure]

theorem fillX_length {place : Nat → Option (Nat × Nat)} : ∀ {parts : List (Nat × SV)} {cells r : List SV}, fillX place cells parts = some r → r.length = cells.length
  | [], _, _, h => by
    simp only [fillX, Option.some.injEq] at h
    rw [h]
  | (i, s) :: parts, cells, r, h => by
    simp only [fillX] at h
    split at h
    · cases h
    · split at h
      · next hb =>
        simp only [Bool.and_eq_true] at hb
        have := Nat.eq_of_beq_eq_true hb.1
        have := Nat.le_of_ble_eq_true hb.2
        rw [fillX_length h]
        exact splice_length (by omega)
      · cases h
theorem zerosX_run {elem : TypeId} {n : Nat} {l : List SV} (h : zerosX P elem n = some l) : ∃ z : Value, (∀ w, (zeroValue elem).run P w = .ok z w) ∧ l = ((List.range n).map fun j => z.cells[j % z.cells.size]!).map .v ∧ l.length = n := by
  unfold zerosX at h
  simp only [Option.bind_eq_some_iff] at h
  obtain ⟨i, hi, z, hz, h⟩ := h
  split at h
  · cases h
  · injection h with h
    subst h
    exact ⟨z, fun w => by simp [zeroValue, run_typeInfo w hi, hz], by simp, by simp⟩

theorem buildSlice_s {t elem : TypeId} {len : Nat} {ps : List (Nat × SV)} {l : List SV} (h : buildSliceX P t len ps = some (elem, l)) : Fn st (st.new (.row l elem)) ∧ ∀ B F ρ own w vps, Sit A P B F st (st.new (.row l elem)) ρ own w →
    Two (fun p q => p.1 = q.1 ∧ den ρ p.2 = some q.2) ps (Array.toList vps) → ∃ y ρ' own' w', (Instr.buildSlice t len vps).run P w = .ok y w' ∧ den ρ' (.sl st.nx 0 0 len) = some y ∧ Tr A P B F st (st.new (.row l elem)) ρ own w ρ' own' w' := by
  refine ⟨Fn.new _ _, fun B F ρ own w vps s hp => ?_⟩
  unfold buildSliceX at h
  split at h
  · next el hu =>
    simp only [Option.bind_eq_some_iff] at h
    obtain ⟨k, hk, h⟩ := h
    split at h
    · next hb =>
      simp only [Option.bind_eq_some_iff, Option.map_eq_some_iff] at h
      obtain ⟨z, hz, r, hr, h⟩ := h
      injection h with h1 h2
      subst h1
      subst h2
      simp only [Bool.and_eq_true, Bool.not_eq_true'] at hb
      have hle := Nat.le_of_ble_eq_true hb.1
      have hk0 : k ≠ 0 := Nat.ne_of_beq_eq_false hb.2
      obtain ⟨zv, hzv, rfl, hzl⟩ := zerosX_run hz
      obtain ⟨rs, h3, h4⟩ := fill_run hr (denL_vs _) hp
      have hlen := fillX_length hr
      have hlr := denL_length h3
      have hrl : rs.length = len * k := by rw [hlr, hlen, hzl]
      obtain ⟨ρ', own', ht, he⟩ := Tr.newRow (w' := w.alloc (.cells rs.toArray el)) s (ModP.refl _ _) rfl rfl h3 (fun i _ => by simp) len (by rw [szT_cells hk]; omega) (by rw [szT_cells hk]; simp; omega)
      refine ⟨_, ρ', own', _, ?_, by simp [den, he]; rfl, ht⟩
      have e : ((List.range (len * k)).map fun j => zv.cells[j % zv.cells.size]!).toArray = (Array.range (len * k)).map (zv.cells[· % zv.cells.size]!) := by
        apply Array.ext'
        simp
      rw [e] at h4
      simp only [Instr.buildSlice, Sem.run_bind, run_underlying hu w, Result.andThen_ok, szT_run hk w, Sem.run_ite]
      rw [if_neg (by omega)]
      by_cases h0 : len * k = 0
      · rw [if_pos h0]
        rw [h0] at h4
        simp only [Sem.run_pure, Result.andThen_ok, h0]
        have e0 : (Array.range 0).map (zv.cells[· % zv.cells.size]!) = (#[] : Array Value) := by simp
        rw [e0] at h4
        have e1 : ∀ f : Nat → Value, (Array.range 0).map f = (#[] : Array Value) := fun f => by simp
        simp only [e1, h4, Sem.run_bind, newRow_run, Result.andThen_ok, Sem.run_pure]
      · rw [if_neg h0]
        simp only [hzv w, Sem.run_pure, Result.andThen_ok, h4, Sem.run_bind, newRow_run]
    · cases h
  · cases h
end
end Go.Proofs.Ytdjogfofedbohaa
end
section
/- What the executor says of operations that read and write, the machine does: slices. No condition. -/
namespace Go.Proofs.Ytdjogfofedbohaa

section
variable {R : Type} {A : RepAt R} {P : Program} {B : Nat} {F : Nat → Prop} {st st1 st' : St R} {ρ ρ' : Names} {own own' : Nat → List Nat} {w w' : World}

theorem wrap_small (n : Int) (h0 : 0 ≤ n) (h1 : n ≤ 140737488351232) : IntKind.i64.wrap n = n := by
  unfold IntKind.wrap
  simp [IntKind.bits, IntKind.signed]
  omega
theorem makeSlice_s {t elem : TypeId} {n c : Nat} {i : TypeInfo} {z : List SV} (hu : P.underlying t = some (.slice elem)) (hi : P.info? elem = some i) (hb : (Nat.ble n c && Nat.ble (c * i.bytes) 140737488351232 && Nat.ble c 140737488351232 && !Nat.beq i.size 0) = true)
    (hz : zerosX P elem (c * i.size) = some z) : Fn st (st.new (.row z elem)) ∧ ∀ B F ρ own w k k', Sit A P B F st (st.new (.row z elem)) ρ own w →
    ∃ y ρ' own' w', (Instr.makeSlice t (.int k (n : Int)) (.int k' (c : Int))).run P w = .ok y w' ∧ den ρ' (.sl st.nx 0 0 n) = some y ∧ Tr A P B F st (st.new (.row z elem)) ρ own w ρ' own' w' := by
  refine ⟨Fn.new _ _, fun B F ρ own w k k' s => ?_⟩
  simp only [Bool.and_eq_true, Bool.not_eq_true'] at hb
  obtain ⟨⟨⟨h1, h2⟩, h3⟩, h4⟩ := hb
  have h1 := Nat.le_of_ble_eq_true h1
  have h2 := Nat.le_of_ble_eq_true h2
  have h3 := Nat.le_of_ble_eq_true h3
  have h4 := Nat.ne_of_beq_eq_false h4
  obtain ⟨zv, hzv, rfl, hzl⟩ := zerosX_run hz
  have hc : P.cellsOf elem = i.size := by simp [Program.cellsOf, hi]
  have hk : szT P elem = some i.size := by simp [szT, hi]
  obtain ⟨ρ', own', ht, he⟩ := Tr.newRow (w' := w.alloc (.cells ((List.range (c * i.size)).map fun j => zv.cells[j % zv.cells.size]!).toArray elem)) s (ModP.refl _ _) rfl rfl (denL_vs (ρ := ρ) _) (fun i _ => by simp) c (by rw [hc]; simp) (by rw [hc]; simp)
  have e : ((List.range (c * i.size)).map fun j => zv.cells[j % zv.cells.size]!).toArray = (Array.range (c * i.size)).map (zv.cells[· % zv.cells.size]!) := by
    apply Array.ext'
    simp
  have w1 : IntKind.i64.wrap (n : Int) = n := wrap_small _ (by omega) (by omega)
  have w2 : IntKind.i64.wrap (c : Int) = c := wrap_small _ (by omega) (by omega)
  refine ⟨_, ρ', own', _, ?_, by simp [den, he]; rfl, ht⟩
  have hby : (i.bytes : Int) * (c : Int) ≤ 140737488351232 := by
    have : ((c * i.bytes : Nat) : Int) ≤ 140737488351232 := by omega
    rw [Int.natCast_mul, Int.mul_comm] at this
    exact this
  have hn1 : ¬ ((c : Int) < 0) := by omega
  have hn2 : ¬ ((2 : Int) ^ 48 < (i.bytes : Int) * (c : Int)) := by omega
  have hn3 : ¬ ((n : Int) < 0) := by omega
  have hn4 : ¬ ((c : Int) < (n : Int)) := by omega
  have hroom : ¬ (c * i.bytes > roomBytes) := by unfold roomBytes; omega
  simp only [Instr.makeSlice, Sem.run_bind, run_underlying hu w, Result.andThen_ok, asInt, asIntOf, Sem.run_pure, run_typeInfo w hi, w1, w2, gt_iff_lt, hn1, hn2, hn3, hn4, decide_false, Bool.or_false, Bool.false_eq_true, if_false, Sem.run_ite, askRoom, Int.toNat_natCast, hroom,
    szT_run hk w]
  by_cases h0 : c * i.size = 0
  · rw [if_pos h0]
    rw [h0] at e ⊢
    have e0 : (Array.range 0).map (zv.cells[· % zv.cells.size]!) = (#[] : Array Value) := by simp
    have e1 : ∀ f : Nat → Value, (Array.range 0).map f = (#[] : Array Value) := fun f => by simp
    simp only [Result.andThen_ok, e1, newRow_run]
    rfl
  · rw [if_neg h0]
    simp only [hzv w, Result.andThen_ok, newRow_run, ← e]

theorem idx_s {t : TypeId} {x iv s : SV} (h : idxX P t x iv st = .ok s st') : Quiet st st' ∧ ∀ B F ρ own w a b, Sit A P B F st st' ρ own w → den ρ x = some a → den ρ iv = some b →
    ∃ y, (Instr.indexAt t a b).run P w = .ok y w ∧ den ρ s = some y := by
  unfold idxX at h
  split at h
  · next k i =>
    generalize hu : P.underlying t = du at h
    split at h
    · next elem =>
      split at h
      · next n off idx len =>
        obtain ⟨_, st1, h1, h2⟩ := bind_ok.1 h
        obtain ⟨q, hq⟩ := need_ok h1
        obtain ⟨sz, _, h3, h2⟩ := bind_ok.1 h2
        obtain ⟨hsz, rfl⟩ := opt_ok.1 h3
        obtain ⟨rfl, rfl⟩ := ret_ok.1 h2
        refine ⟨q, fun B F ρ own w a b s hx hi => ?_⟩
        have hlt := hq s.ask
        simp only [decide_eq_true_eq] at hlt
        simp only [den, Option.map_eq_some_iff, Option.some.injEq] at hx hi
        obtain ⟨e, he, rfl⟩ := hx
        subst hi
        refine ⟨.pointer (some ⟨e.b, e.off + off + i.toNat * sz, none⟩), ?_, by simp [den, he, Nat.add_assoc]⟩
        simp only [Instr.indexAt, asIntOf, Sem.run_bind, Sem.run_pure, Result.andThen_ok, run_underlying hu w, hlt, and_self, if_true, szT_run hsz w, add_at]
      · next n len =>
        obtain ⟨c, st1, h1, h2⟩ := bind_ok.1 h
        obtain ⟨hc, rfl⟩ := getC_ok.1 h1
        split at h2
        · next f len' t' =>
          obtain ⟨_, _, h3, h4⟩ := bind_ok.1 h2
          obtain ⟨ht, rfl⟩ := want_ok.1 h3
          simp only [Bool.and_eq_true] at ht
          obtain ⟨ht, hsz⟩ := ht
          obtain ⟨_, st2, h5, h6⟩ := bind_ok.1 h4
          obtain ⟨q, hq⟩ := need_ok h5
          obtain ⟨rfl, rfl⟩ := ret_ok.1 h6
          have ht := Nat.eq_of_beq_eq_true ht
          clear h h1 h2 h3 h4 h5 h6
          subst ht
          refine ⟨Quiet.get.trans q, fun B F ρ own w a b s hx hi => ?_⟩
          have hlt := hq s.ask
          simp only [decide_eq_true_eq] at hlt
          obtain ⟨g1, g2, g3⟩ := hlt
          subst g3
          obtain ⟨e, he, _, h4, h5, h6, _⟩ := s.li.at_ n _ (s.log n (q.fr n (mem_ins.2 (.inl rfl)))) hc
          simp only [den, he, Option.map_some, Option.some.injEq] at hx hi
          subst hx
          subst hi
          obtain ⟨h7, _, _⟩ := h6 (by omega)
          obtain ⟨ii, hii⟩ : ∃ ii, P.info? t' = some ii := by
            cases hh : P.info? t' with
            | none => rw [hh] at hsz; cases hsz
            | some ii => exact ⟨ii, rfl⟩
          refine ⟨.pointer (some ⟨e.b, e.off + i.toNat * e.sz, none⟩), ?_, ?_⟩
          · simp only [Instr.indexAt, asIntOf, Sem.run_bind, Sem.run_pure, Result.andThen_ok, run_underlying hu w, g1, g2, and_self, if_true, run_sizeOf w hii, h7, add_at, h5]
          · have : i.toNat < e.len := by omega
            simp [den, he, this]
        · exact (fail_ok.1 h2).elim
      · exact (fail_ok.1 h).elim
    · next len elem =>
      split at h
      · next n off =>
        obtain ⟨_, st1, h1, h2⟩ := bind_ok.1 h
        obtain ⟨q, hq⟩ := need_ok h1
        obtain ⟨sz, _, h3, h2⟩ := bind_ok.1 h2
        obtain ⟨hsz, rfl⟩ := opt_ok.1 h3
        obtain ⟨rfl, rfl⟩ := ret_ok.1 h2
        refine ⟨q, fun B F ρ own w a b s hx hi => ?_⟩
        have hlt := hq s.ask
        simp only [decide_eq_true_eq] at hlt
        simp only [den, Option.map_eq_some_iff, Option.some.injEq] at hx hi
        obtain ⟨e, he, rfl⟩ := hx
        subst hi
        refine ⟨.pointer (some ⟨e.b, e.off + off + i.toNat * sz, none⟩), ?_, by simp [den, he, Nat.add_assoc]⟩
        simp only [Instr.indexAt, asIntOf, Sem.run_bind, Sem.run_pure, Result.andThen_ok, run_underlying hu w, Instr.sureAddr, hlt, and_self, if_true, szT_run hsz w, add_at]
      · exact (fail_ok.1 h).elim
    · exact (fail_ok.1 h).elim
  · exact (fail_ok.1 h).elim
end
end Go.Proofs.Ytdjogfofedbohaa
end
section
/- What the executor says of operations that read and write, the machine does: slicing, append, copy. No condition. -/
namespace Go.Proofs.Ytdjogfofedbohaa

section
variable {R : Type} {A : RepAt R} {P : Program} {B : Nat} {F : Nat → Prop} {st st1 st' : St R} {ρ ρ' : Names} {own own' : Nat → List Nat} {w w' : World}

theorem natOf_ok {s : SV} {n : Nat} {x : Value} (h : natOf s = some n) (hx : den ρ s = some x) : ∃ k, x = .int k (n : Int) := by
  unfold natOf at h
  split at h
  · next k m =>
    injection h with h
    subst h
    simp only [den, Option.some.injEq] at hx
    exact ⟨k, hx.symm⟩
  · cases h
theorem bound_run {k : IntKind} {n y : Nat} (h : n ≤ y) (c : BoundsCode) (w : World) : (Instr.sliceBound (.int k (n : Int)) y c).run P w = .ok n w := by
  simp only [Instr.sliceBound, asIntOf, Sem.run_bind, Sem.run_pure, Result.andThen_ok]
  rw [if_pos ⟨by omega, by omega⟩]
  simp
theorem slice_s {t : TypeId} {x s : SV} {lo hi : Option SV} (h : sliceX P t x lo hi st = .ok s st') : Fn st st' ∧ ∀ B F ρ own w a lo' hi', Sit A P B F st st' ρ own w → den ρ x = some a → (∀ l, lo = some l → ∃ v, lo' = some v ∧ den ρ l = some v) → (lo = none → lo' = none) →
    (∀ l, hi = some l → ∃ v, hi' = some v ∧ den ρ l = some v) → (hi = none → hi' = none) → ∃ y ρ' own' w', (Instr.sliceAt t a lo' hi' none).run P w = .ok y w' ∧ den ρ' s = some y ∧ Tr A P B F st st' ρ own w ρ' own' w' := by
  unfold sliceX at h
  generalize hu : P.underlying t = du at h
  split at h
  · next elem =>
    split at h
    · next n off idx len =>
      obtain ⟨l, _, h1, h2⟩ := bind_ok.1 h
      obtain ⟨hl, rfl⟩ := opt_ok.1 h1
      obtain ⟨g, _, h3, h4⟩ := bind_ok.1 h2
      obtain ⟨hh, rfl⟩ := opt_ok.1 h3
      obtain ⟨k, _, h5, h6⟩ := bind_ok.1 h4
      obtain ⟨hk, rfl⟩ := opt_ok.1 h5
      obtain ⟨_, _, h7, h8⟩ := bind_ok.1 h6
      obtain ⟨hb, rfl⟩ := want_ok.1 h7
      obtain ⟨c, st1, h9, h10⟩ := bind_ok.1 h8
      obtain ⟨hc, rfl⟩ := getC_ok.1 h9
      simp only [Bool.and_eq_true, Bool.not_eq_true'] at hb
      obtain ⟨⟨hb1, hb2⟩, hb3⟩ := hb
      have hb1 := Nat.le_of_ble_eq_true hb1
      have hb2 := Nat.le_of_ble_eq_true hb2
      have hb3 := Nat.ne_of_beq_eq_false hb3
      split at h10
      · next cs t' =>
        obtain ⟨_, _, h11, h12⟩ := bind_ok.1 h10
        obtain ⟨hw, rfl⟩ := want_ok.1 h11
        simp only [Bool.and_eq_true] at hw
        obtain ⟨⟨hw1, hw2⟩, hw3⟩ := hw
        have hw1 := Nat.eq_of_beq_eq_true hw1
        have hw2 := Nat.le_of_ble_eq_true hw2
        have hw3 := Nat.eq_of_beq_eq_true hw3
        have q : Quiet st { st with fr := insN n st.fr } := Quiet.get
        -- the run
        have key : ∀ B F ρ own w a lo' hi', LI A P B ρ own st.hp F w → F n → den ρ (.sl n off idx len) = some a → (∀ l, lo = some l → ∃ v, lo' = some v ∧ den ρ l = some v) → (lo = none → lo' = none) →
            (∀ l, hi = some l → ∃ v, hi' = some v ∧ den ρ l = some v) → (hi = none → hi' = none) → ∃ e, ρ n = some e ∧ idx + len ≤ e.cap ∧
              (Instr.sliceAt t a lo' hi' none).run P w = .ok (.slice (if e.cap - idx = l then some ⟨e.b, e.off + off, none⟩ else some ⟨e.b, e.off + off + l * k, none⟩) (g - l) (e.cap - idx - l)) w := by
          intro B F ρ own w a lo' hi' hli hF ha hl1 hl2 hh1 hh2
          obtain ⟨e, he, _, cs', vs, h13, h14, _, h15, _⟩ := hli.at_ n _ hF hc
          have hlen := denL_length h14
          have hcap : idx + len ≤ e.cap := by
            rw [hw1, szT_cells hk] at h15
            have : (idx + len) * k ≤ e.cap * k := by omega
            exact Nat.le_of_mul_le_mul_right this (by omega)
          simp only [den, he, Option.map_some, Option.some.injEq] at ha
          subst ha
          refine ⟨e, he, hcap, ?_⟩
          have hrun : (Instr.sliceBounds true len (e.cap - idx) lo' hi' none).run P w = .ok (l, g, e.cap - idx) w := by
            cases lo with
            | none =>
              rw [hl2 rfl]
              simp only [Option.some.injEq] at hl
              subst hl
              cases hi with
              | none =>
                rw [hh2 rfl]
                simp only [Option.some.injEq] at hh
                subst hh
                rfl
              | some hs =>
                obtain ⟨v, rfl, hv⟩ := hh1 _ rfl
                obtain ⟨kk, rfl⟩ := natOf_ok hh hv
                simp only [Instr.sliceBounds, Sem.run_bind, Sem.run_pure, Result.andThen_ok, bound_run (P := P) (k := kk) (show g ≤ e.cap - idx by omega)]
            | some ls =>
              obtain ⟨v, rfl, hv⟩ := hl1 _ rfl
              obtain ⟨kk, rfl⟩ := natOf_ok hl hv
              cases hi with
              | none =>
                rw [hh2 rfl]
                simp only [Option.some.injEq] at hh
                subst hh
                simp only [Instr.sliceBounds, Sem.run_bind, Sem.run_pure, Result.andThen_ok, bound_run (P := P) (k := kk) (show l ≤ len by omega), Option.isSome_none, Bool.false_eq_true, if_false]
              | some hs =>
                obtain ⟨v, rfl, hv⟩ := hh1 _ rfl
                obtain ⟨k2, rfl⟩ := natOf_ok hh hv
                simp only [Instr.sliceBounds, Sem.run_bind, Sem.run_pure, Result.andThen_ok, bound_run (P := P) (k := k2) (show g ≤ e.cap - idx by omega), if_true, bound_run (P := P) (k := kk) (show l ≤ g by omega), Option.isSome_none, Bool.false_eq_true, if_false]
          simp only [Instr.sliceAt, Sem.run_bind, run_underlying hu w, Result.andThen_ok, Instr.slice, hrun, szT_run hk w, Sem.run_pure]
          by_cases hx : e.cap - idx = l
          · simp only [hx, if_true]
          · simp only [hx, if_false, Option.map_some, add_at]
        cases hbe : Nat.beq l g with
        | true =>
          rw [hbe] at h12
          have hlg := Nat.eq_of_beq_eq_true hbe
          subst hlg
          obtain ⟨m, st2, h13, h14⟩ := bind_ok.1 h12
          obtain ⟨rfl, rfl⟩ := newC_ok.1 h13
          obtain ⟨rfl, rfl⟩ := ret_ok.1 h14
          refine ⟨quiet_new q .emp, fun B F ρ own w a lo' hi' s ha hl1 hl2 hh1 hh2 => ?_⟩
          have s1 := s.of_quiet q
          obtain ⟨e, he, hcap, hr⟩ := key B F ρ own w a lo' hi' s.li (s.log n (mem_ins.2 (.inl rfl))) ha hl1 hl2 hh1 hh2
          have ht := Tr.new (c := .emp) s1 ⟨0, e.cap - idx - l, 0, 0, 0, if e.cap - idx = l then some ⟨e.b, e.off + off, none⟩ else some ⟨e.b, e.off + off + l * k, none⟩⟩ [] (ModP.refl _ _) rfl (fun b hb => by cases hb)
          refine ⟨_, _, _, _, hr, ?_, Tr.of_quiet q ht⟩
          simp only [den]
          rw [Names.put_same]
          simp
        | false =>
          rw [hbe] at h12
          have hlg := Nat.ne_of_beq_eq_false hbe
          obtain ⟨rfl, rfl⟩ := ret_ok.1 h12
          refine ⟨q.fn, fun B F ρ own w a lo' hi' s ha hl1 hl2 hh1 hh2 => ?_⟩
          obtain ⟨e, he, hcap, hr⟩ := key B F ρ own w a lo' hi' s.li (s.log n (mem_ins.2 (.inl rfl))) ha hl1 hl2 hh1 hh2
          refine ⟨_, _, _, _, hr, ?_, s.quiet q⟩
          rw [if_neg (by omega)]
          simp [den, he, Nat.add_assoc, Nat.sub_sub]
      · exact (fail_ok.1 h10).elim
    · exact (fail_ok.1 h).elim
  · exact (fail_ok.1 h).elim
end
end Go.Proofs.Ytdjogfofedbohaa
end
section
/- What the executor says of append and copy, the machine does. No condition. -/
namespace Go.Proofs.Ytdjogfofedbohaa

section
variable {R : Type} {A : RepAt R} {P : Program} {B : Nat} {F : Nat → Prop} {st st1 st' : St R} {ρ ρ' : Names} {own own' : Nat → List Nat} {w w' : World}

theorem src_s {k : Nat} {x : SV} {m : Nat} {cs : List SV} (h : srcX k x st = .ok (m, cs) st') : Quiet st st' ∧ ∀ B F ρ own w a, LI A P B ρ own st.hp F w → (∀ n ∈ st'.fr, F n) → den ρ x = some a →
    ∃ ad c news, a = .slice ad m c ∧ denL ρ cs = some news ∧ news.length = m * k ∧ (∀ g, ad = some g → ∀ j u, news[j]? = some u → w.cell? (g.add j) = some u) ∧ (ad = none → m = 0) := by
  unfold srcX at h
  split at h
  · next c =>
    obtain ⟨e, rfl⟩ := ret_ok.1 h
    injection e with e1 e2
    subst e1
    subst e2
    refine ⟨Quiet.refl _, fun B F ρ own w a _ _ ha => ?_⟩
    simp only [den, Option.some.injEq] at ha
    subst ha
    exact ⟨none, c, [], rfl, rfl, by simp, (fun g hg => by cases hg), fun _ => rfl⟩
  · next n =>
    obtain ⟨c, st1, h1, h2⟩ := bind_ok.1 h
    obtain ⟨hc, rfl⟩ := getC_ok.1 h1
    split at h2
    · obtain ⟨e, rfl⟩ := ret_ok.1 h2
      injection e with e1 e2
      subst e1
      subst e2
      refine ⟨Quiet.get, fun B F ρ own w a _ _ ha => ?_⟩
      simp only [den, Option.map_eq_some_iff] at ha
      obtain ⟨e, he, rfl⟩ := ha
      exact ⟨e.ad, e.cap, [], rfl, rfl, by simp, (fun g _ j u hu => by simp at hu), fun _ => rfl⟩
    · exact (fail_ok.1 h2).elim
  · next n off idx len =>
    obtain ⟨c, st1, h1, h2⟩ := bind_ok.1 h
    obtain ⟨hc, rfl⟩ := getC_ok.1 h1
    split at h2
    · next l t0 =>
      obtain ⟨r, _, h3, h4⟩ := bind_ok.1 h2
      obtain ⟨hr, rfl⟩ := opt_ok.1 h3
      obtain ⟨e, rfl⟩ := ret_ok.1 h4
      injection e with e1 e2
      subst e1
      subst e2
      obtain ⟨rfl, hlen⟩ := cut_ok hr
      refine ⟨Quiet.get, fun B F ρ own w a hli hF ha => ?_⟩
      obtain ⟨e, he, _, cs, vs, h5, h6, h7, _⟩ := hli.at_ n _ (hF n (mem_ins.2 (.inl rfl))) hc
      simp only [den, he, Option.map_some, Option.some.injEq] at ha
      subst ha
      have hd := denL_take (denL_drop h6 off) (len * k)
      refine ⟨_, _, _, rfl, hd, by rw [denL_length hd, hlen], fun g hg j u hu => ?_, fun hn => by cases hn⟩
      injection hg with hg
      subst hg
      rw [add_at, cell_of_row w e.b _ cs t0 (0, 0) h5, Nat.add_assoc]
      rw [List.getElem?_take] at hu
      split at hu
      · rw [List.getElem?_drop] at hu
        rw [h7 _ (lt_of_some hu)]
        exact hu
      · cases hu
    · exact (fail_ok.1 h2).elim
  · exact (fail_ok.1 h).elim

theorem isSliceT_ok {t : TypeId} {tx : Option TypeId} (h : isSliceT P tx = true) (ht : tx = some t) : ∃ e, P.underlying t = some (.slice e) := by
  subst ht
  unfold isSliceT at h
  simp only at h
  generalize hu : P.underlying t = du at h
  split at h
  · exact ⟨_, rfl⟩
  · cases h
theorem src_of {k m c : Nat} {tx : TypeId} {ad : Option Addr} {news : List Value} {e : TypeId} (hk : P.underlying tx = some (.slice e)) (hl : news.length = m * k) (hc : ∀ g, ad = some g → ∀ j u, news[j]? = some u → w.cell? (g.add j) = some u) (h0 : ad = none → m = 0)
    (h1 : ∀ v ∈ news, v.oneCell' = true) : Src P k tx (.slice ad m c) m news w := by
  cases ad with
  | none =>
    obtain rfl := h0 rfl
    have : news = [] := List.eq_nil_of_length_eq_zero (by omega)
    subst this
    exact Src.ofNil w hk c
  | some g => exact Src.ofSlice w hk g m c news hl (hc g rfl) h1
theorem append_room {t tx ty e : TypeId} {i : TypeInfo} (ht : P.underlying t = some (.slice e)) (hi : P.info? e = some i) (b o sLen sCap : Nat) (x : Value) (n : Nat) (news : List Value) (hs : Src P i.size tx x n news w)
    (hroom : sLen + n ≤ sCap) (hst : (storeCells ⟨b, o + sLen * i.size, none⟩ news).run P w = .ok () w') :
    (Builtin.append_ #[t, tx] ty #[.slice (some ⟨b, o, none⟩) sLen sCap, x]).run P w = .ok (.slice (some ⟨b, o, none⟩) (sLen + n) sCap) w' := by
  rcases hs.kind with ⟨e', hk⟩ | hk <;> simp [Builtin.append_, run_underlying ht, run_underlying hk, sizeOf, typeInfo, hi, hs.len, hroom, hs.cells, Addr.add_lit, hst]

/-- Cells are written behind a known row; it goes on from some element. -/
theorem row_extend {t : TypeId} {l m : List SV} {e : Spot} {own0 : List Nat} {off idx len k n : Nat} (h : CAt A P ρ B e own0 (.row l t) w) {us : List Value} (hm : denL ρ m = some us) (hk : P.cellsOf t = k) (hoff : off = idx * k) (hl : l.length = (idx + len) * k)
    (hn : us.length = n * k) (hcap : len + n ≤ e.cap - idx) (hk0 : k ≠ 0) (h1 : m.all SV.oneC = true) {ρ' : Names} (hle : ρ.le ρ') :
    ∃ w', (storeCells ⟨e.b, e.off + off + len * k, none⟩ us).run P w = .ok () w' ∧ ModP (fun b => b ∈ own0) w w' ∧ CAt A P ρ' B ⟨e.b, e.cap - idx, e.off + off, 0, 0, none⟩ own0 (.row (l.drop off ++ m) t) w' := by
  obtain ⟨ho, cs, vs, h2, h3, h4, h5, h6⟩ := h
  have hlv := denL_length h3
  rw [hk] at h5 h6
  have e1 : (idx + len) * k = idx * k + len * k := Nat.add_mul ..
  have e2 : (len + n) * k = len * k + n * k := Nat.add_mul ..
  have e3 : (len + n) * k ≤ (e.cap - idx) * k := Nat.mul_le_mul_right _ hcap
  have e4 : idx * k + (e.cap - idx) * k = e.cap * k ∨ e.cap < idx := by
    rcases Nat.lt_or_ge e.cap idx with hlt | hge
    · exact .inr hlt
    · left
      rw [← Nat.add_mul]
      congr 1
      omega
  have e5 : idx * k + (e.cap - idx) * k = e.cap * k := by
    rcases e4 with h | h
    · exact h
    · have hz : e.cap - idx = 0 := by omega
      rw [hz, Nat.zero_mul] at e3
      have : (idx + len) * k ≤ e.cap * k := by omega
      have := Nat.le_of_mul_le_mul_right this (by omega)
      omega
  have hst := run_storeCells_at (P := P) e.b (e.off + off + len * k) t us 0 cs w h2 (by simp only [Nat.add_zero]; omega) (oneC_all h1 hm)
  simp only [Nat.add_zero] at hst
  refine ⟨_, hst, ⟨rfl, rfl, rfl, by simp, fun q hq hnq => ?_⟩, ho, _, vs.drop off ++ us, setRow_heap w e.b cs _ t (0, 0) h2, ?_, ?_, ?_, ?_⟩
  · exact setRow_other w e.b q _ (fun hke => hnq (by rw [ho, hke]; simp))
  · exact denL_append.2 ⟨_, _, denL_drop (denL_mono hle _ _ h3) off, denL_mono hle _ _ hm, rfl⟩
  · intro i hi
    simp only [List.length_append, List.length_drop] at hi
    change (List.toArray _)[e.off + off + i]? = _
    rw [List.getElem?_toArray, List.append_assoc, splice_get (by simp; omega), List.getElem?_append, List.length_drop]
    by_cases g1 : i < len * k
    · rw [if_pos (by omega), if_pos (by omega), Array.getElem?_toList, List.getElem?_drop, Nat.add_assoc]
      exact h4 (off + i) (by omega)
    · rw [if_neg (by omega), if_pos (by omega), if_neg (by omega)]
      congr 1
      omega
  · rw [hk, List.length_append, List.length_drop]
    show _ ≤ (e.cap - idx) * k
    omega
  · rw [hk, List.size_toArray, List.append_assoc, splice_length (by simp; omega)]
    show e.off + off + (e.cap - idx) * k ≤ _
    simp
    omega
end
end Go.Proofs.Ytdjogfofedbohaa
end
section
/- What the executor says of append and copy, the machine does: the operations. No condition. -/
namespace Go.Proofs.Ytdjogfofedbohaa

section
variable {R : Type} {A : RepAt R} {P : Program} {B : Nat} {F : Nat → Prop} {st st1 st' : St R} {ρ ρ' : Names} {own own' : Nat → List Nat} {w w' : World}

theorem append_s {t tx ty : TypeId} {txo : Option TypeId} {x y s : SV} (h : appendX P t txo x y st = .ok s st') (htx : txo = some tx) : Fn st st' ∧ ∀ B F ρ own w a b, Sit A P B F st st' ρ own w → den ρ x = some a → den ρ y = some b →
    ∃ v ρ' own' w', (Builtin.append_ #[t, tx] ty #[a, b]).run P w = .ok v w' ∧ den ρ' s = some v ∧ Tr A P B F st st' ρ own w ρ' own' w' := by
  unfold appendX at h
  generalize hu : P.underlying t = du at h
  split at h
  · next elem =>
    obtain ⟨i, _, h1, h2⟩ := bind_ok.1 h
    obtain ⟨hi, rfl⟩ := opt_ok.1 h1
    obtain ⟨_, _, h3, h4⟩ := bind_ok.1 h2
    obtain ⟨hb, rfl⟩ := want_ok.1 h3
    obtain ⟨⟨m, cs⟩, st1, h5, h6⟩ := bind_ok.1 h4
    obtain ⟨q1, hsrc⟩ := src_s (A := A) (P := P) h5
    simp only [Bool.and_eq_true, Bool.not_eq_true'] at hb
    obtain ⟨⟨⟨hb1, hb2⟩, hb3⟩, hb4⟩ := hb
    have hb1 := Nat.ne_of_beq_eq_false hb1
    have hb2 := Nat.ne_of_beq_eq_false hb2
    obtain ⟨e', hkx⟩ := isSliceT_ok hb4 htx
    obtain ⟨zv, hz, hzs⟩ : ∃ z, i.zero = some z ∧ z.cells.size = i.size := by
      unfold zeroFits at hb3
      split at hb3
      · next z hz => exact ⟨z, hz, Nat.eq_of_beq_eq_true hb3⟩
      · cases hb3
    have hcell : P.cellsOf elem = i.size := by simp [Program.cellsOf, hi]
    clear h h1 h2 h3 h4 h5 hb4
    simp only at h6
    split at h6
    · -- nil
      cases m with
      | zero =>
        obtain ⟨rfl, rfl⟩ := ret_ok.1 h6
        refine ⟨q1.fn, fun B F ρ own w a b s ha hb => ?_⟩
        obtain ⟨ad, c, news, rfl, g1, g2, g3, g4⟩ := hsrc B F ρ own w b s.li s.log hb
        simp only [den, Option.some.injEq] at ha
        subst ha
        have hn : news = [] := List.eq_nil_of_length_eq_zero (by omega)
        subst hn
        exact ⟨_, _, _, _, run_append_nothing w t tx ty elem i hu hi none 0 0 (Nat.le_refl _) (.slice ad 0 c) (src_of hkx g2 g3 g4 (by simp)), rfl, s.quiet q1⟩
      | succ m =>
        obtain ⟨_, _, h7, h8⟩ := bind_ok.1 h6
        obtain ⟨h1c, rfl⟩ := want_ok.1 h7
        obtain ⟨_, st2, h9, h10⟩ := bind_ok.1 h8
        obtain ⟨q2, hq2⟩ := need_ok h9
        obtain ⟨n, st3, h11, h12⟩ := bind_ok.1 h10
        obtain ⟨rfl, rfl⟩ := newC_ok.1 h11
        obtain ⟨rfl, rfl⟩ := ret_ok.1 h12
        have q := q1.trans q2
        refine ⟨quiet_new q (.row cs elem), fun B F ρ own w a b s ha hb => ?_⟩
        have hby := hq2 s.ask
        simp only [decide_eq_true_eq] at hby
        obtain ⟨ad, c, news, rfl, g1, g2, g3, g4⟩ := hsrc B F ρ own w b s.li (fun n hn => s.log n (q2.fr n hn)) hb
        simp only [den, Option.some.injEq] at ha
        subst ha
        have hone := oneC_all h1c g1
        have hb1 : m + 1 ≤ (m + 1) * i.bytes := Nat.le_mul_of_pos_right _ (by omega)
        have hr := run_append_grow_src w t tx ty elem i zv hu hi hz none 0 0 [] (run_firstCells_none w.drew i.size 0 0 0) (.slice ad (m + 1) c) (m + 1) news (src_of hkx g2 g3 g4 hone) (by omega) (by omega) (growslice_fits (by omega) (by rw [Nat.zero_add]; omega))
        have hge := grownCap_ge w (0 + (m + 1)) 0 elem
        have s1 := s.of_quiet q
        generalize hgc : grownCap w (0 + (m + 1)) 0 elem = gc at hr hge
        have e2 : (m + 1) * i.size ≤ gc * i.size := Nat.mul_le_mul_right _ (by omega)
        have e3 : (m + 1) * i.size + (gc - (0 + (m + 1))) * i.size = gc * i.size := by
          rw [← Nat.add_mul]
          congr 1
          omega
        obtain ⟨ρ', own', ht, he⟩ := Tr.newRow (w1 := w.drew) s1 ⟨rfl, rfl, rfl, Nat.le_refl _, fun _ _ _ => rfl⟩ rfl rfl g1 (cs := ([] ++ news).toArray ++ Builtin.zeroCells zv.cells (gc - (0 + (m + 1)))) (fun j hj => by
          rw [Array.getElem?_append_left (by simpa using hj)]
          simp) gc (by rw [hcell]; omega) (by
          rw [hcell, Array.size_append, size_zeroCells, hzs]
          simp only [List.nil_append, List.size_toArray, g2]
          omega)
        refine ⟨_, ρ', own', _, hr, ?_, Tr.of_quiet q ht⟩
        simp only [den]
        rw [he]
        simp
    · -- empty
      next n =>
      cases m with
      | zero =>
        obtain ⟨rfl, rfl⟩ := ret_ok.1 h6
        refine ⟨q1.fn, fun B F ρ own w a b s ha hb => ?_⟩
        obtain ⟨ad, c, news, rfl, g1, g2, g3, g4⟩ := hsrc B F ρ own w b s.li s.log hb
        simp only [den, Option.map_eq_some_iff] at ha
        obtain ⟨e, he, rfl⟩ := ha
        have hn : news = [] := List.eq_nil_of_length_eq_zero (by omega)
        subst hn
        exact ⟨_, _, _, _, run_append_nothing w t tx ty elem i hu hi e.ad 0 e.cap (Nat.zero_le _) (.slice ad 0 c) (src_of hkx g2 g3 g4 (by simp)), by simp [den, he], s.quiet q1⟩
      | succ m => exact (fail_ok.1 h6).elim
    · next n off idx len =>
      obtain ⟨c, st2, h7, h8⟩ := bind_ok.1 h6
      obtain ⟨hc, rfl⟩ := getC_ok.1 h7
      split at h8
      · next l t' =>
        obtain ⟨_, _, h9, h10⟩ := bind_ok.1 h8
        obtain ⟨hw, rfl⟩ := want_ok.1 h9
        simp only [Bool.and_eq_true] at hw
        obtain ⟨⟨hw1, hw2⟩, hw3⟩ := hw
        have hw1 := Nat.eq_of_beq_eq_true hw1
        have hw2 := Nat.eq_of_beq_eq_true hw2
        have hw3 := Nat.le_of_ble_eq_true hw3
        clear h6 h7 h8 h9
        subst hw1
        have q2 : Quiet st1 { st1 with fr := insN n st1.fr } := Quiet.get
        have hc0 : hget n st.hp = some (.row l t') := by rw [← q1.hp]; exact hc
        cases m with
        | zero =>
          obtain ⟨rfl, rfl⟩ := ret_ok.1 h10
          have q := q1.trans q2
          refine ⟨q.fn, fun B F ρ own w a b s ha hb => ?_⟩
          obtain ⟨ad, c, news, rfl, g1, g2, g3, g4⟩ := hsrc B F ρ own w b s.li (fun n hn => s.log n (q2.fr n hn)) hb
          obtain ⟨e, he, _, cs', vs, h13, h14, _, h15, _⟩ := s.li.at_ n _ (s.log n (mem_ins.2 (.inl rfl))) hc0
          have hlen := denL_length h14
          simp only [den, he, Option.map_some, Option.some.injEq] at ha
          subst ha
          have hn : news = [] := List.eq_nil_of_length_eq_zero (by omega)
          subst hn
          have hcap : idx + len ≤ e.cap := by
            rw [hcell] at h15
            have : (idx + len) * i.size ≤ e.cap * i.size := by omega
            exact Nat.le_of_mul_le_mul_right this (by omega)
          exact ⟨_, _, _, _, run_append_nothing w t tx ty t' i hu hi _ len (e.cap - idx) (by omega) (.slice ad 0 c) (src_of hkx g2 g3 g4 (by simp)), by simp [den, he], s.quiet q⟩
        | succ m =>
          obtain ⟨_, _, h11, h12⟩ := bind_ok.1 h10
          obtain ⟨hw, rfl⟩ := want_ok.1 h11
          simp only [Bool.and_eq_true] at hw
          obtain ⟨hll, h1c⟩ := hw
          have hll := Nat.eq_of_beq_eq_true hll
          obtain ⟨_, st2, h13, h14⟩ := bind_ok.1 h12
          obtain ⟨q3, hq3⟩ := need_ok h13
          obtain ⟨_, st3, h15, h16⟩ := bind_ok.1 h14
          obtain ⟨_, rfl⟩ := delC_ok.1 h15
          obtain ⟨n', st4, h17, h18⟩ := bind_ok.1 h16
          obtain ⟨rfl, rfl⟩ := newC_ok.1 h17
          obtain ⟨rfl, rfl⟩ := ret_ok.1 h18
          have q := (q1.trans q2).trans q3
          have hc2 : hget n st2.hp = some (.row l t') := by rw [q.hp]; exact hc0
          refine ⟨q.fn.trans (Fn.move st2 n (.row (l.drop off ++ cs) t') _ hc2), fun B F ρ own w a b s ha hb => ?_⟩
          have s1 := s.of_quiet q
          have hby := hq3 s.ask
          simp only [decide_eq_true_eq] at hby
          have hF : F n := s.log n (mem_ins.2 (.inl rfl))
          obtain ⟨ad, c, news, rfl, g1, g2, g3, g4⟩ := hsrc B F ρ own w b s.li (fun k hk => s.log k (mem_ins.2 (.inr (q3.fr k (q2.fr k hk))))) hb
          obtain ⟨e, he, hat⟩ := s.li.at_ n _ hF hc0
          have hat' := hat
          obtain ⟨ho, cs', vs, h19, h20, h21, h22, h23⟩ := hat'
          have hlen := denL_length h20
          simp only [den, he, Option.map_some, Option.some.injEq] at ha
          subst ha
          have hone := oneC_all h1c g1
          have hsr : Src P i.size tx (.slice ad (m + 1) c) (m + 1) news w := src_of hkx g2 g3 g4 hone
          have hfr : ρ st2.nx = none := s1.fresh _ (newN_move.2 rfl)
          by_cases hroom : len + (m + 1) ≤ e.cap - idx
          · obtain ⟨w', hst, hm, hc'⟩ := row_extend (ρ' := ρ.put st2.nx ⟨e.b, e.cap - idx, e.off + off, 0, 0, none⟩) hat g1 hcell hw2 hll g2 hroom hb1 h1c (Names.put_le hfr)
            have hr := append_room (ty := ty) hu hi e.b (e.off + off) len (e.cap - idx) _ (m + 1) news hsr hroom hst
            have ht := Tr.move s1 hc2 _ (own n) hm hc' (fun b hb => .inl hb)
            refine ⟨_, _, _, _, hr, ?_, Tr.of_quiet q ht⟩
            simp only [den]
            rw [Names.put_same]
            simp [Nat.add_assoc]
          · have hd := denL_drop h20 off
            have hold : (Builtin.firstCells i.size len (.slice (some ⟨e.b, e.off + off, none⟩) len (e.cap - idx))).run P w.drew = .ok (vs.drop off).toArray w.drew := by
              refine run_firstCells_some w.drew i.size len _ _ _ _ ?_ (fun j u hu' => ?_)
              · rw [List.length_drop, hlen, hll, hw2, Nat.add_mul]
                omega
              · rw [add_at]
                show w.cell? _ = _
                rw [cell_of_row w e.b _ cs' t' (0, 0) h19, Nat.add_assoc]
                rw [List.getElem?_drop] at hu'
                rw [h21 _ (lt_of_some hu')]
                exact hu'
            have hb1' : len + (m + 1) ≤ (len + (m + 1)) * i.bytes := Nat.le_mul_of_pos_right _ (by omega)
            have hr := run_append_grow_src w t tx ty t' i zv hu hi hz (some ⟨e.b, e.off + off, none⟩) len (e.cap - idx) (vs.drop off) hold _ (m + 1) news hsr (by omega) (by rw [Nat.add_assoc] at hby; omega) (growslice_fits (by omega) (by rw [← Nat.add_assoc]; omega))
            have hge := grownCap_ge w (len + (m + 1)) (e.cap - idx) t'
            generalize grownCap w (len + (m + 1)) (e.cap - idx) t' = gc at hr hge
            have e0 : (len + (m + 1)) * i.size = len * i.size + (m + 1) * i.size := Nat.add_mul ..
            have e1 : (idx + len) * i.size = idx * i.size + len * i.size := Nat.add_mul ..
            have e2 : (len + (m + 1)) * i.size ≤ gc * i.size := Nat.mul_le_mul_right _ (by omega)
            have e3 : (len + (m + 1)) * i.size + (gc - (len + (m + 1))) * i.size = gc * i.size := by
              rw [← Nat.add_mul]
              congr 1
              omega
            have hmod : ModP (fun b => b ∈ own n) w (w.drew.alloc (.cells ((vs.drop off ++ news).toArray ++ Builtin.zeroCells zv.cells (gc - (len + (m + 1)))) t')) := ⟨rfl, rfl, rfl, by simp, fun k hk _ => RowKit.Below.heap_alloc w.drew _ k hk⟩
            have ht := Tr.move s1 hc2 ⟨w.heap.size, gc, 0, 0, 0, none⟩ [w.heap.size] hmod (c := .row (l.drop off ++ cs) t') ⟨rfl, _, vs.drop off ++ news, heap_alloc_new w.drew _, denL_append.2 ⟨_, _, denL_mono (Names.put_le hfr) _ _ hd, denL_mono (Names.put_le hfr) _ _ g1, rfl⟩, fun j hj => by
              change (_ ++ _ : Array Value)[0 + j]? = _
              rw [Nat.zero_add, Array.getElem?_append_left (by simpa using hj)]
              simp, by
              rw [hcell, List.length_append, List.length_drop]
              show _ ≤ gc * i.size
              omega, by
              rw [hcell, Array.size_append, size_zeroCells, hzs]
              simp only [List.size_toArray, List.length_append, List.length_drop]
              show 0 + gc * i.size ≤ _
              omega⟩ (fun b hb => .inr (by
              rw [List.mem_singleton] at hb
              subst hb
              exact ⟨Nat.le_refl _, by simp⟩))
            refine ⟨_, _, _, _, hr, ?_, Tr.of_quiet q ht⟩
            simp only [den]
            rw [Names.put_same]
            simp [Nat.add_assoc]
      · exact (fail_ok.1 h8).elim
    · exact (fail_ok.1 h6).elim
  · exact (fail_ok.1 h).elim

theorem copy_s {t tx ty : TypeId} {x y s : SV} (h : copyX P t x y st = .ok s st') : Fn st st' ∧ ∀ B F ρ own w a b, Sit A P B F st st' ρ own w → den ρ x = some a → den ρ y = some b →
    ∃ v ρ' own' w', (Builtin.copy_ #[t, tx] ty #[a, b]).run P w = .ok v w' ∧ den ρ' s = some v ∧ Tr A P B F st st' ρ own w ρ' own' w' := by
  unfold copyX at h
  generalize hu : P.underlying t = du at h
  split at h
  · next elem =>
    obtain ⟨i, _, h1, h2⟩ := bind_ok.1 h
    obtain ⟨hi, rfl⟩ := opt_ok.1 h1
    obtain ⟨⟨m, cs⟩, st1, h3, h4⟩ := bind_ok.1 h2
    obtain ⟨q1, hsrc⟩ := src_s (A := A) (P := P) h3
    have hsz : szT P elem = some i.size := by simp [szT, hi]
    split at h4
    · next n off idx len =>
      simp only at h4
      have hlo : ∀ {ad c} (w : World), (Builtin.lenOf (.slice ad m c)).run P w = .ok m w := fun _ => rfl
      cases hmin : Nat.min m len with
      | zero =>
        rw [hmin] at h4
        obtain ⟨rfl, rfl⟩ := ret_ok.1 h4
        refine ⟨q1.fn, fun B F ρ own w a b s ha hb => ?_⟩
        obtain ⟨ad, c, news, rfl, g1, g2, g3, g4⟩ := hsrc B F ρ own w b s.li s.log hb
        simp only [den, Option.map_eq_some_iff] at ha
        obtain ⟨e, he, rfl⟩ := ha
        refine ⟨_, _, _, w, ?_, rfl, s.quiet q1⟩
        have hf : (Builtin.firstCells i.size 0 (.slice ad m c)).run P w = .ok #[] w := by
          cases ad with
          | none => exact run_firstCells_none w i.size 0 m c
          | some g => exact run_firstCells_some w i.size 0 g m c [] (by simp) (fun j v hv => by simp at hv)
        simp only [Builtin.copy_, List.getElem?_toArray, List.getElem?_cons_zero, List.getElem?_cons_succ, Sem.run_bind, run_underlying hu w, Result.andThen_ok, hlo, hmin, szT_run hsz w, hf, storeCells, Sem.run_pure]
        rfl
      | succ k =>
        rw [hmin] at h4
        obtain ⟨cs', _, h5, h6⟩ := bind_ok.1 h4
        obtain ⟨hcut, rfl⟩ := opt_ok.1 h5
        obtain ⟨c, st2, h7, h8⟩ := bind_ok.1 h6
        obtain ⟨hc, rfl⟩ := getC_ok.1 h7
        split at h8
        · next l t' =>
          obtain ⟨_, _, h9, h10⟩ := bind_ok.1 h8
          obtain ⟨hw, rfl⟩ := want_ok.1 h9
          obtain ⟨_, st3, h11, h12⟩ := bind_ok.1 h10
          obtain ⟨_, rfl⟩ := setC_ok.1 h11
          obtain ⟨rfl, rfl⟩ := ret_ok.1 h12
          simp only [Bool.and_eq_true] at hw
          obtain ⟨hw1, hw2⟩ := hw
          have hw1 := Nat.le_of_ble_eq_true hw1
          have q2 : Quiet st1 { st1 with fr := insN n st1.fr } := Quiet.get
          have q := q1.trans q2
          refine ⟨q.fn.trans (Fn.set _ n _ _ hc), fun B F ρ own w a b s ha hb => ?_⟩
          have s1 := s.of_quiet q
          have hsub : ∀ z ∈ st1.fr, z ∈ insN n (insN n st1.fr) := fun z hz => mem_ins.2 (.inr (mem_ins.2 (.inr hz)))
          obtain ⟨ad, c, news, rfl, g1, g2, g3, g4⟩ := hsrc B F ρ own w b s.li (fun z hz => s.log z (hsub z hz)) hb
          obtain ⟨e, he, hat⟩ := s1.li.at_ n _ (s1.log n (mem_ins.2 (.inl rfl))) hc
          simp only [den, he, Option.map_some, Option.some.injEq] at ha
          subst ha
          obtain ⟨rfl, hcl⟩ := cut_ok hcut
          simp only [List.drop_zero] at hcl hw2 ⊢
          have hd := denL_take g1 ((k + 1) * i.size)
          have hdl := denL_length hd
          obtain ⟨w', hst, hm, hc'⟩ := row_write (off := off) hat hd (by rw [hcl]; omega) hw2
          refine ⟨_, _, _, w', ?_, rfl, Tr.of_quiet q (Tr.set s1 hc he (own n) hm hc' (fun b hb => .inl hb))⟩
          have hkm : k + 1 ≤ m := by rw [← hmin]; exact Nat.min_le_left _ _
          have hf : (Builtin.firstCells i.size (k + 1) (.slice ad m c)).run P w = .ok (news.take ((k + 1) * i.size)).toArray w := by
            cases ad with
            | none => have := g4 rfl; omega
            | some g => exact run_firstCells_some w i.size (k + 1) g m c _ (by rw [hdl, hcl]) (fun j v hv => by
                rw [List.getElem?_take] at hv
                split at hv
                · exact g3 g rfl j v hv
                · cases hv)
          simp only [Builtin.copy_, List.getElem?_toArray, List.getElem?_cons_zero, List.getElem?_cons_succ, Sem.run_bind, run_underlying hu w, Result.andThen_ok, hlo, hmin, szT_run hsz w, hf, hst, Sem.run_pure]
          rfl
        · exact (fail_ok.1 h8).elim
    · exact (fail_ok.1 h4).elim
  · exact (fail_ok.1 h).elim
end
end Go.Proofs.Ytdjogfofedbohaa
end
section
/- What the executor says of an operation, the machine does, if it does so of calls. No condition. -/
namespace Go.Proofs.Ytdjogfofedbohaa

section
variable {R : Type} (A : RepAt R) (P : Program)
def CallS (f : FuncId) (args : List SV) (st st' : St R) (s : SV) : Prop := Fn st st' ∧ ∀ B F ρ own w vals, Sit A P B F st st' ρ own w → denL ρ args = some vals →
  Calls P f vals.toArray w fun e w' => ∃ x ρ' own', e = .returned x ∧ den ρ' s = some x ∧ Tr A P B F st st' ρ own w ρ' own' w'
def OpS (o : Oper) (ev : Operand → Option SV) (st st' : St R) (s : SV) : Prop := Fn st st' ∧ ∀ B F ρ own w a, Sit A P B F st st' ρ own w → Ev ρ ev a → ∀ (K : Act → World → Prop) (Q : Exit → Act → World → Prop),
  (∀ x ρ' own' w', Tr A P B F st st' ρ own w ρ' own' w' → den ρ' s = some x → K (a.put o.dst x) w') → o.wp P a w K Q
def CallOK (call : FuncId → List SV → M R SV) : Prop := ∀ f args st s st', call f args st = .ok s st' → CallS A P f args st st' s
structure HkOK (call : Hk R) : Prop where
  fn : CallOK A P call.fn
  ext : ∀ ev o m, call.ext ev o = some m → ∀ st s st', m st = .ok s st' → OpS A P o ev st st' s
variable {A P}
variable {st st' : St R} {o : Oper} {a : Act} {w w' : World} {K : Act → World → Prop} {Q : Exit → Act → World → Prop}

theorem intSV_ok {ρ : Names} {s : SV} {n : Int} {x : Value} (h : intSV s = some n) (hx : den ρ s = some x) : ∃ k, x = .int k n := by
  unfold intSV at h
  split at h
  · next k m =>
    injection h with h
    subst h
    simp only [den, Option.some.injEq] at hx
    exact ⟨k, hx.symm⟩
  · cases h
theorem wp_val {x : Value} (h : (execOp a.eval o).run P w = .ok (.value x) w') (hk : K (a.put o.dst x) w') : o.wp P a w K Q := by
  unfold Oper.wp
  rw [h]
  exact hk
theorem wp_unit (h : (execOp a.eval o).run P w = .ok .skip w') (hk : K (a.put o.dst undef) w') : o.wp P a w K Q := by
  unfold Oper.wp
  rw [h]
  exact hk
theorem wp_enter {f : FuncId} {args : Array Value} (h : (execOp a.eval o).run P w = .ok (.enter f args) w) (hk : Calls P f args w fun e w' => ∃ x, e = .returned x ∧ K (a.put o.dst x) w') : o.wp P a w K Q := by
  unfold Oper.wp
  rw [h]
  exact hk.mono fun e w' ⟨x, he, hx⟩ => by subst he; exact hx
theorem vrun {m : Sem Value} {x : Value} (h : m.run P w = .ok x w') : (do pure (.value (← m)) : Sem Next).run P w = .ok (.value x) w' := by
  rw [Sem.run_bind, h]
  rfl
theorem okFn_run {g : FuncId} (h : okFn P g = true) (args : Array Value) : (callFunc g args).run P w = .ok (.enter g args) w := by
  unfold okFn at h
  cases hf : P.funcs[g]? with
  | none => rw [hf] at h; cases h
  | some fn =>
    rw [hf] at h
    simp only [Bool.and_eq_true, bne_iff_ne, ne_eq] at h
    have hb : fn.body.isNone = false := by
      cases hbo : fn.body with
      | none => rw [hbo] at h; cases h.1
      | some _ => rfl
    simp only [callFunc, Sem.run_bind, run_program, Result.andThen_ok, hf, beq_iff_eq, h.2, if_false, hb, Bool.false_eq_true, Sem.run_pure]
theorem lenX_run {ρ : Names} {t ty : TypeId} {x s : SV} {v : Value} (h : lenX P t ty x = some s) (hx : den ρ x = some v) : ∃ y, den ρ s = some y ∧ ∀ w, (Builtin.len_ #[t] ty #[v]).run P w = .ok y w := by
  unfold lenX at h
  split at h
  · split at h <;> cases h
    next e hu =>
    simp only [den, Option.map_eq_some_iff] at hx
    obtain ⟨en, _, rfl⟩ := hx
    exact ⟨_, rfl, fun w => by simp only [Builtin.len_, List.getElem?_toArray, List.getElem?_cons_zero, Sem.run_bind, run_underlying hu w, Result.andThen_ok]; rfl⟩
  · split at h <;> cases h
    next e hu =>
    simp only [den, Option.map_eq_some_iff] at hx
    obtain ⟨en, _, rfl⟩ := hx
    exact ⟨_, rfl, fun w => by simp only [Builtin.len_, List.getElem?_toArray, List.getElem?_cons_zero, Sem.run_bind, run_underlying hu w, Result.andThen_ok]; rfl⟩
  · split at h <;> cases h
    next e hu =>
    simp only [den, Option.map_eq_some_iff] at hx
    obtain ⟨en, _, rfl⟩ := hx
    exact ⟨_, rfl, fun w => by simp only [Builtin.len_, List.getElem?_toArray, List.getElem?_cons_zero, Sem.run_bind, run_underlying hu w, Result.andThen_ok]; rfl⟩
  · simp only [Option.map_eq_some_iff] at h
    obtain ⟨y, hy, rfl⟩ := h
    simp only [den, Option.some.injEq] at hx
    subst hx
    exact ⟨y, rfl, pureRun_run hy⟩
  · cases h
theorem builtin_s {b : Builtin} {argTypes : Array TypeId} {ty : TypeId} {args : List SV} {s : SV} (h : builtinX P b argTypes.toList ty args st = .ok s st') : Fn st st' ∧ ∀ B F ρ own w vals cs, Sit A P B F st st' ρ own w → denL ρ args = some (Array.toList vals) →
    ∃ y ρ' own' w', (builtin b argTypes ty cs vals).run P w = .ok (.value y) w' ∧ den ρ' s = some y ∧ Tr A P B F st st' ρ own w ρ' own' w' := by
  generalize hat : argTypes.toList = la at h
  unfold builtinX at h
  split at h
  · next t x =>
    obtain ⟨hl, rfl⟩ := opt_ok.1 h
    have ea : argTypes = #[t] := Array.ext' hat
    subst ea
    refine ⟨Fn.refl _, fun B F ρ own w vals cs si hd => ?_⟩
    obtain ⟨u, _, g1, g2, g3⟩ := denL_cons.1 hd
    simp only [denL, Option.some.injEq] at g2
    subst g2
    have ev : vals = #[u] := Array.ext' g3
    subst ev
    obtain ⟨y, h1, h2⟩ := lenX_run hl g1
    exact ⟨y, ρ, own, w, vrun (h2 w), h1, si.quiet (Quiet.refl _)⟩
  · next t tx x y =>
    have ea : argTypes = #[t, tx] := Array.ext' hat
    subst ea
    obtain ⟨hf, hs⟩ := append_s (A := A) (ty := ty) h rfl
    refine ⟨hf, fun B F ρ own w vals cs si hd => ?_⟩
    obtain ⟨u, _, g1, g2, g3⟩ := denL_cons.1 hd
    obtain ⟨v, _, g4, g5, rfl⟩ := denL_cons.1 g2
    simp only [denL, Option.some.injEq] at g5
    subst g5
    have ev : vals = #[u, v] := Array.ext' g3
    subst ev
    obtain ⟨r, ρ', own', w', h1, h2, h3⟩ := hs B F ρ own w u v si g1 g4
    exact ⟨r, ρ', own', w', vrun h1, h2, h3⟩
  · next t tx x y =>
    have ea : argTypes = #[t, tx] := Array.ext' hat
    subst ea
    obtain ⟨hf, hs⟩ := copy_s (A := A) (tx := tx) (ty := ty) h
    refine ⟨hf, fun B F ρ own w vals cs si hd => ?_⟩
    obtain ⟨u, _, g1, g2, g3⟩ := denL_cons.1 hd
    obtain ⟨v, _, g4, g5, rfl⟩ := denL_cons.1 g2
    simp only [denL, Option.some.injEq] at g5
    subst g5
    have ev : vals = #[u, v] := Array.ext' g3
    subst ev
    obtain ⟨r, ρ', own', w', h1, h2, h3⟩ := hs B F ρ own w u v si g1 g4
    exact ⟨r, ρ', own', w', vrun h1, h2, h3⟩
  · exact (fail_ok.1 h).elim

theorem op_s {call : Hk R} (hcall : HkOK A P call) {ev : Operand → Option SV} {s : SV} (h : opX P call ev o st = .ok s st') : OpS A P o ev st st' s := by
  obtain ⟨dst, op, ty, pos, aft, gu⟩ := o
  have plain : ∀ {s}, plainX P ev op = some s → ∀ {st' : St R}, st' = st → OpS A P ⟨dst, op, ty, pos, aft, gu⟩ ev st st' s := by
    rintro s hp st' rfl
    refine ⟨Fn.refl _, fun B F ρ own w a si hev K Q hk => ?_⟩
    obtain ⟨x, h1, h2⟩ := plain_run (o := ⟨dst, op, ty, pos, aft, gu⟩) hp hev
    exact wp_val (h2 w) (hk x ρ own w (si.quiet (Quiet.refl _)) h1)
  unfold opX at h
  cases hx : call.ext ev ⟨dst, op, ty, pos, aft, gu⟩ with
  | some m =>
    rw [hx] at h
    exact hcall.ext _ _ _ hx _ _ _ h
  | none =>
  rw [hx] at h
  cases op <;> simp only at h <;> (try (obtain ⟨hp, rfl⟩ := opt_ok.1 h; exact plain hp rfl))
  case pick c x y =>
    obtain ⟨sc, _, h1, h2⟩ := bind_ok.1 h
    obtain ⟨hc, rfl⟩ := opt_ok.1 h1
    split at h2
    · next t =>
      obtain ⟨r, st1, h3, h4⟩ := bind_ok.1 h2
      obtain ⟨q, hq⟩ := ask_ok h3
      cases r with
      | true =>
        obtain ⟨hx, rfl⟩ := opt_ok.1 h4
        refine ⟨q.fn, fun B F ρ own w a si hev K Q hk => wp_val (x := a.eval x) ?_ (hk _ ρ own w (si.quiet q) (hev _ _ hx))⟩
        have e := hev _ _ hc
        simp only [den, Option.some.injEq] at e
        simp only [execOp, ← e, asBool, Sem.run_bind, Sem.run_pure, Result.andThen_ok, hq si.ask, if_true]
      | false =>
        obtain ⟨hx, rfl⟩ := opt_ok.1 h4
        refine ⟨q.fn, fun B F ρ own w a si hev K Q hk => wp_val (x := a.eval y) ?_ (hk _ ρ own w (si.quiet q) (hev _ _ hx))⟩
        have e := hev _ _ hc
        simp only [den, Option.some.injEq] at e
        simp only [execOp, ← e, asBool, Sem.run_bind, Sem.run_pure, Result.andThen_ok, hq si.ask, Bool.false_eq_true, if_false]
    · exact (fail_ok.1 h2).elim
  case alloc t =>
    obtain ⟨z, _, h1, h2⟩ := bind_ok.1 h
    obtain ⟨hz, rfl⟩ := opt_ok.1 h1
    obtain ⟨k, _, h3, h4⟩ := bind_ok.1 h2
    obtain ⟨hk, rfl⟩ := opt_ok.1 h3
    obtain ⟨_, _, h5, h6⟩ := bind_ok.1 h4
    obtain ⟨hl, rfl⟩ := want_ok.1 h5
    obtain ⟨n, st1, h7, h8⟩ := bind_ok.1 h6
    obtain ⟨rfl, rfl⟩ := newC_ok.1 h7
    obtain ⟨rfl, rfl⟩ := ret_ok.1 h8
    obtain ⟨hf, hs⟩ := alloc_s (A := A) (st := st) hz hk (Nat.eq_of_beq_eq_true hl)
    refine ⟨hf, fun B F ρ own w a si hev K Q hk => ?_⟩
    obtain ⟨y, ρ', own', w', g1, g2, g3⟩ := hs B F ρ own w si
    exact wp_val (vrun g1) (hk y ρ' own' w' g3 g2)
  case box t x =>
    obtain ⟨v, _, h1, h2⟩ := bind_ok.1 h
    obtain ⟨hv, rfl⟩ := opt_ok.1 h1
    obtain ⟨k, _, h3, h4⟩ := bind_ok.1 h2
    obtain ⟨hk, rfl⟩ := opt_ok.1 h3
    obtain ⟨_, _, h5, h6⟩ := bind_ok.1 h4
    obtain ⟨hl, rfl⟩ := want_ok.1 h5
    obtain ⟨n, st1, h7, h8⟩ := bind_ok.1 h6
    obtain ⟨rfl, rfl⟩ := newC_ok.1 h7
    obtain ⟨rfl, rfl⟩ := ret_ok.1 h8
    obtain ⟨hf, hs⟩ := box_s (A := A) (st := st) hk (Nat.eq_of_beq_eq_true hl)
    refine ⟨hf, fun B F ρ own w a si hev K Q hk => ?_⟩
    obtain ⟨y, ρ', own', w', g1, g2, g3⟩ := hs B F ρ own w _ si (hev _ _ hv)
    exact wp_val (vrun g1) (hk y ρ' own' w' g3 g2)
  case buildSlice t len parts =>
    obtain ⟨ps, _, h1, h2⟩ := bind_ok.1 h
    obtain ⟨hps, rfl⟩ := opt_ok.1 h1
    obtain ⟨r, _, h3, h4⟩ := bind_ok.1 h2
    obtain ⟨hr, rfl⟩ := opt_ok.1 h3
    obtain ⟨elem, l⟩ := r
    obtain ⟨n, st1, h7, h8⟩ := bind_ok.1 h4
    obtain ⟨rfl, rfl⟩ := newC_ok.1 h7
    obtain ⟨rfl, rfl⟩ := ret_ok.1 h8
    obtain ⟨hf, hs⟩ := buildSlice_s (A := A) (st := st) hr
    refine ⟨hf, fun B F ρ own w a si hev K Q hk => ?_⟩
    have h2 := mapM_two (g := fun (p : Nat × Operand) => (p.1, a.eval p.2)) (R := fun (p : Nat × SV) (q : Nat × Value) => p.1 = q.1 ∧ den ρ p.2 = some q.2) (fun p b hb => by
      simp only [Option.map_eq_some_iff] at hb
      obtain ⟨s, hs, rfl⟩ := hb
      exact ⟨rfl, hev _ _ hs⟩) hps
    obtain ⟨y, ρ', own', w', g1, g2, g3⟩ := hs B F ρ own w (parts.map fun (i, x) => (i, a.eval x)) si (by simpa using h2)
    exact wp_val (vrun g1) (hk y ρ' own' w' g3 g2)
  case load t x =>
    obtain ⟨v, _, h1, h2⟩ := bind_ok.1 h
    obtain ⟨hv, rfl⟩ := opt_ok.1 h1
    have q := loadX_quiet h2
    refine ⟨q.fn, fun B F ρ own w a si hev K Q hk => ?_⟩
    obtain ⟨y, g1, g2⟩ := loadX_run h2 si.li si.log (hev _ _ hv)
    exact wp_val (vrun g2) (hk y ρ own w (si.quiet q) g1)
  case store t x y =>
    obtain ⟨sx, _, h1, h2⟩ := bind_ok.1 h
    obtain ⟨hx, rfl⟩ := opt_ok.1 h1
    obtain ⟨sy, _, h3, h4⟩ := bind_ok.1 h2
    obtain ⟨hy, rfl⟩ := opt_ok.1 h3
    obtain ⟨_, st1, h5, h6⟩ := bind_ok.1 h4
    obtain ⟨rfl, rfl⟩ := ret_ok.1 h6
    obtain ⟨hf, hs⟩ := store_s (A := A) h5
    refine ⟨hf, fun B F ρ own w a si hev K Q hk => ?_⟩
    obtain ⟨ρ', own', w', g1, g2⟩ := hs B F ρ own w _ _ si (hev _ _ hx) (hev _ _ hy)
    refine wp_unit ?_ (hk undef ρ' own' w' g2 rfl)
    simp only [execOp, Sem.run_bind, g1, Result.andThen_ok]
    rfl
  case makeSlice t len cap =>
    obtain ⟨zn, _, h1, h2⟩ := bind_ok.1 h
    obtain ⟨hn, rfl⟩ := opt_ok.1 h1
    obtain ⟨zc, _, h3, h4⟩ := bind_ok.1 h2
    obtain ⟨hc, rfl⟩ := opt_ok.1 h3
    simp only [Option.bind_eq_some_iff] at hn hc
    obtain ⟨s1, hs1, hn⟩ := hn
    obtain ⟨s2, hs2, hc⟩ := hc
    generalize hu : P.underlying t = du at h4
    split at h4
    · next elem =>
      obtain ⟨i, _, h5, h6⟩ := bind_ok.1 h4
      obtain ⟨hi, rfl⟩ := opt_ok.1 h5
      obtain ⟨_, st0, h7, h8⟩ := bind_ok.1 h6
      obtain ⟨q, hq⟩ := need_ok h7
      obtain ⟨z, _, h9, h10⟩ := bind_ok.1 h8
      obtain ⟨hz, rfl⟩ := opt_ok.1 h9
      obtain ⟨m, st1, h11, h12⟩ := bind_ok.1 h10
      obtain ⟨rfl, rfl⟩ := newC_ok.1 h11
      obtain ⟨rfl, rfl⟩ := ret_ok.1 h12
      refine ⟨quiet_new q (.row z elem), fun B F ρ own w a si hev K Q hk => ?_⟩
      have hb := hq si.ask
      rw [Bool.and_eq_true, Bool.and_eq_true, decide_eq_true_eq, decide_eq_true_eq] at hb
      obtain ⟨⟨hb1, hb2⟩, hb3⟩ := hb
      obtain ⟨hf, hs⟩ := makeSlice_s (A := A) (st := st0) hu hi hb3 hz
      obtain ⟨k1, e1⟩ := intSV_ok hn (hev _ _ hs1)
      obtain ⟨k2, e2⟩ := intSV_ok hc (hev _ _ hs2)
      obtain ⟨y, ρ', own', w', g1, g2, g3⟩ := hs B F ρ own w k1 k2 (si.of_quiet q)
      rw [Int.toNat_of_nonneg hb1, Int.toNat_of_nonneg hb2] at g1
      exact wp_val (vrun (by rw [e1, e2]; exact g1)) (hk y ρ' own' w' (Tr.of_quiet q g3) g2)
    · exact (fail_ok.1 h4).elim
  case slice t x lo hi mx =>
    cases mx with
    | some _ => 
      obtain ⟨hp, rfl⟩ := opt_ok.1 h
      exact plain hp rfl
    | none =>
      obtain ⟨sx, _, h1, h2⟩ := bind_ok.1 h
      obtain ⟨hx, rfl⟩ := opt_ok.1 h1
      obtain ⟨sl, _, h3, h4⟩ := bind_ok.1 h2
      obtain ⟨hl, rfl⟩ := opt_ok.1 h3
      obtain ⟨sh, _, h5, h6⟩ := bind_ok.1 h4
      obtain ⟨hh, rfl⟩ := opt_ok.1 h5
      obtain ⟨hf, hs⟩ := slice_s (A := A) h6
      refine ⟨hf, fun B F ρ own w a si hev K Q hk => ?_⟩
      have side : ∀ {x : Option Operand} {r : Option SV}, (match x with | some l => (ev l).map some | none => some none) = some r → (∀ l, r = some l → ∃ v, x.map a.eval = some v ∧ den ρ l = some v) ∧ (r = none → x.map a.eval = none) := by
        intro x r hr
        cases x with
        | none =>
          simp only [Option.some.injEq] at hr
          subst hr
          exact ⟨(fun l hl => by cases hl), fun _ => rfl⟩
        | some l =>
          simp only [Option.map_eq_some_iff] at hr
          obtain ⟨s, hs, rfl⟩ := hr
          exact ⟨(fun l' hl' => by injection hl' with hl'; subst hl'; exact ⟨_, rfl, hev _ _ hs⟩), fun hn => by cases hn⟩
      obtain ⟨y, ρ', own', w', g1, g2, g3⟩ := hs B F ρ own w _ _ _ si (hev _ _ hx) (side hl).1 (side hl).2 (side hh).1 (side hh).2
      exact wp_val (vrun g1) (hk y ρ' own' w' g3 g2)
  case indexAddr t x i =>
    obtain ⟨sx, _, h1, h2⟩ := bind_ok.1 h
    obtain ⟨hx, rfl⟩ := opt_ok.1 h1
    obtain ⟨si', _, h3, h4⟩ := bind_ok.1 h2
    obtain ⟨hi, rfl⟩ := opt_ok.1 h3
    obtain ⟨q, hs⟩ := idx_s (A := A) h4
    refine ⟨q.fn, fun B F ρ own w a si hev K Q hk => ?_⟩
    obtain ⟨y, g1, g2⟩ := hs B F ρ own w _ _ si (hev _ _ hx) (hev _ _ hi)
    exact wp_val (vrun g1) (hk y ρ own w (si.quiet q) g2)
  case call c =>
    obtain ⟨callee, cargs, argTypes⟩ := c
    obtain ⟨args, _, h1, h2⟩ := bind_ok.1 h
    obtain ⟨hargs, rfl⟩ := opt_ok.1 h1
    have hden : ∀ {ρ : Names} {a : Act}, Ev ρ ev a → denL ρ args = some (cargs.toList.map a.eval) := fun hev => ev_list hev hargs
    cases callee with
    | builtin b =>
      obtain ⟨hf, hs⟩ := builtin_s (A := A) h2
      refine ⟨hf, fun B F ρ own w a si hev K Q hk => ?_⟩
      obtain ⟨y, ρ', own', w', g1, g2, g3⟩ := hs B F ρ own w (cargs.map a.eval) (cargs.map fun | .const _ => true | _ => false) si (by simpa using hden hev)
      refine wp_val ?_ (hk y ρ' own' w' g3 g2)
      simp only [execOp, resolve, Sem.run_bind, Sem.run_pure, Result.andThen_ok, invoke]
      exact g1
    | value f =>
      obtain ⟨sf, _, h3, h4⟩ := bind_ok.1 h2
      obtain ⟨hf, rfl⟩ := opt_ok.1 h3
      split at h4
      · next g a1 a2 =>
        obtain ⟨_, _, h5, h6⟩ := bind_ok.1 h4
        obtain ⟨hb, rfl⟩ := want_ok.1 h5
        simp only [Bool.and_eq_true] at hb
        obtain ⟨⟨hok, he1⟩, he2⟩ := hb
        have he1 := Array.eq_empty_of_size_eq_zero (Nat.eq_of_beq_eq_true he1)
        have he2 := Array.eq_empty_of_size_eq_zero (Nat.eq_of_beq_eq_true he2)
        subst he1
        subst he2
        obtain ⟨hfn, hs⟩ := hcall.fn g args st s st' h6
        refine ⟨hfn, fun B F ρ own w a si hev K Q hk => ?_⟩
        have e := hev _ _ hf
        simp only [den, Option.some.injEq] at e
        refine wp_enter (f := g) (args := (cargs.toList.map a.eval).toArray) ?_ ((hs B F ρ own w _ si (hden hev)).mono fun e w' ⟨x, ρ', own', h7, h8, h9⟩ => ⟨x, h7, hk x ρ' own' w' h9 h8⟩)
        simp only [execOp, resolve, ← e, Deferred.ofValue, Sem.run_bind, Sem.run_pure, Result.andThen_ok, invoke]
        refine Eq.trans (congrArg (fun z => Sem.run P (callFunc g z) w) ?_) (okFn_run hok _)
        apply Array.ext'
        simp
      · next g a1 a2 =>
        obtain ⟨_, _, h5, h6⟩ := bind_ok.1 h4
        obtain ⟨hok, rfl⟩ := want_ok.1 h5
        obtain ⟨hfn, hs⟩ := hcall.fn g _ st s st' h6
        refine ⟨hfn, fun B F ρ own w a si hev K Q hk => ?_⟩
        have e := hev _ _ hf
        simp only [den] at e
        split at e
        · next va vc hva hvc =>
          simp only [Option.some.injEq] at e
          have hall : denL ρ (a1 ++ (args ++ a2)) = some (va ++ (cargs.toList.map a.eval ++ vc)) := denL_append.2 ⟨_, _, hva, denL_append.2 ⟨_, _, hden hev, hvc, rfl⟩, rfl⟩
          refine wp_enter (f := g) (args := (va ++ (cargs.toList.map a.eval ++ vc)).toArray) ?_ ((hs B F ρ own w _ si hall).mono fun e w' ⟨x, ρ', own', h7, h8, h9⟩ => ⟨x, h7, hk x ρ' own' w' h9 h8⟩)
          simp only [execOp, resolve, ← e, Deferred.ofValue, Sem.run_bind, Sem.run_pure, Result.andThen_ok, invoke]
          refine Eq.trans (congrArg (fun z => Sem.run P (callFunc g z) w) ?_) (okFn_run hok _)
          apply Array.ext'
          simp
        · cases e
      · exact (fail_ok.1 h4).elim
    | invoke r name =>
      obtain ⟨sr, _, h3, h4⟩ := bind_ok.1 h2
      obtain ⟨hr, rfl⟩ := opt_ok.1 h3
      split at h4
      · next t x =>
        obtain ⟨g, _, h5, h6⟩ := bind_ok.1 h4
        obtain ⟨hm, rfl⟩ := opt_ok.1 h5
        obtain ⟨_, _, h7, h8⟩ := bind_ok.1 h6
        obtain ⟨hok, rfl⟩ := want_ok.1 h7
        obtain ⟨hfn, hs⟩ := hcall.fn g _ st s st' h8
        refine ⟨hfn, fun B F ρ own w a si hev K Q hk => ?_⟩
        have e := hev _ _ hr
        simp only [den, Option.map_eq_some_iff] at e
        obtain ⟨v, hv, e⟩ := e
        refine wp_enter (f := g) (args := (v :: cargs.toList.map a.eval).toArray) ?_ ((hs B F ρ own w _ si (denL_cons.2 ⟨_, _, hv, hden hev, rfl⟩)).mono fun e w' ⟨x, ρ', own', h7, h8, h9⟩ => ⟨x, h7, hk x ρ' own' w' h9 h8⟩)
        have hx : (cargs.map a.eval).toList = cargs.toList.map a.eval := by simp
        have hsz : (#[a.eval r] ++ cargs.map a.eval)[0]? = some (a.eval r) := by
          rw [Array.getElem?_append_left (by simp)]
          rfl
        have hex : (#[a.eval r] ++ cargs.map a.eval).extract 1 (#[a.eval r] ++ cargs.map a.eval).size = cargs.map a.eval := by
          apply Array.ext'
          simp
          rw [List.take_of_length_le (by simp)]
        rw [← e] at hsz hex
        simp only [execOp, resolve, Sem.run_bind, Sem.run_pure, Result.andThen_ok, invoke, hsz, hex, ← e, callMethod, run_program]
        rw [show P.types.size + Made.depth = (P.types.size + 99) + 1 from rfl, methodX_run hm v _ w]
        simp only [Result.andThen_ok]
        refine Eq.trans (congrArg (fun z => Sem.run P (callFunc g z) w) ?_) (okFn_run hok _)
        apply Array.ext'
        simp
      · exact (fail_ok.1 h4).elim
end
end Go.Proofs.Ytdjogfofedbohaa
end
section
/- A region in the order of its text. No condition. -/
namespace Go.Proofs.Ytdjogfofedbohaa

def EnvR (ρ : Names) (e : Env) (a : Act) : Prop := ∀ t s, elook t e = some s → ∃ x, a.tmps[t]? = some x ∧ den ρ s = some x

section
variable {R : Type} {A : RepAt R} {P : Program} {st st' : St R} {ρ ρ' : Names} {e : Env} {a : Act}
theorem EnvR.mono (h : EnvR ρ e a) (hle : ρ.le ρ') : EnvR ρ' e a := fun t s hs => by
  obtain ⟨x, h1, h2⟩ := h t s hs
  exact ⟨x, h1, den_mono hle _ _ h2⟩
theorem EnvR.ev (h : EnvR ρ e a) : Ev ρ (evX e) a := by
  intro x s hx
  cases x with
  | tmp t =>
    obtain ⟨y, h1, h2⟩ := h t s hx
    rw [h2]
    simp only [Act.eval, Array.getD_eq_getD_getElem?, h1]
    rfl
  | const c =>
    simp only [evX, Option.some.injEq] at hx
    subst hx
    rfl
  | func f =>
    simp only [evX, Option.some.injEq] at hx
    subst hx
    rfl
  | global g => cases hx
theorem elook_cons {t k : Nat} {s : SV} : elook t ((k, s) :: e) = if t = k then some s else elook t e := by
  simp only [elook]
  by_cases hm : t = k
  · subst hm; simp
  · have := beq_no hm
    simp [this, hm]
theorem put_size {d : Option Tmp} {x : Value} : (a.put d x).tmps.size = a.tmps.size := by cases d <;> simp [Act.put]
theorem put_defers {d : Option Tmp} {x : Value} : (a.put d x).defers = a.defers := by cases d <;> simp [Act.put]
theorem put_tmps {d : Option Tmp} {x : Value} (t : Nat) : (a.put d x).tmps[t]? = match d with
    | some k => if t = k then (if k < a.tmps.size then some x else none) else a.tmps[t]?
    | none => a.tmps[t]? := by
  cases d with
  | none => rfl
  | some k =>
    simp only [Act.put, Array.getElem?_setIfInBounds]
    by_cases h : t = k
    · subst h; simp
    · rw [if_neg (fun e => h e.symm), if_neg h]
theorem EnvR.put (h : EnvR ρ e a) {d : Option Tmp} {s : SV} {x : Value} (hx : den ρ s = some x) (hd : ∀ k, d = some k → k < a.tmps.size) : EnvR ρ (putX d s e) (a.put d x) := by
  intro t r ht
  cases d with
  | none => exact h t r ht
  | some k =>
    simp only [putX, elook_cons] at ht
    rw [put_tmps]
    by_cases hk : t = k
    · subst hk
      simp only [if_true, Option.some.injEq] at ht
      subst ht
      exact ⟨x, by simp [hd t rfl], hx⟩
    · simp only [hk, if_false] at ht ⊢
      exact h t r ht

/-- An operation behind its guard. -/
theorem one_s {call : Hk R} (hcall : HkOK A P call) {ops : Array Oper} {o : Oper} {ev : Operand → Option SV} {s : SV} (h : oneX P call ops o ev st = .ok s st') : Fn st st' ∧ ∀ B F ρ own w a, Sit A P B F st st' ρ own w → Ev ρ ev a →
    (∀ d, ∀ s, ev (.tmp d) = some s → ∃ x, a.tmps[d]? = some x ∧ den ρ s = some x) → ∀ (K : Act → World → Prop) (Q : Exit → Act → World → Prop), (∀ x ρ' own' w', Tr A P B F st st' ρ own w ρ' own' w' → den ρ' s = some x → K (a.put o.dst x) w') →
    if Region.wanted o (yielded ops a.tmps) then o.wp P a w K Q ∨ (o.asks P a w ∧ LetsOut Q) else K (a.put o.dst undef) w := by
  unfold oneX at h
  cases hg : o.guard with
  | none =>
    rw [hg] at h
    obtain ⟨hf, hs⟩ := op_s hcall h
    refine ⟨hf, fun B F ρ own w a si hev _ K Q hk => ?_⟩
    have : Region.wanted o (yielded ops a.tmps) = true := by simp [Region.wanted, hg]
    rw [if_pos this]
    exact .inl (hs B F ρ own w a si hev K Q hk)
  | some jw =>
    obtain ⟨j, want⟩ := jw
    rw [hg] at h
    simp only at h
    cases hd : (ops[j]?).bind (·.dst) with
    | none => rw [hd] at h; exact (fail_ok.1 h).elim
    | some d =>
      rw [hd] at h
      simp only at h
      obtain ⟨b, _, h5, h6⟩ := bind_ok.1 h
      obtain ⟨hv, rfl⟩ := opt_ok.1 h5
      simp only [Option.bind_eq_some_iff] at hv
      obtain ⟨sv, hv, hsv⟩ := hv
      have hsv : sv = .v (.bool b) := by
        unfold boolOf at hsv
        split at hsv <;> simp_all
      subst hsv
      obtain ⟨r, st1, h1, h2⟩ := bind_ok.1 h6
      obtain ⟨q, hq⟩ := ask_ok h1
      have hy : ∀ {ρ : Names} {a : Act}, (∀ d, ∀ s, ev (.tmp d) = some s → ∃ x, a.tmps[d]? = some x ∧ den ρ s = some x) → Region.wanted o (yielded ops a.tmps) = (b == want) := by
        intro ρ a hl
        obtain ⟨x, h3, h4⟩ := hl d _ hv
        simp only [den, Option.some.injEq] at h4
        subst h4
        simp only [Region.wanted, hg, yielded, hd, Option.bind_some, h3]
        cases b <;> cases want <;> rfl
      cases hrw : (r == want) with
      | true =>
        rw [hrw] at h2
        obtain ⟨hf, hs⟩ := op_s hcall h2
        refine ⟨q.fn.trans hf, fun B F ρ own w a si hev hl K Q hk => ?_⟩
        have hb := hq (fun p hp => si.ask p (hf.ask p hp))
        rw [hy hl, hb, hrw, if_pos rfl]
        exact .inl (hs B F ρ own w a (si.of_quiet q) hev K Q (fun x ρ' own' w' ht hx => hk x ρ' own' w' (Tr.of_quiet q ht) hx))
      | false =>
        rw [hrw] at h2
        obtain ⟨rfl, rfl⟩ := ret_ok.1 h2
        refine ⟨q.fn, fun B F ρ own w a si hev hl K Q hk => ?_⟩
        have hb := hq si.ask
        rw [hy hl, hb, hrw]
        simp only [Bool.false_eq_true, if_false]
        exact hk undef ρ own w (si.quiet q) rfl

theorem seq_s {call : Hk R} (hcall : HkOK A P call) {ops : Array Oper} {sz : Nat} : ∀ {l : List Oper} {e e' : Env} {st st' : St R}, seqX P call ops sz l e st = .ok e' st' → Fn st st' ∧ ∀ B F ρ own w a, Sit A P B F st st' ρ own w → EnvR ρ e a → a.tmps.size = sz →
    ∀ (Q : Exit → Act → World → Prop), (∀ a' ρ' own' w', Tr A P B F st st' ρ own w ρ' own' w' → EnvR ρ' e' a' → a'.tmps.size = sz → a'.defers = a.defers → Q .normal a' w') → wpList P ops Q l a w
  | [], e, e', st, st', h => by
    obtain ⟨rfl, rfl⟩ := ret_ok.1 h
    exact ⟨Fn.refl _, fun B F ρ own w a si he hz Q hk => hk a ρ own w (si.quiet (Quiet.refl _)) he hz rfl⟩
  | o :: l, e, e', st, st', h => by
    obtain ⟨_, _, h1, h2⟩ := bind_ok.1 h
    obtain ⟨hd, rfl⟩ := want_ok.1 h1
    obtain ⟨s, st1, h3, h4⟩ := bind_ok.1 h2
    obtain ⟨f1, hs1⟩ := one_s hcall h3
    obtain ⟨f2, hs2⟩ := seq_s hcall h4
    refine ⟨f1.trans f2, fun B F ρ own w a si he hz Q hk => ?_⟩
    unfold wpList
    refine hs1 B F ρ own w a (si.head f1 f2) he.ev (fun d s hs => he d s hs) _ Q (fun x ρ1 own1 w1 ht hx => ?_)
    refine hs2 B _ ρ1 own1 w1 (a.put o.dst x) (si.next f1 f2 ht) ((he.mono ht.le).put hx (fun k hk => ?_)) (by rw [put_size, hz]) Q (fun a' ρ' own' w' ht' he' hz' hd' => hk a' ρ' own' w' (ht.trans ht' f1 f2 (f1.wf si.wf)) he' hz' (by rw [hd', put_defers]))
    rw [hk] at hd
    rw [hz]
    simpa [Nat.blt_eq] using hd
end
end Go.Proofs.Ytdjogfofedbohaa
end
section
/- A region whose order is open: what is needed of orders. No condition. -/
namespace Go.Proofs.Ytdjogfofedbohaa

section
variable {α : Type}
/-- What the last of those that have a say gives. -/
def view (base : α) (res : Nat → α) (p : Nat → Bool) : Nat → α
  | 0 => base
  | n + 1 => if p n = true then res n else view base res p n
variable {base : α} {res : Nat → α} {p q : Nat → Bool} {n : Nat}
theorem view_congr (h : ∀ j, j < n → p j = q j) : view base res p n = view base res q n := by
  induction n with
  | zero => rfl
  | succ n ih => simp only [view, h n (Nat.lt_succ_self n), ih (fun j hj => h j (Nat.lt_succ_of_lt hj))]
theorem view_above {i : Nat} (hi : i ≤ n) (h : ∀ j, i ≤ j → j < n → p j = false) : view base res p n = view base res p i := by
  induction n with
  | zero =>
    obtain rfl : i = 0 := by omega
    rfl
  | succ n ih =>
    by_cases e : i = n + 1
    · subst e; rfl
    · simp only [view, h n (by omega) (Nat.lt_succ_self n), Bool.false_eq_true, if_false]
      exact ih (by omega) (fun j h1 h2 => h j h1 (by omega))
theorem view_text {X : Nat → α} (h0 : X 0 = base) (hs : ∀ k, k < n → X (k + 1) = if p k = true then res k else X k) : ∀ i, i ≤ n → X i = view base res p i
  | 0, _ => h0
  | i + 1, hi => by rw [hs i (by omega), view, view_text h0 hs i (by omega)]
theorem view_at {X : Nat → α} {D : Nat → Bool} {i : Nat} (h0 : X 0 = base) (hs : ∀ k, k < n → X (k + 1) = if p k = true then res k else X k) (hi : i ≤ n) (hl : ∀ j, j < i → p j = true → D j = true) (hu : ∀ j, i ≤ j → j < n → p j = true → D j = false) :
    view base res (fun j => D j && p j) n = X i := by
  rw [view_above hi (fun j h1 h2 => by
    cases hp : p j with
    | false => simp
    | true => rw [hu j h1 h2 hp]; rfl), view_text h0 hs i hi]
  refine view_congr fun j hj => ?_
  cases hp : p j with
  | false => simp
  | true => rw [hl j hj hp]; rfl
theorem view_set {D D' : Nat → Bool} {i : Nat} (hi : i < n) (hD : ∀ j, D' j = (D j || j == i)) (hu : p i = true → ∀ j, i < j → j < n → p j = true → D j = false) :
    view base res (fun j => D' j && p j) n = if p i = true then res i else view base res (fun j => D j && p j) n := by
  split
  · next hp =>
    rw [view_above (i := i + 1) (by omega) (fun j h1 h2 => by
      cases hpj : p j with
      | false => simp
      | true =>
        have : (j == i) = false := by simp; omega
        rw [hD, hu hp j (by omega) h2 hpj, this]
        rfl)]
    have : D' i = true := by rw [hD]; simp
    simp [view, this, hp]
  · next hp =>
    refine view_congr fun j hj => ?_
    rw [hD]
    by_cases e : j = i
    · subst e
      have : p j = false := by simpa using hp
      simp [this]
    · have : (j == i) = false := by simpa using e
      rw [this, Bool.or_false]
end

/-- A set of operations that holds what stands ahead of its own. -/
def Closed (l : List Oper) (D : Nat → Bool) : Prop := ∀ (j : Nat) (o : Oper), l[j]? = some o → D j = true → ∀ e ∈ o.after, Region.binds .any e = true → D e.on = true
def Ahead (l : List Oper) (m j : Nat) : Prop := ∀ i, m.testBit i = true → ∀ D, Closed l D → D j = true → D i = true
theorem maskOf_ahead {l : List Oper} {acc : List Nat} {o : Oper} (ho : l[acc.length]? = some o) (hacc : ∀ k m, acc[k]? = some m → Ahead l m (acc.length - 1 - k)) : Ahead l (maskOf acc o) acc.length := by
  intro i hi D hD hj
  unfold maskOf at hi
  have key : ∀ (es : List Edge), (∀ e ∈ es, e ∈ o.after) → (es.foldr (fun e s => match Region.binds .any e && Nat.blt e.on acc.length with
      | true => (s ||| 2 ^ e.on) ||| acc.getD (acc.length - 1 - e.on) 0
      | false => s) 0).testBit i = true → D i = true := by
    intro es
    induction es with
    | nil => intro _ h; simp at h
    | cons e es ih =>
      intro hm h
      rw [List.foldr_cons] at h
      cases hb : (Region.binds .any e && Nat.blt e.on acc.length) with
      | false =>
        rw [hb] at h
        exact ih (fun e he => hm e (List.mem_cons_of_mem _ he)) h
      | true =>
        rw [hb] at h
        simp only [Nat.testBit_or, Bool.or_eq_true] at h
        simp only [Bool.and_eq_true] at hb
        have hlt : e.on < acc.length := by simpa [Nat.blt_eq] using hb.2
        have hon := hD acc.length o ho hj e (hm e (List.mem_cons_self ..)) hb.1
        rcases h with (h | h) | h
        · exact ih (fun e he => hm e (List.mem_cons_of_mem _ he)) h
        · rw [Nat.testBit_two_pow] at h
          simp only [decide_eq_true_eq] at h
          rw [← h]
          exact hon
        · have hg : acc[acc.length - 1 - e.on]? = some (acc.getD (acc.length - 1 - e.on) 0) := by
            rw [List.getD_eq_getElem?_getD, List.getElem?_eq_getElem (by omega)]
            rfl
          have := hacc _ _ hg
          rw [show acc.length - 1 - (acc.length - 1 - e.on) = e.on by omega] at this
          exact this i h D hD hon
  exact key o.after.toList (fun e he => by simpa using he) hi
theorem masks_ahead {l : List Oper} : ∀ {r : List Oper} {acc : List Nat}, (∀ k, r[k]? = l[acc.length + k]?) → (∀ k m, acc[k]? = some m → Ahead l m (acc.length - 1 - k)) →
    (masks r acc).length = acc.length + r.length ∧ ∀ k m, (masks r acc)[k]? = some m → Ahead l m (acc.length + r.length - 1 - k)
  | [], acc, _, h => ⟨by simp [masks], by simpa [masks] using h⟩
  | o :: r, acc, hr, h => by
    have ho : l[acc.length]? = some o := by have := hr 0; simpa using this.symm
    obtain ⟨h1, h2⟩ := masks_ahead (r := r) (acc := maskOf acc o :: acc) (fun k => by
      have := hr (k + 1)
      rw [List.getElem?_cons_succ] at this
      rw [this, List.length_cons]
      congr 1
      omega) (fun k m hk => by
      cases k with
      | zero =>
        simp only [List.getElem?_cons_zero, Option.some.injEq] at hk
        subst hk
        simpa using maskOf_ahead ho h
      | succ k =>
        have := h k m (by simpa using hk)
        rw [List.length_cons, show acc.length + 1 - 1 - (k + 1) = acc.length - 1 - k by omega]
        exact this)
    simp only [List.length_cons] at h1 h2
    refine ⟨by simp only [masks, List.length_cons]; omega, fun k m hk => ?_⟩
    have := h2 k m hk
    rw [List.length_cons, show acc.length + (r.length + 1) - 1 - k = acc.length + 1 + r.length - 1 - k by omega]
    exact this

theorem ordered_spec {L : Nat → Log} : ∀ {n : Nat} {ms : List Nat}, ms.length = n → ordered ms ((List.range n).reverse.map L) = true → ∀ i j, i < j → j < n → clash (L i) (L j) = true → ∃ m, ms[n - 1 - j]? = some m ∧ m.testBit i = true
  | 0, _, _, _, i, j, _, h, _ => by omega
  | n + 1, [], hl, _, _, _, _, _, _ => by simp at hl
  | n + 1, m :: ms, hl, h, i, j, hij, hj, hc => by
    rw [List.range_succ, List.reverse_append, List.map_append] at h
    simp only [List.reverse_cons, List.reverse_nil, List.nil_append, List.map_cons, List.map_nil, List.singleton_append, ordered, Bool.and_eq_true] at h
    by_cases e : j = n
    · subst e
      refine ⟨m, by simp, ?_⟩
      have h1 := List.all_eq_true.1 h.1 (L i, j - 1 - i) (by
        rw [List.mem_zipIdx_iff_getElem?, List.getElem?_map, List.getElem?_reverse (by simp; omega), List.length_range, List.getElem?_range (by omega)]
        simp only [Option.map_some, Option.some.injEq]
        congr 1
        omega)
      simp only [hc, Bool.not_true, Bool.false_or, List.length_map, List.length_reverse, List.length_range] at h1
      rw [show j - 1 - (j - 1 - i) = i by omega] at h1
      exact h1
    · obtain ⟨m', h1, h2⟩ := ordered_spec (n := n) (ms := ms) (by simpa using hl) h.2 i j hij (by omega) hc
      refine ⟨m', ?_, h2⟩
      rw [show n + 1 - 1 - j = (n - 1 - j) + 1 by omega, List.getElem?_cons_succ]
      exact h1
end Go.Proofs.Ytdjogfofedbohaa
end
section
/- A region whose order is open. No condition. -/
namespace Go.Proofs.Ytdjogfofedbohaa

section
variable {R : Type} {A : RepAt R} {P : Program}
/-- One operation of the walk. -/
structure Link (P : Program) (call : Hk R) (ops : Array Oper) (sz k : Nat) (o : Oper) (s t s' : St R) (e e' : Env) (v : SV) (L : Log) : Prop where
  dst : ∀ d, o.dst = some d → d < sz
  edge : ∀ ed ∈ o.after, Region.binds .any ed = true → ed.on < k
  run : oneX P call ops o (evR (o.looksAt ops) e) s.bare = .ok v t
  st : s' = t.join s
  env : e' = putX o.dst v e
  log : L = logOf s t ops o

theorem drawX_chain {call : Hk R} {ops : Array Oper} {sz : Nat} : ∀ {l : List Oper} {ls ls' : List Log} {e e' : Env} {st st' : St R}, drawX P call ops sz l ls e st = .ok (e', ls') st' →
    ∃ (E : Nat → Env) (S T : Nat → St R) (V : Nat → SV) (L : Nat → Log), E 0 = e ∧ S 0 = st ∧ E l.length = e' ∧ S l.length = st' ∧ ls' = (List.range l.length).reverse.map L ++ ls ∧
      ∀ i o, l[i]? = some o → Link P call ops sz (ls.length + i) o (S i) (T i) (S (i + 1)) (E i) (E (i + 1)) (V i) (L i)
  | [], ls, ls', e, e', st, st', h => by
    simp only [drawX] at h
    obtain ⟨h1, rfl⟩ := ret_ok.1 h
    injection h1 with h1 h2
    subst h1
    subst h2
    exact ⟨fun _ => e, fun _ => st, fun _ => st, fun _ => undefX, fun _ => ⟨[], [], 0, 0, [], none⟩, rfl, rfl, rfl, rfl, by simp, fun i o ho => by simp at ho⟩
  | o :: l, ls, ls', e, e', st, st', h => by
    simp only [drawX] at h
    obtain ⟨_, _, h1, h2⟩ := bind_ok.1 h
    obtain ⟨hw, rfl⟩ := want_ok.1 h1
    simp only [Bool.and_eq_true] at hw
    obtain ⟨hw1, hw2⟩ := hw
    cases hr : oneX P call ops o (evR (o.looksAt ops) e) st.bare with
    | no w l => rw [hr] at h2; cases h2
    | ok s t =>
      rw [hr] at h2
      simp only at h2
      obtain ⟨E, S, T, V, L, g1, g2, g3, g4, g5, g6⟩ := drawX_chain h2
      refine ⟨fun i => match i with | 0 => e | i + 1 => E i, fun i => match i with | 0 => st | i + 1 => S i, fun i => match i with | 0 => t | i + 1 => T i, fun i => match i with | 0 => s | i + 1 => V i,
        fun i => match i with | 0 => logOf st t ops o | i + 1 => L i, rfl, rfl, g3, g4, ?_, ?_⟩
      · rw [g5, List.length_cons, List.range_succ_eq_map, List.reverse_cons, List.map_append, ← List.map_reverse, List.map_map]
        simp only [List.map_cons, List.map_nil, List.append_assoc, List.singleton_append]
        congr 1
      · intro i o' ho'
        cases i with
        | zero =>
          simp only [List.getElem?_cons_zero, Option.some.injEq] at ho'
          subst ho'
          refine ⟨fun d hd => ?_, fun ed hed hb => ?_, hr, g2, g1, rfl⟩
          · rw [hd] at hw1
            simpa [Nat.blt_eq] using hw1
          · have := Array.all_eq_true_iff_forall_mem.1 hw2 ed hed
            rw [hb] at this
            simpa [Nat.blt_eq] using this
        | succ i =>
          have := g6 i o' (by simpa using ho')
          rw [List.length_cons, show ls.length + 1 + i = ls.length + (i + 1) by omega] at this
          exact this

theorem bare_wf {s : St R} (h : Wf s) : Wf s.bare := ⟨(fun n hn => by cases hn), h.top⟩
theorem Link.fn {call : Hk R} (hcall : HkOK A P call) {ops : Array Oper} {sz k : Nat} {o : Oper} {s t s' : St R} {e e' : Env} {v : SV} {L : Log} (h : Link P call ops sz k o s t s' e e' v L) : Fn s.bare t ∧ Fn s s' := by
  have hf := (one_s hcall h.run).1
  refine ⟨hf, ?_⟩
  rw [h.st]
  refine ⟨hf.nx, fun n hn => mem_uni.2 (.inr hn), fun n hn => mem_uni.2 (.inr hn), hf.ask, fun n hn hl => hf.hp n (fun hw => hn (mem_uni.2 (.inl hw))) hl, fun hw => ?_, fun n hn => ?_⟩
  · have hw' := hf.wf (bare_wf hw)
    refine ⟨fun n hn => ?_, hw'.top⟩
    rcases mem_uni.1 hn with h1 | h1
    · exact ⟨mem_uni.2 (.inl (hw'.wr n h1).1), (hw'.wr n h1).2⟩
    · exact ⟨mem_uni.2 (.inr (hw.wr n h1).1), Nat.lt_of_lt_of_le (hw.wr n h1).2 hf.nx⟩
  · rcases mem_uni.1 hn with h1 | h1
    · rcases hf.al n h1 with h2 | h2
      · cases h2
      · exact .inr h2
    · exact .inl h1

/-- A memory, said by name. -/
def mkL (N : Nat) (g : Nat → Option (Chunk R)) : List (Nat × Chunk R) := (List.range N).filterMap fun n => (g n).map fun c => (n, c)
theorem hget_mkL {g : Nat → Option (Chunk R)} {m : Nat} : ∀ {N : Nat}, hget m (mkL N g) = if m < N then g m else none
  | 0 => by simp [mkL, hget]
  | N + 1 => by
    have happ : ∀ (l r : List (Nat × Chunk R)), hget m (l ++ r) = match hget m l with | some c => some c | none => hget m r := by
      intro l r
      induction l with
      | nil => rfl
      | cons p l ih =>
        obtain ⟨k, c⟩ := p
        rw [List.cons_append, hget_cons, hget_cons]
        by_cases h : m = k <;> simp [h, ih]
    have e : mkL (N + 1) g = mkL N g ++ ((g N).map fun c => (N, c)).toList := by
      unfold mkL
      rw [List.range_succ, List.filterMap_append]
      cases h : g N <;> simp [h]
    rw [e, happ, hget_mkL]
    by_cases h1 : m < N
    · rw [if_pos h1, if_pos (by omega)]
      cases hg : g m with
      | some c => rfl
      | none =>
        simp only
        cases h : g N with
        | none => rfl
        | some c => simp [hget_cons, hget, show ¬ m = N by omega]
    · rw [if_neg h1]
      simp only
      by_cases h2 : m = N
      · subst h2
        rw [if_pos (by omega)]
        cases g m <;> simp [hget]
      · rw [if_neg (by omega)]
        cases g N with
        | none => rfl
        | some c => simp [hget_cons, hget, h2]
end
end Go.Proofs.Ytdjogfofedbohaa
end
section
/- A region whose order is open: the machine, in whatever order, comes where the walk in the text's order comes. No condition. -/
namespace Go.Proofs.Ytdjogfofedbohaa

section
variable {R : Type} {A : RepAt R} {P : Program}

theorem touches_iff {s t : St R} {ops : Array Oper} {o : Oper} {n : Nat} : touches (logOf s t ops o) n = true ↔ n ∈ t.wr ∨ newN s t n := by
  simp only [touches, logOf, Bool.or_eq_true, memN_iff, Bool.and_eq_true, newN]
  simp [Nat.blt_eq, Nat.ble_eq]

/-- What is known of the operations of one region. -/
structure Ctx (A : RepAt R) (P : Program) (call : Hk R) (ops : Array Oper) (sz n : Nat) (E : Nat → Env) (S T : Nat → St R) (V : Nat → SV) (L : Nat → Log) : Prop where
  cok : HkOK A P call
  size : ops.size = n
  link : ∀ i o, ops[i]? = some o → Link P call ops sz i o (S i) (T i) (S (i + 1)) (E i) (E (i + 1)) (V i) (L i)
  wf : Wf (S 0)
  ord : ∀ i j, i < j → j < n → clash (L i) (L j) = true → ∀ D, Closed ops.toList D → D j = true → D i = true

variable {call : Hk R} {ops : Array Oper} {sz n : Nat} {E : Nat → Env} {S T : Nat → St R} {V : Nat → SV} {L : Nat → Log}

theorem Ctx.op (c : Ctx A P call ops sz n E S T V L) {i : Nat} (hi : i < n) : ∃ o, ops[i]? = some o := ⟨ops[i]'(by rw [c.size]; exact hi), Array.getElem?_eq_getElem _⟩
theorem Ctx.fnB (c : Ctx A P call ops sz n E S T V L) {i : Nat} (hi : i < n) : Fn (S i).bare (T i) := by
  obtain ⟨o, ho⟩ := c.op hi
  exact ((c.link i o ho).fn c.cok).1
theorem Ctx.fn1 (c : Ctx A P call ops sz n E S T V L) {i : Nat} (hi : i < n) : Fn (S i) (S (i + 1)) := by
  obtain ⟨o, ho⟩ := c.op hi
  exact ((c.link i o ho).fn c.cok).2
theorem Ctx.fn (c : Ctx A P call ops sz n E S T V L) {i : Nat} : ∀ {j}, i ≤ j → j ≤ n → Fn (S i) (S j)
  | 0, h, _ => by
    obtain rfl : i = 0 := by omega
    exact Fn.refl _
  | j + 1, h, hj => by
    by_cases e : i = j + 1
    · subst e; exact Fn.refl _
    · exact (c.fn (j := j) (by omega) (by omega)).trans (c.fn1 (by omega))
theorem Ctx.wfS (c : Ctx A P call ops sz n E S T V L) {i : Nat} (hi : i ≤ n) : Wf (S i) := (c.fn (Nat.zero_le i) hi).wf c.wf
theorem Ctx.wfT (c : Ctx A P call ops sz n E S T V L) {i : Nat} (hi : i < n) : Wf (T i) := (c.fnB hi).wf (bare_wf (c.wfS (Nat.le_of_lt hi)))
theorem join_hp {t s : St R} : (t.join s).hp = t.hp ∧ (t.join s).nx = t.nx ∧ (t.join s).fr = uniN t.fr s.fr ∧ (t.join s).wr = uniN t.wr s.wr ∧ (t.join s).ask = t.ask := ⟨rfl, rfl, rfl, rfl, rfl⟩
theorem Ctx.next (c : Ctx A P call ops sz n E S T V L) {i : Nat} (hi : i < n) : (S (i + 1)).hp = (T i).hp ∧ (S (i + 1)).nx = (T i).nx ∧ (S (i + 1)).fr = uniN (T i).fr (S i).fr ∧ (S (i + 1)).wr = uniN (T i).wr (S i).wr ∧ (S (i + 1)).ask = (T i).ask := by
  obtain ⟨o, ho⟩ := c.op hi
  rw [(c.link i o ho).st]
  exact join_hp

def nw (S T : Nat → St R) (i m : Nat) : Prop := newN (S i) (T i) m
def tch (L : Nat → Log) (m i : Nat) : Bool := touches (L i) m
theorem Ctx.tch_iff (c : Ctx A P call ops sz n E S T V L) {i m : Nat} (hi : i < n) : tch L m i = true ↔ m ∈ (T i).wr ∨ nw S T i m := by
  obtain ⟨o, ho⟩ := c.op hi
  unfold tch nw
  rw [(c.link i o ho).log]
  exact touches_iff
theorem Ctx.new_disj (c : Ctx A P call ops sz n E S T V L) {i j m : Nat} (hi : i < n) (hj : j < n) (h1 : nw S T i m) (h2 : nw S T j m) : i = j := by
  have key : ∀ {a b : Nat}, a < b → b < n → nw S T a m → nw S T b m → False := by
    intro a b hab hb h1 h2
    have := (c.fn (i := a + 1) (j := b) hab (Nat.le_of_lt hb)).nx
    rw [(c.next (by omega)).2.1] at this
    unfold nw newN at h1 h2
    omega
  rcases Nat.lt_trichotomy i j with h | h | h
  · exact (key h hj h1 h2).elim
  · exact h
  · exact (key h hi h2 h1).elim
/-- The text's memory, step by step. -/
theorem Ctx.hpStep (c : Ctx A P call ops sz n E S T V L) (m : Nat) {k : Nat} (hk : k < n) : hget m (S (k + 1)).hp = if tch L m k = true then hget m (T k).hp else hget m (S k).hp := by
  rw [(c.next hk).1]
  split
  · rfl
  · next h =>
    rw [c.tch_iff hk, not_or] at h
    rcases Nat.lt_or_ge m (S k).nx with hl | hl
    · exact (c.fnB hk).hp m h.1 hl
    · have : (T k).nx ≤ m := by
        have := h.2
        unfold nw newN at this
        omega
      rw [(c.wfT hk).top m this, (c.wfS (Nat.le_of_lt hk)).top m hl]
def hitO : Option Tmp → Nat → Bool
  | some d, t => Nat.beq d t
  | none, _ => false
theorem hitO_iff {o : Option Tmp} {t : Nat} : hitO o t = true ↔ o = some t := by
  cases o with
  | none => simp [hitO]
  | some d =>
    simp only [hitO, Option.some.injEq]
    exact ⟨Nat.eq_of_beq_eq_true, fun h => by subst h; simp⟩
def hits (L : Nat → Log) (t i : Nat) : Bool := hitO (L i).dst t
theorem Ctx.envStep (c : Ctx A P call ops sz n E S T V L) (t : Nat) {k : Nat} (hk : k < n) : elook t (E (k + 1)) = if hits L t k = true then some (V k) else elook t (E k) := by
  obtain ⟨o, ho⟩ := c.op hk
  have hl := c.link k o ho
  have hd : (L k).dst = o.dst := by rw [hl.log]; rfl
  rw [hl.env]
  by_cases hh : hits L t k = true
  · rw [if_pos hh]
    have := hitO_iff.1 hh
    rw [hd] at this
    rw [this]
    simp [putX, elook_cons]
  · rw [if_neg hh]
    have hne : o.dst ≠ some t := fun e => hh (hitO_iff.2 (hd.trans e))
    cases ho2 : o.dst with
    | none => rfl
    | some d =>
      rw [putX, elook_cons, if_neg (fun e => hne (by rw [ho2, e]))]

theorem any_of {l : List Nat} {f : Nat → Bool} {m : Nat} (h : m ∈ l) (hf : f m = true) : l.any f = true := List.any_eq_true.2 ⟨m, h, hf⟩
theorem Ctx.clash_fr (c : Ctx A P call ops sz n E S T V L) {i j m : Nat} (hi : i < n) (hj : j < n) (hm : m ∈ (T i).fr) (ht : tch L m j = true) : clash (L i) (L j) = true ∧ clash (L j) (L i) = true := by
  obtain ⟨o, ho⟩ := c.op hi
  obtain ⟨p, hp⟩ := c.op hj
  have e : (L i).fr = (T i).fr := by rw [(c.link i o ho).log]; rfl
  have h : (L i).fr.any (touches (L j)) = true := any_of (by rw [e]; exact hm) ht
  unfold clash
  rw [h]
  simp
theorem Ctx.clash_tt (c : Ctx A P call ops sz n E S T V L) {i j m : Nat} (hi : i < n) (hj : j < n) (hne : i ≠ j) (h1 : tch L m i = true) (h2 : tch L m j = true) : clash (L i) (L j) = true := by
  rcases (c.tch_iff hi).1 h1 with h3 | h3
  · exact (c.clash_fr hi hj ((c.wfT hi).wr m h3).1 h2).1
  · rcases (c.tch_iff hj).1 h2 with h4 | h4
    · exact (c.clash_fr hj hi ((c.wfT hj).wr m h4).1 h1).2
    · exact absurd (c.new_disj hi hj h3 h4) hne

/-- How things stand when those of D have been carried out. -/
structure RI (A : RepAt R) (P : Program) (B : Nat) (F WR : Nat → Prop) (sz n : Nat) (E : Nat → Env) (S T : Nat → St R) (V : Nat → SV) (L : Nat → Log) (ρ0 : Names) (own0 : Nat → List Nat) (w0 : World) (a0 : Act) (D : Nat → Bool) (ρ : Names) (own : Nat → List Nat) (a : Act) (w : World) : Prop where
  le : ρ0.le ρ
  out : ∀ m, (∀ i, i < n → D i = true → ¬ nw S T i m) → ρ m = ρ0 m
  same : ∀ m, (∀ i, i < n → D i = true → tch L m i = false) → own m = own0 m
  pool : ∀ m i, i < n → D i = true → tch L m i = true → ∀ b ∈ own m, w0.heap.size ≤ b ∨ ∃ k, WR k ∧ k < (S 0).nx ∧ b ∈ own0 k
  li : LI A P B ρ own (mkL (S n).nx fun m => view (hget m (S 0).hp) (fun i => hget m (T i).hp) (fun j => D j && tch L m j) n) (fun m => F m ∨ ∃ i, i < n ∧ D i = true ∧ nw S T i m) w
  mod : ModP (fun b => ∃ k, WR k ∧ k < (S 0).nx ∧ b ∈ own0 k) w0 w
  env : ∀ t s, view (elook t (E 0)) (fun i => some (V i)) (fun j => D j && hits L t j) n = some s → ∃ x, a.tmps[t]? = some x ∧ den ρ s = some x
  size : a.tmps.size = sz
  defers : a.defers = a0.defers

variable {B : Nat} {F WR : Nat → Prop} {ρ0 ρ : Names} {own0 own : Nat → List Nat} {w0 w : World} {a0 a : Act} {D : Nat → Bool}

/-- One more of those that are ready. -/
theorem RI.step (c : Ctx A P call ops sz n E S T V L) (h : RI A P B F WR sz n E S T V L ρ0 own0 w0 a0 D ρ own a w) (hB : B ≤ w0.heap.size) (hfr : ∀ m, (S 0).nx ≤ m → m < (S n).nx → ρ0 m = none) (hF : ∀ m ∈ (S n).fr, F m) (hWR : ∀ m ∈ (S n).wr, WR m) (hask : ∀ p ∈ (S n).ask, p.1 = p.2)
    {i : Nat} (hi : i < n) (hD : D i = false) (hcl : Closed ops.toList D) (hready : ∀ o, ops[i]? = some o → ∀ e ∈ o.after, Region.binds .any e = true → D e.on = true) {D' : Nat → Bool} (hD' : ∀ j, D' j = (D j || j == i))
    {Q : Exit → Act → World → Prop} {K : Act → World → Prop} (hK : ∀ ρ' own' a' w', RI A P B F WR sz n E S T V L ρ0 own0 w0 a0 D' ρ' own' a' w' → K a' w') : wpOp P ops Q i K a w := by
  obtain ⟨o, ho⟩ := c.op hi
  have hln := c.link i o ho
  -- order
  have hclD : Closed ops.toList D' := fun j p hp hj e he hb => by
    rw [hD'] at hj ⊢
    by_cases e2 : j = i
    · subst e2
      have : p = o := by
        have h1 : ops[j]? = some p := by simpa using hp
        rw [ho] at h1
        injection h1 with h1
        exact h1.symm
      subst this
      rw [hready p ho e he hb]
      rfl
    · have : (j == i) = false := by simpa using e2
      rw [this, Bool.or_false] at hj
      rw [hcl j p hp hj e he hb]
      rfl
  have before : ∀ j, j < i → clash (L j) (L i) = true → D j = true := fun j hj hc => by
    have := c.ord j i hj hi hc D' hclD (by rw [hD']; simp)
    rw [hD'] at this
    have e : (j == i) = false := by simp; omega
    rwa [e, Bool.or_false] at this
  have behind : ∀ j, i < j → j < n → clash (L i) (L j) = true → D j = false := fun j hj hjn hc => by
    cases hDj : D j with
    | false => rfl
    | true =>
      have := c.ord i j hj hjn hc D hcl hDj
      rw [hD] at this
      cases this
  have hN : ∀ {m : Nat} {x : Chunk R} {k : Nat}, k < n → hget m (T k).hp = some x → m < (S n).nx := fun {m x k} hk hx => by
    have h1 := (c.wfT hk).lt hx
    have h2 := (c.fn (i := k + 1) (j := n) (by omega) (Nat.le_refl _)).nx
    rw [(c.next hk).2.1] at h2
    omega
  have hN0 : ∀ {m : Nat} {x : Chunk R} {k : Nat}, k ≤ n → hget m (S k).hp = some x → m < (S n).nx := fun {m x k} hk hx => by
    have h1 := (c.wfS hk).lt hx
    have h2 := (c.fn (i := k) (j := n) hk (Nat.le_refl _)).nx
    omega
  -- what the operation looks at stands as in the text
  have atFr : ∀ m ∈ (T i).fr, view (hget m (S 0).hp) (fun i => hget m (T i).hp) (fun j => D j && tch L m j) n = hget m (S i).hp := fun m hm =>
    view_at (X := fun k => hget m (S k).hp) rfl (fun k hk => c.hpStep m hk) (Nat.le_of_lt hi) (fun j hj ht => before j hj (c.clash_fr hi (by omega) hm ht).2) (fun j h1 h2 ht => by
      by_cases e : j = i
      · rw [e]; exact hD
      · exact behind j (by omega) h2 (c.clash_fr hi h2 hm ht).1)
  have atLk : ∀ t ∈ o.looksAt ops, view (elook t (E 0)) (fun i => some (V i)) (fun j => D j && hits L t j) n = elook t (E i) := fun t ht =>
    view_at (X := fun k => elook t (E k)) rfl (fun k hk => c.envStep t hk) (Nat.le_of_lt hi) (fun j hj hh => before j hj (by
      have hd := hitO_iff.1 hh
      have hl : memN t (L i).looks = true := by rw [hln.log]; exact memN_iff.2 ht
      unfold clash
      simp [hd, hl])) (fun j h1 h2 hh => by
      by_cases e : j = i
      · rw [e]; exact hD
      · refine behind j (by omega) h2 ?_
        have hd := hitO_iff.1 hh
        have hl : memN t (L i).looks = true := by rw [hln.log]; exact memN_iff.2 ht
        unfold clash
        simp [hd, hl])
  obtain ⟨hfn, hs⟩ := one_s c.cok hln.run
  have hTn : ∀ m, m ∈ (T i).fr → m ∈ (S n).fr := fun m hm => (c.fn (i := i + 1) (j := n) hi (Nat.le_refl _)).fr m (by rw [(c.next hi).2.2.1]; exact mem_uni.2 (.inl hm))
  have hTw : ∀ m, m ∈ (T i).wr → m ∈ (S n).wr := fun m hm => (c.fn (i := i + 1) (j := n) hi (Nat.le_refl _)).wr m (by rw [(c.next hi).2.2.2.1]; exact mem_uni.2 (.inl hm))
  obtain ⟨G, hG⟩ : ∃ G : Nat → Prop, G = fun m => (F m ∨ ∃ j, j < n ∧ D j = true ∧ nw S T j m) ∧ hget m (S i).hp = hget m (mkL (S n).nx fun m => view (hget m (S 0).hp) (fun i => hget m (T i).hp) (fun j => D j && tch L m j) n) := ⟨_, rfl⟩
  have hGfr : ∀ m ∈ (T i).fr, G m := fun m hm => by
    rw [hG]
    refine ⟨.inl (hF m (hTn m hm)), ?_⟩
    rw [hget_mkL]
    split
    · exact (atFr m hm).symm
    · next hlt =>
      cases hx : hget m (S i).hp with
      | none => rfl
      | some x => exact absurd (hN0 (Nat.le_of_lt hi) hx) hlt
  have sit : Sit A P B G (S i).bare (T i) ρ own w := by
    refine ⟨hGfr, bare_wf (c.wfS (Nat.le_of_lt hi)), fun m hm => ?_, ?_, fun p hp => ?_, Nat.le_trans hB h.mod.size⟩
    · rw [h.out m (fun j hj hDj hx => by
        have := c.new_disj hj hi hx hm
        rw [this, hD] at hDj
        cases hDj)]
      have h1 := (c.fn (i := 0) (j := i) (Nat.zero_le _) (Nat.le_of_lt hi)).nx
      have h2 := (c.fn (i := i + 1) (j := n) hi (Nat.le_refl _)).nx
      rw [(c.next hi).2.1] at h2
      have h3 := hm.1
      have h4 := hm.2
      change (S i).nx ≤ m at h3
      exact hfr m (by omega) (by omega)
    · refine ⟨fun m x hm hx => ?_, fun m k x y hm hk hne hx hy => ?_, fun m x hm hx => ?_⟩
      · rw [hG] at hm
        change hget m (S i).hp = some x at hx
        rw [hm.2] at hx
        exact h.li.at_ m x hm.1 hx
      · rw [hG] at hm hk
        change hget m (S i).hp = some x at hx
        change hget k (S i).hp = some y at hy
        rw [hm.2] at hx
        rw [hk.2] at hy
        exact h.li.dis m k x y hm.1 hk.1 hne hx hy
      · rw [hG] at hm
        change hget m (S i).hp = some x at hx
        rw [hm.2] at hx
        exact h.li.low m x hm.1 hx
    · have := (c.fn (i := i + 1) (j := n) hi (Nat.le_refl _)).ask
      rw [(c.next hi).2.2.2.2] at this
      exact hask p (this p hp)
  have hlook : ∀ d s, evR (o.looksAt ops) (E i) (.tmp d) = some s → ∃ x, a.tmps[d]? = some x ∧ den ρ s = some x := by
    intro d s hd
    simp only [evR] at hd
    split at hd
    · next hm =>
      refine h.env d s ?_
      rw [atLk d (memN_iff.1 hm)]
      exact hd
    · cases hd
  have hev : Ev ρ (evR (o.looksAt ops) (E i)) a := by
    intro x s hx
    cases x with
    | tmp t =>
      obtain ⟨y, h1, h2⟩ := hlook t s hx
      rw [h2]
      simp only [Act.eval, Array.getD_eq_getD_getElem?, h1]
      rfl
    | const v =>
      simp only [evR, evX, Option.some.injEq] at hx
      subst hx
      rfl
    | func f =>
      simp only [evR, evX, Option.some.injEq] at hx
      subst hx
      rfl
    | global g => cases hx
  unfold wpOp
  rw [ho]
  refine hs B G ρ own w a sit hev hlook K Q (fun x ρ' own' w' ht hx => hK ρ' own' (a.put o.dst x) w' ?_)
  have tchi : ∀ m, tch L m i = true ↔ m ∈ (T i).wr ∨ nw S T i m := fun m => c.tch_iff hi
  have hwT := c.wfT hi
  have vset : ∀ m, view (hget m (S 0).hp) (fun i => hget m (T i).hp) (fun j => D' j && tch L m j) n = if tch L m i = true then hget m (T i).hp else view (hget m (S 0).hp) (fun i => hget m (T i).hp) (fun j => D j && tch L m j) n := fun m =>
    view_set hi hD' (fun hti j h1 h2 htj => behind j h1 h2 (c.clash_tt hi h2 (by omega) hti htj))
  -- written names were there
  have alive : ∀ m ∈ (T i).wr, ¬ nw S T i m → ∃ x, hget m (S i).hp = some x := fun m hm hnn => by
    rcases hfn.al m hm with h1 | h1 | h1
    · cases h1
    · exact absurd ⟨h1, (hwT.wr m hm).2⟩ hnn
    · exact h1
  have notnew : ∀ m ∈ (T i).wr, ¬ nw S T i m → ∀ x, hget m (S i).hp = some x → (F m ∨ ∃ j, j < n ∧ D j = true ∧ nw S T j m) ∧ hget m (mkL (S n).nx fun m => view (hget m (S 0).hp) (fun i => hget m (T i).hp) (fun j => D j && tch L m j) n) = some x := fun m hm _ x hx => by
    have := hGfr m (hwT.wr m hm).1
    rw [hG] at this
    exact ⟨this.1, this.2.symm.trans hx⟩
  -- a written block was known, or is new
  have back : ∀ m ∈ (T i).wr, ¬ nw S T i m → ∀ b ∈ own m, w0.heap.size ≤ b ∨ ∃ k, WR k ∧ k < (S 0).nx ∧ b ∈ own0 k := by
    intro m hm hnn b hb
    by_cases hex : ∃ j, j < n ∧ D j = true ∧ tch L m j = true
    · obtain ⟨j, hj, hDj, htj⟩ := hex
      exact h.pool m j hj hDj htj b hb
    · rw [h.same m (fun j hj hDj => by
        cases ht : tch L m j with
        | false => rfl
        | true => exact absurd ⟨j, hj, hDj, ht⟩ hex)] at hb
      refine .inr ⟨m, hWR m (hTw m hm), ?_, hb⟩
      obtain ⟨x, hx⟩ := alive m hm hnn
      rcases Nat.lt_or_ge m (S 0).nx with hlt | hge
      · exact hlt
      · exfalso
        have hv := (notnew m hm hnn x hx).2
        rw [hget_mkL] at hv
        split at hv
        · have hnone : view (hget m (S 0).hp) (fun i => hget m (T i).hp) (fun j => D j && tch L m j) n = hget m (S 0).hp := by
            rw [view_above (i := 0) (Nat.zero_le _) (fun j _ hj => by
              cases hDj : D j with
              | false => rfl
              | true =>
                cases ht : tch L m j with
                | false => rfl
                | true => exact absurd ⟨j, hj, hDj, ht⟩ hex)]
            rfl
          rw [hnone, c.wf.top m hge] at hv
          cases hv
        · cases hv
  refine ⟨h.le.trans ht.le, fun m hm => ?_, fun m hm => ?_, fun m j hj hDj htj b hb => ?_, ?_, ?_, fun t s hts => ?_, by rw [put_size]; exact h.size, by rw [put_defers]; exact h.defers⟩
  · rw [ht.out m (hm i hi (by rw [hD']; simp))]
    exact h.out m (fun j hj hDj => hm j hj (by rw [hD', hDj]; rfl))
  · have hti := hm i hi (by rw [hD']; simp)
    have hti' : ¬ (m ∈ (T i).wr ∨ nw S T i m) := by rw [← tchi, hti]; simp
    rw [not_or] at hti'
    rw [ht.same m hti'.2 hti'.1]
    exact h.same m (fun j hj hDj => hm j hj (by rw [hD', hDj]; rfl))
  · by_cases hti : m ∈ (T i).wr ∨ nw S T i m
    · rcases ht.pool m hti.symm b hb with h1 | ⟨k, h1, h2, h3⟩
      · exact .inl (Nat.le_trans h.mod.size h1)
      · exact back k h1 h2 b h3
    · rw [not_or] at hti
      rw [ht.same m hti.2 hti.1] at hb
      have hji : j ≠ i := fun e => by
        subst e
        exact ((tchi m).1 htj).elim hti.1 hti.2
      have : (j == i) = false := by simpa using hji
      rw [hD', this, Bool.or_false] at hDj
      exact h.pool m j hj hDj htj b hb
  · -- the memory
    refine h.li.step (X := fun m => m ∈ (T i).wr ∨ nw S T i m) ht.mod ht.le (fun b hb => ?_) (fun m x hm hX hx => ?_) (fun m x _ hX hx => ?_) (fun m x _ hX hx b hb => ?_) (fun m k x y _ _ h1 h2 hne hx hy => ?_)
    · obtain ⟨m, h1, h2, h3⟩ := hb
      obtain ⟨x, hx⟩ := alive m h1 h2
      obtain ⟨h4, h5⟩ := notnew m h1 h2 x hx
      exact ⟨m, x, .inl h1, h4, h5, h3⟩
    · rw [not_or] at hX
      have hti : tch L m i = false := by
        cases ht : tch L m i with
        | false => rfl
        | true => exact (((tchi m).1 ht).elim hX.1 hX.2).elim
      rw [hget_mkL] at hx
      split at hx
      · next hlt =>
        rw [vset m, hti] at hx
        simp only [Bool.false_eq_true, if_false] at hx
        refine ⟨?_, by rw [hget_mkL, if_pos hlt]; exact hx, ht.same m hX.2 hX.1⟩
        rcases hm with h1 | ⟨j, hj, hDj, hnj⟩
        · exact .inl h1
        · rw [hD'] at hDj
          by_cases e : j = i
          · subst e; exact absurd hnj hX.2
          · have : (j == i) = false := by simpa using e
            rw [this, Bool.or_false] at hDj
            exact .inr ⟨j, hj, hDj, hnj⟩
      · cases hx
    · rw [hget_mkL] at hx
      split at hx
      · rw [vset m, if_pos ((tchi m).2 hX)] at hx
        refine ht.li.at_ m x ?_ hx
        rcases hX with h1 | h1
        · exact .inl (hGfr m (hwT.wr m h1).1)
        · exact .inr h1
      · cases hx
    · rw [hget_mkL] at hx
      split at hx
      · rw [vset m, if_pos ((tchi m).2 hX)] at hx
        have hlow := ht.li.low m x (by
          rcases hX with h1 | h1
          · exact .inl (hGfr m (hwT.wr m h1).1)
          · exact .inr h1) hx b hb
        refine ⟨hlow.2, hlow.1, ?_⟩
        rcases ht.pool m hX.symm b hb with h1 | ⟨k, h1, h2, h3⟩
        · exact .inl h1
        · obtain ⟨y, hy⟩ := alive k h1 h2
          obtain ⟨h4, h5⟩ := notnew k h1 h2 y hy
          exact .inr ⟨k, y, .inl h1, h4, h5, h3⟩
      · cases hx
    · rw [hget_mkL] at hx hy
      split at hx <;> try cases hx
      split at hy <;> try cases hy
      rw [vset m, if_pos ((tchi m).2 h1)] at hx
      rw [vset k, if_pos ((tchi k).2 h2)] at hy
      have inF : ∀ {z}, (z ∈ (T i).wr ∨ nw S T i z) → G z ∨ newN (S i).bare (T i) z := fun {z} hz => by
        rcases hz with h1 | h1
        · exact .inl (hGfr z (hwT.wr z h1).1)
        · exact .inr h1
      exact ht.li.dis m k x y (inF h1) (inF h2) hne hx hy
  · refine h.mod.trans ht.mod (fun b hb ⟨m, h1, h2, h3⟩ => ?_)
    exact (back m h1 h2 b h3).resolve_left (by omega)
  · rw [view_set hi hD' (fun hti j h1 h2 htj => behind j h1 h2 (by
      have hd := hitO_iff.1 hti
      have hd2 := hitO_iff.1 htj
      unfold clash
      simp [hd, hd2]))] at hts
    rw [put_tmps]
    have hdst : (L i).dst = o.dst := by rw [hln.log]; rfl
    split at hts
    · next hh =>
      simp only [Option.some.injEq] at hts
      subst hts
      have hd := hitO_iff.1 hh
      rw [hdst] at hd
      refine ⟨x, ?_, hx⟩
      rw [hd]
      simp [h.size, hln.dst t hd]
    · next hh =>
      obtain ⟨y, h1, h2⟩ := h.env t s hts
      refine ⟨y, ?_, den_mono ht.le _ _ h2⟩
      cases hd : o.dst with
      | none => exact h1
      | some d =>
        have : t ≠ d := fun e => hh (hitO_iff.2 (by rw [hdst, hd, e]))
        simp only [this, if_false]
        exact h1
end
end Go.Proofs.Ytdjogfofedbohaa
end
section
/- A region whose order is open, as a whole. Condition: the program follows the looser reading of Go's order. -/
namespace Go.Proofs.Ytdjogfofedbohaa

section
variable {R : Type} {A : RepAt R} {P : Program} {call : Hk R} {ops : Array Oper} {sz n : Nat} {E : Nat → Env} {S T : Nat → St R} {V : Nat → SV} {L : Nat → Log}
variable {B : Nat} {F : Nat → Prop} {ρ0 ρ : Names} {own0 own : Nat → List Nat} {w0 w : World} {a0 a : Act} {D : Nat → Bool}

theorem Ctx.cover (c : Ctx A P call ops sz n E S T V L) {m : Nat} : ∀ {k}, k ≤ n → newN (S 0) (S k) m → ∃ i, i < k ∧ nw S T i m
  | 0, _, h => by unfold newN at h; omega
  | k + 1, hk, h => by
    by_cases h1 : m < (S k).nx
    · obtain ⟨i, h2, h3⟩ := c.cover (k := k) (by omega) ⟨h.1, h1⟩
      exact ⟨i, by omega, h3⟩
    · refine ⟨k, by omega, ⟨by omega, ?_⟩⟩
      have := h.2
      rw [(c.next (by omega)).2.1] at this
      exact this
theorem Ctx.within (c : Ctx A P call ops sz n E S T V L) {m i : Nat} (hi : i < n) (h : nw S T i m) : newN (S 0) (S n) m := by
  have h1 := (c.fn (i := 0) (j := i) (Nat.zero_le _) (Nat.le_of_lt hi)).nx
  have h2 := (c.fn (i := i + 1) (j := n) hi (Nat.le_refl _)).nx
  rw [(c.next hi).2.1] at h2
  have h3 := h.1
  have h4 := h.2
  exact ⟨by omega, by omega⟩

/-- At the end. -/
theorem RI.done (c : Ctx A P call ops sz n E S T V L) (h : RI A P B F (fun m => m ∈ (S n).wr) sz n E S T V L ρ0 own0 w0 a0 D ρ own a w) (hall : ∀ i, i < n → D i = true) : Tr A P B F (S 0) (S n) ρ0 own0 w0 ρ own w ∧ EnvR ρ (E n) a := by
  have hw : ∀ {m i}, i < n → m ∈ (T i).wr → m ∈ (S n).wr := fun {m i} hi hm => (c.fn (i := i + 1) (j := n) hi (Nat.le_refl _)).wr m (by rw [(c.next hi).2.2.2.1]; exact mem_uni.2 (.inl hm))
  have hv : ∀ m, view (hget m (S 0).hp) (fun i => hget m (T i).hp) (fun j => D j && tch L m j) n = hget m (S n).hp := fun m =>
    view_at (X := fun k => hget m (S k).hp) rfl (fun k hk => c.hpStep m hk) (Nat.le_refl n) (fun j hj _ => hall j hj) (fun j h1 h2 _ => by omega)
  refine ⟨⟨h.le, fun m hm => h.out m (fun i hi _ hx => hm (c.within hi hx)), fun m hm hnw => h.same m (fun i hi _ => ?_), fun m hm b hb => ?_, ?_, h.mod.mono fun b _ ⟨k, h1, h2, h3⟩ => ⟨k, h1, fun hx => by have := hx.1; omega, h3⟩⟩, fun t s hs => ?_⟩
  · cases ht : tch L m i with
    | false => rfl
    | true =>
      rcases (c.tch_iff hi).1 ht with h1 | h1
      · exact absurd (hw hi h1) hnw
      · exact absurd (c.within hi h1) hm
  · by_cases hex : ∃ i, i < n ∧ tch L m i = true
    · obtain ⟨i, hi, ht⟩ := hex
      rcases h.pool m i hi (hall i hi) ht b hb with h1 | ⟨k, h1, h2, h3⟩
      · exact .inl h1
      · exact .inr ⟨k, h1, fun hx => by have := hx.1; omega, h3⟩
    · have hno : ∀ i, i < n → D i = true → tch L m i = false := fun i hi _ => by
        cases ht : tch L m i with
        | false => rfl
        | true => exact absurd ⟨i, hi, ht⟩ hex
      have hnn : ¬ newN (S 0) (S n) m := fun hx => by
        obtain ⟨i, hi, hni⟩ := c.cover (Nat.le_refl n) hx
        exact hex ⟨i, hi, (c.tch_iff hi).2 (.inr hni)⟩
      rw [h.same m hno] at hb
      exact .inr ⟨m, hm.resolve_left hnn, hnn, hb⟩
  · have hget_eq : ∀ m, hget m (mkL (S n).nx fun m => view (hget m (S 0).hp) (fun i => hget m (T i).hp) (fun j => D j && tch L m j) n) = hget m (S n).hp := fun m => by
      rw [hget_mkL, hv m]
      split
      · rfl
      · rw [(c.wfS (Nat.le_refl n)).top m (by omega)]
    have hF : ∀ m, F m ∨ newN (S 0) (S n) m → F m ∨ ∃ i, i < n ∧ D i = true ∧ nw S T i m := fun m hm => hm.imp_right fun hx => by
      obtain ⟨i, hi, hni⟩ := c.cover (Nat.le_refl n) hx
      exact ⟨i, hi, hall i hi, hni⟩
    exact ⟨fun m x hm hx => h.li.at_ m x (hF m hm) (by rw [hget_eq]; exact hx), fun m k x y hm hk hne hx hy => h.li.dis m k x y (hF m hm) (hF k hk) hne (by rw [hget_eq]; exact hx) (by rw [hget_eq]; exact hy),
      fun m x hm hx => h.li.low m x (hF m hm) (by rw [hget_eq]; exact hx)⟩
  · refine h.env t s ?_
    rw [view_at (X := fun k => elook t (E k)) rfl (fun k hk => c.envStep t hk) (Nat.le_refl n) (fun j hj _ => hall j hj) (fun j h1 h2 _ => by omega)]
    exact hs

/-- At the beginning. -/
theorem RI.start (hli : LI A P B ρ0 own0 (S 0).hp F w0) (he : EnvR ρ0 (E 0) a0) (hsz : a0.tmps.size = sz) {WR : Nat → Prop} : RI A P B F WR sz n E S T V L ρ0 own0 w0 a0 (fun _ => false) ρ0 own0 a0 { w0 with drawn := w0.drawn + 1 } := by
  have hv : ∀ {α : Type} (b : α) (r : Nat → α) (p : Nat → Bool), view b r (fun j => false && p j) n = b := fun b r p =>
    view_above (base := b) (res := r) (p := fun j => false && p j) (n := n) (i := 0) (Nat.zero_le _) (fun _ _ _ => rfl)
  have hget_eq : ∀ m x, hget m (mkL (S n).nx fun m => view (hget m (S 0).hp) (fun i => hget m (T i).hp) (fun j => false && tch L m j) n) = some x → hget m (S 0).hp = some x := fun m x => by
    rw [hget_mkL, hv]
    split
    · exact id
    · exact fun h => by cases h
  have hmod : ModP (fun _ => False) w0 { w0 with drawn := w0.drawn + 1 } := ⟨rfl, rfl, rfl, Nat.le_refl _, fun _ _ _ => rfl⟩
  refine ⟨Names.le.refl _, fun _ _ => rfl, fun _ _ => rfl, (fun m i _ hD => by cases hD), ?_, hmod.mono (fun _ _ h => h.elim), fun t s hs => he t s (by rw [hv] at hs; exact hs), hsz, rfl⟩
  have hF : ∀ m, (F m ∨ ∃ i, i < n ∧ false = true ∧ nw S T i m) → F m := fun m hm => hm.resolve_right fun ⟨_, _, h, _⟩ => by cases h
  refine ⟨fun m x hm hx => ?_, fun m k x y hm hk hne hx hy => hli.dis m k x y (hF m hm) (hF k hk) hne (hget_eq m x hx) (hget_eq k y hy), fun m x hm hx => hli.low m x (hF m hm) (hget_eq m x hx)⟩
  obtain ⟨e, h1, h2⟩ := hli.at_ m x (hF m hm) (hget_eq m x hx)
  exact ⟨e, h1, h2.stable (Names.le.refl _) hmod (fun _ _ h => h) (fun _ h => h.elim)⟩

theorem filter_lessX {l : List Nat} {p q : Nat → Bool} {i : Nat} (hn : l.Nodup) (hi : i ∈ l) (hp : p i = true) (hq : q i = false) (h : ∀ j, j ≠ i → q j = p j) : (l.filter p).length = (l.filter q).length + 1 := by
  induction l with
  | nil => cases hi
  | cons x l ih =>
    rw [List.nodup_cons] at hn
    by_cases hx : x = i
    · subst hx
      have : l.filter q = l.filter p := List.filter_congr fun j hj => h j (fun e => hn.1 (e ▸ hj))
      rw [List.filter_cons_of_pos hp, List.filter_cons_of_neg (by simp [hq]), this]
      simp
    · have hi' : i ∈ l := (List.mem_cons.1 hi).resolve_left (fun e => hx e.symm)
      have := ih hn.2 hi'
      cases hpx : p x with
      | true => rw [List.filter_cons_of_pos hpx, List.filter_cons_of_pos (by rw [h x hx]; exact hpx)]; simp [this]
      | false => rw [List.filter_cons_of_neg (by simp [hpx]), List.filter_cons_of_neg (by rw [h x hx]; simp [hpx])]; exact this

theorem chain_fn (hcall : HkOK A P call) {n : Nat} (link : ∀ i, i < n → ∃ o k, Link P call ops sz k o (S i) (T i) (S (i + 1)) (E i) (E (i + 1)) (V i) (L i)) : ∀ k, k ≤ n → Fn (S 0) (S k)
  | 0, _ => Fn.refl _
  | k + 1, hk => by
    obtain ⟨o, j, h⟩ := link k (by omega)
    exact (chain_fn hcall link k (by omega)).trans (h.fn hcall).2

theorem draw_s (hm : P.follows .mixedOrders = true) (hcall : HkOK A P call) {id : Nat} {ls : List Log} {e e' : Env} {st st' : St R} (h : drawX P call ops sz ops.toList [] e st = .ok (e', ls) st') (hord : ordered (masks ops.toList []) ls = true) :
    Fn st st' ∧ ∀ B F ρ own w a, Sit A P B F st st' ρ own w → EnvR ρ e a → a.tmps.size = sz →
    ∀ (Q : Exit → Act → World → Prop), (∀ a' ρ' own' w', Tr A P B F st st' ρ own w ρ' own' w' → EnvR ρ' e' a' → a'.tmps.size = sz → a'.defers = a.defers → Q .normal a' w') → (Code.region id ops true).wp P Q a w := by
  obtain ⟨E, S, T, V, L, rfl, rfl, rfl, rfl, rfl, hlink⟩ := drawX_chain h
  have hl : ops.toList.length = ops.size := by simp
  rw [hl] at h hord ⊢
  have hlink' : ∀ i o, ops[i]? = some o → Link P call ops sz i o (S i) (T i) (S (i + 1)) (E i) (E (i + 1)) (V i) (L i) := fun i o ho => by
    have := hlink i o (by simpa using ho)
    simpa using this
  have hord' : ∀ i j, i < j → j < ops.size → clash (L i) (L j) = true → ∀ D, Closed ops.toList D → D j = true → D i = true := by
    intro i j hij hj hc D hD hDj
    obtain ⟨h1, h2⟩ := masks_ahead (l := ops.toList) (r := ops.toList) (acc := []) (fun k => by simp) (fun k m hk => by simp at hk)
    simp only [List.length_nil, Nat.zero_add, hl] at h1 h2
    rw [List.append_nil] at hord
    obtain ⟨m, h3, h4⟩ := ordered_spec (L := L) h1 hord i j hij hj hc
    have := h2 _ m h3
    rw [show ops.size - 1 - (ops.size - 1 - j) = j by omega] at this
    exact this i h4 D hD hDj
  refine ⟨chain_fn hcall (fun i hi => ⟨ops[i], i, hlink' i _ (Array.getElem?_eq_getElem hi)⟩) _ (Nat.le_refl _), fun B F ρ own w a si he hsz Q hk => ?_⟩
  have c : Ctx A P call ops sz ops.size E S T V L := ⟨hcall, rfl, hlink', si.wf, hord'⟩
  refine wp_region_any hm ?_
  have main : ∀ (fuel : Nat) (listed : Array Bool) (b : Act) (w1 : World) (ρ1 : Names) (own1 : Nat → List Nat), listed.size = ops.size → Closed ops.toList (fun j => listed.getD j false) →
      RI A P B F (fun m => m ∈ (S ops.size).wr) sz ops.size E S T V L ρ own w a (fun j => listed.getD j false) ρ1 own1 b w1 → ((List.range ops.size).filter fun i => !listed.getD i false).length ≤ fuel → wpAny P .any ops Q fuel listed b w1 := by
    intro fuel
    have allOf : ∀ {listed : Array Bool}, listed.size = ops.size → Region.ready .any ops listed = [] → ∀ i, i < ops.size → listed.getD i false = true := by
      intro listed hls hr i
      induction i using Nat.strongRecOn with
      | _ i ih =>
        intro hi
        cases hli : listed.getD i false with
        | true => rfl
        | false =>
          exfalso
          have : i ∈ Region.ready .any ops listed := by
            refine mem_ready.2 ⟨?_, ops[i], Array.getElem?_eq_getElem hi, fun ed hed hb => ?_⟩
            · have hlt : i < listed.size := by omega
              simp only [Array.getD_eq_getD_getElem?, Array.getElem?_eq_getElem hlt, Option.getD_some] at hli ⊢
              exact hli
            · have hlt := (hlink' i _ (Array.getElem?_eq_getElem hi)).edge ed hed hb
              exact ih ed.on hlt (by omega)
          rw [hr] at this
          cases this
    have fin : ∀ {listed : Array Bool} {b w1 ρ1 own1}, listed.size = ops.size → Region.ready .any ops listed = [] → RI A P B F (fun m => m ∈ (S ops.size).wr) sz ops.size E S T V L ρ own w a (fun j => listed.getD j false) ρ1 own1 b w1 → Q .normal b w1 := by
      intro listed b w1 ρ1 own1 hls hr hri
      obtain ⟨ht, hen⟩ := hri.done c (allOf hls hr)
      exact hk b ρ1 own1 w1 ht hen hri.size hri.defers
    induction fuel with
    | zero =>
      intro listed b w1 ρ1 own1 hls hcl hri hcnt
      have hr : Region.ready .any ops listed = [] := by
        rw [List.eq_nil_iff_forall_not_mem]
        intro i hi
        obtain ⟨h1, o, ho, _⟩ := mem_ready.1 hi
        have hlt : i < ops.size := (Array.getElem?_eq_some_iff.1 ho).1
        have hnil := List.eq_nil_of_length_eq_zero (Nat.le_zero.1 hcnt)
        rw [List.filter_eq_nil_iff] at hnil
        have h2 := hnil i (List.mem_range.2 hlt)
        have h3 : i < listed.size := by omega
        simp only [Array.getD_eq_getD_getElem?, Array.getElem?_eq_getElem h3, Option.getD_some] at h1 h2
        rw [h1] at h2
        exact h2 rfl
      exact ⟨hr, fin hls hr hri⟩
    | succ fuel ih =>
      intro listed b w1 ρ1 own1 hls hcl hri hcnt
      refine ⟨fun hr => fin hls hr hri, fun i hi => ?_⟩
      obtain ⟨h1, o, ho, hedge⟩ := mem_ready.1 hi
      have hlt : i < ops.size := (Array.getElem?_eq_some_iff.1 ho).1
      have h3 : i < listed.size := by omega
      have hDi : listed.getD i false = false := by
        simp only [Array.getD_eq_getD_getElem?, Array.getElem?_eq_getElem h3, Option.getD_some] at h1 ⊢
        exact h1
      have hset : ∀ j, (listed.setIfInBounds i true).getD j false = (listed.getD j false || j == i) := by
        intro j
        by_cases e : j = i
        · subst e
          simp [Array.getD_eq_getD_getElem?, h3]
        · have : (j == i) = false := by simpa using e
          rw [getD_set_ne false (fun h => e h.symm), this, Bool.or_false]
      refine hri.step c si.base (fun m h1 h2 => si.fresh m ⟨h1, h2⟩) si.log (fun m hm => hm) si.ask hlt hDi hcl (fun o' ho' => ?_) hset (fun ρ' own' a' w' hri' => ih (listed.setIfInBounds i true) a' w' ρ' own' (by simp [hls]) ?_ hri' ?_)
      · rw [ho] at ho'
        injection ho' with ho'
        subst ho'
        exact hedge
      · intro j p hp hj ed hed hb
        simp only at hj ⊢
        rw [hset] at hj ⊢
        by_cases e : j = i
        · subst e
          have : p = o := by
            have h1 : ops[j]? = some p := by simpa using hp
            rw [ho] at h1
            injection h1 with h1
            exact h1.symm
          subst this
          rw [hedge ed hed hb]
          rfl
        · have : (j == i) = false := by simpa using e
          rw [this, Bool.or_false] at hj
          have := hcl j p hp hj ed hed hb
          simp only at this
          rw [this]
          rfl
      · have := filter_lessX (p := fun k => !listed.getD k false) (q := fun k => !(listed.setIfInBounds i true).getD k false) List.nodup_range (List.mem_range.2 hlt) (by simp [hDi]) (by simp [hset]) (fun j hj => by
          have : (j == i) = false := by simpa using hj
          simp only [hset, this, Bool.or_false])
        omega
  refine main ops.size _ a _ ρ own (by simp) (fun j p _ hj => ?_) ?_ ?_
  · exfalso
    simp only at hj
    rw [getD_replicate_false] at hj
    cases hj
  · have e : (fun j => (Array.replicate ops.size false).getD j false) = fun _ => false := by
      funext j
      exact getD_replicate_false _ j
    rw [e]
    exact RI.start si.li he hsz
  · exact Nat.le_trans (List.length_filter_le _ _) (by simp)
end
end Go.Proofs.Ytdjogfofedbohaa
end
