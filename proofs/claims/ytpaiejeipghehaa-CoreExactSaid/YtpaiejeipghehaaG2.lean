/- Rows of elements of open number, in memory: what it means, a store into one, and elements behind all. No condition. -/
import Derived.Test.YtpaiejeipghehaaG1
import Derived.Tactics
import Derived.Orders
import Derived.LoopN
import Derived.Test.YtpaiejeipghehaaProg
import Derived.Tactics2
import Derived.WalkKit
import Derived.Deep.RegionHeld3
import Derived.Deep.DeepCutAuto
import Derived.Deep.QuietTactic
import Derived.BigQuiet
import Derived.KernelRfl
import Derived.WideLaws
import Derived.WalkSpells
import Derived.Handy
import Derived.Laws.BitsAllLaws
import Derived.StillTailTactics
import Derived.DeepKeys5
import Derived.Maps.OwnSet
import Derived.Maps.OwnOps
import Derived.Maps.Views
import Derived.Carry
section
/- A region in the order of its text. No condition. -/
namespace Go.Proofs.Ytpaiejeipghehaa

def EnvR (ρ : Names) (e : Env) (a : Act) : Prop := ∀ t s, elook t e = some s → ∃ x, a.tmps[t]? = some x ∧ den ρ s = some x

section
variable {R : Type} {A : RepAt R} {P : Program} {st st' : St R} {ρ ρ' : Names} {e : Env} {a : Act}
theorem EnvR.mono (h : EnvR ρ e a) (hle : ρ.le ρ') : EnvR ρ' e a := fun t s hs => by
  obtain ⟨x, h1, h2⟩ := h t s hs
  exact ⟨x, h1, den_mono hle _ _ h2⟩
theorem EnvR.ev (h : EnvR ρ e a) : Ev ρ (evX e) a := by
  intro x s hx
  cases x with
  | tmp t =>
    obtain ⟨y, h1, h2⟩ := h t s hx
    rw [h2]
    simp only [Act.eval, Array.getD_eq_getD_getElem?, h1]
    rfl
  | const c =>
    simp only [evX, Option.some.injEq] at hx
    subst hx
    rfl
  | func f =>
    simp only [evX, Option.some.injEq] at hx
    subst hx
    rfl
  | global g => cases hx
theorem elook_cons {t k : Nat} {s : SV} : elook t ((k, s) :: e) = if t = k then some s else elook t e := by
  simp only [elook]
  by_cases hm : t = k
  · subst hm; simp
  · have := beq_no hm
    simp [this, hm]
theorem put_size {d : Option Tmp} {x : Value} : (a.put d x).tmps.size = a.tmps.size := by cases d <;> simp [Act.put]
theorem put_defers {d : Option Tmp} {x : Value} : (a.put d x).defers = a.defers := by cases d <;> simp [Act.put]
theorem put_tmps {d : Option Tmp} {x : Value} (t : Nat) : (a.put d x).tmps[t]? = match d with
    | some k => if t = k then (if k < a.tmps.size then some x else none) else a.tmps[t]?
    | none => a.tmps[t]? := by
  cases d with
  | none => rfl
  | some k =>
    simp only [Act.put, Array.getElem?_setIfInBounds]
    by_cases h : t = k
    · subst h; simp
    · rw [if_neg (fun e => h e.symm), if_neg h]
theorem EnvR.put (h : EnvR ρ e a) {d : Option Tmp} {s : SV} {x : Value} (hx : den ρ s = some x) (hd : ∀ k, d = some k → k < a.tmps.size) : EnvR ρ (putX d s e) (a.put d x) := by
  intro t r ht
  cases d with
  | none => exact h t r ht
  | some k =>
    simp only [putX, elook_cons] at ht
    rw [put_tmps]
    by_cases hk : t = k
    · subst hk
      simp only [if_true, Option.some.injEq] at ht
      subst ht
      exact ⟨x, by simp [hd t rfl], hx⟩
    · simp only [hk, if_false] at ht ⊢
      exact h t r ht

/-- An operation behind its guard. -/
theorem one_s {call : Hk R} (hcall : HkOK A P call) {ops : Array Oper} {o : Oper} {ev : Operand → Option SV} {s : SV} (h : oneX P call ops o ev st = .ok s st') : Fn st st' ∧ ∀ B F ρ own w a, Sit A P B F st st' ρ own w → Ev ρ ev a →
    (∀ d, ∀ s, ev (.tmp d) = some s → ∃ x, a.tmps[d]? = some x ∧ den ρ s = some x) → ∀ (K : Act → World → Prop) (Q : Exit → Act → World → Prop), (∀ x ρ' own' w', Tr A P B F st st' ρ own w ρ' own' w' → den ρ' s = some x → K (a.put o.dst x) w') →
    if Region.wanted o (yielded ops a.tmps) then o.wp P a w K Q ∨ (o.asks P a w ∧ LetsOut Q) else K (a.put o.dst undef) w := by
  unfold oneX at h
  cases hg : o.guard with
  | none =>
    rw [hg] at h
    obtain ⟨hf, hs⟩ := op_s hcall h
    refine ⟨hf, fun B F ρ own w a si hev _ K Q hk => ?_⟩
    have : Region.wanted o (yielded ops a.tmps) = true := by simp [Region.wanted, hg]
    rw [if_pos this]
    exact .inl (hs B F ρ own w a si hev K Q hk)
  | some jw =>
    obtain ⟨j, want⟩ := jw
    rw [hg] at h
    simp only at h
    cases hd : (ops[j]?).bind (·.dst) with
    | none => rw [hd] at h; exact (fail_ok.1 h).elim
    | some d =>
      rw [hd] at h
      simp only at h
      obtain ⟨g, _, h5, h6⟩ := bind_ok.1 h
      obtain ⟨hv, rfl⟩ := opt_ok.1 h5
      simp only [Option.bind_eq_some_iff] at hv
      obtain ⟨sv, hv, hsv⟩ := hv
      cases g with
      | none =>
        have hsv : sv = .v undef := by
          unfold guardOf at hsv
          split at hsv <;> simp_all [undef]
        subst hsv
        obtain ⟨rfl, rfl⟩ := ret_ok.1 h6
        refine ⟨Fn.refl _, fun B F ρ own w a si hev hl K Q hk => ?_⟩
        obtain ⟨x, h3, h4⟩ := hl d _ hv
        simp only [den, Option.some.injEq] at h4
        subst h4
        have hw : Region.wanted o (yielded ops a.tmps) = false := by
          simp only [Region.wanted, hg, yielded, hd, Option.bind_some, h3, undef]
          rfl
        rw [hw]
        simp only [Bool.false_eq_true, if_false]
        exact hk undef ρ own w (si.quiet (Quiet.refl _)) rfl
      | some b =>
      have hsv : sv = .v (.bool b) := by
        unfold guardOf at hsv
        split at hsv <;> simp_all
      subst hsv
      obtain ⟨r, st1, h1, h2⟩ := bind_ok.1 h6
      obtain ⟨q, hq⟩ := ask_ok h1
      have hy : ∀ {ρ : Names} {a : Act}, (∀ d, ∀ s, ev (.tmp d) = some s → ∃ x, a.tmps[d]? = some x ∧ den ρ s = some x) → Region.wanted o (yielded ops a.tmps) = (b == want) := by
        intro ρ a hl
        obtain ⟨x, h3, h4⟩ := hl d _ hv
        simp only [den, Option.some.injEq] at h4
        subst h4
        simp only [Region.wanted, hg, yielded, hd, Option.bind_some, h3]
        cases b <;> cases want <;> rfl
      cases hrw : (r == want) with
      | true =>
        rw [hrw] at h2
        obtain ⟨hf, hs⟩ := op_s hcall h2
        refine ⟨q.fn.trans hf, fun B F ρ own w a si hev hl K Q hk => ?_⟩
        have hb := hq (fun p hp => si.ask p (hf.ask p hp))
        rw [hy hl, hb, hrw, if_pos rfl]
        exact .inl (hs B F ρ own w a (si.of_quiet q) hev K Q (fun x ρ' own' w' ht hx => hk x ρ' own' w' (Tr.of_quiet q ht) hx))
      | false =>
        rw [hrw] at h2
        obtain ⟨rfl, rfl⟩ := ret_ok.1 h2
        refine ⟨q.fn, fun B F ρ own w a si hev hl K Q hk => ?_⟩
        have hb := hq si.ask
        rw [hy hl, hb, hrw]
        simp only [Bool.false_eq_true, if_false]
        exact hk undef ρ own w (si.quiet q) rfl

theorem seq_s {call : Hk R} (hcall : HkOK A P call) {ops : Array Oper} {sz : Nat} : ∀ {l : List Oper} {e e' : Env} {st st' : St R}, seqX P call ops sz l e st = .ok e' st' → Fn st st' ∧ ∀ B F ρ own w a, Sit A P B F st st' ρ own w → EnvR ρ e a → a.tmps.size = sz →
    ∀ (Q : Exit → Act → World → Prop), (∀ a' ρ' own' w', Tr A P B F st st' ρ own w ρ' own' w' → EnvR ρ' e' a' → a'.tmps.size = sz → a'.defers = a.defers → Q .normal a' w') → wpList P ops Q l a w
  | [], e, e', st, st', h => by
    obtain ⟨rfl, rfl⟩ := ret_ok.1 h
    exact ⟨Fn.refl _, fun B F ρ own w a si he hz Q hk => hk a ρ own w (si.quiet (Quiet.refl _)) he hz rfl⟩
  | o :: l, e, e', st, st', h => by
    obtain ⟨_, _, h1, h2⟩ := bind_ok.1 h
    obtain ⟨hd, rfl⟩ := want_ok.1 h1
    obtain ⟨s, st1, h3, h4⟩ := bind_ok.1 h2
    obtain ⟨f1, hs1⟩ := one_s hcall h3
    obtain ⟨f2, hs2⟩ := seq_s hcall h4
    refine ⟨f1.trans f2, fun B F ρ own w a si he hz Q hk => ?_⟩
    unfold wpList
    refine hs1 B F ρ own w a (si.head f1 f2) he.ev (fun d s hs => he d s hs) _ Q (fun x ρ1 own1 w1 ht hx => ?_)
    refine hs2 B _ ρ1 own1 w1 (a.put o.dst x) (si.next f1 f2 ht) ((he.mono ht.le).put hx (fun k hk => ?_)) (by rw [put_size, hz]) Q (fun a' ρ' own' w' ht' he' hz' hd' => hk a' ρ' own' w' (ht.trans ht' f1 f2 (f1.wf si.wf)) he' hz' (by rw [hd', put_defers]))
    rw [hk] at hd
    rw [hz]
    simpa [Nat.blt_eq] using hd
end
end Go.Proofs.Ytpaiejeipghehaa
end
section
/- A region whose order is open: what is needed of orders. No condition. -/
namespace Go.Proofs.Ytpaiejeipghehaa

section
variable {α : Type}
/-- What the last of those that have a say gives. -/
def view (base : α) (res : Nat → α) (p : Nat → Bool) : Nat → α
  | 0 => base
  | n + 1 => if p n = true then res n else view base res p n
variable {base : α} {res : Nat → α} {p q : Nat → Bool} {n : Nat}
theorem view_congr (h : ∀ j, j < n → p j = q j) : view base res p n = view base res q n := by
  induction n with
  | zero => rfl
  | succ n ih => simp only [view, h n (Nat.lt_succ_self n), ih (fun j hj => h j (Nat.lt_succ_of_lt hj))]
theorem view_above {i : Nat} (hi : i ≤ n) (h : ∀ j, i ≤ j → j < n → p j = false) : view base res p n = view base res p i := by
  induction n with
  | zero =>
    obtain rfl : i = 0 := by omega
    rfl
  | succ n ih =>
    by_cases e : i = n + 1
    · subst e; rfl
    · simp only [view, h n (by omega) (Nat.lt_succ_self n), Bool.false_eq_true, if_false]
      exact ih (by omega) (fun j h1 h2 => h j h1 (by omega))
theorem view_text {X : Nat → α} (h0 : X 0 = base) (hs : ∀ k, k < n → X (k + 1) = if p k = true then res k else X k) : ∀ i, i ≤ n → X i = view base res p i
  | 0, _ => h0
  | i + 1, hi => by rw [hs i (by omega), view, view_text h0 hs i (by omega)]
theorem view_at {X : Nat → α} {D : Nat → Bool} {i : Nat} (h0 : X 0 = base) (hs : ∀ k, k < n → X (k + 1) = if p k = true then res k else X k) (hi : i ≤ n) (hl : ∀ j, j < i → p j = true → D j = true) (hu : ∀ j, i ≤ j → j < n → p j = true → D j = false) :
    view base res (fun j => D j && p j) n = X i := by
  rw [view_above hi (fun j h1 h2 => by
    cases hp : p j with
    | false => simp
    | true => rw [hu j h1 h2 hp]; rfl), view_text h0 hs i hi]
  refine view_congr fun j hj => ?_
  cases hp : p j with
  | false => simp
  | true => rw [hl j hj hp]; rfl
theorem view_set {D D' : Nat → Bool} {i : Nat} (hi : i < n) (hD : ∀ j, D' j = (D j || j == i)) (hu : p i = true → ∀ j, i < j → j < n → p j = true → D j = false) :
    view base res (fun j => D' j && p j) n = if p i = true then res i else view base res (fun j => D j && p j) n := by
  split
  · next hp =>
    rw [view_above (i := i + 1) (by omega) (fun j h1 h2 => by
      cases hpj : p j with
      | false => simp
      | true =>
        have : (j == i) = false := by simp; omega
        rw [hD, hu hp j (by omega) h2 hpj, this]
        rfl)]
    have : D' i = true := by rw [hD]; simp
    simp [view, this, hp]
  · next hp =>
    refine view_congr fun j hj => ?_
    rw [hD]
    by_cases e : j = i
    · subst e
      have : p j = false := by simpa using hp
      simp [this]
    · have : (j == i) = false := by simpa using e
      rw [this, Bool.or_false]
end

/-- A set of operations that holds what stands ahead of its own. -/
def Closed (l : List Oper) (D : Nat → Bool) : Prop := ∀ (j : Nat) (o : Oper), l[j]? = some o → D j = true → ∀ e ∈ o.after, Region.binds .any e = true → D e.on = true
def Ahead (l : List Oper) (m j : Nat) : Prop := ∀ i, m.testBit i = true → ∀ D, Closed l D → D j = true → D i = true
theorem maskOf_ahead {l : List Oper} {acc : List Nat} {o : Oper} (ho : l[acc.length]? = some o) (hacc : ∀ k m, acc[k]? = some m → Ahead l m (acc.length - 1 - k)) : Ahead l (maskOf acc o) acc.length := by
  intro i hi D hD hj
  unfold maskOf at hi
  have key : ∀ (es : List Edge), (∀ e ∈ es, e ∈ o.after) → (es.foldr (fun e s => match Region.binds .any e && Nat.blt e.on acc.length with
      | true => (s ||| 2 ^ e.on) ||| acc.getD (acc.length - 1 - e.on) 0
      | false => s) 0).testBit i = true → D i = true := by
    intro es
    induction es with
    | nil => intro _ h; simp at h
    | cons e es ih =>
      intro hm h
      rw [List.foldr_cons] at h
      cases hb : (Region.binds .any e && Nat.blt e.on acc.length) with
      | false =>
        rw [hb] at h
        exact ih (fun e he => hm e (List.mem_cons_of_mem _ he)) h
      | true =>
        rw [hb] at h
        simp only [Nat.testBit_or, Bool.or_eq_true] at h
        simp only [Bool.and_eq_true] at hb
        have hlt : e.on < acc.length := by simpa [Nat.blt_eq] using hb.2
        have hon := hD acc.length o ho hj e (hm e (List.mem_cons_self ..)) hb.1
        rcases h with (h | h) | h
        · exact ih (fun e he => hm e (List.mem_cons_of_mem _ he)) h
        · rw [Nat.testBit_two_pow] at h
          simp only [decide_eq_true_eq] at h
          rw [← h]
          exact hon
        · have hg : acc[acc.length - 1 - e.on]? = some (acc.getD (acc.length - 1 - e.on) 0) := by
            rw [List.getD_eq_getElem?_getD, List.getElem?_eq_getElem (by omega)]
            rfl
          have := hacc _ _ hg
          rw [show acc.length - 1 - (acc.length - 1 - e.on) = e.on by omega] at this
          exact this i h D hD hon
  exact key o.after.toList (fun e he => by simpa using he) hi
theorem masks_ahead {l : List Oper} : ∀ {r : List Oper} {acc : List Nat}, (∀ k, r[k]? = l[acc.length + k]?) → (∀ k m, acc[k]? = some m → Ahead l m (acc.length - 1 - k)) →
    (masks r acc).length = acc.length + r.length ∧ ∀ k m, (masks r acc)[k]? = some m → Ahead l m (acc.length + r.length - 1 - k)
  | [], acc, _, h => ⟨by simp [masks], by simpa [masks] using h⟩
  | o :: r, acc, hr, h => by
    have ho : l[acc.length]? = some o := by have := hr 0; simpa using this.symm
    obtain ⟨h1, h2⟩ := masks_ahead (r := r) (acc := maskOf acc o :: acc) (fun k => by
      have := hr (k + 1)
      rw [List.getElem?_cons_succ] at this
      rw [this, List.length_cons]
      congr 1
      omega) (fun k m hk => by
      cases k with
      | zero =>
        simp only [List.getElem?_cons_zero, Option.some.injEq] at hk
        subst hk
        simpa using maskOf_ahead ho h
      | succ k =>
        have := h k m (by simpa using hk)
        rw [List.length_cons, show acc.length + 1 - 1 - (k + 1) = acc.length - 1 - k by omega]
        exact this)
    simp only [List.length_cons] at h1 h2
    refine ⟨by simp only [masks, List.length_cons]; omega, fun k m hk => ?_⟩
    have := h2 k m hk
    rw [List.length_cons, show acc.length + (r.length + 1) - 1 - k = acc.length + 1 + r.length - 1 - k by omega]
    exact this

theorem ordered_spec {L : Nat → Log} : ∀ {n : Nat} {ms : List Nat}, ms.length = n → ordered ms ((List.range n).reverse.map L) = true → ∀ i j, i < j → j < n → clash (L i) (L j) = true → ∃ m, ms[n - 1 - j]? = some m ∧ m.testBit i = true
  | 0, _, _, _, i, j, _, h, _ => by omega
  | n + 1, [], hl, _, _, _, _, _, _ => by simp at hl
  | n + 1, m :: ms, hl, h, i, j, hij, hj, hc => by
    rw [List.range_succ, List.reverse_append, List.map_append] at h
    simp only [List.reverse_cons, List.reverse_nil, List.nil_append, List.map_cons, List.map_nil, List.singleton_append, ordered, Bool.and_eq_true] at h
    by_cases e : j = n
    · subst e
      refine ⟨m, by simp, ?_⟩
      have h1 := List.all_eq_true.1 h.1 (L i, j - 1 - i) (by
        rw [List.mem_zipIdx_iff_getElem?, List.getElem?_map, List.getElem?_reverse (by simp; omega), List.length_range, List.getElem?_range (by omega)]
        simp only [Option.map_some, Option.some.injEq]
        congr 1
        omega)
      simp only [hc, Bool.not_true, Bool.false_or, List.length_map, List.length_reverse, List.length_range] at h1
      rw [show j - 1 - (j - 1 - i) = i by omega] at h1
      exact h1
    · obtain ⟨m', h1, h2⟩ := ordered_spec (n := n) (ms := ms) (by simpa using hl) h.2 i j hij (by omega) hc
      refine ⟨m', ?_, h2⟩
      rw [show n + 1 - 1 - j = (n - 1 - j) + 1 by omega, List.getElem?_cons_succ]
      exact h1
end Go.Proofs.Ytpaiejeipghehaa
end
section
/- A region whose order is open. No condition. -/
namespace Go.Proofs.Ytpaiejeipghehaa

section
variable {R : Type} {A : RepAt R} {P : Program}
/-- One operation of the walk. -/
structure Link (P : Program) (call : Hk R) (ops : Array Oper) (sz k : Nat) (o : Oper) (s t s' : St R) (e e' : Env) (v : SV) (L : Log) : Prop where
  dst : ∀ d, o.dst = some d → d < sz
  edge : ∀ ed ∈ o.after, Region.binds .any ed = true → ed.on < k
  run : oneX P call ops o (evR (o.looksAt ops) e) s.bare = .ok v t
  st : s' = t.join s
  env : e' = putX o.dst v e
  log : L = logOf s t ops o

theorem drawX_chain {call : Hk R} {ops : Array Oper} {sz : Nat} : ∀ {l : List Oper} {ls ls' : List Log} {e e' : Env} {st st' : St R}, drawX P call ops sz l ls e st = .ok (e', ls') st' →
    ∃ (E : Nat → Env) (S T : Nat → St R) (V : Nat → SV) (L : Nat → Log), E 0 = e ∧ S 0 = st ∧ E l.length = e' ∧ S l.length = st' ∧ ls' = (List.range l.length).reverse.map L ++ ls ∧
      ∀ i o, l[i]? = some o → Link P call ops sz (ls.length + i) o (S i) (T i) (S (i + 1)) (E i) (E (i + 1)) (V i) (L i)
  | [], ls, ls', e, e', st, st', h => by
    simp only [drawX] at h
    obtain ⟨h1, rfl⟩ := ret_ok.1 h
    injection h1 with h1 h2
    subst h1
    subst h2
    exact ⟨fun _ => e, fun _ => st, fun _ => st, fun _ => undefX, fun _ => ⟨[], [], 0, 0, [], none⟩, rfl, rfl, rfl, rfl, by simp, fun i o ho => by simp at ho⟩
  | o :: l, ls, ls', e, e', st, st', h => by
    simp only [drawX] at h
    obtain ⟨_, _, h1, h2⟩ := bind_ok.1 h
    obtain ⟨hw, rfl⟩ := want_ok.1 h1
    simp only [Bool.and_eq_true] at hw
    obtain ⟨hw1, hw2⟩ := hw
    cases hr : oneX P call ops o (evR (o.looksAt ops) e) st.bare with
    | no w l => rw [hr] at h2; cases h2
    | ok s t =>
      rw [hr] at h2
      simp only at h2
      obtain ⟨E, S, T, V, L, g1, g2, g3, g4, g5, g6⟩ := drawX_chain h2
      refine ⟨fun i => match i with | 0 => e | i + 1 => E i, fun i => match i with | 0 => st | i + 1 => S i, fun i => match i with | 0 => t | i + 1 => T i, fun i => match i with | 0 => s | i + 1 => V i,
        fun i => match i with | 0 => logOf st t ops o | i + 1 => L i, rfl, rfl, g3, g4, ?_, ?_⟩
      · rw [g5, List.length_cons, List.range_succ_eq_map, List.reverse_cons, List.map_append, ← List.map_reverse, List.map_map]
        simp only [List.map_cons, List.map_nil, List.append_assoc, List.singleton_append]
        congr 1
      · intro i o' ho'
        cases i with
        | zero =>
          simp only [List.getElem?_cons_zero, Option.some.injEq] at ho'
          subst ho'
          refine ⟨fun d hd => ?_, fun ed hed hb => ?_, hr, g2, g1, rfl⟩
          · rw [hd] at hw1
            simpa [Nat.blt_eq] using hw1
          · have := Array.all_eq_true_iff_forall_mem.1 hw2 ed hed
            rw [hb] at this
            simpa [Nat.blt_eq] using this
        | succ i =>
          have := g6 i o' (by simpa using ho')
          rw [List.length_cons, show ls.length + 1 + i = ls.length + (i + 1) by omega] at this
          exact this

theorem bare_wf {s : St R} (h : Wf s) : Wf s.bare := ⟨(fun n hn => by cases hn), h.top⟩
theorem Link.fn {call : Hk R} (hcall : HkOK A P call) {ops : Array Oper} {sz k : Nat} {o : Oper} {s t s' : St R} {e e' : Env} {v : SV} {L : Log} (h : Link P call ops sz k o s t s' e e' v L) : Fn s.bare t ∧ Fn s s' := by
  have hf := (one_s hcall h.run).1
  refine ⟨hf, ?_⟩
  rw [h.st]
  refine ⟨hf.nx, fun n hn => mem_uni.2 (.inr hn), fun n hn => mem_uni.2 (.inr hn), hf.ask, fun n hn hl => hf.hp n (fun hw => hn (mem_uni.2 (.inl hw))) hl, fun hw => ?_, fun n hn => ?_⟩
  · have hw' := hf.wf (bare_wf hw)
    refine ⟨fun n hn => ?_, hw'.top⟩
    rcases mem_uni.1 hn with h1 | h1
    · exact ⟨mem_uni.2 (.inl (hw'.wr n h1).1), (hw'.wr n h1).2⟩
    · exact ⟨mem_uni.2 (.inr (hw.wr n h1).1), Nat.lt_of_lt_of_le (hw.wr n h1).2 hf.nx⟩
  · rcases mem_uni.1 hn with h1 | h1
    · rcases hf.al n h1 with h2 | h2
      · cases h2
      · exact .inr h2
    · exact .inl h1

/-- A memory, said by name. -/
def mkL (N : Nat) (g : Nat → Option (Chunk R)) : List (Nat × Chunk R) := (List.range N).filterMap fun n => (g n).map fun c => (n, c)
theorem hget_mkL {g : Nat → Option (Chunk R)} {m : Nat} : ∀ {N : Nat}, hget m (mkL N g) = if m < N then g m else none
  | 0 => by simp [mkL, hget]
  | N + 1 => by
    have happ : ∀ (l r : List (Nat × Chunk R)), hget m (l ++ r) = match hget m l with | some c => some c | none => hget m r := by
      intro l r
      induction l with
      | nil => rfl
      | cons p l ih =>
        obtain ⟨k, c⟩ := p
        rw [List.cons_append, hget_cons, hget_cons]
        by_cases h : m = k <;> simp [h, ih]
    have e : mkL (N + 1) g = mkL N g ++ ((g N).map fun c => (N, c)).toList := by
      unfold mkL
      rw [List.range_succ, List.filterMap_append]
      cases h : g N <;> simp [h]
    rw [e, happ, hget_mkL]
    by_cases h1 : m < N
    · rw [if_pos h1, if_pos (by omega)]
      cases hg : g m with
      | some c => rfl
      | none =>
        simp only
        cases h : g N with
        | none => rfl
        | some c => simp [hget_cons, hget, show ¬ m = N by omega]
    · rw [if_neg h1]
      simp only
      by_cases h2 : m = N
      · subst h2
        rw [if_pos (by omega)]
        cases g m <;> simp [hget]
      · rw [if_neg (by omega)]
        cases g N with
        | none => rfl
        | some c => simp [hget_cons, hget, h2]
end
end Go.Proofs.Ytpaiejeipghehaa
end
section
/- A region whose order is open: the machine, in whatever order, comes where the walk in the text's order comes. No condition. -/
namespace Go.Proofs.Ytpaiejeipghehaa

section
variable {R : Type} {A : RepAt R} {P : Program}

theorem touches_iff {s t : St R} {ops : Array Oper} {o : Oper} {n : Nat} : touches (logOf s t ops o) n = true ↔ n ∈ t.wr ∨ newN s t n := by
  simp only [touches, logOf, Bool.or_eq_true, memN_iff, Bool.and_eq_true, newN]
  simp [Nat.blt_eq, Nat.ble_eq]

/-- What is known of the operations of one region. -/
structure Ctx (A : RepAt R) (P : Program) (call : Hk R) (ops : Array Oper) (sz n : Nat) (E : Nat → Env) (S T : Nat → St R) (V : Nat → SV) (L : Nat → Log) : Prop where
  cok : HkOK A P call
  size : ops.size = n
  link : ∀ i o, ops[i]? = some o → Link P call ops sz i o (S i) (T i) (S (i + 1)) (E i) (E (i + 1)) (V i) (L i)
  wf : Wf (S 0)
  ord : ∀ i j, i < j → j < n → clash (L i) (L j) = true → ∀ D, Closed ops.toList D → D j = true → D i = true

variable {call : Hk R} {ops : Array Oper} {sz n : Nat} {E : Nat → Env} {S T : Nat → St R} {V : Nat → SV} {L : Nat → Log}

theorem Ctx.op (c : Ctx A P call ops sz n E S T V L) {i : Nat} (hi : i < n) : ∃ o, ops[i]? = some o := ⟨ops[i]'(by rw [c.size]; exact hi), Array.getElem?_eq_getElem _⟩
theorem Ctx.fnB (c : Ctx A P call ops sz n E S T V L) {i : Nat} (hi : i < n) : Fn (S i).bare (T i) := by
  obtain ⟨o, ho⟩ := c.op hi
  exact ((c.link i o ho).fn c.cok).1
theorem Ctx.fn1 (c : Ctx A P call ops sz n E S T V L) {i : Nat} (hi : i < n) : Fn (S i) (S (i + 1)) := by
  obtain ⟨o, ho⟩ := c.op hi
  exact ((c.link i o ho).fn c.cok).2
theorem Ctx.fn (c : Ctx A P call ops sz n E S T V L) {i : Nat} : ∀ {j}, i ≤ j → j ≤ n → Fn (S i) (S j)
  | 0, h, _ => by
    obtain rfl : i = 0 := by omega
    exact Fn.refl _
  | j + 1, h, hj => by
    by_cases e : i = j + 1
    · subst e; exact Fn.refl _
    · exact (c.fn (j := j) (by omega) (by omega)).trans (c.fn1 (by omega))
theorem Ctx.wfS (c : Ctx A P call ops sz n E S T V L) {i : Nat} (hi : i ≤ n) : Wf (S i) := (c.fn (Nat.zero_le i) hi).wf c.wf
theorem Ctx.wfT (c : Ctx A P call ops sz n E S T V L) {i : Nat} (hi : i < n) : Wf (T i) := (c.fnB hi).wf (bare_wf (c.wfS (Nat.le_of_lt hi)))
theorem join_hp {t s : St R} : (t.join s).hp = t.hp ∧ (t.join s).nx = t.nx ∧ (t.join s).fr = uniN t.fr s.fr ∧ (t.join s).wr = uniN t.wr s.wr ∧ (t.join s).ask = t.ask := ⟨rfl, rfl, rfl, rfl, rfl⟩
theorem Ctx.next (c : Ctx A P call ops sz n E S T V L) {i : Nat} (hi : i < n) : (S (i + 1)).hp = (T i).hp ∧ (S (i + 1)).nx = (T i).nx ∧ (S (i + 1)).fr = uniN (T i).fr (S i).fr ∧ (S (i + 1)).wr = uniN (T i).wr (S i).wr ∧ (S (i + 1)).ask = (T i).ask := by
  obtain ⟨o, ho⟩ := c.op hi
  rw [(c.link i o ho).st]
  exact join_hp

def nw (S T : Nat → St R) (i m : Nat) : Prop := newN (S i) (T i) m
def tch (L : Nat → Log) (m i : Nat) : Bool := touches (L i) m
theorem Ctx.tch_iff (c : Ctx A P call ops sz n E S T V L) {i m : Nat} (hi : i < n) : tch L m i = true ↔ m ∈ (T i).wr ∨ nw S T i m := by
  obtain ⟨o, ho⟩ := c.op hi
  unfold tch nw
  rw [(c.link i o ho).log]
  exact touches_iff
theorem Ctx.new_disj (c : Ctx A P call ops sz n E S T V L) {i j m : Nat} (hi : i < n) (hj : j < n) (h1 : nw S T i m) (h2 : nw S T j m) : i = j := by
  have key : ∀ {a b : Nat}, a < b → b < n → nw S T a m → nw S T b m → False := by
    intro a b hab hb h1 h2
    have := (c.fn (i := a + 1) (j := b) hab (Nat.le_of_lt hb)).nx
    rw [(c.next (by omega)).2.1] at this
    unfold nw newN at h1 h2
    omega
  rcases Nat.lt_trichotomy i j with h | h | h
  · exact (key h hj h1 h2).elim
  · exact h
  · exact (key h hi h2 h1).elim
/-- The text's memory, step by step. -/
theorem Ctx.hpStep (c : Ctx A P call ops sz n E S T V L) (m : Nat) {k : Nat} (hk : k < n) : hget m (S (k + 1)).hp = if tch L m k = true then hget m (T k).hp else hget m (S k).hp := by
  rw [(c.next hk).1]
  split
  · rfl
  · next h =>
    rw [c.tch_iff hk, not_or] at h
    rcases Nat.lt_or_ge m (S k).nx with hl | hl
    · exact (c.fnB hk).hp m h.1 hl
    · have : (T k).nx ≤ m := by
        have := h.2
        unfold nw newN at this
        omega
      rw [(c.wfT hk).top m this, (c.wfS (Nat.le_of_lt hk)).top m hl]
def hitO : Option Tmp → Nat → Bool
  | some d, t => Nat.beq d t
  | none, _ => false
theorem hitO_iff {o : Option Tmp} {t : Nat} : hitO o t = true ↔ o = some t := by
  cases o with
  | none => simp [hitO]
  | some d =>
    simp only [hitO, Option.some.injEq]
    exact ⟨Nat.eq_of_beq_eq_true, fun h => by subst h; simp⟩
def hits (L : Nat → Log) (t i : Nat) : Bool := hitO (L i).dst t
theorem Ctx.envStep (c : Ctx A P call ops sz n E S T V L) (t : Nat) {k : Nat} (hk : k < n) : elook t (E (k + 1)) = if hits L t k = true then some (V k) else elook t (E k) := by
  obtain ⟨o, ho⟩ := c.op hk
  have hl := c.link k o ho
  have hd : (L k).dst = o.dst := by rw [hl.log]; rfl
  rw [hl.env]
  by_cases hh : hits L t k = true
  · rw [if_pos hh]
    have := hitO_iff.1 hh
    rw [hd] at this
    rw [this]
    simp [putX, elook_cons]
  · rw [if_neg hh]
    have hne : o.dst ≠ some t := fun e => hh (hitO_iff.2 (hd.trans e))
    cases ho2 : o.dst with
    | none => rfl
    | some d =>
      rw [putX, elook_cons, if_neg (fun e => hne (by rw [ho2, e]))]

theorem any_of {l : List Nat} {f : Nat → Bool} {m : Nat} (h : m ∈ l) (hf : f m = true) : l.any f = true := List.any_eq_true.2 ⟨m, h, hf⟩
theorem Ctx.clash_fr (c : Ctx A P call ops sz n E S T V L) {i j m : Nat} (hi : i < n) (hj : j < n) (hm : m ∈ (T i).fr) (ht : tch L m j = true) : clash (L i) (L j) = true ∧ clash (L j) (L i) = true := by
  obtain ⟨o, ho⟩ := c.op hi
  obtain ⟨p, hp⟩ := c.op hj
  have e : (L i).fr = (T i).fr := by rw [(c.link i o ho).log]; rfl
  have h : (L i).fr.any (touches (L j)) = true := any_of (by rw [e]; exact hm) ht
  unfold clash
  rw [h]
  simp
theorem Ctx.clash_tt (c : Ctx A P call ops sz n E S T V L) {i j m : Nat} (hi : i < n) (hj : j < n) (hne : i ≠ j) (h1 : tch L m i = true) (h2 : tch L m j = true) : clash (L i) (L j) = true := by
  rcases (c.tch_iff hi).1 h1 with h3 | h3
  · exact (c.clash_fr hi hj ((c.wfT hi).wr m h3).1 h2).1
  · rcases (c.tch_iff hj).1 h2 with h4 | h4
    · exact (c.clash_fr hj hi ((c.wfT hj).wr m h4).1 h1).2
    · exact absurd (c.new_disj hi hj h3 h4) hne

/-- How things stand when those of D have been carried out. -/
structure RI (A : RepAt R) (P : Program) (B : Nat) (F WR : Nat → Prop) (sz n : Nat) (E : Nat → Env) (S T : Nat → St R) (V : Nat → SV) (L : Nat → Log) (ρ0 : Names) (own0 : Nat → List Nat) (w0 : World) (a0 : Act) (D : Nat → Bool) (ρ : Names) (own : Nat → List Nat) (a : Act) (w : World) : Prop where
  le : ρ0.le ρ
  out : ∀ m, (∀ i, i < n → D i = true → ¬ nw S T i m) → ρ m = ρ0 m
  same : ∀ m, (∀ i, i < n → D i = true → tch L m i = false) → own m = own0 m
  pool : ∀ m i, i < n → D i = true → tch L m i = true → ∀ b ∈ own m, w0.heap.size ≤ b ∨ ∃ k, WR k ∧ k < (S 0).nx ∧ b ∈ own0 k
  li : LI A P B ρ own (mkL (S n).nx fun m => view (hget m (S 0).hp) (fun i => hget m (T i).hp) (fun j => D j && tch L m j) n) (fun m => F m ∨ ∃ i, i < n ∧ D i = true ∧ nw S T i m) w
  mod : ModP (fun b => ∃ k, WR k ∧ k < (S 0).nx ∧ b ∈ own0 k) w0 w
  env : ∀ t s, view (elook t (E 0)) (fun i => some (V i)) (fun j => D j && hits L t j) n = some s → ∃ x, a.tmps[t]? = some x ∧ den ρ s = some x
  size : a.tmps.size = sz
  defers : a.defers = a0.defers

variable {B : Nat} {F WR : Nat → Prop} {ρ0 ρ : Names} {own0 own : Nat → List Nat} {w0 w : World} {a0 a : Act} {D : Nat → Bool}

/-- One more of those that are ready. -/
theorem RI.step (c : Ctx A P call ops sz n E S T V L) (h : RI A P B F WR sz n E S T V L ρ0 own0 w0 a0 D ρ own a w) (hB : B ≤ w0.heap.size) (hfr : ∀ m, (S 0).nx ≤ m → m < (S n).nx → ρ0 m = none) (hF : ∀ m ∈ (S n).fr, F m) (hWR : ∀ m ∈ (S n).wr, WR m) (hask : ∀ p ∈ (S n).ask, p.1 = p.2)
    {i : Nat} (hi : i < n) (hD : D i = false) (hcl : Closed ops.toList D) (hready : ∀ o, ops[i]? = some o → ∀ e ∈ o.after, Region.binds .any e = true → D e.on = true) {D' : Nat → Bool} (hD' : ∀ j, D' j = (D j || j == i))
    {Q : Exit → Act → World → Prop} {K : Act → World → Prop} (hK : ∀ ρ' own' a' w', RI A P B F WR sz n E S T V L ρ0 own0 w0 a0 D' ρ' own' a' w' → K a' w') : wpOp P ops Q i K a w := by
  obtain ⟨o, ho⟩ := c.op hi
  have hln := c.link i o ho
  -- order
  have hclD : Closed ops.toList D' := fun j p hp hj e he hb => by
    rw [hD'] at hj ⊢
    by_cases e2 : j = i
    · subst e2
      have : p = o := by
        have h1 : ops[j]? = some p := by simpa using hp
        rw [ho] at h1
        injection h1 with h1
        exact h1.symm
      subst this
      rw [hready p ho e he hb]
      rfl
    · have : (j == i) = false := by simpa using e2
      rw [this, Bool.or_false] at hj
      rw [hcl j p hp hj e he hb]
      rfl
  have before : ∀ j, j < i → clash (L j) (L i) = true → D j = true := fun j hj hc => by
    have := c.ord j i hj hi hc D' hclD (by rw [hD']; simp)
    rw [hD'] at this
    have e : (j == i) = false := by simp; omega
    rwa [e, Bool.or_false] at this
  have behind : ∀ j, i < j → j < n → clash (L i) (L j) = true → D j = false := fun j hj hjn hc => by
    cases hDj : D j with
    | false => rfl
    | true =>
      have := c.ord i j hj hjn hc D hcl hDj
      rw [hD] at this
      cases this
  have hN : ∀ {m : Nat} {x : Chunk R} {k : Nat}, k < n → hget m (T k).hp = some x → m < (S n).nx := fun {m x k} hk hx => by
    have h1 := (c.wfT hk).lt hx
    have h2 := (c.fn (i := k + 1) (j := n) (by omega) (Nat.le_refl _)).nx
    rw [(c.next hk).2.1] at h2
    omega
  have hN0 : ∀ {m : Nat} {x : Chunk R} {k : Nat}, k ≤ n → hget m (S k).hp = some x → m < (S n).nx := fun {m x k} hk hx => by
    have h1 := (c.wfS hk).lt hx
    have h2 := (c.fn (i := k) (j := n) hk (Nat.le_refl _)).nx
    omega
  -- what the operation looks at stands as in the text
  have atFr : ∀ m ∈ (T i).fr, view (hget m (S 0).hp) (fun i => hget m (T i).hp) (fun j => D j && tch L m j) n = hget m (S i).hp := fun m hm =>
    view_at (X := fun k => hget m (S k).hp) rfl (fun k hk => c.hpStep m hk) (Nat.le_of_lt hi) (fun j hj ht => before j hj (c.clash_fr hi (by omega) hm ht).2) (fun j h1 h2 ht => by
      by_cases e : j = i
      · rw [e]; exact hD
      · exact behind j (by omega) h2 (c.clash_fr hi h2 hm ht).1)
  have atLk : ∀ t ∈ o.looksAt ops, view (elook t (E 0)) (fun i => some (V i)) (fun j => D j && hits L t j) n = elook t (E i) := fun t ht =>
    view_at (X := fun k => elook t (E k)) rfl (fun k hk => c.envStep t hk) (Nat.le_of_lt hi) (fun j hj hh => before j hj (by
      have hd := hitO_iff.1 hh
      have hl : memN t (L i).looks = true := by rw [hln.log]; exact memN_iff.2 ht
      unfold clash
      simp [hd, hl])) (fun j h1 h2 hh => by
      by_cases e : j = i
      · rw [e]; exact hD
      · refine behind j (by omega) h2 ?_
        have hd := hitO_iff.1 hh
        have hl : memN t (L i).looks = true := by rw [hln.log]; exact memN_iff.2 ht
        unfold clash
        simp [hd, hl])
  obtain ⟨hfn, hs⟩ := one_s c.cok hln.run
  have hTn : ∀ m, m ∈ (T i).fr → m ∈ (S n).fr := fun m hm => (c.fn (i := i + 1) (j := n) hi (Nat.le_refl _)).fr m (by rw [(c.next hi).2.2.1]; exact mem_uni.2 (.inl hm))
  have hTw : ∀ m, m ∈ (T i).wr → m ∈ (S n).wr := fun m hm => (c.fn (i := i + 1) (j := n) hi (Nat.le_refl _)).wr m (by rw [(c.next hi).2.2.2.1]; exact mem_uni.2 (.inl hm))
  obtain ⟨G, hG⟩ : ∃ G : Nat → Prop, G = fun m => (F m ∨ ∃ j, j < n ∧ D j = true ∧ nw S T j m) ∧ hget m (S i).hp = hget m (mkL (S n).nx fun m => view (hget m (S 0).hp) (fun i => hget m (T i).hp) (fun j => D j && tch L m j) n) := ⟨_, rfl⟩
  have hGfr : ∀ m ∈ (T i).fr, G m := fun m hm => by
    rw [hG]
    refine ⟨.inl (hF m (hTn m hm)), ?_⟩
    rw [hget_mkL]
    split
    · exact (atFr m hm).symm
    · next hlt =>
      cases hx : hget m (S i).hp with
      | none => rfl
      | some x => exact absurd (hN0 (Nat.le_of_lt hi) hx) hlt
  have sit : Sit A P B G (S i).bare (T i) ρ own w := by
    refine ⟨hGfr, bare_wf (c.wfS (Nat.le_of_lt hi)), fun m hm => ?_, ?_, fun p hp => ?_, Nat.le_trans hB h.mod.size⟩
    · rw [h.out m (fun j hj hDj hx => by
        have := c.new_disj hj hi hx hm
        rw [this, hD] at hDj
        cases hDj)]
      have h1 := (c.fn (i := 0) (j := i) (Nat.zero_le _) (Nat.le_of_lt hi)).nx
      have h2 := (c.fn (i := i + 1) (j := n) hi (Nat.le_refl _)).nx
      rw [(c.next hi).2.1] at h2
      have h3 := hm.1
      have h4 := hm.2
      change (S i).nx ≤ m at h3
      exact hfr m (by omega) (by omega)
    · refine ⟨fun m x hm hx => ?_, fun m k x y hm hk hne hx hy => ?_, fun m x hm hx => ?_⟩
      · rw [hG] at hm
        change hget m (S i).hp = some x at hx
        rw [hm.2] at hx
        exact h.li.at_ m x hm.1 hx
      · rw [hG] at hm hk
        change hget m (S i).hp = some x at hx
        change hget k (S i).hp = some y at hy
        rw [hm.2] at hx
        rw [hk.2] at hy
        exact h.li.dis m k x y hm.1 hk.1 hne hx hy
      · rw [hG] at hm
        change hget m (S i).hp = some x at hx
        rw [hm.2] at hx
        exact h.li.low m x hm.1 hx
    · have := (c.fn (i := i + 1) (j := n) hi (Nat.le_refl _)).ask
      rw [(c.next hi).2.2.2.2] at this
      exact hask p (this p hp)
  have hlook : ∀ d s, evR (o.looksAt ops) (E i) (.tmp d) = some s → ∃ x, a.tmps[d]? = some x ∧ den ρ s = some x := by
    intro d s hd
    simp only [evR] at hd
    split at hd
    · next hm =>
      refine h.env d s ?_
      rw [atLk d (memN_iff.1 hm)]
      exact hd
    · cases hd
  have hev : Ev ρ (evR (o.looksAt ops) (E i)) a := by
    intro x s hx
    cases x with
    | tmp t =>
      obtain ⟨y, h1, h2⟩ := hlook t s hx
      rw [h2]
      simp only [Act.eval, Array.getD_eq_getD_getElem?, h1]
      rfl
    | const v =>
      simp only [evR, evX, Option.some.injEq] at hx
      subst hx
      rfl
    | func f =>
      simp only [evR, evX, Option.some.injEq] at hx
      subst hx
      rfl
    | global g => cases hx
  unfold wpOp
  rw [ho]
  refine hs B G ρ own w a sit hev hlook K Q (fun x ρ' own' w' ht hx => hK ρ' own' (a.put o.dst x) w' ?_)
  have tchi : ∀ m, tch L m i = true ↔ m ∈ (T i).wr ∨ nw S T i m := fun m => c.tch_iff hi
  have hwT := c.wfT hi
  have vset : ∀ m, view (hget m (S 0).hp) (fun i => hget m (T i).hp) (fun j => D' j && tch L m j) n = if tch L m i = true then hget m (T i).hp else view (hget m (S 0).hp) (fun i => hget m (T i).hp) (fun j => D j && tch L m j) n := fun m =>
    view_set hi hD' (fun hti j h1 h2 htj => behind j h1 h2 (c.clash_tt hi h2 (by omega) hti htj))
  -- written names were there
  have alive : ∀ m ∈ (T i).wr, ¬ nw S T i m → ∃ x, hget m (S i).hp = some x := fun m hm hnn => by
    rcases hfn.al m hm with h1 | h1 | h1
    · cases h1
    · exact absurd ⟨h1, (hwT.wr m hm).2⟩ hnn
    · exact h1
  have notnew : ∀ m ∈ (T i).wr, ¬ nw S T i m → ∀ x, hget m (S i).hp = some x → (F m ∨ ∃ j, j < n ∧ D j = true ∧ nw S T j m) ∧ hget m (mkL (S n).nx fun m => view (hget m (S 0).hp) (fun i => hget m (T i).hp) (fun j => D j && tch L m j) n) = some x := fun m hm _ x hx => by
    have := hGfr m (hwT.wr m hm).1
    rw [hG] at this
    exact ⟨this.1, this.2.symm.trans hx⟩
  -- a written block was known, or is new
  have back : ∀ m ∈ (T i).wr, ¬ nw S T i m → ∀ b ∈ own m, w0.heap.size ≤ b ∨ ∃ k, WR k ∧ k < (S 0).nx ∧ b ∈ own0 k := by
    intro m hm hnn b hb
    by_cases hex : ∃ j, j < n ∧ D j = true ∧ tch L m j = true
    · obtain ⟨j, hj, hDj, htj⟩ := hex
      exact h.pool m j hj hDj htj b hb
    · rw [h.same m (fun j hj hDj => by
        cases ht : tch L m j with
        | false => rfl
        | true => exact absurd ⟨j, hj, hDj, ht⟩ hex)] at hb
      refine .inr ⟨m, hWR m (hTw m hm), ?_, hb⟩
      obtain ⟨x, hx⟩ := alive m hm hnn
      rcases Nat.lt_or_ge m (S 0).nx with hlt | hge
      · exact hlt
      · exfalso
        have hv := (notnew m hm hnn x hx).2
        rw [hget_mkL] at hv
        split at hv
        · have hnone : view (hget m (S 0).hp) (fun i => hget m (T i).hp) (fun j => D j && tch L m j) n = hget m (S 0).hp := by
            rw [view_above (i := 0) (Nat.zero_le _) (fun j _ hj => by
              cases hDj : D j with
              | false => rfl
              | true =>
                cases ht : tch L m j with
                | false => rfl
                | true => exact absurd ⟨j, hj, hDj, ht⟩ hex)]
            rfl
          rw [hnone, c.wf.top m hge] at hv
          cases hv
        · cases hv
  refine ⟨h.le.trans ht.le, fun m hm => ?_, fun m hm => ?_, fun m j hj hDj htj b hb => ?_, ?_, ?_, fun t s hts => ?_, by rw [put_size]; exact h.size, by rw [put_defers]; exact h.defers⟩
  · rw [ht.out m (hm i hi (by rw [hD']; simp))]
    exact h.out m (fun j hj hDj => hm j hj (by rw [hD', hDj]; rfl))
  · have hti := hm i hi (by rw [hD']; simp)
    have hti' : ¬ (m ∈ (T i).wr ∨ nw S T i m) := by rw [← tchi, hti]; simp
    rw [not_or] at hti'
    rw [ht.same m hti'.2 hti'.1]
    exact h.same m (fun j hj hDj => hm j hj (by rw [hD', hDj]; rfl))
  · by_cases hti : m ∈ (T i).wr ∨ nw S T i m
    · rcases ht.pool m hti.symm b hb with h1 | ⟨k, h1, h2, h3⟩
      · exact .inl (Nat.le_trans h.mod.size h1)
      · exact back k h1 h2 b h3
    · rw [not_or] at hti
      rw [ht.same m hti.2 hti.1] at hb
      have hji : j ≠ i := fun e => by
        subst e
        exact ((tchi m).1 htj).elim hti.1 hti.2
      have : (j == i) = false := by simpa using hji
      rw [hD', this, Bool.or_false] at hDj
      exact h.pool m j hj hDj htj b hb
  · -- the memory
    refine h.li.step (X := fun m => m ∈ (T i).wr ∨ nw S T i m) ht.mod ht.le (fun b hb => ?_) (fun m x hm hX hx => ?_) (fun m x _ hX hx => ?_) (fun m x _ hX hx b hb => ?_) (fun m k x y _ _ h1 h2 hne hx hy => ?_)
    · obtain ⟨m, h1, h2, h3⟩ := hb
      obtain ⟨x, hx⟩ := alive m h1 h2
      obtain ⟨h4, h5⟩ := notnew m h1 h2 x hx
      exact ⟨m, x, .inl h1, h4, h5, h3⟩
    · rw [not_or] at hX
      have hti : tch L m i = false := by
        cases ht : tch L m i with
        | false => rfl
        | true => exact (((tchi m).1 ht).elim hX.1 hX.2).elim
      rw [hget_mkL] at hx
      split at hx
      · next hlt =>
        rw [vset m, hti] at hx
        simp only [Bool.false_eq_true, if_false] at hx
        refine ⟨?_, by rw [hget_mkL, if_pos hlt]; exact hx, ht.same m hX.2 hX.1⟩
        rcases hm with h1 | ⟨j, hj, hDj, hnj⟩
        · exact .inl h1
        · rw [hD'] at hDj
          by_cases e : j = i
          · subst e; exact absurd hnj hX.2
          · have : (j == i) = false := by simpa using e
            rw [this, Bool.or_false] at hDj
            exact .inr ⟨j, hj, hDj, hnj⟩
      · cases hx
    · rw [hget_mkL] at hx
      split at hx
      · rw [vset m, if_pos ((tchi m).2 hX)] at hx
        refine ht.li.at_ m x ?_ hx
        rcases hX with h1 | h1
        · exact .inl (hGfr m (hwT.wr m h1).1)
        · exact .inr h1
      · cases hx
    · rw [hget_mkL] at hx
      split at hx
      · rw [vset m, if_pos ((tchi m).2 hX)] at hx
        have hlow := ht.li.low m x (by
          rcases hX with h1 | h1
          · exact .inl (hGfr m (hwT.wr m h1).1)
          · exact .inr h1) hx b hb
        refine ⟨hlow.2, hlow.1, ?_⟩
        rcases ht.pool m hX.symm b hb with h1 | ⟨k, h1, h2, h3⟩
        · exact .inl h1
        · obtain ⟨y, hy⟩ := alive k h1 h2
          obtain ⟨h4, h5⟩ := notnew k h1 h2 y hy
          exact .inr ⟨k, y, .inl h1, h4, h5, h3⟩
      · cases hx
    · rw [hget_mkL] at hx hy
      split at hx <;> try cases hx
      split at hy <;> try cases hy
      rw [vset m, if_pos ((tchi m).2 h1)] at hx
      rw [vset k, if_pos ((tchi k).2 h2)] at hy
      have inF : ∀ {z}, (z ∈ (T i).wr ∨ nw S T i z) → G z ∨ newN (S i).bare (T i) z := fun {z} hz => by
        rcases hz with h1 | h1
        · exact .inl (hGfr z (hwT.wr z h1).1)
        · exact .inr h1
      exact ht.li.dis m k x y (inF h1) (inF h2) hne hx hy
  · refine h.mod.trans ht.mod (fun b hb ⟨m, h1, h2, h3⟩ => ?_)
    exact (back m h1 h2 b h3).resolve_left (by omega)
  · rw [view_set hi hD' (fun hti j h1 h2 htj => behind j h1 h2 (by
      have hd := hitO_iff.1 hti
      have hd2 := hitO_iff.1 htj
      unfold clash
      simp [hd, hd2]))] at hts
    rw [put_tmps]
    have hdst : (L i).dst = o.dst := by rw [hln.log]; rfl
    split at hts
    · next hh =>
      simp only [Option.some.injEq] at hts
      subst hts
      have hd := hitO_iff.1 hh
      rw [hdst] at hd
      refine ⟨x, ?_, hx⟩
      rw [hd]
      simp [h.size, hln.dst t hd]
    · next hh =>
      obtain ⟨y, h1, h2⟩ := h.env t s hts
      refine ⟨y, ?_, den_mono ht.le _ _ h2⟩
      cases hd : o.dst with
      | none => exact h1
      | some d =>
        have : t ≠ d := fun e => hh (hitO_iff.2 (by rw [hdst, hd, e]))
        simp only [this, if_false]
        exact h1
end
end Go.Proofs.Ytpaiejeipghehaa
end
section
/- A region whose order is open, as a whole. Condition: the program follows the looser reading of Go's order. -/
namespace Go.Proofs.Ytpaiejeipghehaa

section
variable {R : Type} {A : RepAt R} {P : Program} {call : Hk R} {ops : Array Oper} {sz n : Nat} {E : Nat → Env} {S T : Nat → St R} {V : Nat → SV} {L : Nat → Log}
variable {B : Nat} {F : Nat → Prop} {ρ0 ρ : Names} {own0 own : Nat → List Nat} {w0 w : World} {a0 a : Act} {D : Nat → Bool}

theorem Ctx.cover (c : Ctx A P call ops sz n E S T V L) {m : Nat} : ∀ {k}, k ≤ n → newN (S 0) (S k) m → ∃ i, i < k ∧ nw S T i m
  | 0, _, h => by unfold newN at h; omega
  | k + 1, hk, h => by
    by_cases h1 : m < (S k).nx
    · obtain ⟨i, h2, h3⟩ := c.cover (k := k) (by omega) ⟨h.1, h1⟩
      exact ⟨i, by omega, h3⟩
    · refine ⟨k, by omega, ⟨by omega, ?_⟩⟩
      have := h.2
      rw [(c.next (by omega)).2.1] at this
      exact this
theorem Ctx.within (c : Ctx A P call ops sz n E S T V L) {m i : Nat} (hi : i < n) (h : nw S T i m) : newN (S 0) (S n) m := by
  have h1 := (c.fn (i := 0) (j := i) (Nat.zero_le _) (Nat.le_of_lt hi)).nx
  have h2 := (c.fn (i := i + 1) (j := n) hi (Nat.le_refl _)).nx
  rw [(c.next hi).2.1] at h2
  have h3 := h.1
  have h4 := h.2
  exact ⟨by omega, by omega⟩

/-- At the end. -/
theorem RI.done (c : Ctx A P call ops sz n E S T V L) (h : RI A P B F (fun m => m ∈ (S n).wr) sz n E S T V L ρ0 own0 w0 a0 D ρ own a w) (hall : ∀ i, i < n → D i = true) : Tr A P B F (S 0) (S n) ρ0 own0 w0 ρ own w ∧ EnvR ρ (E n) a := by
  have hw : ∀ {m i}, i < n → m ∈ (T i).wr → m ∈ (S n).wr := fun {m i} hi hm => (c.fn (i := i + 1) (j := n) hi (Nat.le_refl _)).wr m (by rw [(c.next hi).2.2.2.1]; exact mem_uni.2 (.inl hm))
  have hv : ∀ m, view (hget m (S 0).hp) (fun i => hget m (T i).hp) (fun j => D j && tch L m j) n = hget m (S n).hp := fun m =>
    view_at (X := fun k => hget m (S k).hp) rfl (fun k hk => c.hpStep m hk) (Nat.le_refl n) (fun j hj _ => hall j hj) (fun j h1 h2 _ => by omega)
  refine ⟨⟨h.le, fun m hm => h.out m (fun i hi _ hx => hm (c.within hi hx)), fun m hm hnw => h.same m (fun i hi _ => ?_), fun m hm b hb => ?_, ?_, h.mod.mono fun b _ ⟨k, h1, h2, h3⟩ => ⟨k, h1, fun hx => by have := hx.1; omega, h3⟩⟩, fun t s hs => ?_⟩
  · cases ht : tch L m i with
    | false => rfl
    | true =>
      rcases (c.tch_iff hi).1 ht with h1 | h1
      · exact absurd (hw hi h1) hnw
      · exact absurd (c.within hi h1) hm
  · by_cases hex : ∃ i, i < n ∧ tch L m i = true
    · obtain ⟨i, hi, ht⟩ := hex
      rcases h.pool m i hi (hall i hi) ht b hb with h1 | ⟨k, h1, h2, h3⟩
      · exact .inl h1
      · exact .inr ⟨k, h1, fun hx => by have := hx.1; omega, h3⟩
    · have hno : ∀ i, i < n → D i = true → tch L m i = false := fun i hi _ => by
        cases ht : tch L m i with
        | false => rfl
        | true => exact absurd ⟨i, hi, ht⟩ hex
      have hnn : ¬ newN (S 0) (S n) m := fun hx => by
        obtain ⟨i, hi, hni⟩ := c.cover (Nat.le_refl n) hx
        exact hex ⟨i, hi, (c.tch_iff hi).2 (.inr hni)⟩
      rw [h.same m hno] at hb
      exact .inr ⟨m, hm.resolve_left hnn, hnn, hb⟩
  · have hget_eq : ∀ m, hget m (mkL (S n).nx fun m => view (hget m (S 0).hp) (fun i => hget m (T i).hp) (fun j => D j && tch L m j) n) = hget m (S n).hp := fun m => by
      rw [hget_mkL, hv m]
      split
      · rfl
      · rw [(c.wfS (Nat.le_refl n)).top m (by omega)]
    have hF : ∀ m, F m ∨ newN (S 0) (S n) m → F m ∨ ∃ i, i < n ∧ D i = true ∧ nw S T i m := fun m hm => hm.imp_right fun hx => by
      obtain ⟨i, hi, hni⟩ := c.cover (Nat.le_refl n) hx
      exact ⟨i, hi, hall i hi, hni⟩
    exact ⟨fun m x hm hx => h.li.at_ m x (hF m hm) (by rw [hget_eq]; exact hx), fun m k x y hm hk hne hx hy => h.li.dis m k x y (hF m hm) (hF k hk) hne (by rw [hget_eq]; exact hx) (by rw [hget_eq]; exact hy),
      fun m x hm hx => h.li.low m x (hF m hm) (by rw [hget_eq]; exact hx)⟩
  · refine h.env t s ?_
    rw [view_at (X := fun k => elook t (E k)) rfl (fun k hk => c.envStep t hk) (Nat.le_refl n) (fun j hj _ => hall j hj) (fun j h1 h2 _ => by omega)]
    exact hs

/-- At the beginning. -/
theorem RI.start (hli : LI A P B ρ0 own0 (S 0).hp F w0) (he : EnvR ρ0 (E 0) a0) (hsz : a0.tmps.size = sz) {WR : Nat → Prop} : RI A P B F WR sz n E S T V L ρ0 own0 w0 a0 (fun _ => false) ρ0 own0 a0 { w0 with drawn := w0.drawn + 1 } := by
  have hv : ∀ {α : Type} (b : α) (r : Nat → α) (p : Nat → Bool), view b r (fun j => false && p j) n = b := fun b r p =>
    view_above (base := b) (res := r) (p := fun j => false && p j) (n := n) (i := 0) (Nat.zero_le _) (fun _ _ _ => rfl)
  have hget_eq : ∀ m x, hget m (mkL (S n).nx fun m => view (hget m (S 0).hp) (fun i => hget m (T i).hp) (fun j => false && tch L m j) n) = some x → hget m (S 0).hp = some x := fun m x => by
    rw [hget_mkL, hv]
    split
    · exact id
    · exact fun h => by cases h
  have hmod : ModP (fun _ => False) w0 { w0 with drawn := w0.drawn + 1 } := ⟨rfl, rfl, rfl, Nat.le_refl _, fun _ _ _ => rfl⟩
  refine ⟨Names.le.refl _, fun _ _ => rfl, fun _ _ => rfl, (fun m i _ hD => by cases hD), ?_, hmod.mono (fun _ _ h => h.elim), fun t s hs => he t s (by rw [hv] at hs; exact hs), hsz, rfl⟩
  have hF : ∀ m, (F m ∨ ∃ i, i < n ∧ false = true ∧ nw S T i m) → F m := fun m hm => hm.resolve_right fun ⟨_, _, h, _⟩ => by cases h
  refine ⟨fun m x hm hx => ?_, fun m k x y hm hk hne hx hy => hli.dis m k x y (hF m hm) (hF k hk) hne (hget_eq m x hx) (hget_eq k y hy), fun m x hm hx => hli.low m x (hF m hm) (hget_eq m x hx)⟩
  obtain ⟨e, h1, h2⟩ := hli.at_ m x (hF m hm) (hget_eq m x hx)
  exact ⟨e, h1, h2.stable (Names.le.refl _) hmod (fun _ _ h => h) (fun _ h => h.elim)⟩

theorem filter_lessX {l : List Nat} {p q : Nat → Bool} {i : Nat} (hn : l.Nodup) (hi : i ∈ l) (hp : p i = true) (hq : q i = false) (h : ∀ j, j ≠ i → q j = p j) : (l.filter p).length = (l.filter q).length + 1 := by
  induction l with
  | nil => cases hi
  | cons x l ih =>
    rw [List.nodup_cons] at hn
    by_cases hx : x = i
    · subst hx
      have : l.filter q = l.filter p := List.filter_congr fun j hj => h j (fun e => hn.1 (e ▸ hj))
      rw [List.filter_cons_of_pos hp, List.filter_cons_of_neg (by simp [hq]), this]
      simp
    · have hi' : i ∈ l := (List.mem_cons.1 hi).resolve_left (fun e => hx e.symm)
      have := ih hn.2 hi'
      cases hpx : p x with
      | true => rw [List.filter_cons_of_pos hpx, List.filter_cons_of_pos (by rw [h x hx]; exact hpx)]; simp [this]
      | false => rw [List.filter_cons_of_neg (by simp [hpx]), List.filter_cons_of_neg (by rw [h x hx]; simp [hpx])]; exact this

theorem chain_fn (hcall : HkOK A P call) {n : Nat} (link : ∀ i, i < n → ∃ o k, Link P call ops sz k o (S i) (T i) (S (i + 1)) (E i) (E (i + 1)) (V i) (L i)) : ∀ k, k ≤ n → Fn (S 0) (S k)
  | 0, _ => Fn.refl _
  | k + 1, hk => by
    obtain ⟨o, j, h⟩ := link k (by omega)
    exact (chain_fn hcall link k (by omega)).trans (h.fn hcall).2

theorem draw_s (hm : P.follows .mixedOrders = true) (hcall : HkOK A P call) {id : Nat} {ls : List Log} {e e' : Env} {st st' : St R} (h : drawX P call ops sz ops.toList [] e st = .ok (e', ls) st') (hord : ordered (masks ops.toList []) ls = true) :
    Fn st st' ∧ ∀ B F ρ own w a, Sit A P B F st st' ρ own w → EnvR ρ e a → a.tmps.size = sz →
    ∀ (Q : Exit → Act → World → Prop), (∀ a' ρ' own' w', Tr A P B F st st' ρ own w ρ' own' w' → EnvR ρ' e' a' → a'.tmps.size = sz → a'.defers = a.defers → Q .normal a' w') → (Code.region id ops true).wp P Q a w := by
  obtain ⟨E, S, T, V, L, rfl, rfl, rfl, rfl, rfl, hlink⟩ := drawX_chain h
  have hl : ops.toList.length = ops.size := by simp
  rw [hl] at h hord ⊢
  have hlink' : ∀ i o, ops[i]? = some o → Link P call ops sz i o (S i) (T i) (S (i + 1)) (E i) (E (i + 1)) (V i) (L i) := fun i o ho => by
    have := hlink i o (by simpa using ho)
    simpa using this
  have hord' : ∀ i j, i < j → j < ops.size → clash (L i) (L j) = true → ∀ D, Closed ops.toList D → D j = true → D i = true := by
    intro i j hij hj hc D hD hDj
    obtain ⟨h1, h2⟩ := masks_ahead (l := ops.toList) (r := ops.toList) (acc := []) (fun k => by simp) (fun k m hk => by simp at hk)
    simp only [List.length_nil, Nat.zero_add, hl] at h1 h2
    rw [List.append_nil] at hord
    obtain ⟨m, h3, h4⟩ := ordered_spec (L := L) h1 hord i j hij hj hc
    have := h2 _ m h3
    rw [show ops.size - 1 - (ops.size - 1 - j) = j by omega] at this
    exact this i h4 D hD hDj
  refine ⟨chain_fn hcall (fun i hi => ⟨ops[i], i, hlink' i _ (Array.getElem?_eq_getElem hi)⟩) _ (Nat.le_refl _), fun B F ρ own w a si he hsz Q hk => ?_⟩
  have c : Ctx A P call ops sz ops.size E S T V L := ⟨hcall, rfl, hlink', si.wf, hord'⟩
  refine wp_region_any hm ?_
  have main : ∀ (fuel : Nat) (listed : Array Bool) (b : Act) (w1 : World) (ρ1 : Names) (own1 : Nat → List Nat), listed.size = ops.size → Closed ops.toList (fun j => listed.getD j false) →
      RI A P B F (fun m => m ∈ (S ops.size).wr) sz ops.size E S T V L ρ own w a (fun j => listed.getD j false) ρ1 own1 b w1 → ((List.range ops.size).filter fun i => !listed.getD i false).length ≤ fuel → wpAny P .any ops Q fuel listed b w1 := by
    intro fuel
    have allOf : ∀ {listed : Array Bool}, listed.size = ops.size → Region.ready .any ops listed = [] → ∀ i, i < ops.size → listed.getD i false = true := by
      intro listed hls hr i
      induction i using Nat.strongRecOn with
      | _ i ih =>
        intro hi
        cases hli : listed.getD i false with
        | true => rfl
        | false =>
          exfalso
          have : i ∈ Region.ready .any ops listed := by
            refine mem_ready.2 ⟨?_, ops[i], Array.getElem?_eq_getElem hi, fun ed hed hb => ?_⟩
            · have hlt : i < listed.size := by omega
              simp only [Array.getD_eq_getD_getElem?, Array.getElem?_eq_getElem hlt, Option.getD_some] at hli ⊢
              exact hli
            · have hlt := (hlink' i _ (Array.getElem?_eq_getElem hi)).edge ed hed hb
              exact ih ed.on hlt (by omega)
          rw [hr] at this
          cases this
    have fin : ∀ {listed : Array Bool} {b w1 ρ1 own1}, listed.size = ops.size → Region.ready .any ops listed = [] → RI A P B F (fun m => m ∈ (S ops.size).wr) sz ops.size E S T V L ρ own w a (fun j => listed.getD j false) ρ1 own1 b w1 → Q .normal b w1 := by
      intro listed b w1 ρ1 own1 hls hr hri
      obtain ⟨ht, hen⟩ := hri.done c (allOf hls hr)
      exact hk b ρ1 own1 w1 ht hen hri.size hri.defers
    induction fuel with
    | zero =>
      intro listed b w1 ρ1 own1 hls hcl hri hcnt
      have hr : Region.ready .any ops listed = [] := by
        rw [List.eq_nil_iff_forall_not_mem]
        intro i hi
        obtain ⟨h1, o, ho, _⟩ := mem_ready.1 hi
        have hlt : i < ops.size := (Array.getElem?_eq_some_iff.1 ho).1
        have hnil := List.eq_nil_of_length_eq_zero (Nat.le_zero.1 hcnt)
        rw [List.filter_eq_nil_iff] at hnil
        have h2 := hnil i (List.mem_range.2 hlt)
        have h3 : i < listed.size := by omega
        simp only [Array.getD_eq_getD_getElem?, Array.getElem?_eq_getElem h3, Option.getD_some] at h1 h2
        rw [h1] at h2
        exact h2 rfl
      exact ⟨hr, fin hls hr hri⟩
    | succ fuel ih =>
      intro listed b w1 ρ1 own1 hls hcl hri hcnt
      refine ⟨fun hr => fin hls hr hri, fun i hi => ?_⟩
      obtain ⟨h1, o, ho, hedge⟩ := mem_ready.1 hi
      have hlt : i < ops.size := (Array.getElem?_eq_some_iff.1 ho).1
      have h3 : i < listed.size := by omega
      have hDi : listed.getD i false = false := by
        simp only [Array.getD_eq_getD_getElem?, Array.getElem?_eq_getElem h3, Option.getD_some] at h1 ⊢
        exact h1
      have hset : ∀ j, (listed.setIfInBounds i true).getD j false = (listed.getD j false || j == i) := by
        intro j
        by_cases e : j = i
        · subst e
          simp [Array.getD_eq_getD_getElem?, h3]
        · have : (j == i) = false := by simpa using e
          rw [getD_set_ne false (fun h => e h.symm), this, Bool.or_false]
      refine hri.step c si.base (fun m h1 h2 => si.fresh m ⟨h1, h2⟩) si.log (fun m hm => hm) si.ask hlt hDi hcl (fun o' ho' => ?_) hset (fun ρ' own' a' w' hri' => ih (listed.setIfInBounds i true) a' w' ρ' own' (by simp [hls]) ?_ hri' ?_)
      · rw [ho] at ho'
        injection ho' with ho'
        subst ho'
        exact hedge
      · intro j p hp hj ed hed hb
        simp only at hj ⊢
        rw [hset] at hj ⊢
        by_cases e : j = i
        · subst e
          have : p = o := by
            have h1 : ops[j]? = some p := by simpa using hp
            rw [ho] at h1
            injection h1 with h1
            exact h1.symm
          subst this
          rw [hedge ed hed hb]
          rfl
        · have : (j == i) = false := by simpa using e
          rw [this, Bool.or_false] at hj
          have := hcl j p hp hj ed hed hb
          simp only at this
          rw [this]
          rfl
      · have := filter_lessX (p := fun k => !listed.getD k false) (q := fun k => !(listed.setIfInBounds i true).getD k false) List.nodup_range (List.mem_range.2 hlt) (by simp [hDi]) (by simp [hset]) (fun j hj => by
          have : (j == i) = false := by simpa using hj
          simp only [hset, this, Bool.or_false])
        omega
  refine main ops.size _ a _ ρ own (by simp) (fun j p _ hj => ?_) ?_ ?_
  · exfalso
    simp only at hj
    rw [getD_replicate_false] at hj
    cases hj
  · have e : (fun j => (Array.replicate ops.size false).getD j false) = fun _ => false := by
      funext j
      exact getD_replicate_false _ j
    rw [e]
    exact RI.start si.li he hsz
  · exact Nat.le_trans (List.length_filter_le _ _) (by simp)
end
end Go.Proofs.Ytpaiejeipghehaa
end
section
/- The executor is right: what it says of a call, the machine does. Condition: the program follows the looser reading of Go's order. -/
namespace Go.Proofs.Ytpaiejeipghehaa

def Ex.exit : Ex → Exit
  | .nor => .normal
  | .ret => .ret
  | .out id => .exit id

section
variable {R : Type} {A : RepAt R} {P : Program} {st st1 st' : St R} {B : Nat} {F : Nat → Prop} {ρ ρ' : Names} {own own' : Nat → List Nat} {w w' : World}

def CodeS (A : RepAt R) (P : Program) (sz : Nat) (G : (Exit → Act → World → Prop) → Act → World → Prop) (e : Env) (st st' : St R) (r : Ex × Env) : Prop := Fn st st' ∧ ∀ B F ρ own w a, Sit A P B F st st' ρ own w → EnvR ρ e a → a.tmps.size = sz →
  ∀ (Q : Exit → Act → World → Prop), (∀ a' ρ' own' w', Tr A P B F st st' ρ own w ρ' own' w' → EnvR ρ' r.2 a' → a'.tmps.size = sz → a'.defers = a.defers → Q r.1.exit a' w') → G Q a w
def RunOK (A : RepAt R) (P : Program) (run : Nat → Code → Env → M R (Ex × Env)) : Prop := ∀ sz c e st r st', run sz c e st = .ok r st' → CodeS A P sz (fun Q a w => c.wp P Q a w) e st st' r

theorem region_plain {id : Nat} {ops : Array Oper} {Q : Exit → Act → World → Prop} {a : Act} (h : wpList P ops Q ops.toList a w) : (Code.region id ops false).wp P Q a w := by
  refine wp_region ?_
  have e := wpOps_eq_wpList (P := P) (ops := ops) (Q := Q) ops.toList 0 (fun j => by simp)
  rw [show List.range' 0 ops.toList.length = List.range ops.size by simp [List.range_eq_range']] at e
  rw [e]
  exact h

theorem CodeS.seq {sz : Nat} {e e1 e' : Env} {x y : Code} {ex : Ex} (h1 : CodeS A P sz (fun Q a w => x.wp P Q a w) e st st1 (.nor, e1)) (h2 : CodeS A P sz (fun Q a w => y.wp P Q a w) e1 st1 st' (ex, e')) :
    CodeS A P sz (fun Q a w => (Code.seq x y).wp P Q a w) e st st' (ex, e') := by
  refine ⟨h1.1.trans h2.1, fun B F ρ own w a si he hz Q hk => wp_seq ?_⟩
  refine h1.2 B F ρ own w a (si.head h1.1 h2.1) he hz _ (fun a1 ρ1 own1 w1 t1 he1 hz1 hd1 => ?_)
  exact h2.2 B _ ρ1 own1 w1 a1 (si.next h1.1 h2.1 t1) he1 hz1 Q (fun a' ρ' own' w' t2 he2 hz2 hd2 => hk a' ρ' own' w' (t1.trans t2 h1.1 h2.1 (h1.1.wf si.wf)) he2 hz2 (hd2.trans hd1))

theorem code_s (hm : P.follows .mixedOrders = true) {call : Hk R} (hcall : HkOK A P call) {run : Nat → Code → Env → M R (Ex × Env)} (hrun : RunOK A P run) {sz : Nat} {c : Code} {e : Env} {r : Ex × Env} (hnl : ∀ c', c ≠ .loop c') (h : codeF P call run sz c e st = .ok r st') :
    CodeS A P sz (fun Q a w => c.wp P Q a w) e st st' r := by
  unfold codeF at h
  split at h
  · obtain ⟨rfl, rfl⟩ := ret_ok.1 h
    exact ⟨Fn.refl _, fun B F ρ own w a si he hz Q hk => wp_skip (hk a ρ own w (si.quiet (Quiet.refl _)) he hz rfl)⟩
  · obtain ⟨e1, st1, h1, h2⟩ := bind_ok.1 h
    obtain ⟨rfl, rfl⟩ := ret_ok.1 h2
    obtain ⟨hf, hs⟩ := seq_s hcall h1
    exact ⟨hf, fun B F ρ own w a si he hz Q hk => region_plain (hs B F ρ own w a si he hz Q hk)⟩
  · obtain ⟨⟨e1, ls⟩, st1, h1, h2⟩ := bind_ok.1 h
    obtain ⟨_, _, h3, h4⟩ := bind_ok.1 h2
    obtain ⟨ho, rfl⟩ := want_ok.1 h3
    obtain ⟨rfl, rfl⟩ := ret_ok.1 h4
    obtain ⟨hf, hs⟩ := draw_s hm hcall h1 ho
    exact ⟨hf, fun B F ρ own w a si he hz Q hk => hs B F ρ own w a si he hz Q hk⟩
  · next x y =>
    obtain ⟨⟨ex, e1⟩, st1, h1, h2⟩ := bind_ok.1 h
    have g1 := hrun _ _ _ _ _ _ h1
    cases ex with
    | nor =>
      obtain ⟨ex2, e2⟩ := r
      exact g1.seq (hrun _ _ _ _ _ _ h2)
    | ret =>
      obtain ⟨rfl, rfl⟩ := ret_ok.1 h2
      exact ⟨g1.1, fun B F ρ own w a si he hz Q hk => wp_seq (g1.2 B F ρ own w a si he hz _ hk)⟩
    | out id =>
      obtain ⟨rfl, rfl⟩ := ret_ok.1 h2
      exact ⟨g1.1, fun B F ρ own w a si he hz Q hk => wp_seq (g1.2 B F ρ own w a si he hz _ hk)⟩
  · next c x y =>
    obtain ⟨s, _, h1, h2⟩ := bind_ok.1 h
    obtain ⟨hs, rfl⟩ := opt_ok.1 h1
    split at h2
    · next t =>
      obtain ⟨b, st1, h3, h4⟩ := bind_ok.1 h2
      obtain ⟨q, hq⟩ := ask_ok h3
      have key : ∀ {z : Code}, (if t = true then x else y) = z ∨ True → run sz z e st1 = .ok r st' → ((∀ p ∈ st'.ask, p.1 = p.2) → (if t = true then x else y) = z) → CodeS A P sz (fun Q a w => (Code.cond c x y).wp P Q a w) e st st' r := by
        intro z _ hz hsel
        have g := hrun _ _ _ _ _ _ hz
        refine ⟨q.fn.trans g.1, fun B F ρ own w a si he hsz Q hk => ?_⟩
        have ev := he.ev _ _ hs
        simp only [den, Option.some.injEq] at ev
        refine wp_cond ev.symm ?_
        rw [hsel si.ask]
        exact g.2 B F ρ own w a (si.of_quiet q) he hsz Q (fun a' ρ' own' w' t' => hk a' ρ' own' w' (Tr.of_quiet q t'))
      cases b with
      | true =>
        refine key (.inr trivial) h4 (fun ha => ?_)
        rw [hq (fun p hp => ha p ((hrun _ _ _ _ _ _ h4).1.ask p hp)), if_pos rfl]
      | false =>
        refine key (.inr trivial) h4 (fun ha => ?_)
        rw [hq (fun p hp => ha p ((hrun _ _ _ _ _ _ h4).1.ask p hp))]
        rfl
    · exact (fail_ok.1 h2).elim
  · next id c =>
    obtain ⟨⟨ex, e1⟩, st1, h1, h2⟩ := bind_ok.1 h
    have g1 := hrun _ _ _ _ _ _ h1
    cases ex with
    | nor =>
      obtain ⟨rfl, rfl⟩ := ret_ok.1 h2
      exact ⟨g1.1, fun B F ρ own w a si he hz Q hk => wp_block (g1.2 B F ρ own w a si he hz _ hk)⟩
    | ret =>
      obtain ⟨rfl, rfl⟩ := ret_ok.1 h2
      exact ⟨g1.1, fun B F ρ own w a si he hz Q hk => wp_block (g1.2 B F ρ own w a si he hz _ hk)⟩
    | out id' =>
      simp only at h2
      cases hb : Nat.beq id' id with
      | true =>
        rw [hb] at h2
        obtain ⟨rfl, rfl⟩ := ret_ok.1 h2
        have hid := Nat.eq_of_beq_eq_true hb
        refine ⟨g1.1, fun B F ρ own w a si he hz Q hk => wp_block (g1.2 B F ρ own w a si he hz _ (fun a' ρ' own' w' t' he' hz' hd' => ?_))⟩
        simp only [Ex.exit, Exit.inBlock, hid, if_true]
        exact hk a' ρ' own' w' t' he' hz' hd'
      | false =>
        rw [hb] at h2
        obtain ⟨rfl, rfl⟩ := ret_ok.1 h2
        have hid := Nat.ne_of_beq_eq_false hb
        refine ⟨g1.1, fun B F ρ own w a si he hz Q hk => wp_block (g1.2 B F ρ own w a si he hz _ (fun a' ρ' own' w' t' he' hz' hd' => ?_))⟩
        simp only [Ex.exit, Exit.inBlock, hid, if_false]
        exact hk a' ρ' own' w' t' he' hz' hd'
  · next c => exact absurd rfl (hnl c)
  · obtain ⟨rfl, rfl⟩ := ret_ok.1 h
    exact ⟨Fn.refl _, fun B F ρ own w a si he hz Q hk => wp_exit (hk a ρ own w (si.quiet (Quiet.refl _)) he hz rfl)⟩
  · obtain ⟨rfl, rfl⟩ := ret_ok.1 h
    exact ⟨Fn.refl _, fun B F ρ own w a si he hz Q hk => wp_ret (hk a ρ own w (si.quiet (Quiet.refl _)) he hz rfl)⟩
  · exact (fail_ok.1 h).elim

theorem look_prune : ∀ {e : Env} {m t : Nat} {s : SV}, elook t (pruneE m e) = some s → Nat.testBit m t = true ∧ elook t e = some s
  | [], m, t, s, h => by simp [pruneE, elook] at h
  | (k, s0) :: r, m, t, s, h => by
    rw [pruneE] at h
    cases hb : Nat.testBit m k with
    | true =>
      simp only [hb, elook_cons] at h ⊢
      by_cases hk : t = k
      · subst hk
        exact ⟨hb, by simpa using h⟩
      · rw [if_neg hk] at h ⊢
        have ih := look_prune h
        have hx : Nat.testBit (m ^^^ 2 ^ k) t = true := ih.1
        rw [Nat.testBit_xor, Nat.testBit_two_pow_of_ne (Ne.symm hk)] at hx
        exact ⟨by simpa using hx, ih.2⟩
    | false =>
      simp only [hb] at h
      have ih := look_prune h
      rw [elook_cons, if_neg (fun hk => by rw [hk, hb] at ih; cases ih.1)]
      exact ih

theorem loop_s {run : Nat → Code → Env → M R (Ex × Env)} (hrun : RunOK A P run) {n sz : Nat} {c : Code} {e : Env} {r : Ex × Env} {call : Hk R} (hloop : ∀ e st r st', run sz (.loop c) e st = .ok r st' → CodeS A P sz (fun Q a w => Code.rounds P c Q n a w) e st st' r)
    (h : codeF P call run sz (.loop c) e st = .ok r st') : CodeS A P sz (fun Q a w => Code.rounds P c Q (n + 1) a w) e st st' r := by
  simp only [codeF] at h
  obtain ⟨⟨ex, e1⟩, st1, h1, h2⟩ := bind_ok.1 h
  have g1 := hrun _ _ _ _ _ _ h1
  cases ex with
  | nor =>
    have g2 := hloop _ _ _ _ h2
    refine ⟨g1.1.trans g2.1, fun B F ρ own w a si he hz Q hk => ?_⟩
    show Code.rounds P c Q (n + 1) a w
    rw [rounds_succ]
    refine g1.2 B F ρ own w a (si.head g1.1 g2.1) he hz _ (fun a1 ρ1 own1 w1 t1 he1 hz1 hd1 => ?_)
    exact g2.2 B _ ρ1 own1 w1 a1 (si.next g1.1 g2.1 t1) (fun t s hl => he1 t s (look_prune hl).2) hz1 Q (fun a' ρ' own' w' t2 he2 hz2 hd2 => hk a' ρ' own' w' (t1.trans t2 g1.1 g2.1 (g1.1.wf si.wf)) he2 hz2 (hd2.trans hd1))
  | ret =>
    obtain ⟨rfl, rfl⟩ := ret_ok.1 h2
    refine ⟨g1.1, fun B F ρ own w a si he hz Q hk => ?_⟩
    show Code.rounds P c Q (n + 1) a w
    rw [rounds_succ]
    exact g1.2 B F ρ own w a si he hz _ hk
  | out id =>
    obtain ⟨rfl, rfl⟩ := ret_ok.1 h2
    refine ⟨g1.1, fun B F ρ own w a si he hz Q hk => ?_⟩
    show Code.rounds P c Q (n + 1) a w
    rw [rounds_succ]
    exact g1.2 B F ρ own w a si he hz _ hk

def resOp (tmps : Array Value) : ResultVar → Sem Value
  | .tmp t => pure (tmps.getD t undef)
  | .cell b t => do loadVar t (← asAddr (tmps.getD b undef))
theorem res_s {sz : Nat} {e : Env} : ∀ {l : List ResultVar} {ss : List SV} {st st' : St R}, resX P e l st = .ok ss st' → Quiet st st' ∧ ∀ B F ρ own w a, LI A P B ρ own st.hp F w → (∀ n ∈ st'.fr, F n) → EnvR ρ e a → a.tmps.size = sz →
    ∃ vs, denL ρ ss = some vs ∧ (l.mapM (resOp a.tmps)).run P w = .ok vs w
  | [], ss, st, st', h => by
    obtain ⟨rfl, rfl⟩ := ret_ok.1 h
    exact ⟨Quiet.refl _, fun B F ρ own w a _ _ _ _ => ⟨[], rfl, rfl⟩⟩
  | .tmp t :: l, ss, st, st', h => by
    obtain ⟨s, _, h1, h2⟩ := bind_ok.1 h
    obtain ⟨hs, rfl⟩ := opt_ok.1 h1
    obtain ⟨r, st1, h3, h4⟩ := bind_ok.1 h2
    obtain ⟨rfl, rfl⟩ := ret_ok.1 h4
    obtain ⟨q, g⟩ := res_s (sz := sz) h3
    refine ⟨q, fun B F ρ own w a hli hF he hz => ?_⟩
    obtain ⟨vs, g1, g2⟩ := g B F ρ own w a hli hF he hz
    obtain ⟨x, g3, g4⟩ := he t s hs
    refine ⟨x :: vs, denL_cons.2 ⟨_, _, g4, g1, rfl⟩, ?_⟩
    have e : a.tmps.getD t undef = x := by simp [Array.getD_eq_getD_getElem?, g3]
    have e2 : (resOp a.tmps (.tmp t)).run P w = .ok x w := by
      simp only [resOp, e]
      rfl
    rw [List.mapM_cons, Sem.run_bind, e2]
    simp only [Result.andThen_ok, Sem.run_bind, g2, Sem.run_pure]
  | .cell b t :: l, ss, st, st', h => by
    obtain ⟨x, _, h1, h2⟩ := bind_ok.1 h
    obtain ⟨hx, rfl⟩ := opt_ok.1 h1
    obtain ⟨s, st1, h3, h4⟩ := bind_ok.1 h2
    obtain ⟨r, st2, h5, h6⟩ := bind_ok.1 h4
    obtain ⟨rfl, rfl⟩ := ret_ok.1 h6
    have q1 := loadX_quiet h3
    obtain ⟨q, g⟩ := res_s (sz := sz) h5
    refine ⟨q1.trans q, fun B F ρ own w a hli hF he hz => ?_⟩
    obtain ⟨vs, g1, g2⟩ := g B F ρ own w a (by rw [q1.hp]; exact hli) hF he hz
    obtain ⟨y, g3, g4⟩ := he b x hx
    obtain ⟨v, g5, g6⟩ := loadX_run h3 hli (fun n hn => hF n (q.fr n hn)) g4
    refine ⟨v :: vs, denL_cons.2 ⟨_, _, g5, g1, rfl⟩, ?_⟩
    have e : a.tmps.getD b undef = y := by simp [Array.getD_eq_getD_getElem?, g3]
    obtain ⟨ad, rfl⟩ : ∃ ad, y = .pointer (some ad) := by
      cases y with
      | pointer p =>
        cases p with
        | some ad => exact ⟨ad, rfl⟩
        | none => simp [Instr.loadAt, Instr.sureAddr, stuck, Result.andThen] at g6
      | _ => simp [Instr.loadAt, Instr.sureAddr, stuck, Result.andThen] at g6
    simp only [Instr.loadAt, Instr.sureAddr, Sem.run_bind, Sem.run_pure, Result.andThen_ok] at g6
    have e2 : (resOp a.tmps (.cell b t)).run P w = .ok v w := by
      simp only [resOp, e, asAddr, Sem.run_bind, Sem.run_pure, Result.andThen_ok]
      exact g6
    rw [List.mapM_cons, Sem.run_bind, e2]
    simp only [Result.andThen_ok, Sem.run_bind, g2, Sem.run_pure]

theorem keepX_get {lo : Nat} {keep : List Nat} {n : Nat} : ∀ {hp : List (Nat × Chunk R)}, hget n (keepX lo keep hp) = if Nat.blt n lo || memN n keep then hget n hp else none
  | [] => by simp [keepX, hget]
  | (m, c) :: hp => by
    simp only [keepX]
    cases h : (Nat.blt m lo || memN m keep) with
    | true =>
      simp only [hget_cons, keepX_get (hp := hp)]
      by_cases e : n = m
      · subst e; simp [h]
      · simp [e]
    | false =>
      simp only [hget_cons, keepX_get (hp := hp)]
      by_cases e : n = m
      · subst e; simp [h]
      · simp [e]
theorem mem_cutN {lo n : Nat} {base l : List Nat} : n ∈ cutN lo base l ↔ n ∈ l ∧ (n < lo ∨ n ∈ base) := by
  unfold cutN
  rw [List.mem_filter, Bool.or_eq_true, memN_iff]
  simp [Nat.blt_eq]
/-- What was swept away. -/
structure Swept (st st1 st' : St R) : Prop where
  nx : st'.nx = st1.nx
  fr : ∀ n ∈ st'.fr, n ∈ st1.fr
  wr : ∀ n ∈ st'.wr, n ∈ st1.wr
  wrb : ∀ n ∈ st'.wr, st'.fr = st1.fr ∨ n < st.nx ∨ n ∈ st.wr
  frk : ∀ n ∈ st1.fr, n < st.nx ∨ n ∈ st.fr → n ∈ st'.fr
  wrk : ∀ n ∈ st1.wr, n < st.nx ∨ n ∈ st.wr → n ∈ st'.wr
  ask : st'.ask = st1.ask
  low : ∀ n, n < st.nx → hget n st'.hp = hget n st1.hp
  hp : ∀ n c, hget n st'.hp = some c → hget n st1.hp = some c
theorem sweep_s (s : SV) : Swept st st1 (sweepSt st s st1) := by
  obtain ⟨hp, nx, fr, wr, ak, oc⟩ := st1
  obtain ⟨hp0, lo, fr0, wr0, ak0, oc0⟩ := st
  simp only [sweepSt]
  split
  · exact ⟨rfl, fun _ h => h, fun _ h => h, fun _ _ => .inl rfl, fun _ h _ => h, fun _ h _ => h, rfl, fun _ _ => rfl, fun _ _ h => h⟩
  · refine ⟨rfl, fun n hn => (mem_cutN.1 hn).1, fun n hn => (mem_cutN.1 hn).1, fun n hn => .inr (mem_cutN.1 hn).2, fun n hn hl => mem_cutN.2 ⟨hn, hl⟩, fun n hn hl => mem_cutN.2 ⟨hn, hl⟩, rfl, fun n hn => ?_, fun n c hc => ?_⟩
    · rw [keepX_get]
      have : Nat.blt n lo = true := by simpa [Nat.blt_eq] using hn
      simp [this]
    · rw [keepX_get] at hc
      split at hc
      · exact hc
      · cases hc
theorem sweepX_ok {tidy : Option (Tidy R)} (ht : ∀ f, tidy = some f → ∀ st s k, f st s k = k st s) {s s' : SV} (h : sweepX tidy st s st1 = .ok s' st') : s' = s ∧ st' = sweepSt st s st1 := by
  unfold sweepX at h
  cases tidy with
  | none =>
    injection h with h1 h2
    exact ⟨h1.symm, h2.symm⟩
  | some f =>
    simp only [ht f rfl] at h
    injection h with h1 h2
    exact ⟨h1.symm, h2.symm⟩
theorem Fn.sweep (h : Fn st st1) (k : Swept st st1 st') : Fn st st' := by
  refine ⟨by rw [k.nx]; exact h.nx, fun n hn => k.frk n (h.fr n hn) (.inr hn), fun n hn => k.wrk n (h.wr n hn) (.inr hn), fun p hp => by rw [k.ask]; exact h.ask p hp, fun n hn hl => (k.low n hl).trans (h.hp n (fun hw => hn (k.wrk n hw (.inl hl))) hl), fun hw => ?_, fun n hn => h.al n (k.wr n hn)⟩
  have h1 := h.wf hw
  refine ⟨fun n hn => ?_, fun n hn => ?_⟩
  · have h2 := h1.wr n (k.wr n hn)
    refine ⟨?_, by rw [k.nx]; exact h2.2⟩
    rcases k.wrb n hn with h3 | h3 | h3
    · rw [h3]; exact h2.1
    · exact k.frk n h2.1 (.inl h3)
    · exact k.frk n h2.1 (.inr (hw.wr n h3).1)
  · cases hx : hget n st'.hp with
    | none => rfl
    | some c =>
      have h7 := k.hp n c hx
      rw [h1.top n (k.nx ▸ hn)] at h7
      cases h7
theorem Tr.sweep (t : Tr A P B F st st1 ρ own w ρ' own' w') (k : Swept st st1 st') (hw : Wf st1) : Tr A P B F st st' ρ own w ρ' own' w' := by
  have hn : ∀ n, newN st st' n ↔ newN st st1 n := fun n => by unfold newN; rw [k.nx]
  have keep : ∀ m, m ∈ st1.wr → ¬ newN st st1 m → m ∈ st'.wr := fun m hm hnn => k.wrk m hm (.inl (by
    have := (hw.wr m hm).2
    unfold newN at hnn
    omega))
  refine ⟨t.le, fun n hx => t.out n (fun h => hx ((hn n).2 h)), fun n hx hw' => t.same n (fun h => hx ((hn n).2 h)) (fun h => hw' (keep n h (fun h => hx ((hn n).2 h)))), fun n hx b hb => ?_, ?_, t.mod.mono fun b _ ⟨m, g1, g2, g3⟩ => ⟨m, keep m g1 g2, fun h => g2 ((hn m).1 h), g3⟩⟩
  · rcases t.pool n (hx.imp (hn n).1 (k.wr n)) b hb with g | ⟨m, g1, g2, g3⟩
    · exact .inl g
    · exact .inr ⟨m, keep m g1 g2, fun h => g2 ((hn m).1 h), g3⟩
  · exact ⟨fun n c hx hc => t.li.at_ n c (hx.imp_right (hn n).1) (k.hp n c hc), fun n m c d hx hy hne hc hd => t.li.dis n m c d (hx.imp_right (hn n).1) (hy.imp_right (hn m).1) hne (k.hp n c hc) (k.hp m d hd),
      fun n c hx hc => t.li.low n c (hx.imp_right (hn n).1) (k.hp n c hc)⟩

theorem elook_zip : ∀ {args : List SV} {k t : Nat} {s : SV}, elook t ((args.zipIdx k).map fun p => (p.2, p.1)) = some s → k ≤ t ∧ args[t - k]? = some s
  | [], k, t, s, h => by simp [elook] at h
  | x :: args, k, t, s, h => by
    rw [List.zipIdx_cons, List.map_cons, elook_cons] at h
    split at h
    · next e =>
      subst e
      simp only [Option.some.injEq] at h
      subst h
      simp
    · obtain ⟨h1, h2⟩ := elook_zip h
      refine ⟨by omega, ?_⟩
      rw [show t - k = (t - (k + 1)) + 1 by omega, List.getElem?_cons_succ]
      exact h2

structure LibOK (A : RepAt R) (P : Program) (lib : Lib R) : Prop where
  prim : ∀ f args m, lib.prim f args = some m → ∀ st s st', m st = .ok s st' → CallS A P f args st st' s
  ext : ∀ ev o m, lib.ext ev o = some m → ∀ st s st', m st = .ok s st' → OpS A P o ev st st' s
  tidy : ∀ f, lib.tidy = some f → ∀ st s k, f st s k = k st s
theorem call_s {lib : Lib R} (hp : LibOK A P lib) {run : Nat → Code → Env → M R (Ex × Env)} (hrun : RunOK A P run) : CallOK A P (callF P lib run) := by
  intro f args st s st' h
  unfold callF at h
  cases hpf : lib.prim f args with
  | some p =>
    rw [hpf] at h
    exact hp.prim f args p hpf st s st' h
  | none =>
    rw [hpf] at h
    simp only at h
    cases hf : P.funcs[f]? with
    | none => rw [hf] at h; exact (fail_ok.1 h).elim
    | some fn =>
      rw [hf] at h
      simp only at h
      cases hb : fn.body with
      | none => rw [hb] at h; exact (fail_ok.1 h).elim
      | some c =>
        rw [hb] at h
        obtain ⟨lo, st0, h1, h2⟩ := bind_ok.1 h
        simp only [stNow, Res.ok.injEq] at h1
        obtain ⟨rfl, rfl⟩ := h1
        obtain ⟨_, _, h3, h4⟩ := bind_ok.1 h2
        obtain ⟨hle, rfl⟩ := want_ok.1 h3
        have hle := Nat.le_of_ble_eq_true hle
        obtain ⟨⟨ex, e1⟩, st1, h5, h6⟩ := bind_ok.1 h4
        have g := hrun _ _ _ _ _ _ h5
        have key : ∀ (st2 : St R) (l : List SV), resX P e1 fn.results.toList st1 = .ok l st2 → sweepX lib.tidy st (oneOf l) st2 = .ok s st' → (ex = .nor ∨ ex = .ret) → CallS A P f args st st' s := by
          intro st2 l h7 h8 hex
          obtain ⟨rfl, rfl⟩ := sweepX_ok hp.tidy h8
          obtain ⟨q, hres⟩ := res_s (A := A) (sz := fn.ntmps) h7
          have f2 := g.1.trans q.fn
          have hs' := sweep_s (st := st) (st1 := st2) (oneOf l)
          refine ⟨f2.sweep hs', fun B F ρ own w vals si hd => ?_⟩
          have hlen := denL_length hd
          have hlog : ∀ n, n ∈ st2.fr → F n ∨ st.nx ≤ n := fun n hn => by
            rcases Nat.lt_or_ge n st.nx with hl | hl
            · exact .inl (si.log n (hs'.frk n hn (.inl hl)))
            · exact .inr hl
          have hup : ∀ n c, st.nx ≤ n → hget n st.hp = some c → False := fun n c hn hc => by
            rw [si.wf.top n hn] at hc
            cases hc
          have si1 : Sit A P B (fun n => F n ∨ st.nx ≤ n) st st1 ρ own w := ⟨fun n hn => hlog n (q.fr n hn), si.wf, fun n hn => si.fresh n ⟨hn.1, by rw [hs'.nx, q.nx]; exact hn.2⟩,
            ⟨fun n c hn hc => si.li.at_ n c (hn.resolve_right (fun h => hup n c h hc)) hc, fun n m c d hn hm hne hc hd => si.li.dis n m c d (hn.resolve_right (fun h => hup n c h hc)) (hm.resolve_right (fun h => hup m d h hd)) hne hc hd, fun n c hn hc => si.li.low n c (hn.resolve_right (fun h => hup n c h hc)) hc⟩,
            fun p hp => si.ask p (by rw [hs'.ask]; exact q.ask p hp), si.base⟩
          refine calls_of_wp hf hb ?_
          refine g.2 B _ ρ own w _ si1 (fun t s hts => ?_) (by simp; omega) _ (fun a' ρ' own' w' t he hz hdf => ?_)
          · obtain ⟨_, h9⟩ := elook_zip hts
            rw [Nat.sub_zero] at h9
            obtain ⟨x, g1, g2⟩ := denL_get hd h9
            refine ⟨x, ?_, g1⟩
            rw [Array.getElem?_append_left (by rw [List.size_toArray]; exact lt_of_some g2), List.getElem?_toArray]
            exact g2
          · obtain ⟨vs, g1, g2⟩ := hres B _ ρ' own' w' a' t.li (fun n hn => .inl (hlog n hn)) he hz
            have hr : (results fn a'.tmps).run P w' = .ok (if h : vs.length = 1 then vs[0] else .tuple vs.toArray) w' := by
              have e : results fn a'.tmps = (do
                  let vs ← fn.results.mapM (resOp a'.tmps)
                  pure (if h : vs.size = 1 then vs[0] else .tuple vs)) := rfl
              rw [e, Array.mapM_eq_mapM_toList]
              simp only [Sem.run_bind, Sem.run_map, g2, Result.andThen_ok, Sem.run_pure]
              congr 1
            have ht2 : Tr A P B F st st2 ρ own w ρ' own' w' := by
              refine ⟨t.le, fun n hn => t.out n (fun h => hn (by unfold newN at h ⊢; rw [q.nx]; exact h)), fun n hn hw => t.same n (fun h => hn (by unfold newN at h ⊢; rw [q.nx]; exact h)) (by rw [← q.wr]; exact hw), fun n hn b hb => ?_, ?_, ?_⟩
              · rcases t.pool n (hn.imp (fun h => by unfold newN at h ⊢; rw [← q.nx]; exact h) (fun h => by rw [← q.wr]; exact h)) b hb with g | ⟨m, g1, g2, g3⟩
                · exact .inl g
                · exact .inr ⟨m, by rw [q.wr]; exact g1, fun h => g2 (by unfold newN at h ⊢; rw [← q.nx]; exact h), g3⟩
              · rw [q.hp]
                exact t.li.sub fun n hn => hn.imp .inl fun h => by unfold newN at h ⊢; rw [← q.nx]; exact h
              · exact t.mod.mono fun b _ ⟨m, g1, g2, g3⟩ => ⟨m, by rw [q.wr]; exact g1, fun h => g2 (by unfold newN at h ⊢; rw [← q.nx]; exact h), g3⟩
            have hone : den ρ' (oneOf l) = some (if h : vs.length = 1 then vs[0] else .tuple vs.toArray) := by
              have hl := denL_length g1
              cases l with
              | nil =>
                simp only [denL, Option.some.injEq] at g1
                subst g1
                rfl
              | cons x l =>
                obtain ⟨y, ys, g3, g4, rfl⟩ := denL_cons.1 g1
                cases l with
                | nil =>
                  simp only [denL, Option.some.injEq] at g4
                  subst g4
                  simpa [oneOf] using g3
                | cons z l =>
                  simp only [List.length_cons] at hl
                  rw [dif_neg (by simp only [List.length_cons]; omega)]
                  simp only [oneOf, den, g1, Option.map_some]
            have hpost : ∃ v, (results fn a'.tmps).run P w' = .ok v w' ∧ ∃ x ρ' own', Ending.returned v = .returned x ∧ den ρ' (oneOf l) = some x ∧ Tr A P B F st _ ρ own w ρ' own' w' := ⟨_, hr, _, ρ', own', rfl, hone, ht2.sweep hs' (f2.wf si.wf)⟩
            rcases hex with rfl | rfl
            · exact ⟨hdf, hpost⟩
            · exact ⟨hdf, hpost⟩
        simp only at h6
        cases ex with
        | out id => exact (fail_ok.1 h6).elim
        | nor =>
          obtain ⟨l, st2, h7, h8⟩ := bind_ok.1 h6
          exact key st2 l h7 h8 (.inl rfl)
        | ret =>
          obtain ⟨l, st2, h7, h8⟩ := bind_ok.1 h6
          exact key st2 l h7 h8 (.inr rfl)

theorem run_s (hm : P.follows .mixedOrders = true) {lib : Lib R} (hp : LibOK A P lib) : ∀ n, RunOK A P (runX P lib n) ∧ ∀ sz c e st r st', runX P lib n sz (.loop c) e st = .ok r st' → CodeS A P sz (fun Q a w => Code.rounds P c Q n a w) e st st' r
  | 0 => ⟨fun _ _ _ _ _ _ h => (fail_ok.1 h).elim, fun _ _ _ _ _ _ h => (fail_ok.1 h).elim⟩
  | n + 1 => by
    obtain ⟨h1, h2⟩ := run_s hm hp n
    have hc := call_s hp h1
    have hl : ∀ sz c e st r st', runX P lib (n + 1) sz (.loop c) e st = .ok r st' → CodeS A P sz (fun Q a w => Code.rounds P c Q (n + 1) a w) e st st' r := fun sz c e st r st' h => loop_s h1 (fun e st r st' => h2 sz c e st r st') h
    refine ⟨fun sz c e st r st' h => ?_, hl⟩
    by_cases hnl : ∃ c', c = .loop c'
    · obtain ⟨c', rfl⟩ := hnl
      obtain ⟨hf, hs⟩ := hl sz c' e st r st' h
      exact ⟨hf, fun B F ρ own w a si he hz Q hk => wp_loop_rounds (n + 1) (hs B F ρ own w a si he hz Q hk)⟩
    · exact code_s hm ⟨hc, hp.ext⟩ h1 (fun c' e => hnl ⟨c', e⟩) h

/-- WHAT THE EXECUTOR SAYS OF A CALL, THE MACHINE DOES. -/
theorem callX_s (hm : P.follows .mixedOrders = true) {lib : Lib R} (hp : LibOK A P lib) (n : Nat) : CallOK A P (callX P lib n) := call_s hp (run_s hm hp n).1
end
end Go.Proofs.Ytpaiejeipghehaa
end
section
/- The executor at a call out of nothing: what it answers, the machine answers, and nothing that was there has changed. Condition: the program follows the looser reading of Go's order. -/
namespace Go.Proofs.Ytpaiejeipghehaa

section
variable {R : Type} {A : RepAt R} {P : Program}
def St.none (o : List (Option Bool)) : St R := ⟨[], 0, [], [], [], o⟩
def noNames : Names := fun _ => .none
theorem closed_s {call : FuncId → List SV → M R SV} (hc : CallOK A P call) {f : FuncId} {args : List SV} {o : List (Option Bool)} {s : SV} {st : St R} (h : call f args (St.none o) = .ok s st) (hask : ∀ p ∈ st.ask, p.1 = p.2) (w : World) {vals : List Value} (hv : denL noNames args = some vals) :
    Calls P f vals.toArray w fun e w' => ∃ x ρ, e = .returned x ∧ den ρ s = some x ∧ Mod [] w w' := by
  obtain ⟨hf, hs⟩ := hc _ _ _ _ _ h
  have hwf : Wf (St.none o : St R) := ⟨(fun n hn => by cases hn), fun _ _ => rfl⟩
  refine (hs w.heap.size (fun n => n ∈ st.fr) noNames (fun _ => []) w vals ⟨fun n h => h, hwf, fun _ _ => rfl, ⟨(fun n c _ hc => by cases hc), (fun n m c d _ _ _ hc => by cases hc), fun n c _ hc => by cases hc⟩, hask, Nat.le_refl _⟩ hv).mono fun e w' ⟨x, ρ', own', he, hx, ht⟩ => ⟨x, ρ', he, hx, ht.mod.mod fun b _ ⟨m, hm, hn, _⟩ => ?_⟩
  exact absurd ⟨Nat.zero_le _, ((hf.wf hwf).wr m hm).2⟩ hn

def AllAsk : List (Bool × Bool) → Prop
  | [] => True
  | p :: l => p.1 = p.2 ∧ AllAsk l
theorem AllAsk.all : ∀ {l : List (Bool × Bool)}, AllAsk l → ∀ p ∈ l, p.1 = p.2
  | [], _, p, h => by cases h
  | q :: l, ⟨h1, h2⟩, p, h => by
    rcases List.mem_cons.1 h with rfl | h
    · exact h1
    · exact AllAsk.all h2 p h
/-- What came of it, and on what tests. -/
def outcome (r : Res R SV) : Option SV × List (Bool × Bool) := match r with
  | .ok s st => (some s, st.ask)
  | .no e l => (some (.slE e), l)
/-- What is answered, and on what tests. -/
def answer (r : Res R SV) : Option (SV × List (Bool × Bool)) := match r with
  | .ok s st => some (s, st.ask)
  | .no _ _ => .none
theorem answer_of {r : Res R SV} {s : SV} {l : List (Bool × Bool)} (h : answer r = some (s, l)) : ∃ st, r = .ok s st ∧ st.ask = l := by
  unfold answer at h
  split at h
  · simp only [Option.some.injEq, Prod.mk.injEq] at h
    obtain ⟨rfl, rfl⟩ := h
    exact ⟨_, rfl, rfl⟩
  · cases h
theorem closed_ans {call : FuncId → List SV → M R SV} (hc : CallOK A P call) {f : FuncId} {args : List SV} {o : List (Option Bool)} {x : Value} {l : List (Bool × Bool)} (h : answer (call f args (St.none o)) = some (.v x, l)) (hl : ∀ p ∈ l, p.1 = p.2) (w : World) {vals : List Value} (hv : denL noNames args = some vals) :
    Calls P f vals.toArray w fun e w' => e = .returned x ∧ Mod [] w w' := by
  obtain ⟨st, hs, ha⟩ := answer_of h
  refine (closed_s hc hs (fun p hp => hl p (ha ▸ hp)) w hv).mono fun e w' ⟨y, ρ, he, hx, hm⟩ => ?_
  simp only [den, Option.some.injEq] at hx
  subst hx
  exact ⟨he, hm⟩

/-- By some oracle the answer is such a one. -/
def Good (r : List (Option Bool) → Res R SV) (Q : Value → Prop) : Prop := ∃ o l x, answer (r o) = some (.v x, l) ∧ AllAsk l ∧ Q x
theorem good_ans {call : FuncId → List SV → M R SV} (hc : CallOK A P call) {f : FuncId} {args : List SV} {Q : Value → Prop} (h : Good (fun o => call f args (St.none o)) Q) (w : World) {vals : List Value} (hv : denL noNames args = some vals) :
    Calls P f vals.toArray w fun e w' => ∃ x, Q x ∧ e = .returned x ∧ Mod [] w w' := by
  obtain ⟨o, l, x, h1, h2, h3⟩ := h
  exact (closed_ans hc h1 h2.all w hv).mono fun e w' ⟨he, hm⟩ => ⟨x, h3, he, hm⟩
/-- The answer true, without a test that was not decided. -/
def okTrue (r : Res R SV) : Bool := match r with
  | .ok (.v (.bool true)) ⟨_, _, _, _, [], _⟩ => true
  | _ => false
theorem okTrue_of {r : Res R SV} (h : okTrue r = true) : ∃ st, r = .ok (.v (.bool true)) st ∧ st.ask = [] := by
  unfold okTrue at h
  split at h
  · exact ⟨_, rfl, rfl⟩
  · cases h
theorem closed_true' {call : FuncId → List SV → M R SV} (hc : CallOK A P call) {f : FuncId} {args : List SV} (h : okTrue (call f args (St.none [])) = true) (w : World) {vals : List Value} (hv : denL noNames args = some vals) : Calls P f vals.toArray w fun e w' => e = .returned (.bool true) ∧ Mod [] w w' := by
  obtain ⟨st, hs, ha⟩ := okTrue_of h
  refine (closed_s hc hs (fun p hp => by rw [ha] at hp; cases hp) w hv).mono fun e w' ⟨x, ρ, he, hx, hm⟩ => ?_
  simp only [den, Option.some.injEq] at hx
  subst hx
  exact ⟨he, hm⟩
theorem closed_true {call : FuncId → List SV → M R SV} (hc : CallOK A P call) {f : FuncId} (h : okTrue (call f [] (St.none [])) = true) (w : World) : Calls P f #[] w fun e w' => e = .returned (.bool true) ∧ Mod [] w w' := by
  obtain ⟨st, hs, ha⟩ := okTrue_of h
  refine (closed_s hc hs (fun p hp => by rw [ha] at hp; cases hp) w (vals := []) rfl).mono fun e w' ⟨x, ρ, he, hx, hm⟩ => ?_
  simp only [den, Option.some.injEq] at hx
  subst hx
  exact ⟨he, hm⟩
end
end Go.Proofs.Ytpaiejeipghehaa
end
section
/- Calls that are known by themselves and leave what is there alone. No condition. -/
namespace Go.Proofs.Ytpaiejeipghehaa

section
variable {R : Type} {A : RepAt R} {P : Program}
theorem Tr.idle {B : Nat} {F : Nat → Prop} {st : St R} {ρ : Names} {own : Nat → List Nat} {w w' : World} (si : Sit A P B F st st ρ own w) (hm : Mod [] w w') : Tr A P B F st st ρ own w ρ own w' := by
  have hmP : ModP (fun _ => False) w w' := (ModP.of_mod hm).mono (fun _ _ h => by cases h)
  have hn : ∀ n, ¬ newN st st n := fun n h => by unfold newN at h; omega
  refine ⟨Names.le.refl _, fun _ _ => rfl, fun _ _ _ => rfl, fun n h b hb => .inr ⟨n, h.resolve_left (hn n), hn n, hb⟩, ?_, hmP.mono (fun _ _ h => h.elim)⟩
  refine (LI.step (X := fun _ => False) si.li hmP (Names.le.refl _) (fun _ h => h.elim) (fun n c h _ hc => ⟨h.resolve_right (hn n), hc, rfl⟩) (fun _ _ _ h => h.elim) (fun _ _ _ h => h.elim) (fun _ _ _ _ _ _ h => h.elim))

/-- A table of calls whose answers are known. -/
abbrev Tab := FuncId → List SV → Option SV
def TabOK (P : Program) (g : Tab) : Prop := ∀ f args s, g f args = some s → ∀ (ρ : Names) vals (w : World), denL ρ args = some vals → Calls P f vals.toArray w fun e w' => ∃ x, e = .returned x ∧ den ρ s = some x ∧ Mod [] w w'
def Lib.with (l : Lib R) (g : Tab) : Lib R := ⟨fun f args => match g f args with
  | some s => some (.ret s)
  | .none => l.prim f args, l.ext, l.tidy⟩
theorem Lib.with_ok {l : Lib R} {g : Tab} (hl : LibOK A P l) (hg : TabOK P g) : LibOK A P (l.with g) := by
  refine ⟨fun f args m hm st s st' h => ?_, hl.ext, hl.tidy⟩
  simp only [Lib.with] at hm
  split at hm
  · next s0 hs =>
    injection hm with hm
    subst hm
    obtain ⟨rfl, rfl⟩ := ret_ok.1 h
    exact ⟨Fn.refl _, fun B F ρ own w vals si hv => (hg _ _ _ hs ρ vals w hv).mono fun e w' ⟨x, h1, h2, h3⟩ => ⟨x, ρ, own, h1, h2, Tr.idle si h3⟩⟩
  · exact hl.prim f args m hm st s st' h
/-- One call's answer. -/
def Tab.one (f : FuncId) (k : List SV → Option SV) : Tab := fun g args => match Nat.beq g f with
  | true => k args
  | false => .none
def Tab.or (a b : Tab) : Tab := fun f args => match a f args with
  | some s => some s
  | .none => b f args
theorem TabOK.or {a b : Tab} (ha : TabOK P a) (hb : TabOK P b) : TabOK P (a.or b) := fun f args s h => by
  simp only [Tab.or] at h
  split at h
  · next s0 hs =>
    injection h with h
    subst h
    exact ha f args _ hs
  · exact hb f args s h
theorem TabOK.one {f : FuncId} {k : List SV → Option SV} (h : ∀ args s, k args = some s → ∀ (ρ : Names) vals (w : World), denL ρ args = some vals → Calls P f vals.toArray w fun e w' => ∃ x, e = .returned x ∧ den ρ s = some x ∧ Mod [] w w') : TabOK P (Tab.one f k) := fun g args s hs => by
  simp only [Tab.one] at hs
  split at hs
  · next hb =>
    obtain rfl := Nat.eq_of_beq_eq_true hb
    exact h args s hs
  · cases hs
/-- A call without arguments that answers true. -/
def kTrue : List SV → Option SV
  | [] => some (.v (.bool true))
  | _ => .none
theorem TabOK.true {f : FuncId} (h : ∀ w, Calls P f #[] w fun e w' => e = .returned (.bool true) ∧ Mod [] w w') : TabOK P (Tab.one f kTrue) := TabOK.one fun args s hs ρ vals w hv => by
  unfold kTrue at hs
  split at hs <;> cases hs
  simp only [denL, Option.some.injEq] at hv
  subst hv
  exact (h w).mono fun e w' ⟨he, hm⟩ => ⟨_, he, rfl, hm⟩
/-- Two ints in, a value out. -/
def kI2 (g : Int → Int → Value) : List SV → Option SV
  | [.v (.int .i64 a), .v (.int .i64 b)] => some (.v (g a b))
  | _ => .none
theorem TabOK.i2 {f : FuncId} {g : Int → Int → Value} (h : ∀ a b w, Calls P f #[.int .i64 a, .int .i64 b] w fun e w' => e = .returned (g a b) ∧ Mod [] w w') : TabOK P (Tab.one f (kI2 g)) := TabOK.one fun args s hs ρ vals w hv => by
  unfold kI2 at hs
  split at hs <;> cases hs
  simp only [denL, den, Option.some.injEq] at hv
  subst hv
  exact (h _ _ w).mono fun e w' ⟨he, hm⟩ => ⟨_, he, rfl, hm⟩
/-- A word in, a value out. -/
def kU1 (g : Int → Value) : List SV → Option SV
  | [.v (.int .u64 a)] => some (.v (g a))
  | _ => .none
theorem TabOK.u1 {f : FuncId} {g : Int → Value} (h : ∀ a w, Calls P f #[.int .u64 a] w fun e w' => e = .returned (g a) ∧ Mod [] w w') : TabOK P (Tab.one f (kU1 g)) := TabOK.one fun args s hs ρ vals w hv => by
  unfold kU1 at hs
  split at hs <;> cases hs
  simp only [denL, den, Option.some.injEq] at hv
  subst hv
  exact (h _ w).mono fun e w' ⟨he, hm⟩ => ⟨_, he, rfl, hm⟩
end
end Go.Proofs.Ytpaiejeipghehaa
end
section
/- The executor run up to a loop of the function at hand, and rules for what goes on from there. Condition: the program follows the looser reading of Go's order. -/
namespace Go.Proofs.Ytpaiejeipghehaa

inductive Fr where
  | sq (c : Code)
  | bk (id : Nat)
inductive Goer where
  | go (c : Code)
  | out (x : Ex)
inductive Stop where
  | fin (x : Ex) (e : Env)
  | here (c : Code) (fs : List Fr) (e : Env)
def Stop.env : Stop → Env
  | .fin _ e => e
  | .here _ _ e => e

section
variable {R : Type} (P : Program)
def wpF : List Fr → (Exit → Act → World → Prop) → Exit → Act → World → Prop
  | [], Q => Q
  | .sq b :: fs, Q => Exit.then (fun a w => b.wp P (wpF fs Q) a w) (wpF fs Q)
  | .bk id :: fs, Q => Exit.inBlock id (wpF fs Q)
def goWp (g : Goer) (fs : List Fr) (Q : Exit → Act → World → Prop) (a : Act) (w : World) : Prop := match g with
  | .go c => c.wp P (wpF P fs Q) a w
  | .out x => wpF P fs Q x.exit a w
def stopWp (r : Stop) (Q : Exit → Act → World → Prop) (a : Act) (w : World) : Prop := match r with
  | .fin x _ => Q x.exit a w
  | .here c fs _ => (Code.loop c).wp P (wpF P fs Q) a w

/-- The run of a body up to its first loop behind j loops that are run through. -/
def stepC (lib : Lib R) (n sz : Nat) : Nat → Nat → Goer → List Fr → Env → M R Stop
  | 0, _, _, _, _ => .fail 190
  | k + 1, j, .go c, fs, e => match c with
    | .seq a b => stepC lib n sz k j (.go a) (.sq b :: fs) e
    | .block id c => stepC lib n sz k j (.go c) (.bk id :: fs) e
    | .cond x a b => (M.opt 191 (evX e x)).bind fun
      | .v (.bool t) => (askB t).bind fun
        | true => stepC lib n sz k j (.go a) fs e
        | false => stepC lib n sz k j (.go b) fs e
      | _ => .fail 192
    | .loop c => match j with
      | 0 => .ret (.here c fs e)
      | j' + 1 => (runX P lib n sz (.loop c) e).bind fun r => stepC lib n sz k j' (.out r.1) fs r.2
    | c => (runX P lib n sz c e).bind fun r => stepC lib n sz k j (.out r.1) fs r.2
  | k + 1, j, .out x, fs, e => match fs with
    | [] => .ret (.fin x e)
    | .sq b :: fs => match x with
      | .nor => stepC lib n sz k j (.go b) fs e
      | x => stepC lib n sz k j (.out x) fs e
    | .bk id :: fs => match x with
      | .out i => match Nat.beq i id with
        | true => stepC lib n sz k j (.out .nor) fs e
        | false => stepC lib n sz k j (.out (.out i)) fs e
      | x => stepC lib n sz k j (.out x) fs e
variable {P} {A : RepAt R} {lib : Lib R} {n sz : Nat} {st st1 st' : St R}

def StepS (A : RepAt R) (P : Program) (sz : Nat) (g : Goer) (fs : List Fr) (e : Env) (st st' : St R) (r : Stop) : Prop := Fn st st' ∧ ∀ B F ρ own w a, Sit A P B F st st' ρ own w → EnvR ρ e a → a.tmps.size = sz →
  ∀ (Q : Exit → Act → World → Prop), (∀ a' ρ' own' w', Tr A P B F st st' ρ own w ρ' own' w' → EnvR ρ' r.env a' → a'.tmps.size = sz → a'.defers = a.defers → stopWp P r Q a' w') → goWp P g fs Q a w

theorem StepS.run {c : Code} {fs : List Fr} {e e1 : Env} {x : Ex} {r : Stop} (h1 : CodeS A P sz (fun Q a w => c.wp P Q a w) e st st1 (x, e1)) (h2 : StepS A P sz (.out x) fs e1 st1 st' r) : StepS A P sz (.go c) fs e st st' r := by
  refine ⟨h1.1.trans h2.1, fun B F ρ own w a si he hz Q hk => ?_⟩
  refine h1.2 B F ρ own w a (si.head h1.1 h2.1) he hz _ (fun a1 ρ1 own1 w1 t1 he1 hz1 hd1 => ?_)
  exact h2.2 B _ ρ1 own1 w1 a1 (si.next h1.1 h2.1 t1) he1 hz1 Q (fun a' ρ' own' w' t2 he2 hz2 hd2 => hk a' ρ' own' w' (t1.trans t2 h1.1 h2.1 (h1.1.wf si.wf)) he2 hz2 (hd2.trans hd1))

theorem step_s (hm : P.follows .mixedOrders = true) (hp : LibOK A P lib) : ∀ {k j : Nat} {g : Goer} {fs : List Fr} {e : Env} {st st' : St R} {r : Stop}, stepC P lib n sz k j g fs e st = .ok r st' → StepS A P sz g fs e st st' r
  | 0, _, _, _, _, _, _, _, h => (fail_ok.1 h).elim
  | k + 1, j, .go c, fs, e, st, st', r, h => by
    have hr := (run_s hm hp n).1
    have plain : ∀ {c : Code} {j' : Nat}, (runX P lib n sz c e).bind (fun r => stepC P lib n sz k j' (.out r.1) fs r.2) st = .ok r st' → StepS A P sz (.go c) fs e st st' r := by
      intro c j' h
      obtain ⟨⟨x, e1⟩, st1, h1, h2⟩ := bind_ok.1 h
      exact StepS.run (hr _ _ _ _ _ _ h1) (step_s hm hp h2)
    unfold stepC at h
    split at h
    · next a b =>
      obtain ⟨hf, hs⟩ := step_s hm hp h
      exact ⟨hf, fun B F ρ own w a si he hz Q hk => wp_seq (hs B F ρ own w a si he hz Q hk)⟩
    · next id c =>
      obtain ⟨hf, hs⟩ := step_s hm hp h
      exact ⟨hf, fun B F ρ own w a si he hz Q hk => wp_block (hs B F ρ own w a si he hz Q hk)⟩
    · next x a b =>
      obtain ⟨s, _, h1, h2⟩ := bind_ok.1 h
      obtain ⟨hs, rfl⟩ := opt_ok.1 h1
      split at h2
      · next t =>
        obtain ⟨o, st1, h3, h4⟩ := bind_ok.1 h2
        obtain ⟨q, hq⟩ := ask_ok h3
        have key : ∀ {z : Code}, stepC P lib n sz k j (.go z) fs e st1 = .ok r st' → ((∀ p ∈ st'.ask, p.1 = p.2) → (if t = true then a else b) = z) → StepS A P sz (.go (.cond x a b)) fs e st st' r := by
          intro z hz hsel
          have g := step_s hm hp hz
          refine ⟨q.fn.trans g.1, fun B F ρ own w a' si he hsz Q hk => ?_⟩
          have ev := he.ev _ _ hs
          simp only [den, Option.some.injEq] at ev
          refine wp_cond ev.symm ?_
          rw [hsel si.ask]
          exact g.2 B F ρ own w a' (si.of_quiet q) he hsz Q (fun a' ρ' own' w' t' => hk a' ρ' own' w' (Tr.of_quiet q t'))
        cases o with
        | true =>
          refine key h4 (fun ha => ?_)
          rw [hq (fun p hx => ha p ((step_s hm hp h4).1.ask p hx)), if_pos rfl]
        | false =>
          refine key h4 (fun ha => ?_)
          rw [hq (fun p hx => ha p ((step_s hm hp h4).1.ask p hx))]
          rfl
      · exact (fail_ok.1 h2).elim
    · next c =>
      cases j with
      | zero =>
        obtain ⟨rfl, rfl⟩ := ret_ok.1 h
        exact ⟨Fn.refl _, fun B F ρ own w a si he hz Q hk => hk a ρ own w (si.quiet (Quiet.refl _)) he hz rfl⟩
      | succ j => exact plain h
    · exact plain h
  | k + 1, j, .out x, fs, e, st, st', r, h => by
    unfold stepC at h
    split at h
    · obtain ⟨rfl, rfl⟩ := ret_ok.1 h
      exact ⟨Fn.refl _, fun B F ρ own w a si he hz Q hk => hk a ρ own w (si.quiet (Quiet.refl _)) he hz rfl⟩
    · next b fs =>
      split at h
      · obtain ⟨hf, hs⟩ := step_s hm hp h
        exact ⟨hf, fun B F ρ own w a si he hz Q hk => hs B F ρ own w a si he hz Q hk⟩
      · next hx =>
        obtain ⟨hf, hs⟩ := step_s hm hp h
        refine ⟨hf, fun B F ρ own w a si he hz Q hk => ?_⟩
        have := hs B F ρ own w a si he hz Q hk
        cases x with
        | nor => exact absurd rfl hx
        | ret => exact this
        | out i => exact this
    · next id fs =>
      cases x with
      | out i =>
        simp only at h
        cases hb : Nat.beq i id with
        | true =>
          rw [hb] at h
          have hid := Nat.eq_of_beq_eq_true hb
          subst hid
          obtain ⟨hf, hs⟩ := step_s hm hp h
          refine ⟨hf, fun B F ρ own w a si he hz Q hk => ?_⟩
          have := hs B F ρ own w a si he hz Q hk
          simpa [goWp, wpF, Exit.inBlock, Ex.exit] using this
        | false =>
          rw [hb] at h
          have hid := Nat.ne_of_beq_eq_false hb
          obtain ⟨hf, hs⟩ := step_s hm hp h
          refine ⟨hf, fun B F ρ own w a si he hz Q hk => ?_⟩
          have := hs B F ρ own w a si he hz Q hk
          simpa [goWp, wpF, Exit.inBlock, Ex.exit, hid] using this
      | nor =>
        obtain ⟨hf, hs⟩ := step_s hm hp h
        exact ⟨hf, fun B F ρ own w a si he hz Q hk => hs B F ρ own w a si he hz Q hk⟩
      | ret =>
        obtain ⟨hf, hs⟩ := step_s hm hp h
        exact ⟨hf, fun B F ρ own w a si he hz Q hk => hs B F ρ own w a si he hz Q hk⟩
end
end Go.Proofs.Ytpaiejeipghehaa
end
section
/- Symbolic states that stand for memory, and rules for a body cut at its loops. Condition: the program follows the looser reading of Go's order. -/
namespace Go.Proofs.Ytpaiejeipghehaa

structure Sym (R : Type) where
  e : Env
  hp : List (Nat × Chunk R)
  nx : Nat

section
variable {R : Type}
structure Stand (A : RepAt R) (P : Program) (B : Nat) (s : Sym R) (ρ : Names) (own : Nat → List Nat) (w : World) : Prop where
  li : LI A P B ρ own s.hp (fun _ => True) w
  top : ∀ n, s.nx ≤ n → hget n s.hp = none
  fresh : ∀ n, s.nx ≤ n → ρ n = none
  base : B ≤ w.heap.size

/-- What has changed lies in known pieces or is new. -/
structure Way (hp : List (Nat × Chunk R)) (own : Nat → List Nat) (w : World) (hp' : List (Nat × Chunk R)) (own' : Nat → List Nat) (w' : World) : Prop where
  mod : ModP (fun b => ∃ n c, hget n hp = some c ∧ b ∈ own n) w w'
  pool : ∀ n c, hget n hp' = some c → ∀ b ∈ own' n, w.heap.size ≤ b ∨ ∃ m d, hget m hp = some d ∧ b ∈ own m
variable {hp hp1 hp2 : List (Nat × Chunk R)} {own own1 own2 : Nat → List Nat} {w w1 w2 : World}
theorem Way.refl : Way hp own w hp own w := ⟨ModP.refl _ _, fun n c hc _ hb => .inr ⟨n, c, hc, hb⟩⟩
theorem Way.trans (h : Way hp own w hp1 own1 w1) (k : Way hp1 own1 w1 hp2 own2 w2) : Way hp own w hp2 own2 w2 := by
  refine ⟨h.mod.trans k.mod fun b hb ⟨n, c, hc, hn⟩ => (h.pool n c hc b hn).resolve_left (by omega), fun n c hc b hb => ?_⟩
  rcases k.pool n c hc b hb with g | ⟨m, d, g1, g2⟩
  · exact .inl (Nat.le_trans h.mod.size g)
  · exact h.pool m d g1 b g2

def Tri (A : RepAt R) (P : Program) (sz pin : Nat) (g : Goer) (fs : List Fr) (s : Sym R) (Q : Ex → Sym R → Prop) : Prop :=
  ∀ B ρ own w a, Stand A P B s ρ own w → EnvR ρ s.e a → a.tmps.size = sz → ∀ (K : Exit → Act → World → Prop),
    (∀ x s' ρ' own' w' a', Q x s' → Stand A P B s' ρ' own' w' → EnvR ρ' s'.e a' → a'.tmps.size = sz → a'.defers = a.defers → Way s.hp own w s'.hp own' w' → (∀ n, n < pin → ρ' n = ρ n) → K x.exit a' w') → goWp P g fs K a w

variable {A : RepAt R} {P : Program} {lib : Lib R} {n sz pin : Nat} {g g' : Goer} {fs fs' : List Fr} {s s' s'' : Sym R} {Q Q' : Ex → Sym R → Prop}
theorem Tri.fin {x : Ex} (h : Q x s) : Tri A P sz pin (.out x) [] s Q := fun _ ρ own w a hs he hz _ hk => hk x s ρ own w a h hs he hz rfl Way.refl (fun _ _ => rfl)
theorem Tri.mono (h : Tri A P sz pin g fs s Q) (hq : ∀ x s, Q x s → Q' x s) : Tri A P sz pin g fs s Q' := fun B ρ own w a hs he hz K hk => h B ρ own w a hs he hz K fun x s' ρ' own' w' a' hx => hk x s' ρ' own' w' a' (hq x s' hx)

def Stop.next (r : Stop) : Goer × List Fr := match r with
  | .fin x _ => (.out x, [])
  | .here c fs _ => (.go (.loop c), fs)
theorem stop_next {r : Stop} {Q : Exit → Act → World → Prop} {a : Act} {w : World} : goWp P r.next.1 r.next.2 Q a w = stopWp P r Q a w := by cases r <;> rfl

theorem Tri.run (hm : P.follows .mixedOrders = true) (hl : LibOK A P lib) {k j : Nat} {o : List (Option Bool)} {r : Stop} {st' : St R} (h : stepC P lib n sz k j g fs s.e ⟨s.hp, s.nx, [], [], [], o⟩ = .ok r st') (ha : ∀ p ∈ st'.ask, p.1 = p.2) (hpin : pin ≤ s.nx)
    (ht : Tri A P sz pin r.next.1 r.next.2 ⟨r.env, st'.hp, st'.nx⟩ Q) : Tri A P sz pin g fs s Q := by
  obtain ⟨hf, hs⟩ := step_s hm hl h
  intro B ρ own w a hst he hz K hk
  have hwf : Wf (⟨s.hp, s.nx, [], [], [], o⟩ : St R) := ⟨(fun n hn => by cases hn), hst.top⟩
  have hwf' := hf.wf hwf
  refine hs B (fun _ => True) ρ own w a ⟨fun _ _ => trivial, hwf, fun n hn => hst.fresh n hn.1, hst.li, ha, hst.base⟩ he hz K (fun a1 ρ1 own1 w1 t1 he1 hz1 hd1 => ?_)
  rw [← stop_next]
  have old : ∀ m, m ∈ st'.wr → ¬ newN (⟨s.hp, s.nx, [], [], [], o⟩ : St R) st' m → ∃ c, hget m s.hp = some c := fun m hm hn => by
    rcases hf.al m hm with h1 | h1 | h1
    · cases h1
    · exact absurd ⟨h1, (hwf'.wr m hm).2⟩ hn
    · exact h1
  have way : Way s.hp own w st'.hp own1 w1 := by
    refine ⟨t1.mod.mono fun b _ ⟨m, h1, h2, h3⟩ => ?_, fun n c hc b hb => ?_⟩
    · obtain ⟨c, hc⟩ := old m h1 h2
      exact ⟨m, c, hc, h3⟩
    · by_cases h1 : newN (⟨s.hp, s.nx, [], [], [], o⟩ : St R) st' n ∨ n ∈ st'.wr
      · rcases t1.pool n h1 b hb with h2 | ⟨m, h2, h3, h4⟩
        · exact .inl h2
        · obtain ⟨d, hd⟩ := old m h2 h3
          exact .inr ⟨m, d, hd, h4⟩
      · rw [not_or] at h1
        rw [t1.same n h1.1 h1.2] at hb
        have hlt := hwf'.lt hc
        have h2 : n < s.nx := by
          rcases Nat.lt_or_ge n s.nx with h | h
          · exact h
          · exact absurd ⟨h, hlt⟩ h1.1
        exact .inr ⟨n, c, (hf.hp n h1.2 h2).symm.trans hc, hb⟩
  refine ht B ρ1 own1 w1 a1 ⟨t1.li.sub fun _ _ => .inl trivial, hwf'.top, fun n hn => ?_, Nat.le_trans hst.base t1.mod.size⟩ he1 hz1 K (fun x s2 ρ2 own2 w2 a2 hq h2 he2 hz2 hd2 hw2 hp2 => hk x s2 ρ2 own2 w2 a2 hq h2 he2 hz2 (hd2.trans hd1) (way.trans hw2) (fun n hn => ?_))
  · simp only at hn
    rw [t1.out n (fun h => by have := h.2; omega)]
    exact hst.fresh n (Nat.le_trans hf.nx hn)
  · rw [hp2 n hn, t1.out n (fun h => by have h1 := h.1; simp only at h1; omega)]

theorem rounds_mono {c : Code} {Q : Exit → Act → World → Prop} : ∀ {n m : Nat}, n ≤ m → ∀ {a w}, Code.rounds P c Q n a w → Code.rounds P c Q m a w
  | 0, _, _, _, _, h => h.elim
  | n + 1, 0, hle, _, _, _ => by omega
  | n + 1, m + 1, hle, a, w, h => by
    rw [rounds_succ] at h ⊢
    refine wp_mono h fun e a w hx => ?_
    cases e <;> first | exact rounds_mono (Nat.le_of_succ_le_succ hle) hx | exact hx

/-- A loop's rule: each round leads to such a state again, of a smaller number, or out. -/
theorem Tri.loop {c : Code} (I : Nat → Sym R → Prop) (hr : ∀ k s, I k s → Tri A P sz pin (.go c) [] s (fun x s' => match x with
    | .nor => ∃ k', k' < k ∧ I k' s'
    | x => Tri A P sz pin (.out x) fs s' Q)) {k : Nat} (h : I k s) : Tri A P sz pin (.go (.loop c)) fs s Q := by
  have key : ∀ k s, I k s → ∀ B ρ own w a, Stand A P B s ρ own w → EnvR ρ s.e a → a.tmps.size = sz → ∀ (K : Exit → Act → World → Prop),
      (∀ x s' ρ' own' w' a', Q x s' → Stand A P B s' ρ' own' w' → EnvR ρ' s'.e a' → a'.tmps.size = sz → a'.defers = a.defers → Way s.hp own w s'.hp own' w' → (∀ n, n < pin → ρ' n = ρ n) → K x.exit a' w') → Code.rounds P c (wpF P fs K) (k + 1) a w := by
    intro k
    induction k using Nat.strongRecOn with
    | _ k ih =>
      intro s hI B ρ own w a hs he hz K hk
      rw [rounds_succ]
      refine hr k s hI B ρ own w a hs he hz _ (fun x s1 ρ1 own1 w1 a1 hx hs1 he1 hz1 hd1 hw1 hp1 => ?_)
      cases x with
      | nor =>
        obtain ⟨k', hlt, hI'⟩ := hx
        exact rounds_mono (Nat.succ_le_of_lt hlt) (ih k' hlt s1 hI' B ρ1 own1 w1 a1 hs1 he1 hz1 K (fun x s2 ρ2 own2 w2 a2 hq h2 he2 hz2 hd2 hw2 hp2 => hk x s2 ρ2 own2 w2 a2 hq h2 he2 hz2 (hd2.trans hd1) (hw1.trans hw2) (fun n hn => (hp2 n hn).trans (hp1 n hn))))
      | ret => exact hx B ρ1 own1 w1 a1 hs1 he1 hz1 K (fun x s2 ρ2 own2 w2 a2 hq h2 he2 hz2 hd2 hw2 hp2 => hk x s2 ρ2 own2 w2 a2 hq h2 he2 hz2 (hd2.trans hd1) (hw1.trans hw2) (fun n hn => (hp2 n hn).trans (hp1 n hn)))
      | out i => exact hx B ρ1 own1 w1 a1 hs1 he1 hz1 K (fun x s2 ρ2 own2 w2 a2 hq h2 he2 hz2 hd2 hw2 hp2 => hk x s2 ρ2 own2 w2 a2 hq h2 he2 hz2 (hd2.trans hd1) (hw1.trans hw2) (fun n hn => (hp2 n hn).trans (hp1 n hn)))
  exact fun B ρ own w a hs he hz K hk => wp_loop_rounds (k + 1) (key k s h B ρ own w a hs he hz K hk)

/-- The same memory, seen as another state. -/
def View (A : RepAt R) (P : Program) (pin : Nat) (s s' : Sym R) : Prop := ∀ B ρ own w, Stand A P B s ρ own w → ∃ ρ' own', Stand A P B s' ρ' own' w ∧ (∀ a, EnvR ρ s.e a → EnvR ρ' s'.e a) ∧ (∀ n c, hget n s'.hp = some c → ∀ b ∈ own' n, ∃ m d, hget m s.hp = some d ∧ b ∈ own m) ∧ ∀ n, n < pin → ρ' n = ρ n
theorem View.refl : View A P pin s s := fun _ ρ own _ h => ⟨ρ, own, h, fun _ h => h, fun n c hc _ hb => ⟨n, c, hc, hb⟩, fun _ _ => rfl⟩
theorem View.trans (h : View A P pin s s') (k : View A P pin s' s'') : View A P pin s s'' := fun B ρ own w hs => by
  obtain ⟨ρ1, own1, h1, h2, h3, h4⟩ := h B ρ own w hs
  obtain ⟨ρ2, own2, k1, k2, k3, k4⟩ := k B ρ1 own1 w h1
  refine ⟨ρ2, own2, k1, fun a ha => k2 a (h2 a ha), fun n c hc b hb => ?_, fun n hn => (k4 n hn).trans (h4 n hn)⟩
  obtain ⟨m, d, g1, g2⟩ := k3 n c hc b hb
  exact h3 m d g1 b g2
theorem Tri.view (h : View A P pin s s') (ht : Tri A P sz pin g fs s' Q) : Tri A P sz pin g fs s Q := fun B ρ own w a hs he hz K hk => by
  obtain ⟨ρ1, own1, h1, h2, h3, h4⟩ := h B ρ own w hs
  exact ht B ρ1 own1 w a h1 (h2 a he) hz K (fun x s2 ρ2 own2 w2 a2 hq hs2 he2 hz2 hd2 hw2 hp2 => hk x s2 ρ2 own2 w2 a2 hq hs2 he2 hz2 hd2 (Way.trans ⟨ModP.refl _ _, fun n c hc b hb => .inr (h3 n c hc b hb)⟩ hw2) (fun n hn => (hp2 n hn).trans (h4 n hn)))

/-! Names anew, in the order in which one comes to them; what one does not come to is forgotten. -/
mutual
def namesS : SV → List Nat
  | .v _ => []
  | .ptr n _ => [n]
  | .sl n _ _ _ => [n]
  | .slE n => [n]
  | .tptr n _ _ => [n]
  | .tsl n _ => [n]
  | .mp n => [n]
  | .ifc _ x => namesS x
  | .agg l => namesL l
  | .tup l => namesL l
  | .clo _ a b => namesL a ++ namesL b
def namesL : List SV → List Nat
  | [] => []
  | x :: l => namesS x ++ namesL l
end
def namesC : Chunk R → List Nat
  | .row l _ => namesL l
  | _ => []
def orderX (hp : List (Nat × Chunk R)) : Nat → List Nat → List Nat → List Nat
  | 0, _, seen => seen
  | _ + 1, [], seen => seen
  | k + 1, n :: todo, seen => match memN n seen with
    | true => orderX hp k todo seen
    | false => match hget n hp with
      | some c => orderX hp k (todo ++ namesC c) (seen ++ [n])
      | none => orderX hp k todo seen
def idxN (n : Nat) : List Nat → Nat → Option Nat
  | [], _ => none
  | m :: r, i => match Nat.beq n m with
    | true => some i
    | false => idxN n r (i + 1)
mutual
def renS (l : List Nat) : SV → Option SV
  | .v x => some (.v x)
  | .ptr n o => (idxN n l 0).map fun m => .ptr m o
  | .sl n o i k => (idxN n l 0).map fun m => .sl m o i k
  | .slE n => (idxN n l 0).map fun m => .slE m
  | .tptr n i j => (idxN n l 0).map fun m => .tptr m i j
  | .tsl n k => (idxN n l 0).map fun m => .tsl m k
  | .mp n => (idxN n l 0).map fun m => .mp m
  | .ifc t x => (renS l x).map fun y => .ifc t y
  | .agg r => (renL l r).map fun r => .agg r
  | .tup r => (renL l r).map fun r => .tup r
  | .clo f a b => match renL l a, renL l b with
    | some a, some b => some (.clo f a b)
    | _, _ => none
def renL (l : List Nat) : List SV → Option (List SV)
  | [] => some []
  | x :: r => match renS l x, renL l r with
    | some x, some r => some (x :: r)
    | _, _ => none
end
def renC (l : List Nat) : Chunk R → Option (Chunk R)
  | .row cs t => (renL l cs).map fun cs => .row cs t
  | .emp => some .emp
  | .rep r => some (.rep r)
  | .tab _ _ _ => none
def renHp (l : List Nat) (hp : List (Nat × Chunk R)) : List Nat → Nat → Option (List (Nat × Chunk R))
  | [], _ => some []
  | n :: r, i => match (hget n hp).bind (renC l), renHp l hp r (i + 1) with
    | some c, some t => some ((i, c) :: t)
    | _, _ => none
def renEnv (l : List Nat) (e : Env) : List Nat → Option Env
  | [] => some []
  | t :: r => match elook t e with
    | some s => match renS l s, renEnv l e r with
      | some s, some r => some ((t, s) :: r)
      | _, _ => none
    | none => renEnv l e r
def rootsE (e : Env) : List Nat → List Nat
  | [] => []
  | t :: r => match elook t e with
    | some s => namesS s ++ rootsE e r
    | none => rootsE e r
def startsB : List Nat → List Nat → Bool
  | [], _ => true
  | _ :: _, [] => false
  | n :: r, m :: l => match Nat.beq n m with
    | true => startsB r l
    | false => false
def canonL (l pins vars : List Nat) (s : Sym R) : Option (Sym R) := match startsB pins l with
  | true => match renEnv l s.e vars, renHp l s.hp l 0 with
    | some e, some hp => some ⟨e, hp, l.length⟩
    | _, _ => none
  | false => none
def canonX (pins vars : List Nat) (s : Sym R) : Option (Sym R) := canonL (orderX s.hp 2000 (pins ++ rootsE s.e vars) []) pins vars s

theorem idxN_ok {n : Nat} : ∀ {l : List Nat} {i m : Nat}, idxN n l i = some m → i ≤ m ∧ l[m - i]? = some n
  | [], _, _, h => by cases h
  | x :: l, i, m, h => by
    simp only [idxN] at h
    split at h
    · next hb =>
      injection h with h
      subst h
      have := Nat.eq_of_beq_eq_true hb
      subst this
      simp
    · obtain ⟨h1, h2⟩ := idxN_ok h
      refine ⟨by omega, ?_⟩
      rw [show m - i = (m - (i + 1)) + 1 by omega, List.getElem?_cons_succ]
      exact h2
def renN (l : List Nat) (ρ : Names) : Names := fun i => match l[i]? with
  | some n => ρ n
  | none => none
theorem renN_idx {l : List Nat} {ρ : Names} {n m : Nat} (h : idxN n l 0 = some m) : renN l ρ m = ρ n := by
  obtain ⟨_, h⟩ := idxN_ok h
  rw [Nat.sub_zero] at h
  simp [renN, h]
mutual
theorem den_ren {l : List Nat} {ρ : Names} : ∀ (s s' : SV) (x : Value), renS l s = some s' → den ρ s = some x → den (renN l ρ) s' = some x
  | .v _, s', x, h, hx => by
    simp only [renS, Option.some.injEq] at h
    subst h
    exact hx
  | .ptr n o, s', x, h, hx => by
    simp only [renS, Option.map_eq_some_iff] at h
    obtain ⟨m, hm, rfl⟩ := h
    simpa only [den, renN_idx hm] using hx
  | .sl n o i k, s', x, h, hx => by
    simp only [renS, Option.map_eq_some_iff] at h
    obtain ⟨m, hm, rfl⟩ := h
    simpa only [den, renN_idx hm] using hx
  | .slE n, s', x, h, hx => by
    simp only [renS, Option.map_eq_some_iff] at h
    obtain ⟨m, hm, rfl⟩ := h
    simpa only [den, renN_idx hm] using hx
  | .tptr n i j, s', x, h, hx => by
    simp only [renS, Option.map_eq_some_iff] at h
    obtain ⟨m, hm, rfl⟩ := h
    simpa only [den, renN_idx hm] using hx
  | .tsl n k, s', x, h, hx => by
    simp only [renS, Option.map_eq_some_iff] at h
    obtain ⟨m, hm, rfl⟩ := h
    simpa only [den, renN_idx hm] using hx
  | .mp n, s', x, h, hx => by
    simp only [renS, Option.map_eq_some_iff] at h
    obtain ⟨m, hm, rfl⟩ := h
    simpa only [den, renN_idx hm] using hx
  | .ifc t y, s', x, h, hx => by
    simp only [renS, Option.map_eq_some_iff] at h
    obtain ⟨y', hy, rfl⟩ := h
    simp only [den, Option.map_eq_some_iff] at hx ⊢
    obtain ⟨z, hz, hx⟩ := hx
    exact ⟨z, den_ren y y' z hy hz, hx⟩
  | .agg r, s', x, h, hx => by
    simp only [renS, Option.map_eq_some_iff] at h
    obtain ⟨y', hy, rfl⟩ := h
    simp only [den, Option.map_eq_some_iff] at hx ⊢
    obtain ⟨z, hz, hx⟩ := hx
    exact ⟨z, denL_ren r y' z hy hz, hx⟩
  | .tup r, s', x, h, hx => by
    simp only [renS, Option.map_eq_some_iff] at h
    obtain ⟨y', hy, rfl⟩ := h
    simp only [den, Option.map_eq_some_iff] at hx ⊢
    obtain ⟨z, hz, hx⟩ := hx
    exact ⟨z, denL_ren r y' z hy hz, hx⟩
  | .clo f a b, s', x, h, hx => by
    simp only [renS] at h
    split at h <;> cases h
    next a' b' ha hb =>
    simp only [den] at hx ⊢
    split at hx <;> try cases hx
    next va vb h1 h2 =>
    rw [denL_ren a a' va ha h1, denL_ren b b' vb hb h2]
theorem denL_ren {l : List Nat} {ρ : Names} : ∀ (s s' : List SV) (x : List Value), renL l s = some s' → denL ρ s = some x → denL (renN l ρ) s' = some x
  | [], s', x, h, hx => by
    simp only [renL, Option.some.injEq] at h
    subst h
    exact hx
  | y :: r, s', x, h, hx => by
    simp only [renL] at h
    split at h <;> cases h
    next y' r' hy hr =>
    obtain ⟨a, b, h1, h2, rfl⟩ := denL_cons.1 hx
    exact denL_cons.2 ⟨a, b, den_ren y y' a hy h1, denL_ren r r' b hr h2, rfl⟩
end
theorem order_nodup {hp : List (Nat × Chunk R)} : ∀ {k : Nat} {todo seen : List Nat}, seen.Nodup → (orderX hp k todo seen).Nodup
  | 0, _, _, h => h
  | _ + 1, [], _, h => h
  | k + 1, n :: todo, seen, h => by
    simp only [orderX]
    split
    · exact order_nodup h
    · next hm =>
      split
      · refine order_nodup (List.nodup_append.2 ⟨h, by simp, fun a ha b hb e => ?_⟩)
        rw [List.mem_singleton] at hb
        subst hb
        subst e
        rw [memN_iff.2 ha] at hm
        cases hm
      · exact order_nodup h
theorem renHp_get {l : List Nat} {hp : List (Nat × Chunk R)} : ∀ {r : List Nat} {i : Nat} {hp' : List (Nat × Chunk R)}, renHp l hp r i = some hp' → ∀ {n : Nat} {c : Chunk R}, hget n hp' = some c → i ≤ n ∧ ∃ m d, r[n - i]? = some m ∧ hget m hp = some d ∧ renC l d = some c
  | [], _, hp', h, n, c, hc => by
    simp only [renHp, Option.some.injEq] at h
    subst h
    cases hc
  | x :: r, i, hp', h, n, c, hc => by
    simp only [renHp] at h
    split at h <;> cases h
    next c0 t h1 h2 =>
    rw [hget_cons] at hc
    split at hc
    · next e =>
      subst e
      injection hc with hc
      subst hc
      simp only [Option.bind_eq_some_iff] at h1
      obtain ⟨d, h3, h4⟩ := h1
      exact ⟨Nat.le_refl _, x, d, by simp, h3, h4⟩
    · obtain ⟨h3, m, d, h4, h5, h6⟩ := renHp_get h2 hc
      refine ⟨by omega, m, d, ?_, h5, h6⟩
      rw [show n - i = (n - (i + 1)) + 1 by omega, List.getElem?_cons_succ]
      exact h4
theorem renEnv_get {l : List Nat} {e : Env} : ∀ {vars : List Nat} {e' : Env}, renEnv l e vars = some e' → ∀ {t : Nat} {s : SV}, elook t e' = some s → ∃ s0, elook t e = some s0 ∧ renS l s0 = some s
  | [], e', h, t, s, hs => by
    simp only [renEnv, Option.some.injEq] at h
    subst h
    cases hs
  | v :: vars, e', h, t, s, hs => by
    simp only [renEnv] at h
    split at h
    · next s0 h0 =>
      split at h <;> cases h
      next s1 r h1 h2 =>
      rw [elook_cons] at hs
      split at hs
      · next e =>
        subst e
        injection hs with hs
        subst hs
        exact ⟨s0, h0, h1⟩
      · exact renEnv_get h2 hs
    · exact renEnv_get h hs
theorem starts_get : ∀ {r l : List Nat}, startsB r l = true → ∀ {n : Nat}, n < r.length → l[n]? = r[n]?
  | [], _, _, _, h => by cases h
  | _ :: _, [], h, _, _ => by cases h
  | x :: r, y :: l, h, n, hn => by
    simp only [startsB] at h
    split at h
    · next hb =>
      have := Nat.eq_of_beq_eq_true hb
      subst this
      cases n with
      | zero => rfl
      | succ n =>
        simp only [List.getElem?_cons_succ]
        exact starts_get h (by simpa using hn)
    · cases h
theorem canon_view {vars : List Nat} (h : canonX (List.range pin) vars s = some s') : View A P pin s s' := by
  unfold canonX at h
  have hnd : (orderX s.hp 2000 (List.range pin ++ rootsE s.e vars) []).Nodup := order_nodup List.nodup_nil
  generalize orderX s.hp 2000 (List.range pin ++ rootsE s.e vars) [] = l at h hnd
  unfold canonL at h
  split at h
  case h_2 => cases h
  next hst =>
  split at h <;> cases h
  next e hp he hhp =>
  intro B ρ own w hs
  refine ⟨renN l ρ, fun i => match l[i]? with | some n => own n | none => [], ⟨⟨fun n c _ hc => ?_, fun n m c d _ _ hne hc hd b hb hb' => ?_, fun n c _ hc b hb => ?_⟩, fun n hn => ?_, fun n hn => ?_, hs.base⟩, fun a ha t v ht => ?_, fun n c hc b hb => ?_, fun n hn => ?_⟩
  · obtain ⟨_, m, d, h1, h2, h3⟩ := renHp_get hhp hc
    rw [Nat.sub_zero] at h1
    obtain ⟨e0, h4, h5⟩ := hs.li.at_ m d trivial h2
    refine ⟨e0, by simp [renN, h1, h4], ?_⟩
    simp only [h1]
    cases d with
    | row cs t =>
      simp only [renC, Option.map_eq_some_iff] at h3
      obtain ⟨cs', h6, rfl⟩ := h3
      obtain ⟨g1, ds, vs, g2, g3, g4⟩ := h5
      exact ⟨g1, ds, vs, g2, denL_ren _ _ _ h6 g3, g4⟩
    | tab f len t => cases h3
    | emp =>
      simp only [renC, Option.some.injEq] at h3
      subst h3
      exact h5
    | rep r =>
      simp only [renC, Option.some.injEq] at h3
      subst h3
      exact h5
  · obtain ⟨_, m1, d1, h1, h2, h3⟩ := renHp_get hhp hc
    obtain ⟨_, m2, d2, h4, h5, h6⟩ := renHp_get hhp hd
    rw [Nat.sub_zero] at h1 h4
    simp only [h1, h4] at hb hb'
    refine hs.li.dis m1 m2 d1 d2 trivial trivial (fun e => hne ?_) h2 h5 b hb hb'
    subst e
    exact (List.getElem?_inj (lt_of_some h1) hnd).1 (h1.trans h4.symm)
  · obtain ⟨_, m, d, h1, h2, h3⟩ := renHp_get hhp hc
    rw [Nat.sub_zero] at h1
    simp only [h1] at hb
    exact hs.li.low m d trivial h2 b hb
  · cases hx : hget n hp with
    | none => rfl
    | some c =>
      obtain ⟨_, m, d, h1, _⟩ := renHp_get hhp hx
      rw [Nat.sub_zero] at h1
      have := lt_of_some h1
      simp only at hn
      omega
  · simp only [renN]
    rw [List.getElem?_eq_none hn]
  · obtain ⟨s0, h1, h2⟩ := renEnv_get he ht
    obtain ⟨x, h3, h4⟩ := ha t s0 h1
    exact ⟨x, h3, den_ren s0 v x h2 h4⟩
  · obtain ⟨_, m, d, h1, h2, h3⟩ := renHp_get hhp hc
    rw [Nat.sub_zero] at h1
    simp only [h1] at hb
    exact ⟨m, d, h2, hb⟩
  · have := starts_get hst (n := n) (by simpa using hn)
    rw [List.getElem?_range hn] at this
    simp [renN, this]
end
end Go.Proofs.Ytpaiejeipghehaa
end
section
/- A long run cut into pieces at a loop's rounds: each piece its own theorem. No condition. -/
namespace Go.Proofs.Ytpaiejeipghehaa
variable {R : Type} {P : Program} {lib : Lib R}

def fEnv {β : Type} : Env → (Env → β) → β
  | [], k => k []
  | (t, s) :: r, k => fNat t fun t => fTop s fun s => fEnv r fun r => k ((t, s) :: r)
theorem fEnv_eq {β : Type} (e : Env) (k : Env → β) : fEnv e k = k e := by
  induction e generalizing k with
  | nil => rfl
  | cons p e ih => obtain ⟨t, s⟩ := p; simp [fEnv, fNat_eq, fTop_eq, ih]
/-- One round of a loop: what the next begins with, reckoned out. -/
def roundX (fR : R → (R → Option (Env × St R)) → Option (Env × St R)) (P : Program) (lib : Lib R) (n sz : Nat) (c : Code) (e : Env) (st : St R) : Option (Env × St R) := match runX P lib n sz c e st with
  | .ok (.nor, e1) st1 => fEnv (pruneE (maskE e) e1) fun e2 => fSt fR st1 fun st2 => some (e2, st2)
  | _ => none
theorem loop_round {fR : R → (R → Option (Env × St R)) → Option (Env × St R)} (hR : ∀ r k, fR r k = k r) {n sz : Nat} {c : Code} {e e1 : Env} {st st1 : St R} (h : roundX fR P lib n sz c e st = some (e1, st1)) : runX P lib (n + 1) sz (.loop c) e st = runX P lib n sz (.loop c) e1 st1 := by
  unfold roundX at h
  simp only [runX, codeF, M.bind]
  cases hr : runX P lib n sz c e st with
  | no w l => rw [hr] at h; cases h
  | ok a s =>
    obtain ⟨ex, e2⟩ := a
    rw [hr] at h
    cases ex with
    | nor =>
      simp only [fEnv_eq, fSt_eq hR] at h
      injection h with h; injection h with h1 h2; subst h1; subst h2; rfl
    | ret => cases h
    | out id => cases h

/-- A run up to its first loop. -/
inductive Sus (R : Type) where
  | done (r : Res R (Ex × Env))
  | here (n : Nat) (c : Code) (e : Env) (st : St R)
def susX (P : Program) (lib : Lib R) : Nat → Nat → Code → Env → St R → Sus R
  | n + 1, sz, .seq a b, e, st => match susX P lib n sz a e st with
    | .done (.ok (.nor, e1) st1) => susX P lib n sz b e1 st1
    | x => x
  | n + 1, sz, .block id c, e, st => match susX P lib n sz c e st with
    | .here m c' e' st' => .here m c' e' st'
    | .done _ => .done (runX P lib (n + 1) sz (.block id c) e st)
  | n + 1, _, .loop c, e, st => .here n c e st
  | n, sz, c, e, st => .done (runX P lib n sz c e st)
/-- The same, with the first loop's outcome given. -/
def finX (P : Program) (lib : Lib R) (v : Res R (Ex × Env)) : Nat → Nat → Code → Env → St R → Res R (Ex × Env)
  | n + 1, sz, .seq a b, e, st => match susX P lib n sz a e st with
    | .done (.ok (.nor, e1) st1) => finX P lib v n sz b e1 st1
    | .done r => r
    | .here _ _ _ _ => match finX P lib v n sz a e st with
      | .ok (.nor, e1) st1 => runX P lib n sz b e1 st1
      | r => r
  | n + 1, sz, .block id c, e, st => match finX P lib v n sz c e st with
    | .ok (.out id', e1) st1 => match Nat.beq id' id with
      | true => .ok (.nor, e1) st1
      | false => .ok (.out id', e1) st1
    | r => r
  | _ + 1, _, .loop _, _, _ => v
  | n, sz, c, e, st => runX P lib n sz c e st

theorem run_seq (n sz : Nat) (a b : Code) (e : Env) (st : St R) : runX P lib (n + 1) sz (.seq a b) e st = (match runX P lib n sz a e st with
    | .ok (.nor, e1) st1 => runX P lib n sz b e1 st1
    | r => r) := by
  simp only [runX, codeF, M.bind]
  cases runX P lib n sz a e st with
  | no w l => rfl
  | ok a s => obtain ⟨ex, e2⟩ := a; cases ex <;> rfl
theorem run_block (n sz id : Nat) (c : Code) (e : Env) (st : St R) : runX P lib (n + 1) sz (.block id c) e st = (match runX P lib n sz c e st with
    | .ok (.out id', e1) st1 => (match Nat.beq id' id with
      | true => .ok (.nor, e1) st1
      | false => .ok (.out id', e1) st1)
    | r => r) := by
  simp only [runX, codeF, M.bind]
  cases runX P lib n sz c e st with
  | no w l => rfl
  | ok a s =>
    obtain ⟨ex, e2⟩ := a
    cases ex with
    | nor => rfl
    | ret => rfl
    | out id' => cases hb : Nat.beq id' id <;> simp only [hb] <;> rfl
theorem sus_run : ∀ (n sz : Nat) (c : Code) (e : Env) (st : St R), (∀ r, susX P lib n sz c e st = .done r → runX P lib n sz c e st = r) ∧
    ∀ m c' e' st', susX P lib n sz c e st = .here m c' e' st' → runX P lib n sz c e st = finX P lib (runX P lib (m + 1) sz (.loop c') e' st') n sz c e st := by
  intro n
  induction n with
  | zero => exact fun sz c e st => ⟨fun r h => by cases c <;> (injection h), fun m c' e' st' h => by cases c <;> cases h⟩
  | succ n ih =>
    intro sz c e st
    cases c with
    | seq a b =>
      have ia := ih sz a e st
      rw [run_seq]
      cases hs : susX P lib n sz a e st with
      | done r =>
        rw [ia.1 r hs]
        cases r with
        | no w l => exact ⟨fun r h => by rw [susX, hs] at h; injection h, fun m c' e' st' h => by rw [susX, hs] at h; cases h⟩
        | ok v st1 =>
          obtain ⟨ex, e1⟩ := v
          have ib := ih sz b e1 st1
          cases ex with
          | nor =>
            refine ⟨fun r h => ?_, fun m c' e' st' h => ?_⟩
            · rw [susX, hs] at h
              exact ib.1 r h
            · rw [susX, hs] at h
              rw [finX, hs]
              exact ib.2 m c' e' st' h
          | ret => exact ⟨fun r h => by rw [susX, hs] at h; injection h, fun m c' e' st' h => by rw [susX, hs] at h; cases h⟩
          | out id => exact ⟨fun r h => by rw [susX, hs] at h; injection h, fun m c' e' st' h => by rw [susX, hs] at h; cases h⟩
      | here m c' e' st' =>
        refine ⟨fun r h => (by rw [susX, hs] at h; cases h), fun m2 c2 e2 st2 h => ?_⟩
        rw [susX, hs] at h
        injection h with h1 h2 h3 h4
        subst h1; subst h2; subst h3; subst h4
        rw [finX, hs, ia.2 _ _ _ _ hs]
    | block id c =>
      have ic := ih sz c e st
      cases hs : susX P lib n sz c e st with
      | done r => exact ⟨fun r h => by rw [susX, hs] at h; injection h, fun m c' e' st' h => by rw [susX, hs] at h; cases h⟩
      | here m c' e' st' =>
        refine ⟨fun r h => (by rw [susX, hs] at h; cases h), fun m2 c2 e2 st2 h => ?_⟩
        rw [susX, hs] at h
        injection h with h1 h2 h3 h4
        subst h1; subst h2; subst h3; subst h4
        rw [run_block, finX, ic.2 _ _ _ _ hs]
    | loop c => exact ⟨fun r h => (by cases h), fun m c' e' st' h => by injection h with h1 h2 h3 h4; subst h1; subst h2; subst h3; subst h4; rfl⟩
    | _ => exact ⟨fun r h => (by injection h), fun m c' e' st' h => by cases h⟩
/-- Where a run stands at its first loop, reckoned out. -/
def susF (fR : R → (R → Option (Nat × Env × St R)) → Option (Nat × Env × St R)) (x : Sus R) : Option (Nat × Env × St R) := match x with
  | .here n _ e st => fNat n fun n => fEnv e fun e => fSt fR st fun st => some (n, e, st)
  | .done _ => none
def endF (fR : R → (R → Option (Ex × Env × St R)) → Option (Ex × Env × St R)) (x : Res R (Ex × Env)) : Option (Ex × Env × St R) := match x with
  | .ok (.out i, e) st => fEnv e fun e => fSt fR st fun st => some (.out i, e, st)
  | _ => none
theorem endF_eq {fR : R → (R → Option (Ex × Env × St R)) → Option (Ex × Env × St R)} (hR : ∀ r k, fR r k = k r) {x : Res R (Ex × Env)} {ex : Ex} {e : Env} {st : St R} (h : endF fR x = some (ex, e, st)) : x = .ok (ex, e) st := by
  cases x with
  | no w l => cases h
  | ok a s =>
    obtain ⟨x1, e2⟩ := a
    cases x1 with
    | nor => cases h
    | ret => cases h
    | out id =>
      simp only [endF, fEnv_eq, fSt_eq hR] at h
      injection h with h; injection h with h1 h2; injection h2 with h2 h3; subst h1; subst h2; subst h3; rfl
def firstLoop : Code → Code
  | .seq a b => match firstLoop a with
    | .skip => firstLoop b
    | c => c
  | .block _ c => firstLoop c
  | .loop c => c
  | _ => .skip
def bodyOf (P : Program) (f : FuncId) : Code := match P.funcs[f]? with
  | some fn => match fn.body with
    | some c => c
    | none => .skip
  | none => .skip
def slotsOf (P : Program) (f : FuncId) : Nat := match P.funcs[f]? with
  | some fn => fn.ntmps
  | none => 0
/-- A call by its body's run. -/
theorem call_run {n : Nat} {f : FuncId} {args : List SV} {st : St R} (hp : (lib.prim f args).isNone = true) {v : Res R (Ex × Env)}
    (hr : runX P lib n (slotsOf P f) (bodyOf P f) (args.zipIdx.map fun p => (p.2, p.1)) st = v) : callX P lib n f args st = callF P lib (fun _ _ _ _ => v) f args st := by
  subst hr
  cases h1 : lib.prim f args with
  | some m => rw [h1] at hp; cases hp
  | none =>
    cases h2 : P.funcs[f]? with
    | none => simp only [callX, callF, h1, h2]
    | some fn =>
      cases h3 : fn.body with
      | none => simp only [callX, callF, h1, h2, h3]
      | some c =>
        have e1 : bodyOf P f = c := by simp only [bodyOf, h2, h3]
        have e2 : slotsOf P f = fn.ntmps := by simp only [slotsOf, h2]
        simp only [callX, callF, h1, h2, h3, e1, e2, stNow, M.bind]
        cases hw : Nat.ble args.length fn.ntmps <;> rfl
end Go.Proofs.Ytpaiejeipghehaa
end
section
/- Paths of a body, and a call by its body's rule. Condition: the program follows the looser reading of Go's order. -/
namespace Go.Proofs.Ytpaiejeipghehaa

section
variable {R : Type}
/-- A path: where it comes to, in names anew; and its tests. -/
def pathX (P : Program) (lib : Lib R) (n sz k j : Nat) (pins vars : List Nat) (g : Goer) (fs : List Fr) (s : Sym R) (o : List (Option Bool)) : Option (Goer × List Fr × Sym R × List (Bool × Bool)) := match stepC P lib n sz k j g fs s.e ⟨s.hp, s.nx, [], [], [], o⟩ with
  | .ok r st => match canonX pins vars ⟨r.env, st.hp, st.nx⟩ with
    | some s' => some (r.next.1, r.next.2, s', st.ask)
    | none => none
  | .no _ _ => none
variable {A : RepAt R} {P : Program} {lib : Lib R} {n sz pin k j : Nat} {g g' : Goer} {fs fs' : List Fr} {s s' : Sym R} {Q : Ex → Sym R → Prop}
theorem Tri.path (hm : P.follows .mixedOrders = true) (hl : LibOK A P lib) {vars : List Nat} {o : List (Option Bool)} {asks : List (Bool × Bool)} (h : pathX P lib n sz k j (List.range pin) vars g fs s o = some (g', fs', s', asks)) (ha : AllAsk asks) (hpin : pin ≤ s.nx)
    (ht : Tri A P sz pin g' fs' s' Q) : Tri A P sz pin g fs s Q := by
  unfold pathX at h
  split at h
  · next r st hr =>
    split at h
    · next s1 hs =>
      simp only [Option.some.injEq, Prod.mk.injEq] at h
      obtain ⟨rfl, rfl, rfl, rfl⟩ := h
      exact Tri.run hm hl hr ha.all hpin (Tri.view (canon_view hs) ht)
    · cases h
  · cases h

/-- The loops of a body, each with what stands round it; those within loops are left out. -/
def loopsC : Code → List Fr → List (Code × List Fr)
  | .seq a b, fs => loopsC a (.sq b :: fs) ++ loopsC b fs
  | .block id c, fs => loopsC c (.bk id :: fs)
  | .cond _ a b, fs => loopsC a fs ++ loopsC b fs
  | .loop c, fs => [(c, fs)]
  | _, _ => []
def lpAt (l : List (Code × List Fr)) (i : Nat) : Code × List Fr := match l[i]? with
  | some x => x
  | none => (.skip, [])
def loopOf (P : Program) (f : FuncId) (i : Nat) : Code × List Fr := lpAt (loopsC (bodyOf P f) []) i
def loopIn (p : Code × List Fr) (i : Nat) : Code × List Fr := lpAt (loopsC p.1 []) i

/-- What a body's end hands back. -/
def Ends (P : Program) (fn : Func) (T : List SV → Sym R → Prop) (x : Ex) (s : Sym R) : Prop := (x = .ret ∨ x = .nor) ∧ ∃ l st, resX P s.e fn.results.toList (⟨s.hp, s.nx, [], [], [], []⟩ : St R) = .ok l st ∧ T l s
theorem Ends.one {P : Program} {fn : Func} {x : Ex} {s : Sym R} {t : Nat} {v : SV} (hr : fn.results.toList = [.tmp t]) (hx : x = .ret ∨ x = .nor) (he : elook t s.e = some v) : Ends P fn (fun l _ => l = [v]) x s := by
  refine ⟨hx, [v], ⟨s.hp, s.nx, [], [], [], []⟩, ?_, rfl⟩
  rw [hr]
  simp only [resX, M.bind, M.opt, he, M.ret]
def argsE (args : List SV) : Env := args.zipIdx.map fun p => (p.2, p.1)
theorem argsE_den {ρ : Names} {args : List SV} {vals : List Value} (h : denL ρ args = some vals) (m : Nat) : EnvR ρ (argsE args) { tmps := vals.toArray ++ Array.replicate m undef, defers := [] } := fun t s hs => by
  obtain ⟨_, h9⟩ := elook_zip hs
  rw [Nat.sub_zero] at h9
  obtain ⟨x, g1, g2⟩ := denL_get h h9
  refine ⟨x, ?_, g1⟩
  rw [Array.getElem?_append_left (by rw [List.size_toArray]; exact lt_of_some g2), List.getElem?_toArray]
  exact g2

theorem Tri.calls {f : FuncId} {fn : Func} {c : Code} (hf : P.funcs[f]? = some fn) (hb : fn.body = some c) {args : List SV} {hp : List (Nat × Chunk R)} {nx : Nat} {T : List SV → Sym R → Prop} (hle : args.length ≤ fn.ntmps)
    (h : Tri A P fn.ntmps pin (.go c) [] ⟨argsE args, hp, nx⟩ (Ends P fn T)) {B : Nat} {ρ : Names} {own : Nat → List Nat} {w : World} (hs : Stand A P B ⟨argsE args, hp, nx⟩ ρ own w) {vals : List Value} (hv : denL ρ args = some vals) :
    Calls P f vals.toArray w fun e w' => ∃ y l s' ρ' own', e = .returned y ∧ den ρ' (oneOf l) = some y ∧ T l s' ∧ Stand A P B s' ρ' own' w' ∧ Way hp own w s'.hp own' w' ∧ ∀ n, n < pin → ρ' n = ρ n := by
  have hlen := denL_length hv
  refine calls_of_wp hf hb ?_
  refine h B ρ own w _ hs (argsE_den hv _) (by simp; omega) _ (fun x s' ρ' own' w' a' ⟨hx, l, st, hres, ht⟩ hs' he hz hd hw hpp => ?_)
  obtain ⟨q, hr⟩ := res_s (A := A) (sz := fn.ntmps) hres
  obtain ⟨vs, g1, g2⟩ := hr B (fun _ => True) ρ' own' w' a' hs'.li (fun _ _ => trivial) he hz
  have hr : (results fn a'.tmps).run P w' = .ok (if h : vs.length = 1 then vs[0] else .tuple vs.toArray) w' := by
    have e : results fn a'.tmps = (do
        let vs ← fn.results.mapM (resOp a'.tmps)
        pure (if h : vs.size = 1 then vs[0] else .tuple vs)) := rfl
    rw [e, Array.mapM_eq_mapM_toList]
    simp only [Sem.run_bind, Sem.run_map, g2, Result.andThen_ok, Sem.run_pure]
    congr 1
  have hone : den ρ' (oneOf l) = some (if h : vs.length = 1 then vs[0] else .tuple vs.toArray) := by
    have hl := denL_length g1
    cases l with
    | nil =>
      simp only [denL, Option.some.injEq] at g1
      subst g1
      rfl
    | cons x l =>
      obtain ⟨y, ys, g3, g4, rfl⟩ := denL_cons.1 g1
      cases l with
      | nil =>
        simp only [denL, Option.some.injEq] at g4
        subst g4
        simpa [oneOf] using g3
      | cons z l =>
        simp only [List.length_cons] at hl
        rw [dif_neg (by simp only [List.length_cons]; omega)]
        simp only [oneOf, den, g1, Option.map_some]
  have hpost : ∃ v, (results fn a'.tmps).run P w' = .ok v w' ∧ ∃ y l s' ρ' own', Ending.returned v = .returned y ∧ den ρ' (oneOf l) = some y ∧ T l s' ∧ Stand A P B s' ρ' own' w' ∧ Way hp own w s'.hp own' w' ∧ ∀ n, n < pin → ρ' n = ρ n := ⟨_, hr, _, l, s', ρ', own', rfl, hone, ht, hs', hw, hpp⟩
  rcases hx with rfl | rfl
  · exact ⟨hd, hpost⟩
  · exact ⟨hd, hpost⟩

/-- A law's call: it answers true, and what was there is as it was. -/
theorem Tri.law {f : FuncId} {fn : Func} {c : Code} (hf : P.funcs[f]? = some fn) (hb : fn.body = some c) {args : List SV} {hp : List (Nat × Chunk R)} {nx : Nat} (hle : Nat.ble args.length fn.ntmps = true)
    (h : Tri A P fn.ntmps 0 (.go c) [] ⟨argsE args, hp, nx⟩ (Ends P fn fun l _ => l = [.v (.bool true)])) {ρ : Names} {own : Nat → List Nat} {w : World} (hs : Stand A P w.heap.size ⟨argsE args, hp, nx⟩ ρ own w) {vals : List Value} (hv : denL ρ args = some vals) :
    Calls P f vals.toArray w fun e w' => e = .returned (.bool true) ∧ Mod [] w w' := by
  refine (Tri.calls hf hb (Nat.le_of_ble_eq_true hle) h hs hv).mono fun e w' ⟨y, l, s', ρ', own', he, hy, hl, _, hw, _⟩ => ?_
  subst hl
  simp only [oneOf, den, Option.some.injEq] at hy
  subst hy
  refine ⟨he, hw.mod.mod fun b hb ⟨n, d, hd, hn⟩ => ?_⟩
  have := (hs.li.low n d trivial hd b hn).1
  omega
end
end Go.Proofs.Ytpaiejeipghehaa
end
section
/- Calls known by a rule of their own over the part of memory that they come to. Condition: what the rule says of the call. -/
namespace Go.Proofs.Ytpaiejeipghehaa

section
variable {R : Type}
mutual
/-- Names back: name i is the i-th of a list. -/
def bakS (l : List Nat) : SV → Option SV
  | .v x => some (.v x)
  | .ptr n o => (l[n]?).map fun m => .ptr m o
  | .sl n o i k => (l[n]?).map fun m => .sl m o i k
  | .slE n => (l[n]?).map fun m => .slE m
  | .tptr n i j => (l[n]?).map fun m => .tptr m i j
  | .tsl n k => (l[n]?).map fun m => .tsl m k
  | .mp n => (l[n]?).map fun m => .mp m
  | .ifc t x => (bakS l x).map fun y => .ifc t y
  | .agg r => (bakL l r).map fun r => .agg r
  | .tup r => (bakL l r).map fun r => .tup r
  | .clo f a b => match bakL l a, bakL l b with
    | some a, some b => some (.clo f a b)
    | _, _ => none
def bakL (l : List Nat) : List SV → Option (List SV)
  | [] => some []
  | x :: r => match bakS l x, bakL l r with
    | some x, some r => some (x :: r)
    | _, _ => none
end
def bakC (l : List Nat) : Chunk R → Option (Chunk R)
  | .row cs t => (bakL l cs).map fun cs => .row cs t
  | .emp => some .emp
  | .rep r => some (.rep r)
  | .tab _ _ _ => none
def bakHp (l : List Nat) : List (Nat × Chunk R) → Option (List (Nat × Chunk R))
  | [] => some []
  | (i, c) :: r => match l[i]?, bakC l c, bakHp l r with
    | some n, some c, some r => some ((n, c) :: r)
    | _, _, _ => none
def newsL : Nat → Nat → List Nat
  | _, 0 => []
  | a, n + 1 => a :: newsL (a + 1) n
/-- What a call comes to: its results and the memory that it has left, by tests. -/
inductive Br (R : Type) where
  | leaf (res : List SV) (hp : List (Nat × Chunk R))
  | need (b : Bool) (r : Br R)
  | ask (b : Bool) (t e : Br R)
  | fail (n : Nat)
def brM : Br R → M R (List SV × List (Nat × Chunk R))
  | .leaf r hp => .ret (r, hp)
  | .need b r => (need 600 b).bind fun _ => brM r
  | .ask b t e => (askB b).bind fun
    | true => brM t
    | false => brM e
  | .fail n => .fail n
def coverB (hp : List (Nat × Chunk R)) : Nat → Bool
  | 0 => true
  | n + 1 => match hget n hp with
    | some _ => coverB hp n
    | none => false
def subC (l : List Nat) (r : List SV × List (Nat × Chunk R)) : M R SV := fun ⟨hp, nx, fr, wr, ak, oc⟩ => match bakHp (l ++ newsL nx (r.2.length - l.length)) r.2, bakS (l ++ newsL nx (r.2.length - l.length)) (oneOf r.1), coverB r.2 l.length with
  | some hp', some v, true => tidyG ⟨hp' ++ hp, nx + (r.2.length - l.length), uniN l fr, uniN l wr, ak, oc⟩ v fun st s => .ok s st
  | _, _, _ => .no 611 ak
def subX (spec : List SV → List (Nat × Chunk R) → Br R) (args : List SV) : M R SV := fun st => fNats (orderX st.hp 2000 (namesL args) []) fun l => match renL l args, renHp l st.hp l 0 with
  | some args', some hp' => ((brM (spec args' hp')).bind fun r => subC l r) st
  | _, _ => .no 610 st.ask
def BrOK (T : List SV → List (Nat × Chunk R) → Prop) : Br R → Prop
  | .leaf r hp => T r hp
  | .need b r => b = true → BrOK T r
  | .ask b t e => (b = true → BrOK T t) ∧ (b = false → BrOK T e)
  | .fail _ => True

mutual
theorem den_bak {l : List Nat} {ρ ρ' : Names} (h : ∀ i n, l[i]? = some n → ρ' n = ρ i) : ∀ (s s' : SV) (x : Value), bakS l s = some s' → den ρ s = some x → den ρ' s' = some x
  | .v _, s', x, hs, hx => by
    simp only [bakS, Option.some.injEq] at hs
    subst hs
    exact hx
  | .ptr n o, s', x, hs, hx => by
    simp only [bakS, Option.map_eq_some_iff] at hs
    obtain ⟨m, hm, rfl⟩ := hs
    simpa only [den, h _ _ hm] using hx
  | .sl n o i k, s', x, hs, hx => by
    simp only [bakS, Option.map_eq_some_iff] at hs
    obtain ⟨m, hm, rfl⟩ := hs
    simpa only [den, h _ _ hm] using hx
  | .slE n, s', x, hs, hx => by
    simp only [bakS, Option.map_eq_some_iff] at hs
    obtain ⟨m, hm, rfl⟩ := hs
    simpa only [den, h _ _ hm] using hx
  | .tptr n i j, s', x, hs, hx => by
    simp only [bakS, Option.map_eq_some_iff] at hs
    obtain ⟨m, hm, rfl⟩ := hs
    simpa only [den, h _ _ hm] using hx
  | .tsl n k, s', x, hs, hx => by
    simp only [bakS, Option.map_eq_some_iff] at hs
    obtain ⟨m, hm, rfl⟩ := hs
    simpa only [den, h _ _ hm] using hx
  | .mp n, s', x, hs, hx => by
    simp only [bakS, Option.map_eq_some_iff] at hs
    obtain ⟨m, hm, rfl⟩ := hs
    simpa only [den, h _ _ hm] using hx
  | .ifc t y, s', x, hs, hx => by
    simp only [bakS, Option.map_eq_some_iff] at hs
    obtain ⟨y', hy, rfl⟩ := hs
    simp only [den, Option.map_eq_some_iff] at hx ⊢
    obtain ⟨z, hz, hx⟩ := hx
    exact ⟨z, den_bak h y y' z hy hz, hx⟩
  | .agg r, s', x, hs, hx => by
    simp only [bakS, Option.map_eq_some_iff] at hs
    obtain ⟨y', hy, rfl⟩ := hs
    simp only [den, Option.map_eq_some_iff] at hx ⊢
    obtain ⟨z, hz, hx⟩ := hx
    exact ⟨z, denL_bak h r y' z hy hz, hx⟩
  | .tup r, s', x, hs, hx => by
    simp only [bakS, Option.map_eq_some_iff] at hs
    obtain ⟨y', hy, rfl⟩ := hs
    simp only [den, Option.map_eq_some_iff] at hx ⊢
    obtain ⟨z, hz, hx⟩ := hx
    exact ⟨z, denL_bak h r y' z hy hz, hx⟩
  | .clo f a b, s', x, hs, hx => by
    simp only [bakS] at hs
    split at hs <;> cases hs
    next a' b' ha hb =>
    simp only [den] at hx ⊢
    split at hx <;> try cases hx
    next va vb h1 h2 =>
    rw [denL_bak h a a' va ha h1, denL_bak h b b' vb hb h2]
theorem denL_bak {l : List Nat} {ρ ρ' : Names} (h : ∀ i n, l[i]? = some n → ρ' n = ρ i) : ∀ (s s' : List SV) (x : List Value), bakL l s = some s' → denL ρ s = some x → denL ρ' s' = some x
  | [], s', x, hs, hx => by
    simp only [bakL, Option.some.injEq] at hs
    subst hs
    exact hx
  | y :: r, s', x, hs, hx => by
    simp only [bakL] at hs
    split at hs <;> cases hs
    next y' r' hy hr =>
    obtain ⟨a, b, h1, h2, rfl⟩ := denL_cons.1 hx
    exact denL_cons.2 ⟨a, b, den_bak h y y' a hy h1, denL_bak h r r' b hr h2, rfl⟩
end
theorem bakHp_get {l : List Nat} (hnd : l.Nodup) : ∀ {hp hp' : List (Nat × Chunk R)}, bakHp l hp = some hp' → ∀ {n i : Nat}, l[i]? = some n → hget n hp' = (hget i hp).bind (bakC l) ∧ ∀ c, hget i hp = some c → ∃ c', bakC l c = some c'
  | [], hp', h, n, i, hi => by
    simp only [bakHp, Option.some.injEq] at h
    subst h
    exact ⟨rfl, fun c hc => by cases hc⟩
  | (j, c) :: r, hp', h, n, i, hi => by
    simp only [bakHp] at h
    split at h <;> cases h
    next m c' r' hm hc hr =>
    have ih := bakHp_get hnd hr hi
    rw [hget_cons, hget_cons]
    by_cases e : i = j
    · subst e
      rw [hi] at hm
      injection hm with hm
      subst hm
      rw [if_pos rfl, if_pos rfl]
      exact ⟨by simp [hc], fun d hd => by injection hd with hd; subst hd; exact ⟨c', hc⟩⟩
    · have : n ≠ m := fun e2 => by
        subst e2
        exact e ((List.getElem?_inj (lt_of_some hi) hnd).1 (hi.trans hm.symm))
      rw [if_neg this, if_neg e]
      exact ih
theorem bakHp_name {l : List Nat} : ∀ {hp hp' : List (Nat × Chunk R)}, bakHp l hp = some hp' → ∀ {n : Nat} {c : Chunk R}, hget n hp' = some c → ∃ i : Nat, l[i]? = some n
  | [], hp', h, n, c, hc => by
    simp only [bakHp, Option.some.injEq] at h
    subst h
    cases hc
  | (j, d) :: r, hp', h, n, c, hc => by
    simp only [bakHp] at h
    split at h <;> cases h
    next m c' r' hm _ hr =>
    rw [hget_cons] at hc
    split at hc
    · next e => subst e; exact ⟨j, hm⟩
    · exact bakHp_name hr hc
theorem hget_append {n : Nat} : ∀ {a b : List (Nat × Chunk R)}, hget n (a ++ b) = match hget n a with | some c => some c | none => hget n b
  | [], b => rfl
  | (m, c) :: a, b => by
    rw [List.cons_append, hget_cons, hget_cons]
    split
    · rfl
    · exact hget_append
theorem mem_news {n : Nat} : ∀ {m a : Nat}, n ∈ newsL a m ↔ a ≤ n ∧ n < a + m
  | 0, a => by simp [newsL]
  | m + 1, a => by
    simp only [newsL, List.mem_cons, mem_news]
    omega
theorem news_nodup : ∀ {m a : Nat}, (newsL a m).Nodup
  | 0, _ => List.nodup_nil
  | m + 1, a => by
    simp only [newsL, List.nodup_cons]
    exact ⟨fun h => by have := (mem_news.1 h).1; omega, news_nodup⟩
theorem idx_some {n : Nat} : ∀ {l : List Nat} {k : Nat}, n ∈ l → ∃ m, idxN n l k = some m
  | [], _, h => by cases h
  | x :: l, k, h => by
    simp only [idxN]
    cases hb : Nat.beq n x with
    | true => exact ⟨k, rfl⟩
    | false =>
      rcases List.mem_cons.1 h with rfl | h
      · simp at hb
      · exact idx_some h
theorem idx_none {n : Nat} {l : List Nat} (h : n ∉ l) : idxN n l 0 = none := by
  cases hi : idxN n l 0 with
  | none => rfl
  | some m =>
    obtain ⟨_, h1⟩ := idxN_ok hi
    exact absurd (List.mem_of_getElem? h1) h
theorem idx_at {n i : Nat} {l : List Nat} (hnd : l.Nodup) (h : l[i]? = some n) : idxN n l 0 = some i := by
  obtain ⟨m, hm⟩ := idx_some (k := 0) (List.mem_of_getElem? h)
  obtain ⟨_, h1⟩ := idxN_ok hm
  rw [Nat.sub_zero] at h1
  rw [hm, (List.getElem?_inj (lt_of_some h) hnd).1 (h.trans h1.symm)]
theorem cover_get {hp : List (Nat × Chunk R)} : ∀ {k : Nat}, coverB hp k = true → ∀ i, i < k → ∃ c, hget i hp = some c
  | 0, _, i, hi => by omega
  | k + 1, h, i, hi => by
    simp only [coverB] at h
    split at h
    · next c hc =>
      by_cases e : i = k
      · subst e; exact ⟨c, hc⟩
      · exact cover_get h i (by omega)
    · cases h
theorem renHp_len {l : List Nat} {hp : List (Nat × Chunk R)} : ∀ {r : List Nat} {i : Nat} {hp' : List (Nat × Chunk R)}, renHp l hp r i = some hp' → hp'.length = r.length
  | [], _, hp', h => by
    simp only [renHp, Option.some.injEq] at h
    subst h
    rfl
  | x :: r, i, hp', h => by
    simp only [renHp] at h
    split at h <;> cases h
    next c t h1 h2 => simp [renHp_len h2]
theorem renHp_has {l : List Nat} {hp : List (Nat × Chunk R)} : ∀ {r : List Nat} {i : Nat} {hp' : List (Nat × Chunk R)}, renHp l hp r i = some hp' → ∀ n ∈ r, ∃ c, hget n hp = some c
  | [], _, _, _, n, hn => by cases hn
  | x :: r, i, hp', h, n, hn => by
    simp only [renHp] at h
    split at h <;> cases h
    next c t h1 h2 =>
    simp only [Option.bind_eq_some_iff] at h1
    obtain ⟨d, h3, _⟩ := h1
    rcases List.mem_cons.1 hn with rfl | hn
    · exact ⟨d, h3⟩
    · exact renHp_has h2 n hn
def ownN (l : List Nat) (own : Nat → List Nat) : Nat → List Nat := fun i => match l[i]? with
  | some n => own n
  | none => []
def backN (l : List Nat) (ρ' ρ : Names) : Names := fun n => match idxN n l 0 with
  | some i => ρ' i
  | none => ρ n
def backO (l : List Nat) (hp : List (Nat × Chunk R)) (own' own : Nat → List Nat) : Nat → List Nat := fun n => match idxN n l 0 with
  | some i => match hget i hp with
    | some _ => own' i
    | none => []
  | none => own n

variable {A : RepAt R} {P : Program} {B : Nat} {F : Nat → Prop} {ρ ρ2 : Names} {own own2 : Nat → List Nat} {w w' : World}
theorem CAt_bak {l : List Nat} {ρ' : Names} (h : ∀ i n, l[i]? = some n → ρ' n = ρ i) {e : Spot} {o : List Nat} {c c' : Chunk R} (hc : bakC l c = some c') (ha : CAt A P ρ B e o c w) : CAt A P ρ' B e o c' w := by
  cases c with
  | row cs t =>
    simp only [bakC, Option.map_eq_some_iff] at hc
    obtain ⟨cs', h6, rfl⟩ := hc
    obtain ⟨g1, ds, vs, g2, g3, g4⟩ := ha
    exact ⟨g1, ds, vs, g2, denL_bak h _ _ _ h6 g3, g4⟩
  | tab f len t => cases hc
  | emp =>
    simp only [bakC, Option.some.injEq] at hc
    subst hc
    exact ha
  | rep r =>
    simp only [bakC, Option.some.injEq] at hc
    subst hc
    exact ha
/-- The part of memory that a list of names tells stands by itself. -/
theorem sub_stand {l : List Nat} {hp hp1 : List (Nat × Chunk R)} {e : Env} (hli : LI A P B ρ own hp F w) (hF : ∀ n ∈ l, F n) (hnd : l.Nodup) (hB : B ≤ w.heap.size) (h : renHp l hp l 0 = some hp1) : Stand A P B ⟨e, hp1, l.length⟩ (renN l ρ) (ownN l own) w := by
  have hm : ∀ {n m : Nat}, l[n]? = some m → F m := fun hx => hF _ (List.mem_of_getElem? hx)
  refine ⟨⟨fun n c _ hc => ?_, fun n m c d _ _ hne hc hd b hb hb' => ?_, fun n c _ hc b hb => ?_⟩, fun n hn => ?_, fun n hn => ?_, hB⟩
  · obtain ⟨_, m, d, h1, h2, h3⟩ := renHp_get h hc
    rw [Nat.sub_zero] at h1
    obtain ⟨e0, h4, h5⟩ := hli.at_ m d (hm h1) h2
    refine ⟨e0, by simp [renN, h1, h4], ?_⟩
    simp only [ownN, h1]
    cases d with
    | row cs t =>
      simp only [renC, Option.map_eq_some_iff] at h3
      obtain ⟨cs', h6, rfl⟩ := h3
      obtain ⟨g1, ds, vs, g2, g3, g4⟩ := h5
      exact ⟨g1, ds, vs, g2, denL_ren _ _ _ h6 g3, g4⟩
    | tab f len t => cases h3
    | emp =>
      simp only [renC, Option.some.injEq] at h3
      subst h3
      exact h5
    | rep r =>
      simp only [renC, Option.some.injEq] at h3
      subst h3
      exact h5
  · obtain ⟨_, m1, d1, h1, h2, h3⟩ := renHp_get h hc
    obtain ⟨_, m2, d2, h4, h5, h6⟩ := renHp_get h hd
    rw [Nat.sub_zero] at h1 h4
    simp only [ownN, h1, h4] at hb hb'
    refine hli.dis m1 m2 d1 d2 (hm h1) (hm h4) (fun e => hne ?_) h2 h5 b hb hb'
    subst e
    exact (List.getElem?_inj (lt_of_some h1) hnd).1 (h1.trans h4.symm)
  · obtain ⟨_, m, d, h1, h2, h3⟩ := renHp_get h hc
    rw [Nat.sub_zero] at h1
    simp only [ownN, h1] at hb
    exact hli.low m d (hm h1) h2 b hb
  · cases hx : hget n hp1 with
    | none => rfl
    | some c =>
      obtain ⟨_, m, d, h1, _⟩ := renHp_get h hx
      rw [Nat.sub_zero] at h1
      have := lt_of_some h1
      simp only at hn
      omega
  · simp only [renN]
    rw [List.getElem?_eq_none hn]
def subSt (st : St R) (l : List Nat) (hp' : List (Nat × Chunk R)) (m : Nat) : St R := ⟨hp' ++ st.hp, st.nx + m, uniN l st.fr, uniN l st.wr, st.ask, st.ora⟩
theorem sub_name {l : List Nat} {hp2 hp' : List (Nat × Chunk R)} {nx m n : Nat} {c : Chunk R} (hb : bakHp (l ++ newsL nx m) hp2 = some hp') (hc : hget n hp' = some c) : n ∈ l ∨ nx ≤ n ∧ n < nx + m := by
  obtain ⟨i, hi⟩ := bakHp_name hb hc
  have := List.mem_of_getElem? hi
  rw [List.mem_append, mem_news] at this
  exact this
theorem sub_fn {st : St R} {l : List Nat} {hp1 hp2 hp' : List (Nat × Chunk R)} {m : Nat} (h1 : renHp l st.hp l 0 = some hp1) (hb : bakHp (l ++ newsL st.nx m) hp2 = some hp') : Fn st (subSt st l hp' m) where
  nx := Nat.le_add_right _ _
  fr n hn := mem_uni.2 (.inr hn)
  wr n hn := mem_uni.2 (.inr hn)
  ask p hp := hp
  hp n hn hl := by
    simp only [subSt, hget_append]
    cases hx : hget n hp' with
    | none => rfl
    | some c =>
      rcases sub_name hb hx with h | h
      · exact absurd (mem_uni.2 (.inl h)) hn
      · omega
  wf hw := by
    refine ⟨fun n hn => ?_, fun n hn => ?_⟩
    · rcases mem_uni.1 hn with h | h
      · obtain ⟨c, hc⟩ := renHp_has h1 n h
        exact ⟨mem_uni.2 (.inl h), Nat.lt_of_lt_of_le (hw.lt hc) (Nat.le_add_right _ _)⟩
      · exact ⟨mem_uni.2 (.inr (hw.wr n h).1), Nat.lt_of_lt_of_le (hw.wr n h).2 (Nat.le_add_right _ _)⟩
    · simp only [subSt] at hn ⊢
      rw [hget_append]
      cases hx : hget n hp' with
      | none => exact hw.top n (by omega)
      | some c =>
        rcases sub_name hb hx with h | h
        · obtain ⟨c, hc⟩ := renHp_has h1 n h
          have := hw.lt hc
          omega
        · omega
  al n hn := by
    rcases mem_uni.1 hn with h | h
    · exact .inr (.inr (renHp_has h1 n h))
    · exact .inl h
/-- What the part has come to, put back. -/
theorem Tr.sub {st : St R} {l : List Nat} {hp1 hp2 hp' : List (Nat × Chunk R)} {m nx2 : Nat} {e2 : Env} (si : Sit A P B F st (subSt st l hp' m) ρ own w) (hnd : l.Nodup) (h1 : renHp l st.hp l 0 = some hp1)
    (hst : Stand A P B ⟨e2, hp2, nx2⟩ ρ2 own2 w') (hw : Way hp1 (ownN l own) w hp2 own2 w') (hpin : ∀ n, n < l.length → ρ2 n = renN l ρ n) (hb : bakHp (l ++ newsL st.nx m) hp2 = some hp') (hcov : ∀ i, i < l.length → ∃ c, hget i hp2 = some c) :
    Tr A P B F st (subSt st l hp' m) ρ own w (backN (l ++ newsL st.nx m) ρ2 ρ) (backO (l ++ newsL st.nx m) hp2 own2 own) w' := by
  have hlt : ∀ n ∈ l, n < st.nx := fun n hn => by
    obtain ⟨c, hc⟩ := renHp_has h1 n hn
    exact si.wf.lt hc
  have hnd2 : (l ++ newsL st.nx m).Nodup := List.nodup_append.2 ⟨hnd, news_nodup, fun a ha b hb e => by
    subst e
    have := hlt a ha
    have := (mem_news.1 hb).1
    omega⟩
  have hnew : ∀ n, newN st (subSt st l hp' m) n ↔ st.nx ≤ n ∧ n < st.nx + m := fun n => Iff.rfl
  have hold : ∀ n ∈ l, ¬ newN st (subSt st l hp' m) n := fun n hn h => by
    have := hlt n hn
    have := ((hnew n).1 h).1
    omega
  have hmem : ∀ n, n ∈ l ++ newsL st.nx m ↔ n ∈ l ∨ newN st (subSt st l hp' m) n := fun n => by rw [List.mem_append, mem_news, hnew]
  have hFl : ∀ n ∈ l, F n := fun n hn => si.log n (mem_uni.2 (.inl hn))
  have hwr : ∀ n ∈ l, n ∈ (subSt st l hp' m).wr := fun n hn => mem_uni.2 (.inl hn)
  have hN : ∀ {i n : Nat}, (l ++ newsL st.nx m)[i]? = some n → backN (l ++ newsL st.nx m) ρ2 ρ n = ρ2 i := fun hi => by simp only [backN, idx_at hnd2 hi]
  have hO : ∀ {i n : Nat} {c : Chunk R}, (l ++ newsL st.nx m)[i]? = some n → hget i hp2 = some c → backO (l ++ newsL st.nx m) hp2 own2 own n = own2 i := fun hi hc => by simp only [backO, idx_at hnd2 hi, hc]
  have hN0 : ∀ {n : Nat}, n ∉ l ++ newsL st.nx m → backN (l ++ newsL st.nx m) ρ2 ρ n = ρ n := fun hn => by simp only [backN, idx_none hn]
  have hO0 : ∀ {n : Nat}, n ∉ l ++ newsL st.nx m → backO (l ++ newsL st.nx m) hp2 own2 own n = own n := fun hn => by simp only [backO, idx_none hn]
  have hl1 : ∀ {i n : Nat}, (l ++ newsL st.nx m)[i]? = some n → n ∈ l → l[i]? = some n ∧ i < l.length := fun {i n} hi hn => by
    obtain ⟨j, hj⟩ := List.mem_iff_getElem?.1 hn
    have hjl := lt_of_some hj
    have hj2 : (l ++ newsL st.nx m)[j]? = some n := by rw [List.getElem?_append_left hjl]; exact hj
    have := (List.getElem?_inj (lt_of_some hi) hnd2).1 (hi.trans hj2.symm)
    subst this
    exact ⟨hj, hjl⟩
  have le : ρ.le (backN (l ++ newsL st.nx m) ρ2 ρ) := fun n e he => by
    by_cases hn : n ∈ l ++ newsL st.nx m
    · obtain ⟨i, hi⟩ := List.mem_iff_getElem?.1 hn
      rw [hN hi]
      rcases (hmem n).1 hn with h | h
      · obtain ⟨h2, h3⟩ := hl1 hi h
        rw [hpin i h3]
        simp only [renN, h2, he]
      · rw [si.fresh n h] at he
        cases he
    · rw [hN0 hn]
      exact he
  have from1 : ∀ {b : Nat}, (∃ i c, hget i hp1 = some c ∧ b ∈ ownN l own i) → ∃ n c, n ∈ l ∧ hget n st.hp = some c ∧ b ∈ own n := fun ⟨i, c, hc, hb⟩ => by
    obtain ⟨_, n, d, h2, h3, _⟩ := renHp_get h1 hc
    rw [Nat.sub_zero] at h2
    simp only [ownN, h2] at hb
    exact ⟨n, d, List.mem_of_getElem? h2, h3, hb⟩
  have came : ∀ {i : Nat} {c : Chunk R}, hget i hp2 = some c → ∀ b ∈ own2 i, w.heap.size ≤ b ∨ ∃ n c, n ∈ l ∧ hget n st.hp = some c ∧ b ∈ own n := fun hc b hb => (hw.pool _ _ hc b hb).imp id from1
  refine ⟨le, fun n hn => ?_, fun n hn hw' => ?_, fun n hn b hbo => ?_, ?_, hw.mod.mono fun b _ h => ?_⟩
  · by_cases h : n ∈ l ++ newsL st.nx m
    · obtain ⟨i, hi⟩ := List.mem_iff_getElem?.1 h
      have h2 := ((hmem n).1 h).resolve_right hn
      obtain ⟨h3, h4⟩ := hl1 hi h2
      rw [hN hi, hpin i h4]
      simp only [renN, h3]
    · exact hN0 h
  · exact hO0 fun h => ((hmem n).1 h).elim (fun h => hw' (hwr n h)) hn
  · by_cases h : n ∈ l ++ newsL st.nx m
    · obtain ⟨i, hi⟩ := List.mem_iff_getElem?.1 h
      cases hc : hget i hp2 with
      | none => simp only [backO, idx_at hnd2 hi, hc] at hbo; cases hbo
      | some c =>
        rw [hO hi hc] at hbo
        exact (came hc b hbo).imp id fun ⟨k, _, h1, _, h2⟩ => ⟨k, hwr k h1, hold k h1, h2⟩
    · rw [hO0 h] at hbo
      rw [hmem, not_or] at h
      exact .inr ⟨n, hn.resolve_left h.2, h.2, hbo⟩
  · refine si.li.step (X := fun n => n ∈ l ++ newsL st.nx m) (T := fun b => ∃ i c, hget i hp1 = some c ∧ b ∈ ownN l own i) hw.mod le (fun b h => ?_) (fun n c hn hX hc => ?_) (fun n c _ hX hc => ?_) (fun n c _ hX hc b hbo => ?_) (fun n k c d _ _ h2 h3 hne hc hd b hbo hbo' => ?_)
    · obtain ⟨n, c, h2, h3, h4⟩ := from1 h
      exact ⟨n, c, List.mem_append_left _ h2, hFl n h2, h3, h4⟩
    · rw [hmem, not_or] at hX
      simp only [subSt, hget_append] at hc
      cases hx : hget n hp' with
      | none =>
        rw [hx] at hc
        exact ⟨hn.resolve_right hX.2, hc, hO0 (by rw [hmem, not_or]; exact hX)⟩
      | some c' => exact absurd ((sub_name hb hx).imp id (hnew n).2) (not_or.2 hX)
    · obtain ⟨i, hi⟩ := List.mem_iff_getElem?.1 hX
      obtain ⟨g1, g2⟩ := bakHp_get hnd2 hb hi
      simp only [subSt, hget_append, g1] at hc
      cases hx : hget i hp2 with
      | none =>
        rw [hx] at hc
        simp only [Option.bind_none] at hc
        rcases (hmem n).1 hX with h | h
        · obtain ⟨h3, h4⟩ := hl1 hi h
          obtain ⟨c0, hc0⟩ := hcov i h4
          rw [hx] at hc0
          cases hc0
        · rw [si.wf.top n ((hnew n).1 h).1] at hc
          cases hc
      | some c0 =>
        obtain ⟨c1, hc1⟩ := g2 c0 hx
        rw [hx, Option.bind_some, hc1] at hc
        injection hc with hc
        subst hc
        obtain ⟨e, he, ha⟩ := hst.li.at_ i c0 trivial hx
        refine ⟨e, (hN hi).trans he, ?_⟩
        rw [hO hi hx]
        exact CAt_bak (fun i n h => hN h) hc1 ha
    · obtain ⟨i, hi⟩ := List.mem_iff_getElem?.1 hX
      cases hx : hget i hp2 with
      | none => simp only [backO, idx_at hnd2 hi, hx] at hbo; cases hbo
      | some c0 =>
        rw [hO hi hx] at hbo
        have := hst.li.low i c0 trivial hx b hbo
        refine ⟨this.2, this.1, (came hx b hbo).imp id fun ⟨k, d, g1, g2, g3⟩ => ⟨k, d, List.mem_append_left _ g1, hFl k g1, g2, g3⟩⟩
    · obtain ⟨i, hi⟩ := List.mem_iff_getElem?.1 h2
      obtain ⟨j, hj⟩ := List.mem_iff_getElem?.1 h3
      cases hx : hget i hp2 with
      | none => simp only [backO, idx_at hnd2 hi, hx] at hbo; cases hbo
      | some c0 =>
        cases hy : hget j hp2 with
        | none => simp only [backO, idx_at hnd2 hj, hy] at hbo'; cases hbo'
        | some d0 =>
          rw [hO hi hx] at hbo
          rw [hO hj hy] at hbo'
          refine hst.li.dis i j c0 d0 trivial trivial (fun e => hne ?_) hx hy b hbo hbo'
          subst e
          rw [hi] at hj
          injection hj
  · obtain ⟨n, _, h2, _, h3⟩ := from1 h
    exact ⟨n, hwr n h2, hold n h2, h3⟩
theorem brM_s {T : List SV → List (Nat × Chunk R) → Prop} : ∀ {b : Br R} {st st' : St R} {r : List SV × List (Nat × Chunk R)}, brM b st = .ok r st' → Quiet st st' ∧ ((∀ p ∈ st'.ask, p.1 = p.2) → BrOK T b → T r.1 r.2)
  | .leaf r hp, st, st', x, h => by
    obtain ⟨rfl, rfl⟩ := ret_ok.1 h
    exact ⟨Quiet.refl _, fun _ h => h⟩
  | .need b r, st, st', x, h => by
    obtain ⟨_, st1, h1, h2⟩ := bind_ok.1 h
    obtain ⟨q1, k1⟩ := need_ok h1
    obtain ⟨q2, k2⟩ := brM_s (T := T) h2
    exact ⟨q1.trans q2, fun ha hb => k2 ha (hb (k1 fun p hp => ha p (q2.ask p hp)))⟩
  | .ask b t e, st, st', x, h => by
    obtain ⟨o, st1, h1, h2⟩ := bind_ok.1 h
    obtain ⟨q1, k1⟩ := ask_ok h1
    cases o with
    | true =>
      obtain ⟨q2, k2⟩ := brM_s (T := T) h2
      exact ⟨q1.trans q2, fun ha hb => k2 ha (hb.1 (k1 fun p hp => ha p (q2.ask p hp)))⟩
    | false =>
      obtain ⟨q2, k2⟩ := brM_s (T := T) h2
      exact ⟨q1.trans q2, fun ha hb => k2 ha (hb.2 (k1 fun p hp => ha p (q2.ask p hp)))⟩
  | .fail n, st, st', x, h => (fail_ok.1 h).elim
theorem renL_len {l : List Nat} : ∀ {xs ys : List SV}, renL l xs = some ys → ys.length = xs.length
  | [], ys, h => by
    simp only [renL, Option.some.injEq] at h
    subst h
    rfl
  | x :: xs, ys, h => by
    simp only [renL] at h
    split at h <;> cases h
    next a r _ hr => simp [renL_len hr]
/-- What a rule says of a call: from the part of memory that it comes to, by its names. -/
def SubOK (A : RepAt R) (P : Program) (f : FuncId) (spec : List SV → List (Nat × Chunk R) → Br R) : Prop := ∀ (args : List SV) (hp : List (Nat × Chunk R)), BrOK (fun res hp2 => ∃ fn c, P.funcs[f]? = some fn ∧ fn.body = some c ∧ args.length ≤ fn.ntmps ∧
  Tri A P fn.ntmps hp.length (.go c) [] ⟨argsE args, hp, hp.length⟩ (Ends P fn fun l s => l = res ∧ s.hp = hp2)) (spec args hp)
theorem sub_s {f : FuncId} {spec : List SV → List (Nat × Chunk R) → Br R} (hspec : SubOK A P f spec) {args : List SV} {st st' : St R} {s : SV} (h : subX spec args st = .ok s st') : CallS A P f args st st' s := by
  unfold subX at h
  rw [fNats_eq] at h
  have hnd : (orderX st.hp 2000 (namesL args) []).Nodup := order_nodup List.nodup_nil
  generalize orderX st.hp 2000 (namesL args) [] = l at h hnd
  split at h
  case h_2 => cases h
  next args' hp1 hargs h1 =>
  obtain ⟨⟨res, hp2⟩, st1, h2, h3⟩ := bind_ok.1 h
  obtain ⟨q, hq⟩ := brM_s (T := fun res hp2 => ∃ fn c, P.funcs[f]? = some fn ∧ fn.body = some c ∧ args'.length ≤ fn.ntmps ∧
    Tri A P fn.ntmps hp1.length (.go c) [] ⟨argsE args', hp1, hp1.length⟩ (Ends P fn fun l s => l = res ∧ s.hp = hp2)) h2
  obtain ⟨hpx, nxx, frx, wrx, akx, ocx⟩ := st1
  simp only [subC] at h3
  split at h3
  case h_2 => cases h3
  next hp' v hb hv hcov =>
  rw [tidyG_eq] at h3
  injection h3 with h3 h4
  subst h3
  obtain ⟨q1, q2, q3, q4, q5⟩ := q
  simp only at q1 q2 q3 q4 q5
  subst q1
  subst q2
  subst q3
  have q : Quiet st ⟨st.hp, st.nx, frx, st.wr, akx, ocx⟩ := ⟨rfl, rfl, rfl, q4, q5⟩
  have hst' : subSt ⟨st.hp, st.nx, frx, st.wr, akx, ocx⟩ l hp' (hp2.length - l.length) = st' := h4
  subst hst'
  refine ⟨q.fn.trans (sub_fn h1 hb), fun B F ρ own w vals si hvals => ?_⟩
  have s1 := si.of_quiet q
  have hlen : hp1.length = l.length := renHp_len h1
  obtain ⟨fn, c, hf, hbody, hle, htri⟩ := hq si.ask (hspec args' hp1)
  have hsub := sub_stand (e := argsE args') s1.li (fun n hn => s1.log n (mem_uni.2 (.inl hn))) hnd s1.base h1
  rw [← hlen] at hsub
  have hv1 : denL (renN l ρ) args' = some vals := denL_ren _ _ _ hargs hvals
  refine (Tri.calls hf hbody hle htri hsub hv1).mono ?_
  rintro x w' ⟨y, ls, s', ρ2, own2, rfl, hy, ⟨rfl, hs2⟩, hst2, hway, hpin⟩
  obtain ⟨e2, hp2', nx2⟩ := s'
  simp only at hs2 hway
  subst hs2
  rw [hlen] at hpin
  have hnd2 := hnd
  have ht := Tr.sub s1 hnd h1 hst2 hway hpin hb (cover_get hcov)
  refine ⟨y, _, _, rfl, den_bak (fun i n hi => ?_) _ _ _ hv hy, Tr.of_quiet q ht⟩
  have hlt : ∀ n ∈ l, n < st.nx := fun n hn => by
    obtain ⟨c, hc⟩ := renHp_has h1 n hn
    exact si.wf.lt hc
  have hnd2 : (l ++ newsL st.nx (hp2'.length - l.length)).Nodup := List.nodup_append.2 ⟨hnd, news_nodup, fun a ha b hb e => by
    subst e
    have := hlt a ha
    have := (mem_news.1 hb).1
    omega⟩
  simp only [backN, idx_at hnd2 hi]
/-- A table of rules. -/
def primS (f : FuncId) (spec : List SV → List (Nat × Chunk R) → Br R) (more : FuncId → List SV → Option (M R SV)) : FuncId → List SV → Option (M R SV) := fun g args => match Nat.beq g f with
  | true => some (subX spec args)
  | false => more g args
theorem primS_ok {f : FuncId} {spec : List SV → List (Nat × Chunk R) → Br R} {more : FuncId → List SV → Option (M R SV)} (hs : SubOK A P f spec) (hm : ∀ f args m, more f args = some m → ∀ st s st', m st = .ok s st' → CallS A P f args st st' s) :
    ∀ g args m, primS f spec more g args = some m → ∀ st s st', m st = .ok s st' → CallS A P g args st st' s := by
  intro g args m h st s st' hx
  unfold primS at h
  split at h
  · next hb =>
    obtain rfl := Nat.eq_of_beq_eq_true hb
    cases h
    exact sub_s hs hx
  · exact hm g args m h st s st' hx
end
end Go.Proofs.Ytpaiejeipghehaa
end
section
/- The queue's small methods: what Len, at, Head and Pop answer, of a queue that is known. Conditions: the queue is not nil; counts below 2^40. -/
namespace Go.Proofs.Ytpaiejeipghehaa
open Go.RowKit

abbrev Ent := Int × Int × Int
def ent (e : Ent) : List Value := [.int .i64 e.1, .int .i64 e.2.1, .int .i64 e.2.2]
theorem ent_len (e : Ent) : (ent e).length = 3 := rfl

structure QAt (w : World) (q rb L f t : Nat) (xs : List Ent) : Prop where
  blk : Blk w q 167 [.slice (some ⟨rb, 0, none⟩) L L, .int .u64 f, .int .u64 t]
  ring : ∃ R : List Ent, R.length = L ∧ Blk w rb 62 (flat ent R) ∧ ∀ i, i < xs.length → R[(f + i) % L]? = xs[i]?
  pow : ∃ k, L = 2 ^ k
  pos : 4 ≤ L
  big : L < 1099511627776
  len : t = f + xs.length
  fits : xs.length ≤ L
  bound : t < 1099511627776

theorem mask (n k : Nat) (h : 2 ^ k < 1099511627776) (hn : n < 1099511627776) : bits .and .u64 (n : Int) (IntKind.u64.wrap (IntKind.i64.wrap (((2 ^ k : Nat) : Int) - 1))) = ((n % 2 ^ k : Nat) : Int) := by
  have hp : 0 < 2 ^ k := Nat.two_pow_pos k
  have e : IntKind.u64.wrap (IntKind.i64.wrap (((2 ^ k : Nat) : Int) - 1)) = ((2 ^ k - 1 : Nat) : Int) := by
    rw [IntWalk.i64_in _ (by omega), IntWalk.u64_in _ (by omega)]
    omega
  rw [e, u64_and_nat _ _ (by omega) (by omega), Nat.and_two_pow_sub_one_eq_mod]

theorem len_cells (q f t : Nat) (w : World) (hft : f ≤ t) (ht : t < 1099511627776) (h1 : w.cell? ⟨q, 1, none⟩ = some (.int .u64 f)) (h2 : w.cell? ⟨q, 2, none⟩ = some (.int .u64 t)) :
    Calls Try.prog 87 #[.pointer (some ⟨q, 0, none⟩)] w fun e w' => e = .returned (.int .i64 ((t : Int) - f)) ∧ ∃ n, w' = w.drewN n := by
  go_enter Try.func87, Try.ntmps87
  go_wp2
  go_quiet (fail)
  go_wp2
  go_ret
  exact ⟨rfl, _, rfl⟩

theorem at_cells (q rb k n : Nat) (w : World) (hL : 2 ^ k < 1099511627776) (hn : n < 1099511627776) (h0 : w.cell? ⟨q, 0, none⟩ = some (.slice (some ⟨rb, 0, none⟩) (2 ^ k) (2 ^ k))) :
    Calls Try.prog 88 #[.pointer (some ⟨q, 0, none⟩), .int .u64 n] w fun e w' => e = .returned (.pointer (some ⟨rb, (n % 2 ^ k) * 3, none⟩)) ∧ ∃ n, w' = w.drewN n := by
  have hp : 0 < 2 ^ k := Nat.two_pow_pos k
  have hm := mask n k hL hn
  have hlt : n % 2 ^ k < 2 ^ k := Nat.mod_lt _ hp
  generalize 2 ^ k = L at *
  generalize n % L = r at *
  go_enter Try.func88, Try.ntmps88
  go_wp2
  go_quiet (fail)
  go_wp2
  go_ret
  exact ⟨rfl, _, rfl⟩
end Go.Proofs.Ytpaiejeipghehaa
end
section
/- Maps whose keys are places (three numbers) and whose elements are words. -/
namespace Go.Proofs.Ytpaiejeipghehaa
open Go.RowKit

abbrev Pl := Int × Int × Int
def kagg (p : Pl) : Value := .agg #[.int .i64 p.1, .int .i64 p.2.1, .int .i64 p.2.2]
def PlWf (p : Pl) : Prop := (Lit.int .i64 p.1).wf = true ∧ (Lit.int .i64 p.2.1).wf = true ∧ (Lit.int .i64 p.2.2).wf = true
def litP (p : Pl) : Lit := .string (keyBytes [.int .i64 p.1, .int .i64 p.2.1, .int .i64 p.2.2])

theorem laid_m : laidOutB Try.prog = true := by kernel_rfl
set_option maxRecDepth 100000 in
theorem place_law : WideMaps.KeyLaw Try.prog 113 := deep_law_gate laid_m (of_decide_eq_true (by kernel_rfl)) (of_decide_eq_true (by kernel_rfl)) (by kernel_rfl) (by kernel_rfl)
theorem place_keyed : Maps.Keyed Try.prog 113 := Maps.Keyed.of_law place_law

theorem keyOf_place (p : Pl) (h : PlWf p) : keyOf Try.prog 113 (kagg p) = some (litP p) := by
  obtain ⟨h1, h2, h3⟩ := h
  have hk : Try.prog.keyType 113 = true := by kernel_rfl
  have hI : Try.prog.cellsOf 3 = 1 := by kernel_rfl
  have hC : Try.prog.cellsOf 113 = 3 := by kernel_rfl
  obtain ⟨n, hn⟩ : ∃ n, Try.prog.types.size + 1 = n + 1 + 1 := ⟨Try.prog.types.size - 1, by have : 1 ≤ Try.prog.types.size := of_decide_eq_true (by kernel_rfl); omega⟩
  unfold keyOf
  rw [Try.underlying113, hn]
  simp [hk, kagg, litP, Program.keyLits, Try.underlying113, Try.underlying3, hI, hC, h1, h2, h3, Value.cells, Value.formed]
end Go.Proofs.Ytpaiejeipghehaa
end
section
/- A map from places to words as a function: what a look-up, a store and a deletion do. Condition: the places' numbers fit int. -/
namespace Go.Proofs.Ytpaiejeipghehaa
open Go.RowKit

theorem litP_inj {p q : Pl} (hp : PlWf p) (hq : PlWf q) (h : litP p = litP q) : p = q := by
  have h1 := keyOf_place p hp
  have h2 := keyOf_place q hq
  rw [← h] at h2
  have := place_law.inj h1 h2
  obtain ⟨p1, p2, p3⟩ := p
  obtain ⟨q1, q2, q3⟩ := q
  simpa [kagg] using this

/-- Block b is a map of at most n entries that holds the words f (no entry where f is 0). -/
def MapAt (w : World) (b : Nat) (f : Pl → Int) (n : Nat) : Prop :=
  ∃ D : DataW Unit, w.ownsMap Try.prog 113 (plainElem Try.prog 41) b n D ∧
    (∀ p, PlWf p → D.atKey (litP p) (.lit (.int .u64 0)) = .lit (.int .u64 (f p))) ∧ ∀ p, PlWf p → Maps.has D (litP p) = decide (f p ≠ 0)

theorem MapAt.mod {S : List Nat} {w w' : World} {b n : Nat} {f : Pl → Int} (h : MapAt w b f n) (hm : Mod S w w') (hb : b ∉ S) : MapAt w' b f n := by
  obtain ⟨D, ⟨es, cl, h1, h2⟩, h3⟩ := h
  exact ⟨D, ⟨es, cl, by rw [hm.block b (heap_lt h1) hb]; exact h1, h2⟩, h3⟩

theorem MapAt.new (w : World) : MapAt (w.alloc (.map #[] 0)) w.heap.size (fun _ => 0) 0 :=
  ⟨.map [], World.ownsMap_made w _ _ _, fun p _ => by simp [DataW.atKey], fun p _ => by simp [Maps.has]⟩

set_option maxRecDepth 100000 in
theorem MapAt.lookup {w : World} {b n : Nat} {f : Pl → Int} (h : MapAt w b f n) {p : Pl} (hp : PlWf p) {t : TypeId} (ht : Try.prog.underlying t = some (.map 113 41)) :
    (Instr.lookup t (.map (some b)) (kagg p) false).run Try.prog w = .ok (.int .u64 (f p)) w := by
  obtain ⟨D, ho, ha, _⟩ := h
  obtain ⟨c, h1, h2, _⟩ := ho.lookup_int place_keyed ht Try.underlying41 (by kernel_rfl) (keyOf_place p hp)
  rw [ha p hp] at h2
  injection h2 with h2
  injection h2 with _ h2
  rw [h1, h2]

theorem Mod.of_turned {w w' : World} {b : Nat} (h : w.mapTurned w' b) : Mod [b] w w' := by
  have hg := h.grown
  exact (Mod.refl [b] w).grown hg (fun g hg => by injection hg with hg; subst hg; exact .inl (by simp))

theorem MapAt.store {w : World} {b n : Nat} {f : Pl → Int} (h : MapAt w b f n) (hn : n < maxLen) {p : Pl} (hp : PlWf p) {v : Int} (hv : (Lit.int .u64 v).wf = true) (hv0 : v ≠ 0) {t : TypeId} (ht : Try.prog.underlying t = some (.map 113 41)) :
    ∃ w', (Instr.mapUpdate t (.map (some b)) (kagg p) (.int .u64 v)).run Try.prog w = .ok () w' ∧ MapAt w' b (fun q => if q = p then v else f q) (n + 1) ∧ Mod [b] w w' := by
  obtain ⟨D, ho, ha, hh⟩ := h
  obtain ⟨w', h1, h2, h3⟩ := ho.store place_keyed ht hn (keyOf_place p hp) (plainElem_int Try.underlying41 hv)
  refine ⟨w', h1, ⟨_, h2, fun q hq => ?_, fun q hq => ?_⟩, Mod.of_turned h3⟩
  · by_cases e : q = p
    · subst e
      rw [Maps.atKey_put_same ho.isMap (place_keyed.key (keyOf_place q hq))]
      simp
    · rw [Maps.atKey_put_other (fun h => e (litP_inj hq hp h)), ha q hq]
      simp [e]
  · by_cases e : q = p
    · subst e
      rw [Maps.has_put_same ho.isMap (place_keyed.key (keyOf_place q hq))]
      simp [hv0]
    · rw [Maps.has_put_other (fun h => e (litP_inj hq hp h)), hh q hq]
      simp [e]

theorem MapAt.drop {w : World} {b n : Nat} {f : Pl → Int} (h : MapAt w b f n) {p : Pl} (hp : PlWf p) {t : TypeId} (ht : Try.prog.underlying t = some (.map 113 41)) (ty : TypeId) :
    ∃ w', (Builtin.delete_ #[t, 113] ty #[.map (some b), kagg p]).run Try.prog w = .ok (.tuple #[]) w' ∧ MapAt w' b (fun q => if q = p then 0 else f q) n ∧ Mod [b] w w' := by
  obtain ⟨D, ho, ha, hh⟩ := h
  obtain ⟨w', h1, h2, h3⟩ := ho.drop place_keyed ht (keyOf_place p hp) ty
  refine ⟨w', h1, ⟨_, h2, fun q hq => ?_, fun q hq => ?_⟩, Mod.of_turned h3⟩
  · by_cases e : q = p
    · subst e
      rw [Maps.atKey_del_same]
      simp
    · rw [Maps.atKey_del_other (fun h => e (litP_inj hq hp h)), ha q hq]
      simp [e]
  · by_cases e : q = p
    · subst e
      rw [Maps.has_del_same]
      simp
    · rw [Maps.has_del_other (fun h => e (litP_inj hq hp h)), hh q hq]
      simp [e]
end Go.Proofs.Ytpaiejeipghehaa
end
section
/- A map from whole numbers to ints as a function: what a look-up, a store and a deletion do. Condition: keys fit their kind. -/
namespace Go.Proofs.Ytpaiejeipghehaa
open Go.RowKit

/-- Block b is a map of at most n entries, whose keys are of type k, of kind q, and whose elements are ints; f tells what is there. -/
def IMapAt (k : TypeId) (q : IntKind) (w : World) (b : Nat) (f : Int → Option Int) (n : Nat) : Prop :=
  ∃ D : DataW Unit, w.ownsMap Try.prog k (plainElem Try.prog 3) b n D ∧
    (∀ p, (Lit.int q p).wf = true → D.atKey (.int q p) (.lit (.int .i64 0)) = .lit (.int .i64 ((f p).getD 0))) ∧ ∀ p, (Lit.int q p).wf = true → Maps.has D (.int q p) = (f p).isSome

section
variable {k : TypeId} {q : IntKind} {w w' : World} {b n : Nat} {f : Int → Option Int}
theorem IMapAt.mod {S : List Nat} (h : IMapAt k q w b f n) (hm : Mod S w w') (hb : b ∉ S) : IMapAt k q w' b f n := by
  obtain ⟨D, ⟨es, cl, h1, h2⟩, h3⟩ := h
  exact ⟨D, ⟨es, cl, by rw [hm.block b (heap_lt h1) hb]; exact h1, h2⟩, h3⟩
theorem IMapAt.lt (h : IMapAt k q w b f n) : b < w.heap.size := by
  obtain ⟨D, ⟨es, cl, h1, _⟩, _⟩ := h
  exact heap_lt h1
theorem IMapAt.modP {T : Nat → Prop} (h : IMapAt k q w b f n) (hm : ModP T w w') (hb : ¬ T b) : IMapAt k q w' b f n := by
  obtain ⟨D, ⟨es, cl, h1, h2⟩, h3⟩ := h
  exact ⟨D, ⟨es, cl, by rw [hm.block b (heap_lt h1) hb]; exact h1, h2⟩, h3⟩
theorem IMapAt.new (k : TypeId) (q : IntKind) (w : World) : IMapAt k q (w.alloc (.map #[] 0)) w.heap.size (fun _ => none) 0 :=
  ⟨.map [], World.ownsMap_made w _ _ _, fun p _ => by simp [DataW.atKey], fun p _ => by simp [Maps.has]⟩

set_option maxRecDepth 100000 in
theorem IMapAt.lookup (h : IMapAt k q w b f n) (hk : Try.prog.underlying k = some (.int q)) {p : Int} (hp : (Lit.int q p).wf = true) {t : TypeId} (ht : Try.prog.underlying t = some (.map k 3)) :
    (Instr.lookup t (.map (some b)) (.int q p) false).run Try.prog w = .ok (.int .i64 ((f p).getD 0)) w := by
  obtain ⟨D, ho, ha, _⟩ := h
  obtain ⟨c, h1, h2, _⟩ := ho.lookup_int (Maps.int_keyed hk) ht Try.underlying3 (by kernel_rfl) (Maps.keyOf_int_mk hk hp)
  rw [ha p hp] at h2
  injection h2 with h2
  injection h2 with _ h2
  rw [h1, h2]
set_option maxRecDepth 100000 in
theorem IMapAt.look_ok (h : IMapAt k q w b f n) (hk : Try.prog.underlying k = some (.int q)) {p : Int} (hp : (Lit.int q p).wf = true) {t : TypeId} (ht : Try.prog.underlying t = some (.map k 3)) :
    (Instr.lookup t (.map (some b)) (.int q p) true).run Try.prog w = .ok (.tuple #[.int .i64 ((f p).getD 0), .bool (f p).isSome]) w := by
  obtain ⟨D, ho, ha, hh⟩ := h
  obtain ⟨v, ps, h1, h2⟩ := ho.look_ok (Maps.int_keyed hk) ht (z := .int .i64 0) (by kernel_rfl) (plainElem_int Try.underlying3 (by decide)) (Maps.keyOf_int_mk hk hp)
  obtain ⟨c, rfl, hc, _⟩ := plainElem_int_inv Try.underlying3 h2
  simp only [Prod.mk.injEq] at hc
  rw [ha p hp] at hc
  have e := hc.1
  injection e with e
  injection e with _ e
  rw [h1, hh p hp, ← e]
theorem lit_inj {q : IntKind} {a b : Int} (h : Lit.int q a = Lit.int q b) : a = b := by injection h
theorem lit_key (q : IntKind) (a : Int) (hk : Try.prog.underlying k = some (.int q)) (h : (Lit.int q a).wf = true) : WideAt.IsKeyLit (.int q a) := (Maps.int_keyed hk).key (Maps.keyOf_int_mk hk h)
theorem IMapAt.store (h : IMapAt k q w b f n) (hn : n < maxLen) (hk : Try.prog.underlying k = some (.int q)) {p : Int} (hp : (Lit.int q p).wf = true) {v : Int} (hv : (Lit.int .i64 v).wf = true) {t : TypeId} (ht : Try.prog.underlying t = some (.map k 3)) :
    ∃ w', (Instr.mapUpdate t (.map (some b)) (.int q p) (.int .i64 v)).run Try.prog w = .ok () w' ∧ IMapAt k q w' b (fun x => if x = p then some v else f x) (n + 1) ∧ Mod [b] w w' := by
  obtain ⟨D, ho, ha, hh⟩ := h
  obtain ⟨w', h1, h2, h3⟩ := ho.store (Maps.int_keyed hk) ht hn (Maps.keyOf_int_mk hk hp) (plainElem_int Try.underlying3 hv)
  refine ⟨w', h1, ⟨_, h2, fun x hx => ?_, fun x hx => ?_⟩, Mod.of_turned h3⟩
  · by_cases e : x = p
    · subst e
      rw [Maps.atKey_put_same ho.isMap (lit_key q x hk hx)]
      simp
    · rw [Maps.atKey_put_other (fun h => e (lit_inj h)), ha x hx]
      simp [e]
  · by_cases e : x = p
    · subst e
      rw [Maps.has_put_same ho.isMap (lit_key q x hk hx)]
      simp
    · rw [Maps.has_put_other (fun h => e (lit_inj h)), hh x hx]
      simp [e]
theorem IMapAt.drop (h : IMapAt k q w b f n) (hk : Try.prog.underlying k = some (.int q)) {p : Int} (hp : (Lit.int q p).wf = true) {t : TypeId} (ht : Try.prog.underlying t = some (.map k 3)) (ty : TypeId) :
    ∃ w', (Builtin.delete_ #[t, k] ty #[.map (some b), .int q p]).run Try.prog w = .ok (.tuple #[]) w' ∧ IMapAt k q w' b (fun x => if x = p then none else f x) n ∧ Mod [b] w w' := by
  obtain ⟨D, ho, ha, hh⟩ := h
  obtain ⟨w', h1, h2, h3⟩ := ho.drop (Maps.int_keyed hk) ht (Maps.keyOf_int_mk hk hp) ty
  refine ⟨w', h1, ⟨_, h2, fun x hx => ?_, fun x hx => ?_⟩, Mod.of_turned h3⟩
  · by_cases e : x = p
    · subst e
      rw [Maps.atKey_del_same]
      simp
    · rw [Maps.atKey_del_other (fun h => e (lit_inj h)), ha x hx]
      simp [e]
  · by_cases e : x = p
    · subst e
      rw [Maps.has_del_same]
      simp
    · rw [Maps.has_del_other (fun h => e (lit_inj h)), hh x hx]
      simp [e]
end
end Go.Proofs.Ytpaiejeipghehaa
end
section
/- Rows of elements of open number, in memory: what it means, a store into one, and elements behind all. No condition. -/
namespace Go.Proofs.Ytpaiejeipghehaa
open Go.RowKit

/-- An element's cells. -/
def RowOK (k : Nat) (r : List Value) : Prop := r.length = k ∧ ∀ v ∈ r, v.oneCell' = true
/-- A row of len elements of k cells each. -/
def VecAt (f : Nat → List Value) (len : Nat) (t : TypeId) (k : Nat) (e : Spot) (own : List Nat) (w : World) : Prop :=
  e.len = len ∧ e.sz = k ∧ len ≤ e.cap ∧ (∀ i, i < len → RowOK k (f i)) ∧ match e.ad with
  | none => own = [] ∧ e.cap = 0
  | some g => g = ⟨e.b, e.off, none⟩ ∧ own = [e.b] ∧ ∃ cs, w.heap[e.b]? = some (.cells cs t (0, 0)) ∧ e.off + e.cap * k ≤ cs.size ∧ ∀ i, i < len → ∀ j, j < k → cs[e.off + (i * k + j)]? = (f i)[j]?
/-- The same of an argument's, that nobody writes. -/
def TabAt (B : Nat) (f : Nat → List Value) (len : Nat) (k : Nat) (e : Spot) (own : List Nat) (w : World) : Prop :=
  own = [] ∧ e.len = len ∧ e.sz = k ∧ (0 < len → e.ad = some ⟨e.b, e.off, none⟩ ∧ e.b < B ∧ e.b < w.heap.size) ∧ ∀ i, i < len → RowOK k (f i) ∧ ∀ j, j < k → w.cell? ⟨e.b, e.off + i * k + j, none⟩ = (f i)[j]?

section
variable {f : Nat → List Value} {len k B : Nat} {t : TypeId} {e : Spot} {own : List Nat} {w w' : World} {P : Program}
theorem VecAt.modP {T : Nat → Prop} (h : VecAt f len t k e own w) (hm : ModP T w w') (hT : ∀ x ∈ own, ¬ T x) : VecAt f len t k e own w' := by
  obtain ⟨h1, h2, h3, h4, h5⟩ := h
  refine ⟨h1, h2, h3, h4, ?_⟩
  cases ha : e.ad with
  | none => rw [ha] at h5; exact h5
  | some g =>
    rw [ha] at h5
    obtain ⟨g1, g2, cs, g3, g4⟩ := h5
    refine ⟨g1, g2, cs, ?_, g4⟩
    rw [hm.block e.b (heap_lt g3) (hT _ (by rw [g2]; simp))]
    exact g3
theorem TabAt.modP {T : Nat → Prop} (h : TabAt B f len k e own w) (hm : ModP T w w') (hB : ∀ x, T x → B ≤ x) : TabAt B f len k e own w' := by
  obtain ⟨h1, h2, h3, h4, h5⟩ := h
  refine ⟨h1, h2, h3, fun hl => ?_, fun i hi => ?_⟩
  · obtain ⟨g1, g2, g3⟩ := h4 hl
    exact ⟨g1, g2, Nat.lt_of_lt_of_le g3 hm.size⟩
  · obtain ⟨g1, g2, g3⟩ := h4 (by omega)
    obtain ⟨g4, g5⟩ := h5 i hi
    refine ⟨g4, fun j hj => ?_⟩
    rw [← g5 j hj]
    exact World.cell?_of_block (w := w) (hm.block e.b g3 (fun ht => by have := hB _ ht; omega))

theorem VecAt.cell (h : VecAt f len t k e own w) {i j : Nat} (hi : i < len) {v : Value} (hv : (f i)[j]? = some v) : w.cell? ⟨e.b, e.off + i * k + j, none⟩ = some v := by
  obtain ⟨h1, h2, h3, h4, h5⟩ := h
  have hj := lt_of_some hv
  rw [(h4 i hi).1] at hj
  cases ha : e.ad with
  | none => rw [ha] at h5; have := h5.2; omega
  | some g =>
    rw [ha] at h5
    obtain ⟨g1, g2, cs, g3, g4, g5⟩ := h5
    rw [cell_of_row w e.b _ cs t (0, 0) g3, Nat.add_assoc, g5 i hi j hj]
    exact hv
theorem TabAt.cell (h : TabAt B f len k e own w) {i j : Nat} (hi : i < len) {v : Value} (hv : (f i)[j]? = some v) : w.cell? ⟨e.b, e.off + i * k + j, none⟩ = some v := by
  obtain ⟨_, _, _, _, h5⟩ := h
  obtain ⟨g4, g5⟩ := h5 i hi
  have hj := lt_of_some hv
  rw [g5 j (by rw [← g4.1]; omega)]
  exact hv

def spliceV (l : List Value) (off : Nat) (cs : List Value) : List Value := l.take off ++ (cs ++ l.drop (off + cs.length))
theorem spliceV_length {l cs : List Value} {off : Nat} (h : off + cs.length ≤ l.length) : (spliceV l off cs).length = l.length := splice_length h
theorem spliceV_get {l cs : List Value} {off : Nat} (h : off + cs.length ≤ l.length) (i : Nat) : (spliceV l off cs)[i]? = if i < off then l[i]? else if i < off + cs.length then cs[i - off]? else l[i]? := splice_get h i

/-- An element's cells are written. -/
theorem VecAt.write (h : VecAt f len t k e own w) {i j : Nat} (hi : i < len) {us : List Value} (hj : j + us.length ≤ k) (h1 : ∀ v ∈ us, v.oneCell' = true) :
    ∃ w', (storeCells ⟨e.b, e.off + i * k + j, none⟩ us).run P w = .ok () w' ∧ ModP (fun b => b ∈ own) w w' ∧ VecAt (fun m => if m = i then spliceV (f i) j us else f m) len t k e own w' := by
  obtain ⟨g1, g2, g3, g4, h5⟩ := h
  cases ha : e.ad with
  | none => rw [ha] at h5; have := h5.2; omega
  | some g =>
    rw [ha] at h5
    obtain ⟨a1, a2, cs, a3, a4, a5⟩ := h5
    have hik : i * k + k ≤ e.cap * k := by
      have : (i + 1) * k ≤ e.cap * k := Nat.mul_le_mul_right _ (by omega)
      rw [Nat.add_mul, Nat.one_mul] at this
      exact this
    have hst := run_storeCells_at (P := P) e.b (e.off + i * k + j) t us 0 cs w a3 (by simp only [Nat.add_zero]; omega) h1
    simp only [Nat.add_zero] at hst
    refine ⟨_, hst, ⟨rfl, rfl, rfl, by simp, fun q hq hn => ?_⟩, g1, g2, g3, fun m hm => ?_, ?_⟩
    · exact setRow_other w e.b q _ (fun hke => hn (by rw [a2, hke]; simp))
    · by_cases hmi : m = i
      · subst hmi
        simp only [if_true]
        refine ⟨by rw [spliceV_length (by rw [(g4 m hm).1]; omega), (g4 m hm).1], fun v hv => ?_⟩
        simp only [spliceV, List.mem_append] at hv
        rcases hv with hv | hv | hv
        · exact (g4 m hm).2 v (List.mem_of_mem_take hv)
        · exact h1 v hv
        · exact (g4 m hm).2 v (List.mem_of_mem_drop hv)
      · simp only [hmi, if_false]
        exact g4 m hm
    · rw [ha]
      refine ⟨a1, a2, _, setRow_heap w e.b cs _ t (0, 0) a3, ?_, fun m hm c hc => ?_⟩
      · rw [List.size_toArray, List.append_assoc, splice_length (by simp; omega)]
        simpa using a4
      · rw [List.getElem?_toArray, List.append_assoc, splice_get (by simp; omega)]
        by_cases hmi : m = i
        · subst hmi
          simp only [if_true]
          rw [spliceV_get (by rw [(g4 m hm).1]; omega)]
          by_cases q1 : c < j
          · rw [if_pos (by omega), if_pos q1, Array.getElem?_toList]
            exact a5 m hm c hc
          · rw [if_neg (by omega), if_neg q1]
            by_cases q2 : c < j + us.length
            · rw [if_pos (by omega), if_pos q2]
              congr 1
              omega
            · rw [if_neg (by omega), if_neg q2, Array.getElem?_toList]
              exact a5 m hm c hc
        · simp only [hmi, if_false]
          have hsep : m * k + c < i * k ∨ i * k + k ≤ m * k + c := by
            rcases Nat.lt_or_gt_of_ne hmi with hl | hl
            · have : (m + 1) * k ≤ i * k := Nat.mul_le_mul_right _ hl
              rw [Nat.add_mul, Nat.one_mul] at this
              omega
            · have : (i + 1) * k ≤ m * k := Nat.mul_le_mul_right _ hl
              rw [Nat.add_mul, Nat.one_mul] at this
              omega
          rcases hsep with hl | hl
          · rw [if_pos (by omega), Array.getElem?_toList]
            exact a5 m hm c hc
          · rw [if_neg (by omega), if_neg (by omega), Array.getElem?_toList]
            exact a5 m hm c hc

/-- The elements behind len are others. -/
def joinF (f : Nat → List Value) (len : Nat) (g : Nat → List Value) : Nat → List Value := fun i => if i < len then f i else g (i - len)
/-- Cells stand as elements. -/
def rowsF (k : Nat) (l : List Value) : Nat → List Value := fun i => (l.drop (i * k)).take k
theorem rowsF_length {k : Nat} {l : List Value} {m i : Nat} (hl : l.length = m * k) (hi : i < m) : (rowsF k l i).length = k := by
  have : (i + 1) * k ≤ m * k := Nat.mul_le_mul_right _ hi
  rw [Nat.add_mul, Nat.one_mul] at this
  simp [rowsF]
  omega
theorem rowsF_get {k : Nat} {l : List Value} {i j : Nat} (hj : j < k) : (rowsF k l i)[j]? = l[i * k + j]? := by
  simp [rowsF, hj]

/-- There is room behind the first elements: cells are written there. -/
theorem VecAt.extend {len0 : Nat} (h : VecAt f len0 t k e own w) (hlen : len ≤ len0) {m : Nat} (hroom : len + m ≤ e.cap) (hm0 : 0 < m) {g : Nat → List Value} (hg : ∀ i, i < m → RowOK k (g i)) {us : List Value} (hus : us.length = m * k)
    (hug : ∀ i, i < m → ∀ j, j < k → us[i * k + j]? = (g i)[j]?) (h1 : ∀ v ∈ us, v.oneCell' = true) :
    ∃ w', e.ad = some ⟨e.b, e.off, none⟩ ∧ (storeCells ⟨e.b, e.off + len * k, none⟩ us).run P w = .ok () w' ∧ ModP (fun b => b ∈ own) w w' ∧ VecAt (joinF f len g) (len + m) t k ⟨e.b, e.cap, e.off, k, len + m, e.ad⟩ own w' := by
  obtain ⟨g1, g2, g3, g4, h5⟩ := h
  cases ha : e.ad with
  | none => rw [ha] at h5; have := h5.2; omega
  | some ad =>
    rw [ha] at h5
    obtain ⟨a1, a2, cs, a3, a4, a5⟩ := h5
    have hik : (len + m) * k ≤ e.cap * k := Nat.mul_le_mul_right _ hroom
    rw [Nat.add_mul] at hik
    have hst := run_storeCells_at (P := P) e.b (e.off + len * k) t us 0 cs w a3 (by simp only [Nat.add_zero]; omega) h1
    simp only [Nat.add_zero] at hst
    refine ⟨_, by rw [a1], hst, ⟨rfl, rfl, rfl, by simp, fun q hq hn => ?_⟩, rfl, rfl, hroom, fun i hi => ?_, a1, a2, _, setRow_heap w e.b cs _ t (0, 0) a3, ?_, fun i hi c hc => ?_⟩
    · exact setRow_other w e.b q _ (fun hke => hn (by rw [a2, hke]; simp))
    · unfold joinF
      by_cases hil : i < len
      · rw [if_pos hil]; exact g4 i (by omega)
      · rw [if_neg hil]; exact hg _ (by omega)
    · rw [List.size_toArray, List.append_assoc, splice_length (by simp; omega)]
      simpa using a4
    · change (List.toArray _)[e.off + (i * k + c)]? = _
      rw [List.getElem?_toArray, List.append_assoc, splice_get (by simp; omega)]
      unfold joinF
      by_cases hil : i < len
      · have : (i + 1) * k ≤ len * k := Nat.mul_le_mul_right _ hil
        rw [Nat.add_mul, Nat.one_mul] at this
        rw [if_pos (by omega), if_pos hil, Array.getElem?_toList]
        exact a5 i (by omega) c hc
      · have h6 : len * k ≤ i * k := Nat.mul_le_mul_right _ (by omega)
        have h7 : (i - len + 1) * k ≤ m * k := Nat.mul_le_mul_right _ (by omega)
        have h8 : i * k = len * k + (i - len) * k := by
          rw [← Nat.add_mul]
          congr 1
          omega
        rw [Nat.add_mul, Nat.one_mul] at h7
        rw [if_neg (by omega), if_pos (by omega), if_neg hil, ← hug (i - len) (by omega) c hc]
        congr 1
        omega
/-- The elements' cells, one behind the other. -/
def flatF (f : Nat → List Value) : Nat → List Value
  | 0 => []
  | n + 1 => flatF f n ++ f n
theorem flatF_length {f : Nat → List Value} {k : Nat} : ∀ {n : Nat}, (∀ i, i < n → (f i).length = k) → (flatF f n).length = n * k
  | 0, _ => by simp [flatF]
  | n + 1, h => by
    rw [flatF, List.length_append, flatF_length (fun i hi => h i (by omega)), h n (by omega), Nat.add_mul, Nat.one_mul]
theorem flatF_get {f : Nat → List Value} {k : Nat} : ∀ {n : Nat}, (∀ i, i < n → (f i).length = k) → ∀ {i j : Nat}, i < n → j < k → (flatF f n)[i * k + j]? = (f i)[j]?
  | 0, _, i, _, hi, _ => by omega
  | n + 1, h, i, j, hi, hj => by
    have hl := flatF_length (n := n) (fun i hi => h i (by omega))
    rw [flatF, List.getElem?_append]
    by_cases hin : i < n
    · have : (i + 1) * k ≤ n * k := Nat.mul_le_mul_right _ hin
      rw [Nat.add_mul, Nat.one_mul] at this
      rw [if_pos (by omega)]
      exact flatF_get (fun i hi => h i (by omega)) hin hj
    · obtain rfl : i = n := by omega
      rw [if_neg (by omega), hl]
      congr 1
      omega
theorem flatF_mem {f : Nat → List Value} {v : Value} : ∀ {n : Nat}, v ∈ flatF f n → ∃ i, i < n ∧ v ∈ f i
  | 0, h => by cases h
  | n + 1, h => by
    rw [flatF, List.mem_append] at h
    rcases h with h | h
    · obtain ⟨i, hi, hv⟩ := flatF_mem h
      exact ⟨i, by omega, hv⟩
    · exact ⟨n, by omega, h⟩
theorem VecAt.flat (h : VecAt f len t k e own w) {n : Nat} (hn : n ≤ len) {g : Addr} (hg : e.ad = some g) : ∀ j u, (flatF f n)[j]? = some u → w.cell? (g.add j) = some u := by
  intro j u hu
  have hl := flatF_length (n := n) (fun i hi => (h.2.2.2.1 i (by omega)).1)
  have hj := lt_of_some hu
  rw [hl] at hj
  obtain ⟨h1, h2, h3, h4, h5⟩ := h
  rw [hg] at h5
  obtain ⟨g1, g2, cs, g3, g4, g5⟩ := h5
  have hk : 0 < k := by
    rcases Nat.eq_zero_or_pos k with h | h
    · subst h; simp at hj
    · exact h
  have hq : j / k < n := (Nat.div_lt_iff_lt_mul hk).2 hj
  have e1 : j = j / k * k + j % k := by rw [Nat.mul_comm]; exact (Nat.div_add_mod j k).symm
  have hr := Nat.mod_lt j hk
  rw [g1, add_at, cell_of_row w e.b _ cs t (0, 0) g3]
  rw [e1] at hu ⊢
  rw [flatF_get (fun i hi => (h4 i (by omega)).1) hq hr] at hu
  rw [g5 _ (by omega) _ hr]
  exact hu
theorem TabAt.flat (h : TabAt B f len k e own w) {n : Nat} (hn : n ≤ len) {g : Addr} (hg : e.ad = some g) : ∀ j u, (flatF f n)[j]? = some u → w.cell? (g.add j) = some u := by
  intro j u hu
  obtain ⟨h1, h2, h3, h4, h5⟩ := h
  have hl := flatF_length (n := n) (fun i hi => (h5 i (by omega)).1.1)
  have hj := lt_of_some hu
  rw [hl] at hj
  have hk : 0 < k := by
    rcases Nat.eq_zero_or_pos k with h | h
    · subst h; simp at hj
    · exact h
  have hq : j / k < n := (Nat.div_lt_iff_lt_mul hk).2 hj
  have e1 : j = j / k * k + j % k := by rw [Nat.mul_comm]; exact (Nat.div_add_mod j k).symm
  have hr := Nat.mod_lt j hk
  have h6 := (h4 (Nat.lt_of_lt_of_le (Nat.zero_lt_of_lt hq) hn)).1
  rw [hg] at h6
  injection h6 with h6
  subst h6
  rw [add_at]
  rw [e1] at hu ⊢
  rw [flatF_get (fun i hi => (h5 i (by omega)).1.1) hq hr] at hu
  rw [← Nat.add_assoc, (h5 _ (by omega)).2 _ hr]
  exact hu
theorem rowsOK {k m : Nat} {l : List Value} (hl : l.length = m * k) (h1 : ∀ v ∈ l, v.oneCell' = true) {i : Nat} (hi : i < m) : RowOK k (rowsF k l i) :=
  ⟨rowsF_length hl hi, fun v hv => h1 v (List.mem_of_mem_drop (List.mem_of_mem_take hv))⟩
end
end Go.Proofs.Ytpaiejeipghehaa
end
