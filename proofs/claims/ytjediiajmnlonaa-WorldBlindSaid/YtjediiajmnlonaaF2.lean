/- Symbolic states that stand for memory, and rules for a body cut at its loops. Condition: the program follows the looser reading of Go's order. -/
import Derived.Test.YtjediiajmnlonaaF1
namespace Go.Proofs.Ytjediiajmnlonaa

structure Sym (R : Type) where
  e : Env
  hp : List (Nat × Chunk R)
  nx : Nat

section
variable {R : Type}
structure Stand (A : RepAt R) (P : Program) (B : Nat) (s : Sym R) (ρ : Names) (own : Nat → List Nat) (w : World) : Prop where
  li : LI A P B ρ own s.hp (fun _ => True) w
  top : ∀ n, s.nx ≤ n → hget n s.hp = none
  fresh : ∀ n, s.nx ≤ n → ρ n = none
  base : B ≤ w.heap.size

/-- What has changed lies in known pieces or is new. -/
structure Way (hp : List (Nat × Chunk R)) (own : Nat → List Nat) (w : World) (hp' : List (Nat × Chunk R)) (own' : Nat → List Nat) (w' : World) : Prop where
  mod : ModP (fun b => ∃ n c, hget n hp = some c ∧ b ∈ own n) w w'
  pool : ∀ n c, hget n hp' = some c → ∀ b ∈ own' n, w.heap.size ≤ b ∨ ∃ m d, hget m hp = some d ∧ b ∈ own m
variable {hp hp1 hp2 : List (Nat × Chunk R)} {own own1 own2 : Nat → List Nat} {w w1 w2 : World}
theorem Way.refl : Way hp own w hp own w := ⟨ModP.refl _ _, fun n c hc _ hb => .inr ⟨n, c, hc, hb⟩⟩
theorem Way.trans (h : Way hp own w hp1 own1 w1) (k : Way hp1 own1 w1 hp2 own2 w2) : Way hp own w hp2 own2 w2 := by
  refine ⟨h.mod.trans k.mod fun b hb ⟨n, c, hc, hn⟩ => (h.pool n c hc b hn).resolve_left (by omega), fun n c hc b hb => ?_⟩
  rcases k.pool n c hc b hb with g | ⟨m, d, g1, g2⟩
  · exact .inl (Nat.le_trans h.mod.size g)
  · exact h.pool m d g1 b g2

def Tri (A : RepAt R) (P : Program) (sz pin : Nat) (g : Goer) (fs : List Fr) (s : Sym R) (Q : Ex → Sym R → Prop) : Prop :=
  ∀ B ρ own w a, Stand A P B s ρ own w → EnvR ρ s.e a → a.tmps.size = sz → ∀ (K : Exit → Act → World → Prop),
    (∀ x s' ρ' own' w' a', Q x s' → Stand A P B s' ρ' own' w' → EnvR ρ' s'.e a' → a'.tmps.size = sz → a'.defers = a.defers → Way s.hp own w s'.hp own' w' → (∀ n, n < pin → ρ' n = ρ n) → K x.exit a' w') → goWp P g fs K a w

variable {A : RepAt R} {P : Program} {lib : Lib R} {n sz pin : Nat} {g g' : Goer} {fs fs' : List Fr} {s s' s'' : Sym R} {Q Q' : Ex → Sym R → Prop}
theorem Tri.fin {x : Ex} (h : Q x s) : Tri A P sz pin (.out x) [] s Q := fun _ ρ own w a hs he hz _ hk => hk x s ρ own w a h hs he hz rfl Way.refl (fun _ _ => rfl)
theorem Tri.mono (h : Tri A P sz pin g fs s Q) (hq : ∀ x s, Q x s → Q' x s) : Tri A P sz pin g fs s Q' := fun B ρ own w a hs he hz K hk => h B ρ own w a hs he hz K fun x s' ρ' own' w' a' hx => hk x s' ρ' own' w' a' (hq x s' hx)

def Stop.next (r : Stop) : Goer × List Fr := match r with
  | .fin x _ => (.out x, [])
  | .here c fs _ => (.go (.loop c), fs)
theorem stop_next {r : Stop} {Q : Exit → Act → World → Prop} {a : Act} {w : World} : goWp P r.next.1 r.next.2 Q a w = stopWp P r Q a w := by cases r <;> rfl

theorem Tri.run (hm : P.follows .mixedOrders = true) (hl : LibOK A P lib) {k j : Nat} {o : List (Option Bool)} {r : Stop} {st' : St R} (h : stepC P lib n sz k j g fs s.e ⟨s.hp, s.nx, [], [], [], o⟩ = .ok r st') (ha : ∀ p ∈ st'.ask, p.1 = p.2) (hpin : pin ≤ s.nx)
    (ht : Tri A P sz pin r.next.1 r.next.2 ⟨r.env, st'.hp, st'.nx⟩ Q) : Tri A P sz pin g fs s Q := by
  obtain ⟨hf, hs⟩ := step_s hm hl h
  intro B ρ own w a hst he hz K hk
  have hwf : Wf (⟨s.hp, s.nx, [], [], [], o⟩ : St R) := ⟨(fun n hn => by cases hn), hst.top⟩
  have hwf' := hf.wf hwf
  refine hs B (fun _ => True) ρ own w a ⟨fun _ _ => trivial, hwf, fun n hn => hst.fresh n hn.1, hst.li, ha, hst.base⟩ he hz K (fun a1 ρ1 own1 w1 t1 he1 hz1 hd1 => ?_)
  rw [← stop_next]
  have old : ∀ m, m ∈ st'.wr → ¬ newN (⟨s.hp, s.nx, [], [], [], o⟩ : St R) st' m → ∃ c, hget m s.hp = some c := fun m hm hn => by
    rcases hf.al m hm with h1 | h1 | h1
    · cases h1
    · exact absurd ⟨h1, (hwf'.wr m hm).2⟩ hn
    · exact h1
  have way : Way s.hp own w st'.hp own1 w1 := by
    refine ⟨t1.mod.mono fun b _ ⟨m, h1, h2, h3⟩ => ?_, fun n c hc b hb => ?_⟩
    · obtain ⟨c, hc⟩ := old m h1 h2
      exact ⟨m, c, hc, h3⟩
    · by_cases h1 : newN (⟨s.hp, s.nx, [], [], [], o⟩ : St R) st' n ∨ n ∈ st'.wr
      · rcases t1.pool n h1 b hb with h2 | ⟨m, h2, h3, h4⟩
        · exact .inl h2
        · obtain ⟨d, hd⟩ := old m h2 h3
          exact .inr ⟨m, d, hd, h4⟩
      · rw [not_or] at h1
        rw [t1.same n h1.1 h1.2] at hb
        have hlt := hwf'.lt hc
        have h2 : n < s.nx := by
          rcases Nat.lt_or_ge n s.nx with h | h
          · exact h
          · exact absurd ⟨h, hlt⟩ h1.1
        exact .inr ⟨n, c, (hf.hp n h1.2 h2).symm.trans hc, hb⟩
  refine ht B ρ1 own1 w1 a1 ⟨t1.li.sub fun _ _ => .inl trivial, hwf'.top, fun n hn => ?_, Nat.le_trans hst.base t1.mod.size⟩ he1 hz1 K (fun x s2 ρ2 own2 w2 a2 hq h2 he2 hz2 hd2 hw2 hp2 => hk x s2 ρ2 own2 w2 a2 hq h2 he2 hz2 (hd2.trans hd1) (way.trans hw2) (fun n hn => ?_))
  · simp only at hn
    rw [t1.out n (fun h => by have := h.2; omega)]
    exact hst.fresh n (Nat.le_trans hf.nx hn)
  · rw [hp2 n hn, t1.out n (fun h => by have h1 := h.1; simp only at h1; omega)]

theorem rounds_mono {c : Code} {Q : Exit → Act → World → Prop} : ∀ {n m : Nat}, n ≤ m → ∀ {a w}, Code.rounds P c Q n a w → Code.rounds P c Q m a w
  | 0, _, _, _, _, h => h.elim
  | n + 1, 0, hle, _, _, _ => by omega
  | n + 1, m + 1, hle, a, w, h => by
    rw [rounds_succ] at h ⊢
    refine wp_mono h fun e a w hx => ?_
    cases e <;> first | exact rounds_mono (Nat.le_of_succ_le_succ hle) hx | exact hx

/-- A loop's rule: each round leads to such a state again, of a smaller number, or out. -/
theorem Tri.loop {c : Code} (I : Nat → Sym R → Prop) (hr : ∀ k s, I k s → Tri A P sz pin (.go c) [] s (fun x s' => match x with
    | .nor => ∃ k', k' < k ∧ I k' s'
    | x => Tri A P sz pin (.out x) fs s' Q)) {k : Nat} (h : I k s) : Tri A P sz pin (.go (.loop c)) fs s Q := by
  have key : ∀ k s, I k s → ∀ B ρ own w a, Stand A P B s ρ own w → EnvR ρ s.e a → a.tmps.size = sz → ∀ (K : Exit → Act → World → Prop),
      (∀ x s' ρ' own' w' a', Q x s' → Stand A P B s' ρ' own' w' → EnvR ρ' s'.e a' → a'.tmps.size = sz → a'.defers = a.defers → Way s.hp own w s'.hp own' w' → (∀ n, n < pin → ρ' n = ρ n) → K x.exit a' w') → Code.rounds P c (wpF P fs K) (k + 1) a w := by
    intro k
    induction k using Nat.strongRecOn with
    | _ k ih =>
      intro s hI B ρ own w a hs he hz K hk
      rw [rounds_succ]
      refine hr k s hI B ρ own w a hs he hz _ (fun x s1 ρ1 own1 w1 a1 hx hs1 he1 hz1 hd1 hw1 hp1 => ?_)
      cases x with
      | nor =>
        obtain ⟨k', hlt, hI'⟩ := hx
        exact rounds_mono (Nat.succ_le_of_lt hlt) (ih k' hlt s1 hI' B ρ1 own1 w1 a1 hs1 he1 hz1 K (fun x s2 ρ2 own2 w2 a2 hq h2 he2 hz2 hd2 hw2 hp2 => hk x s2 ρ2 own2 w2 a2 hq h2 he2 hz2 (hd2.trans hd1) (hw1.trans hw2) (fun n hn => (hp2 n hn).trans (hp1 n hn))))
      | ret => exact hx B ρ1 own1 w1 a1 hs1 he1 hz1 K (fun x s2 ρ2 own2 w2 a2 hq h2 he2 hz2 hd2 hw2 hp2 => hk x s2 ρ2 own2 w2 a2 hq h2 he2 hz2 (hd2.trans hd1) (hw1.trans hw2) (fun n hn => (hp2 n hn).trans (hp1 n hn)))
      | out i => exact hx B ρ1 own1 w1 a1 hs1 he1 hz1 K (fun x s2 ρ2 own2 w2 a2 hq h2 he2 hz2 hd2 hw2 hp2 => hk x s2 ρ2 own2 w2 a2 hq h2 he2 hz2 (hd2.trans hd1) (hw1.trans hw2) (fun n hn => (hp2 n hn).trans (hp1 n hn)))
  exact fun B ρ own w a hs he hz K hk => wp_loop_rounds (k + 1) (key k s h B ρ own w a hs he hz K hk)

/-- The same memory, seen as another state. -/
def View (A : RepAt R) (P : Program) (pin : Nat) (s s' : Sym R) : Prop := ∀ B ρ own w, Stand A P B s ρ own w → ∃ ρ' own', Stand A P B s' ρ' own' w ∧ (∀ a, EnvR ρ s.e a → EnvR ρ' s'.e a) ∧ (∀ n c, hget n s'.hp = some c → ∀ b ∈ own' n, ∃ m d, hget m s.hp = some d ∧ b ∈ own m) ∧ ∀ n, n < pin → ρ' n = ρ n
theorem View.refl : View A P pin s s := fun _ ρ own _ h => ⟨ρ, own, h, fun _ h => h, fun n c hc _ hb => ⟨n, c, hc, hb⟩, fun _ _ => rfl⟩
theorem View.trans (h : View A P pin s s') (k : View A P pin s' s'') : View A P pin s s'' := fun B ρ own w hs => by
  obtain ⟨ρ1, own1, h1, h2, h3, h4⟩ := h B ρ own w hs
  obtain ⟨ρ2, own2, k1, k2, k3, k4⟩ := k B ρ1 own1 w h1
  refine ⟨ρ2, own2, k1, fun a ha => k2 a (h2 a ha), fun n c hc b hb => ?_, fun n hn => (k4 n hn).trans (h4 n hn)⟩
  obtain ⟨m, d, g1, g2⟩ := k3 n c hc b hb
  exact h3 m d g1 b g2
theorem Tri.view (h : View A P pin s s') (ht : Tri A P sz pin g fs s' Q) : Tri A P sz pin g fs s Q := fun B ρ own w a hs he hz K hk => by
  obtain ⟨ρ1, own1, h1, h2, h3, h4⟩ := h B ρ own w hs
  exact ht B ρ1 own1 w a h1 (h2 a he) hz K (fun x s2 ρ2 own2 w2 a2 hq hs2 he2 hz2 hd2 hw2 hp2 => hk x s2 ρ2 own2 w2 a2 hq hs2 he2 hz2 hd2 (Way.trans ⟨ModP.refl _ _, fun n c hc b hb => .inr (h3 n c hc b hb)⟩ hw2) (fun n hn => (hp2 n hn).trans (h4 n hn)))

/-! Names anew, in the order in which one comes to them; what one does not come to is forgotten. -/
mutual
def namesS : SV → List Nat
  | .v _ => []
  | .ptr n _ => [n]
  | .sl n _ _ _ => [n]
  | .slE n => [n]
  | .tptr n _ _ => [n]
  | .tsl n _ => [n]
  | .mp n => [n]
  | .ifc _ x => namesS x
  | .agg l => namesL l
  | .tup l => namesL l
  | .clo _ a b => namesL a ++ namesL b
def namesL : List SV → List Nat
  | [] => []
  | x :: l => namesS x ++ namesL l
end
def namesC : Chunk R → List Nat
  | .row l _ => namesL l
  | _ => []
def orderX (hp : List (Nat × Chunk R)) : Nat → List Nat → List Nat → List Nat
  | 0, _, seen => seen
  | _ + 1, [], seen => seen
  | k + 1, n :: todo, seen => match memN n seen with
    | true => orderX hp k todo seen
    | false => match hget n hp with
      | some c => orderX hp k (todo ++ namesC c) (seen ++ [n])
      | none => orderX hp k todo seen
def idxN (n : Nat) : List Nat → Nat → Option Nat
  | [], _ => none
  | m :: r, i => match Nat.beq n m with
    | true => some i
    | false => idxN n r (i + 1)
mutual
def renS (l : List Nat) : SV → Option SV
  | .v x => some (.v x)
  | .ptr n o => (idxN n l 0).map fun m => .ptr m o
  | .sl n o i k => (idxN n l 0).map fun m => .sl m o i k
  | .slE n => (idxN n l 0).map fun m => .slE m
  | .tptr n i j => (idxN n l 0).map fun m => .tptr m i j
  | .tsl n k => (idxN n l 0).map fun m => .tsl m k
  | .mp n => (idxN n l 0).map fun m => .mp m
  | .ifc t x => (renS l x).map fun y => .ifc t y
  | .agg r => (renL l r).map fun r => .agg r
  | .tup r => (renL l r).map fun r => .tup r
  | .clo f a b => match renL l a, renL l b with
    | some a, some b => some (.clo f a b)
    | _, _ => none
def renL (l : List Nat) : List SV → Option (List SV)
  | [] => some []
  | x :: r => match renS l x, renL l r with
    | some x, some r => some (x :: r)
    | _, _ => none
end
def renC (l : List Nat) : Chunk R → Option (Chunk R)
  | .row cs t => (renL l cs).map fun cs => .row cs t
  | .emp => some .emp
  | .rep r => some (.rep r)
  | .tab _ _ _ => none
def renHp (l : List Nat) (hp : List (Nat × Chunk R)) : List Nat → Nat → Option (List (Nat × Chunk R))
  | [], _ => some []
  | n :: r, i => match (hget n hp).bind (renC l), renHp l hp r (i + 1) with
    | some c, some t => some ((i, c) :: t)
    | _, _ => none
def renEnv (l : List Nat) (e : Env) : List Nat → Option Env
  | [] => some []
  | t :: r => match elook t e with
    | some s => match renS l s, renEnv l e r with
      | some s, some r => some ((t, s) :: r)
      | _, _ => none
    | none => renEnv l e r
def rootsE (e : Env) : List Nat → List Nat
  | [] => []
  | t :: r => match elook t e with
    | some s => namesS s ++ rootsE e r
    | none => rootsE e r
def startsB : List Nat → List Nat → Bool
  | [], _ => true
  | _ :: _, [] => false
  | n :: r, m :: l => match Nat.beq n m with
    | true => startsB r l
    | false => false
def canonL (l pins vars : List Nat) (s : Sym R) : Option (Sym R) := match startsB pins l with
  | true => match renEnv l s.e vars, renHp l s.hp l 0 with
    | some e, some hp => some ⟨e, hp, l.length⟩
    | _, _ => none
  | false => none
def canonX (pins vars : List Nat) (s : Sym R) : Option (Sym R) := canonL (orderX s.hp 2000 (pins ++ rootsE s.e vars) []) pins vars s

theorem idxN_ok {n : Nat} : ∀ {l : List Nat} {i m : Nat}, idxN n l i = some m → i ≤ m ∧ l[m - i]? = some n
  | [], _, _, h => by cases h
  | x :: l, i, m, h => by
    simp only [idxN] at h
    split at h
    · next hb =>
      injection h with h
      subst h
      have := Nat.eq_of_beq_eq_true hb
      subst this
      simp
    · obtain ⟨h1, h2⟩ := idxN_ok h
      refine ⟨by omega, ?_⟩
      rw [show m - i = (m - (i + 1)) + 1 by omega, List.getElem?_cons_succ]
      exact h2
def renN (l : List Nat) (ρ : Names) : Names := fun i => match l[i]? with
  | some n => ρ n
  | none => none
theorem renN_idx {l : List Nat} {ρ : Names} {n m : Nat} (h : idxN n l 0 = some m) : renN l ρ m = ρ n := by
  obtain ⟨_, h⟩ := idxN_ok h
  rw [Nat.sub_zero] at h
  simp [renN, h]
mutual
theorem den_ren {l : List Nat} {ρ : Names} : ∀ (s s' : SV) (x : Value), renS l s = some s' → den ρ s = some x → den (renN l ρ) s' = some x
  | .v _, s', x, h, hx => by
    simp only [renS, Option.some.injEq] at h
    subst h
    exact hx
  | .ptr n o, s', x, h, hx => by
    simp only [renS, Option.map_eq_some_iff] at h
    obtain ⟨m, hm, rfl⟩ := h
    simpa only [den, renN_idx hm] using hx
  | .sl n o i k, s', x, h, hx => by
    simp only [renS, Option.map_eq_some_iff] at h
    obtain ⟨m, hm, rfl⟩ := h
    simpa only [den, renN_idx hm] using hx
  | .slE n, s', x, h, hx => by
    simp only [renS, Option.map_eq_some_iff] at h
    obtain ⟨m, hm, rfl⟩ := h
    simpa only [den, renN_idx hm] using hx
  | .tptr n i j, s', x, h, hx => by
    simp only [renS, Option.map_eq_some_iff] at h
    obtain ⟨m, hm, rfl⟩ := h
    simpa only [den, renN_idx hm] using hx
  | .tsl n k, s', x, h, hx => by
    simp only [renS, Option.map_eq_some_iff] at h
    obtain ⟨m, hm, rfl⟩ := h
    simpa only [den, renN_idx hm] using hx
  | .mp n, s', x, h, hx => by
    simp only [renS, Option.map_eq_some_iff] at h
    obtain ⟨m, hm, rfl⟩ := h
    simpa only [den, renN_idx hm] using hx
  | .ifc t y, s', x, h, hx => by
    simp only [renS, Option.map_eq_some_iff] at h
    obtain ⟨y', hy, rfl⟩ := h
    simp only [den, Option.map_eq_some_iff] at hx ⊢
    obtain ⟨z, hz, hx⟩ := hx
    exact ⟨z, den_ren y y' z hy hz, hx⟩
  | .agg r, s', x, h, hx => by
    simp only [renS, Option.map_eq_some_iff] at h
    obtain ⟨y', hy, rfl⟩ := h
    simp only [den, Option.map_eq_some_iff] at hx ⊢
    obtain ⟨z, hz, hx⟩ := hx
    exact ⟨z, denL_ren r y' z hy hz, hx⟩
  | .tup r, s', x, h, hx => by
    simp only [renS, Option.map_eq_some_iff] at h
    obtain ⟨y', hy, rfl⟩ := h
    simp only [den, Option.map_eq_some_iff] at hx ⊢
    obtain ⟨z, hz, hx⟩ := hx
    exact ⟨z, denL_ren r y' z hy hz, hx⟩
  | .clo f a b, s', x, h, hx => by
    simp only [renS] at h
    split at h <;> cases h
    next a' b' ha hb =>
    simp only [den] at hx ⊢
    split at hx <;> try cases hx
    next va vb h1 h2 =>
    rw [denL_ren a a' va ha h1, denL_ren b b' vb hb h2]
theorem denL_ren {l : List Nat} {ρ : Names} : ∀ (s s' : List SV) (x : List Value), renL l s = some s' → denL ρ s = some x → denL (renN l ρ) s' = some x
  | [], s', x, h, hx => by
    simp only [renL, Option.some.injEq] at h
    subst h
    exact hx
  | y :: r, s', x, h, hx => by
    simp only [renL] at h
    split at h <;> cases h
    next y' r' hy hr =>
    obtain ⟨a, b, h1, h2, rfl⟩ := denL_cons.1 hx
    exact denL_cons.2 ⟨a, b, den_ren y y' a hy h1, denL_ren r r' b hr h2, rfl⟩
end
theorem order_nodup {hp : List (Nat × Chunk R)} : ∀ {k : Nat} {todo seen : List Nat}, seen.Nodup → (orderX hp k todo seen).Nodup
  | 0, _, _, h => h
  | _ + 1, [], _, h => h
  | k + 1, n :: todo, seen, h => by
    simp only [orderX]
    split
    · exact order_nodup h
    · next hm =>
      split
      · refine order_nodup (List.nodup_append.2 ⟨h, by simp, fun a ha b hb e => ?_⟩)
        rw [List.mem_singleton] at hb
        subst hb
        subst e
        rw [memN_iff.2 ha] at hm
        cases hm
      · exact order_nodup h
theorem renHp_get {l : List Nat} {hp : List (Nat × Chunk R)} : ∀ {r : List Nat} {i : Nat} {hp' : List (Nat × Chunk R)}, renHp l hp r i = some hp' → ∀ {n : Nat} {c : Chunk R}, hget n hp' = some c → i ≤ n ∧ ∃ m d, r[n - i]? = some m ∧ hget m hp = some d ∧ renC l d = some c
  | [], _, hp', h, n, c, hc => by
    simp only [renHp, Option.some.injEq] at h
    subst h
    cases hc
  | x :: r, i, hp', h, n, c, hc => by
    simp only [renHp] at h
    split at h <;> cases h
    next c0 t h1 h2 =>
    rw [hget_cons] at hc
    split at hc
    · next e =>
      subst e
      injection hc with hc
      subst hc
      simp only [Option.bind_eq_some_iff] at h1
      obtain ⟨d, h3, h4⟩ := h1
      exact ⟨Nat.le_refl _, x, d, by simp, h3, h4⟩
    · obtain ⟨h3, m, d, h4, h5, h6⟩ := renHp_get h2 hc
      refine ⟨by omega, m, d, ?_, h5, h6⟩
      rw [show n - i = (n - (i + 1)) + 1 by omega, List.getElem?_cons_succ]
      exact h4
theorem renEnv_get {l : List Nat} {e : Env} : ∀ {vars : List Nat} {e' : Env}, renEnv l e vars = some e' → ∀ {t : Nat} {s : SV}, elook t e' = some s → ∃ s0, elook t e = some s0 ∧ renS l s0 = some s
  | [], e', h, t, s, hs => by
    simp only [renEnv, Option.some.injEq] at h
    subst h
    cases hs
  | v :: vars, e', h, t, s, hs => by
    simp only [renEnv] at h
    split at h
    · next s0 h0 =>
      split at h <;> cases h
      next s1 r h1 h2 =>
      rw [elook_cons] at hs
      split at hs
      · next e =>
        subst e
        injection hs with hs
        subst hs
        exact ⟨s0, h0, h1⟩
      · exact renEnv_get h2 hs
    · exact renEnv_get h hs
theorem starts_get : ∀ {r l : List Nat}, startsB r l = true → ∀ {n : Nat}, n < r.length → l[n]? = r[n]?
  | [], _, _, _, h => by cases h
  | _ :: _, [], h, _, _ => by cases h
  | x :: r, y :: l, h, n, hn => by
    simp only [startsB] at h
    split at h
    · next hb =>
      have := Nat.eq_of_beq_eq_true hb
      subst this
      cases n with
      | zero => rfl
      | succ n =>
        simp only [List.getElem?_cons_succ]
        exact starts_get h (by simpa using hn)
    · cases h
theorem canon_view {vars : List Nat} (h : canonX (List.range pin) vars s = some s') : View A P pin s s' := by
  unfold canonX at h
  have hnd : (orderX s.hp 2000 (List.range pin ++ rootsE s.e vars) []).Nodup := order_nodup List.nodup_nil
  generalize orderX s.hp 2000 (List.range pin ++ rootsE s.e vars) [] = l at h hnd
  unfold canonL at h
  split at h
  case h_2 => cases h
  next hst =>
  split at h <;> cases h
  next e hp he hhp =>
  intro B ρ own w hs
  refine ⟨renN l ρ, fun i => match l[i]? with | some n => own n | none => [], ⟨⟨fun n c _ hc => ?_, fun n m c d _ _ hne hc hd b hb hb' => ?_, fun n c _ hc b hb => ?_⟩, fun n hn => ?_, fun n hn => ?_, hs.base⟩, fun a ha t v ht => ?_, fun n c hc b hb => ?_, fun n hn => ?_⟩
  · obtain ⟨_, m, d, h1, h2, h3⟩ := renHp_get hhp hc
    rw [Nat.sub_zero] at h1
    obtain ⟨e0, h4, h5⟩ := hs.li.at_ m d trivial h2
    refine ⟨e0, by simp [renN, h1, h4], ?_⟩
    simp only [h1]
    cases d with
    | row cs t =>
      simp only [renC, Option.map_eq_some_iff] at h3
      obtain ⟨cs', h6, rfl⟩ := h3
      obtain ⟨g1, ds, vs, g2, g3, g4⟩ := h5
      exact ⟨g1, ds, vs, g2, denL_ren _ _ _ h6 g3, g4⟩
    | tab f len t => cases h3
    | emp =>
      simp only [renC, Option.some.injEq] at h3
      subst h3
      exact h5
    | rep r =>
      simp only [renC, Option.some.injEq] at h3
      subst h3
      exact h5
  · obtain ⟨_, m1, d1, h1, h2, h3⟩ := renHp_get hhp hc
    obtain ⟨_, m2, d2, h4, h5, h6⟩ := renHp_get hhp hd
    rw [Nat.sub_zero] at h1 h4
    simp only [h1, h4] at hb hb'
    refine hs.li.dis m1 m2 d1 d2 trivial trivial (fun e => hne ?_) h2 h5 b hb hb'
    subst e
    exact (List.getElem?_inj (lt_of_some h1) hnd).1 (h1.trans h4.symm)
  · obtain ⟨_, m, d, h1, h2, h3⟩ := renHp_get hhp hc
    rw [Nat.sub_zero] at h1
    simp only [h1] at hb
    exact hs.li.low m d trivial h2 b hb
  · cases hx : hget n hp with
    | none => rfl
    | some c =>
      obtain ⟨_, m, d, h1, _⟩ := renHp_get hhp hx
      rw [Nat.sub_zero] at h1
      have := lt_of_some h1
      simp only at hn
      omega
  · simp only [renN]
    rw [List.getElem?_eq_none hn]
  · obtain ⟨s0, h1, h2⟩ := renEnv_get he ht
    obtain ⟨x, h3, h4⟩ := ha t s0 h1
    exact ⟨x, h3, den_ren s0 v x h2 h4⟩
  · obtain ⟨_, m, d, h1, h2, h3⟩ := renHp_get hhp hc
    rw [Nat.sub_zero] at h1
    simp only [h1] at hb
    exact ⟨m, d, h2, hb⟩
  · have := starts_get hst (n := n) (by simpa using hn)
    rw [List.getElem?_range hn] at this
    simp [renN, this]
end
end Go.Proofs.Ytjediiajmnlonaa
