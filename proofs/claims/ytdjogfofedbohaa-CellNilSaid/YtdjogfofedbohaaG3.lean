/- slices.SortFunc at places: the shelf's contract, laid at this program. -/
import Derived.Test.YtdjogfofedbohaaG2
import Derived.Test.YtdjogfofedbohaaChecked
import Derived.Lib.SlMapEqual
import Derived.WalkKit
import Derived.Maps.Ext
import Derived.Maps.RangeWalk
import Derived.Maps.OwnSet
import Derived.Laws.IdiomRangeMap
import Derived.Deep.LoopGhost
import Derived.RangeFuncSeq
import Derived.Shelf.AbstractIn
import Derived.Sort.MapsRangeIn
import Derived.OwnWalkIn
import Derived.TacticsInMore
import Derived.RegionIn
import Derived.LoopNIn
import Derived.LoopIn
import Derived.RangeFuncGives
import Derived.Maps.AppendAt
import Derived.Shelf.SlIter.Collect
import Derived.Shelf.SlSortCmp.NoneTotal
section
/- Symbolic states that stand for memory, and rules for a body cut at its loops. Condition: the program follows the looser reading of Go's order. -/
namespace Go.Proofs.Ytdjogfofedbohaa

structure Sym (R : Type) where
  e : Env
  hp : List (Nat × Chunk R)
  nx : Nat

section
variable {R : Type}
structure Stand (A : RepAt R) (P : Program) (B : Nat) (s : Sym R) (ρ : Names) (own : Nat → List Nat) (w : World) : Prop where
  li : LI A P B ρ own s.hp (fun _ => True) w
  top : ∀ n, s.nx ≤ n → hget n s.hp = none
  fresh : ∀ n, s.nx ≤ n → ρ n = none
  base : B ≤ w.heap.size

/-- What has changed lies in known pieces or is new. -/
structure Way (hp : List (Nat × Chunk R)) (own : Nat → List Nat) (w : World) (hp' : List (Nat × Chunk R)) (own' : Nat → List Nat) (w' : World) : Prop where
  mod : ModP (fun b => ∃ n c, hget n hp = some c ∧ b ∈ own n) w w'
  pool : ∀ n c, hget n hp' = some c → ∀ b ∈ own' n, w.heap.size ≤ b ∨ ∃ m d, hget m hp = some d ∧ b ∈ own m
variable {hp hp1 hp2 : List (Nat × Chunk R)} {own own1 own2 : Nat → List Nat} {w w1 w2 : World}
theorem Way.refl : Way hp own w hp own w := ⟨ModP.refl _ _, fun n c hc _ hb => .inr ⟨n, c, hc, hb⟩⟩
theorem Way.trans (h : Way hp own w hp1 own1 w1) (k : Way hp1 own1 w1 hp2 own2 w2) : Way hp own w hp2 own2 w2 := by
  refine ⟨h.mod.trans k.mod fun b hb ⟨n, c, hc, hn⟩ => (h.pool n c hc b hn).resolve_left (by omega), fun n c hc b hb => ?_⟩
  rcases k.pool n c hc b hb with g | ⟨m, d, g1, g2⟩
  · exact .inl (Nat.le_trans h.mod.size g)
  · exact h.pool m d g1 b g2

def Tri (A : RepAt R) (P : Program) (sz pin : Nat) (g : Goer) (fs : List Fr) (s : Sym R) (Q : Ex → Sym R → Prop) : Prop :=
  ∀ B ρ own w a, Stand A P B s ρ own w → EnvR ρ s.e a → a.tmps.size = sz → ∀ (K : Exit → Act → World → Prop),
    (∀ x s' ρ' own' w' a', Q x s' → Stand A P B s' ρ' own' w' → EnvR ρ' s'.e a' → a'.tmps.size = sz → a'.defers = a.defers → Way s.hp own w s'.hp own' w' → (∀ n, n < pin → ρ' n = ρ n) → K x.exit a' w') → goWp P g fs K a w

variable {A : RepAt R} {P : Program} {lib : Lib R} {n sz pin : Nat} {g g' : Goer} {fs fs' : List Fr} {s s' s'' : Sym R} {Q Q' : Ex → Sym R → Prop}
theorem Tri.fin {x : Ex} (h : Q x s) : Tri A P sz pin (.out x) [] s Q := fun _ ρ own w a hs he hz _ hk => hk x s ρ own w a h hs he hz rfl Way.refl (fun _ _ => rfl)
theorem Tri.mono (h : Tri A P sz pin g fs s Q) (hq : ∀ x s, Q x s → Q' x s) : Tri A P sz pin g fs s Q' := fun B ρ own w a hs he hz K hk => h B ρ own w a hs he hz K fun x s' ρ' own' w' a' hx => hk x s' ρ' own' w' a' (hq x s' hx)

def Stop.next (r : Stop) : Goer × List Fr := match r with
  | .fin x _ => (.out x, [])
  | .here c fs _ => (.go (.loop c), fs)
theorem stop_next {r : Stop} {Q : Exit → Act → World → Prop} {a : Act} {w : World} : goWp P r.next.1 r.next.2 Q a w = stopWp P r Q a w := by cases r <;> rfl

theorem Tri.run (hm : P.follows .mixedOrders = true) (hl : LibOK A P lib) {k j : Nat} {o : List (Option Bool)} {r : Stop} {st' : St R} (h : stepC P lib n sz k j g fs s.e ⟨s.hp, s.nx, [], [], [], o⟩ = .ok r st') (ha : ∀ p ∈ st'.ask, p.1 = p.2) (hpin : pin ≤ s.nx)
    (ht : Tri A P sz pin r.next.1 r.next.2 ⟨r.env, st'.hp, st'.nx⟩ Q) : Tri A P sz pin g fs s Q := by
  obtain ⟨hf, hs⟩ := step_s hm hl h
  intro B ρ own w a hst he hz K hk
  have hwf : Wf (⟨s.hp, s.nx, [], [], [], o⟩ : St R) := ⟨(fun n hn => by cases hn), hst.top⟩
  have hwf' := hf.wf hwf
  refine hs B (fun _ => True) ρ own w a ⟨fun _ _ => trivial, hwf, fun n hn => hst.fresh n hn.1, hst.li, ha, hst.base⟩ he hz K (fun a1 ρ1 own1 w1 t1 he1 hz1 hd1 => ?_)
  rw [← stop_next]
  have old : ∀ m, m ∈ st'.wr → ¬ newN (⟨s.hp, s.nx, [], [], [], o⟩ : St R) st' m → ∃ c, hget m s.hp = some c := fun m hm hn => by
    rcases hf.al m hm with h1 | h1 | h1
    · cases h1
    · exact absurd ⟨h1, (hwf'.wr m hm).2⟩ hn
    · exact h1
  have way : Way s.hp own w st'.hp own1 w1 := by
    refine ⟨t1.mod.mono fun b _ ⟨m, h1, h2, h3⟩ => ?_, fun n c hc b hb => ?_⟩
    · obtain ⟨c, hc⟩ := old m h1 h2
      exact ⟨m, c, hc, h3⟩
    · by_cases h1 : newN (⟨s.hp, s.nx, [], [], [], o⟩ : St R) st' n ∨ n ∈ st'.wr
      · rcases t1.pool n h1 b hb with h2 | ⟨m, h2, h3, h4⟩
        · exact .inl h2
        · obtain ⟨d, hd⟩ := old m h2 h3
          exact .inr ⟨m, d, hd, h4⟩
      · rw [not_or] at h1
        rw [t1.same n h1.1 h1.2] at hb
        have hlt := hwf'.lt hc
        have h2 : n < s.nx := by
          rcases Nat.lt_or_ge n s.nx with h | h
          · exact h
          · exact absurd ⟨h, hlt⟩ h1.1
        exact .inr ⟨n, c, (hf.hp n h1.2 h2).symm.trans hc, hb⟩
  refine ht B ρ1 own1 w1 a1 ⟨t1.li.sub fun _ _ => .inl trivial, hwf'.top, fun n hn => ?_, Nat.le_trans hst.base t1.mod.size⟩ he1 hz1 K (fun x s2 ρ2 own2 w2 a2 hq h2 he2 hz2 hd2 hw2 hp2 => hk x s2 ρ2 own2 w2 a2 hq h2 he2 hz2 (hd2.trans hd1) (way.trans hw2) (fun n hn => ?_))
  · simp only at hn
    rw [t1.out n (fun h => by have := h.2; omega)]
    exact hst.fresh n (Nat.le_trans hf.nx hn)
  · rw [hp2 n hn, t1.out n (fun h => by have h1 := h.1; simp only at h1; omega)]

theorem rounds_mono {c : Code} {Q : Exit → Act → World → Prop} : ∀ {n m : Nat}, n ≤ m → ∀ {a w}, Code.rounds P c Q n a w → Code.rounds P c Q m a w
  | 0, _, _, _, _, h => h.elim
  | n + 1, 0, hle, _, _, _ => by omega
  | n + 1, m + 1, hle, a, w, h => by
    rw [rounds_succ] at h ⊢
    refine wp_mono h fun e a w hx => ?_
    cases e <;> first | exact rounds_mono (Nat.le_of_succ_le_succ hle) hx | exact hx

/-- A loop's rule: each round leads to such a state again, of a smaller number, or out. -/
theorem Tri.loop {c : Code} (I : Nat → Sym R → Prop) (hr : ∀ k s, I k s → Tri A P sz pin (.go c) [] s (fun x s' => match x with
    | .nor => ∃ k', k' < k ∧ I k' s'
    | x => Tri A P sz pin (.out x) fs s' Q)) {k : Nat} (h : I k s) : Tri A P sz pin (.go (.loop c)) fs s Q := by
  have key : ∀ k s, I k s → ∀ B ρ own w a, Stand A P B s ρ own w → EnvR ρ s.e a → a.tmps.size = sz → ∀ (K : Exit → Act → World → Prop),
      (∀ x s' ρ' own' w' a', Q x s' → Stand A P B s' ρ' own' w' → EnvR ρ' s'.e a' → a'.tmps.size = sz → a'.defers = a.defers → Way s.hp own w s'.hp own' w' → (∀ n, n < pin → ρ' n = ρ n) → K x.exit a' w') → Code.rounds P c (wpF P fs K) (k + 1) a w := by
    intro k
    induction k using Nat.strongRecOn with
    | _ k ih =>
      intro s hI B ρ own w a hs he hz K hk
      rw [rounds_succ]
      refine hr k s hI B ρ own w a hs he hz _ (fun x s1 ρ1 own1 w1 a1 hx hs1 he1 hz1 hd1 hw1 hp1 => ?_)
      cases x with
      | nor =>
        obtain ⟨k', hlt, hI'⟩ := hx
        exact rounds_mono (Nat.succ_le_of_lt hlt) (ih k' hlt s1 hI' B ρ1 own1 w1 a1 hs1 he1 hz1 K (fun x s2 ρ2 own2 w2 a2 hq h2 he2 hz2 hd2 hw2 hp2 => hk x s2 ρ2 own2 w2 a2 hq h2 he2 hz2 (hd2.trans hd1) (hw1.trans hw2) (fun n hn => (hp2 n hn).trans (hp1 n hn))))
      | ret => exact hx B ρ1 own1 w1 a1 hs1 he1 hz1 K (fun x s2 ρ2 own2 w2 a2 hq h2 he2 hz2 hd2 hw2 hp2 => hk x s2 ρ2 own2 w2 a2 hq h2 he2 hz2 (hd2.trans hd1) (hw1.trans hw2) (fun n hn => (hp2 n hn).trans (hp1 n hn)))
      | out i => exact hx B ρ1 own1 w1 a1 hs1 he1 hz1 K (fun x s2 ρ2 own2 w2 a2 hq h2 he2 hz2 hd2 hw2 hp2 => hk x s2 ρ2 own2 w2 a2 hq h2 he2 hz2 (hd2.trans hd1) (hw1.trans hw2) (fun n hn => (hp2 n hn).trans (hp1 n hn)))
  exact fun B ρ own w a hs he hz K hk => wp_loop_rounds (k + 1) (key k s h B ρ own w a hs he hz K hk)

/-- The same memory, seen as another state. -/
def View (A : RepAt R) (P : Program) (pin : Nat) (s s' : Sym R) : Prop := ∀ B ρ own w, Stand A P B s ρ own w → ∃ ρ' own', Stand A P B s' ρ' own' w ∧ (∀ a, EnvR ρ s.e a → EnvR ρ' s'.e a) ∧ (∀ n c, hget n s'.hp = some c → ∀ b ∈ own' n, ∃ m d, hget m s.hp = some d ∧ b ∈ own m) ∧ ∀ n, n < pin → ρ' n = ρ n
theorem View.refl : View A P pin s s := fun _ ρ own _ h => ⟨ρ, own, h, fun _ h => h, fun n c hc _ hb => ⟨n, c, hc, hb⟩, fun _ _ => rfl⟩
theorem View.trans (h : View A P pin s s') (k : View A P pin s' s'') : View A P pin s s'' := fun B ρ own w hs => by
  obtain ⟨ρ1, own1, h1, h2, h3, h4⟩ := h B ρ own w hs
  obtain ⟨ρ2, own2, k1, k2, k3, k4⟩ := k B ρ1 own1 w h1
  refine ⟨ρ2, own2, k1, fun a ha => k2 a (h2 a ha), fun n c hc b hb => ?_, fun n hn => (k4 n hn).trans (h4 n hn)⟩
  obtain ⟨m, d, g1, g2⟩ := k3 n c hc b hb
  exact h3 m d g1 b g2
theorem Tri.view (h : View A P pin s s') (ht : Tri A P sz pin g fs s' Q) : Tri A P sz pin g fs s Q := fun B ρ own w a hs he hz K hk => by
  obtain ⟨ρ1, own1, h1, h2, h3, h4⟩ := h B ρ own w hs
  exact ht B ρ1 own1 w a h1 (h2 a he) hz K (fun x s2 ρ2 own2 w2 a2 hq hs2 he2 hz2 hd2 hw2 hp2 => hk x s2 ρ2 own2 w2 a2 hq hs2 he2 hz2 hd2 (Way.trans ⟨ModP.refl _ _, fun n c hc b hb => .inr (h3 n c hc b hb)⟩ hw2) (fun n hn => (hp2 n hn).trans (h4 n hn)))

/-! Names anew, in the order in which one comes to them; what one does not come to is forgotten. -/
mutual
def namesS : SV → List Nat
  | .v _ => []
  | .ptr n _ => [n]
  | .sl n _ _ _ => [n]
  | .slE n => [n]
  | .tptr n _ _ => [n]
  | .tsl n _ => [n]
  | .mp n => [n]
  | .ifc _ x => namesS x
  | .agg l => namesL l
  | .tup l => namesL l
  | .clo _ a b => namesL a ++ namesL b
def namesL : List SV → List Nat
  | [] => []
  | x :: l => namesS x ++ namesL l
end
def namesC : Chunk R → List Nat
  | .row l _ => namesL l
  | _ => []
def orderX (hp : List (Nat × Chunk R)) : Nat → List Nat → List Nat → List Nat
  | 0, _, seen => seen
  | _ + 1, [], seen => seen
  | k + 1, n :: todo, seen => match memN n seen with
    | true => orderX hp k todo seen
    | false => match hget n hp with
      | some c => orderX hp k (todo ++ namesC c) (seen ++ [n])
      | none => orderX hp k todo seen
def idxN (n : Nat) : List Nat → Nat → Option Nat
  | [], _ => none
  | m :: r, i => match Nat.beq n m with
    | true => some i
    | false => idxN n r (i + 1)
mutual
def renS (l : List Nat) : SV → Option SV
  | .v x => some (.v x)
  | .ptr n o => (idxN n l 0).map fun m => .ptr m o
  | .sl n o i k => (idxN n l 0).map fun m => .sl m o i k
  | .slE n => (idxN n l 0).map fun m => .slE m
  | .tptr n i j => (idxN n l 0).map fun m => .tptr m i j
  | .tsl n k => (idxN n l 0).map fun m => .tsl m k
  | .mp n => (idxN n l 0).map fun m => .mp m
  | .ifc t x => (renS l x).map fun y => .ifc t y
  | .agg r => (renL l r).map fun r => .agg r
  | .tup r => (renL l r).map fun r => .tup r
  | .clo f a b => match renL l a, renL l b with
    | some a, some b => some (.clo f a b)
    | _, _ => none
def renL (l : List Nat) : List SV → Option (List SV)
  | [] => some []
  | x :: r => match renS l x, renL l r with
    | some x, some r => some (x :: r)
    | _, _ => none
end
def renC (l : List Nat) : Chunk R → Option (Chunk R)
  | .row cs t => (renL l cs).map fun cs => .row cs t
  | .emp => some .emp
  | .rep r => some (.rep r)
  | .tab _ _ _ => none
def renHp (l : List Nat) (hp : List (Nat × Chunk R)) : List Nat → Nat → Option (List (Nat × Chunk R))
  | [], _ => some []
  | n :: r, i => match (hget n hp).bind (renC l), renHp l hp r (i + 1) with
    | some c, some t => some ((i, c) :: t)
    | _, _ => none
def renEnv (l : List Nat) (e : Env) : List Nat → Option Env
  | [] => some []
  | t :: r => match elook t e with
    | some s => match renS l s, renEnv l e r with
      | some s, some r => some ((t, s) :: r)
      | _, _ => none
    | none => renEnv l e r
def rootsE (e : Env) : List Nat → List Nat
  | [] => []
  | t :: r => match elook t e with
    | some s => namesS s ++ rootsE e r
    | none => rootsE e r
def startsB : List Nat → List Nat → Bool
  | [], _ => true
  | _ :: _, [] => false
  | n :: r, m :: l => match Nat.beq n m with
    | true => startsB r l
    | false => false
def canonL (l pins vars : List Nat) (s : Sym R) : Option (Sym R) := match startsB pins l with
  | true => match renEnv l s.e vars, renHp l s.hp l 0 with
    | some e, some hp => some ⟨e, hp, l.length⟩
    | _, _ => none
  | false => none
def canonX (pins vars : List Nat) (s : Sym R) : Option (Sym R) := canonL (orderX s.hp 2000 (pins ++ rootsE s.e vars) []) pins vars s

theorem idxN_ok {n : Nat} : ∀ {l : List Nat} {i m : Nat}, idxN n l i = some m → i ≤ m ∧ l[m - i]? = some n
  | [], _, _, h => by cases h
  | x :: l, i, m, h => by
    simp only [idxN] at h
    split at h
    · next hb =>
      injection h with h
      subst h
      have := Nat.eq_of_beq_eq_true hb
      subst this
      simp
    · obtain ⟨h1, h2⟩ := idxN_ok h
      refine ⟨by omega, ?_⟩
      rw [show m - i = (m - (i + 1)) + 1 by omega, List.getElem?_cons_succ]
      exact h2
def renN (l : List Nat) (ρ : Names) : Names := fun i => match l[i]? with
  | some n => ρ n
  | none => none
theorem renN_idx {l : List Nat} {ρ : Names} {n m : Nat} (h : idxN n l 0 = some m) : renN l ρ m = ρ n := by
  obtain ⟨_, h⟩ := idxN_ok h
  rw [Nat.sub_zero] at h
  simp [renN, h]
mutual
theorem den_ren {l : List Nat} {ρ : Names} : ∀ (s s' : SV) (x : Value), renS l s = some s' → den ρ s = some x → den (renN l ρ) s' = some x
  | .v _, s', x, h, hx => by
    simp only [renS, Option.some.injEq] at h
    subst h
    exact hx
  | .ptr n o, s', x, h, hx => by
    simp only [renS, Option.map_eq_some_iff] at h
    obtain ⟨m, hm, rfl⟩ := h
    simpa only [den, renN_idx hm] using hx
  | .sl n o i k, s', x, h, hx => by
    simp only [renS, Option.map_eq_some_iff] at h
    obtain ⟨m, hm, rfl⟩ := h
    simpa only [den, renN_idx hm] using hx
  | .slE n, s', x, h, hx => by
    simp only [renS, Option.map_eq_some_iff] at h
    obtain ⟨m, hm, rfl⟩ := h
    simpa only [den, renN_idx hm] using hx
  | .tptr n i j, s', x, h, hx => by
    simp only [renS, Option.map_eq_some_iff] at h
    obtain ⟨m, hm, rfl⟩ := h
    simpa only [den, renN_idx hm] using hx
  | .tsl n k, s', x, h, hx => by
    simp only [renS, Option.map_eq_some_iff] at h
    obtain ⟨m, hm, rfl⟩ := h
    simpa only [den, renN_idx hm] using hx
  | .mp n, s', x, h, hx => by
    simp only [renS, Option.map_eq_some_iff] at h
    obtain ⟨m, hm, rfl⟩ := h
    simpa only [den, renN_idx hm] using hx
  | .ifc t y, s', x, h, hx => by
    simp only [renS, Option.map_eq_some_iff] at h
    obtain ⟨y', hy, rfl⟩ := h
    simp only [den, Option.map_eq_some_iff] at hx ⊢
    obtain ⟨z, hz, hx⟩ := hx
    exact ⟨z, den_ren y y' z hy hz, hx⟩
  | .agg r, s', x, h, hx => by
    simp only [renS, Option.map_eq_some_iff] at h
    obtain ⟨y', hy, rfl⟩ := h
    simp only [den, Option.map_eq_some_iff] at hx ⊢
    obtain ⟨z, hz, hx⟩ := hx
    exact ⟨z, denL_ren r y' z hy hz, hx⟩
  | .tup r, s', x, h, hx => by
    simp only [renS, Option.map_eq_some_iff] at h
    obtain ⟨y', hy, rfl⟩ := h
    simp only [den, Option.map_eq_some_iff] at hx ⊢
    obtain ⟨z, hz, hx⟩ := hx
    exact ⟨z, denL_ren r y' z hy hz, hx⟩
  | .clo f a b, s', x, h, hx => by
    simp only [renS] at h
    split at h <;> cases h
    next a' b' ha hb =>
    simp only [den] at hx ⊢
    split at hx <;> try cases hx
    next va vb h1 h2 =>
    rw [denL_ren a a' va ha h1, denL_ren b b' vb hb h2]
theorem denL_ren {l : List Nat} {ρ : Names} : ∀ (s s' : List SV) (x : List Value), renL l s = some s' → denL ρ s = some x → denL (renN l ρ) s' = some x
  | [], s', x, h, hx => by
    simp only [renL, Option.some.injEq] at h
    subst h
    exact hx
  | y :: r, s', x, h, hx => by
    simp only [renL] at h
    split at h <;> cases h
    next y' r' hy hr =>
    obtain ⟨a, b, h1, h2, rfl⟩ := denL_cons.1 hx
    exact denL_cons.2 ⟨a, b, den_ren y y' a hy h1, denL_ren r r' b hr h2, rfl⟩
end
theorem order_nodup {hp : List (Nat × Chunk R)} : ∀ {k : Nat} {todo seen : List Nat}, seen.Nodup → (orderX hp k todo seen).Nodup
  | 0, _, _, h => h
  | _ + 1, [], _, h => h
  | k + 1, n :: todo, seen, h => by
    simp only [orderX]
    split
    · exact order_nodup h
    · next hm =>
      split
      · refine order_nodup (List.nodup_append.2 ⟨h, by simp, fun a ha b hb e => ?_⟩)
        rw [List.mem_singleton] at hb
        subst hb
        subst e
        rw [memN_iff.2 ha] at hm
        cases hm
      · exact order_nodup h
theorem renHp_get {l : List Nat} {hp : List (Nat × Chunk R)} : ∀ {r : List Nat} {i : Nat} {hp' : List (Nat × Chunk R)}, renHp l hp r i = some hp' → ∀ {n : Nat} {c : Chunk R}, hget n hp' = some c → i ≤ n ∧ ∃ m d, r[n - i]? = some m ∧ hget m hp = some d ∧ renC l d = some c
  | [], _, hp', h, n, c, hc => by
    simp only [renHp, Option.some.injEq] at h
    subst h
    cases hc
  | x :: r, i, hp', h, n, c, hc => by
    simp only [renHp] at h
    split at h <;> cases h
    next c0 t h1 h2 =>
    rw [hget_cons] at hc
    split at hc
    · next e =>
      subst e
      injection hc with hc
      subst hc
      simp only [Option.bind_eq_some_iff] at h1
      obtain ⟨d, h3, h4⟩ := h1
      exact ⟨Nat.le_refl _, x, d, by simp, h3, h4⟩
    · obtain ⟨h3, m, d, h4, h5, h6⟩ := renHp_get h2 hc
      refine ⟨by omega, m, d, ?_, h5, h6⟩
      rw [show n - i = (n - (i + 1)) + 1 by omega, List.getElem?_cons_succ]
      exact h4
theorem renEnv_get {l : List Nat} {e : Env} : ∀ {vars : List Nat} {e' : Env}, renEnv l e vars = some e' → ∀ {t : Nat} {s : SV}, elook t e' = some s → ∃ s0, elook t e = some s0 ∧ renS l s0 = some s
  | [], e', h, t, s, hs => by
    simp only [renEnv, Option.some.injEq] at h
    subst h
    cases hs
  | v :: vars, e', h, t, s, hs => by
    simp only [renEnv] at h
    split at h
    · next s0 h0 =>
      split at h <;> cases h
      next s1 r h1 h2 =>
      rw [elook_cons] at hs
      split at hs
      · next e =>
        subst e
        injection hs with hs
        subst hs
        exact ⟨s0, h0, h1⟩
      · exact renEnv_get h2 hs
    · exact renEnv_get h hs
theorem starts_get : ∀ {r l : List Nat}, startsB r l = true → ∀ {n : Nat}, n < r.length → l[n]? = r[n]?
  | [], _, _, _, h => by cases h
  | _ :: _, [], h, _, _ => by cases h
  | x :: r, y :: l, h, n, hn => by
    simp only [startsB] at h
    split at h
    · next hb =>
      have := Nat.eq_of_beq_eq_true hb
      subst this
      cases n with
      | zero => rfl
      | succ n =>
        simp only [List.getElem?_cons_succ]
        exact starts_get h (by simpa using hn)
    · cases h
theorem canon_view {vars : List Nat} (h : canonX (List.range pin) vars s = some s') : View A P pin s s' := by
  unfold canonX at h
  have hnd : (orderX s.hp 2000 (List.range pin ++ rootsE s.e vars) []).Nodup := order_nodup List.nodup_nil
  generalize orderX s.hp 2000 (List.range pin ++ rootsE s.e vars) [] = l at h hnd
  unfold canonL at h
  split at h
  case h_2 => cases h
  next hst =>
  split at h <;> cases h
  next e hp he hhp =>
  intro B ρ own w hs
  refine ⟨renN l ρ, fun i => match l[i]? with | some n => own n | none => [], ⟨⟨fun n c _ hc => ?_, fun n m c d _ _ hne hc hd b hb hb' => ?_, fun n c _ hc b hb => ?_⟩, fun n hn => ?_, fun n hn => ?_, hs.base⟩, fun a ha t v ht => ?_, fun n c hc b hb => ?_, fun n hn => ?_⟩
  · obtain ⟨_, m, d, h1, h2, h3⟩ := renHp_get hhp hc
    rw [Nat.sub_zero] at h1
    obtain ⟨e0, h4, h5⟩ := hs.li.at_ m d trivial h2
    refine ⟨e0, by simp [renN, h1, h4], ?_⟩
    simp only [h1]
    cases d with
    | row cs t =>
      simp only [renC, Option.map_eq_some_iff] at h3
      obtain ⟨cs', h6, rfl⟩ := h3
      obtain ⟨g1, ds, vs, g2, g3, g4⟩ := h5
      exact ⟨g1, ds, vs, g2, denL_ren _ _ _ h6 g3, g4⟩
    | tab f len t => cases h3
    | emp =>
      simp only [renC, Option.some.injEq] at h3
      subst h3
      exact h5
    | rep r =>
      simp only [renC, Option.some.injEq] at h3
      subst h3
      exact h5
  · obtain ⟨_, m1, d1, h1, h2, h3⟩ := renHp_get hhp hc
    obtain ⟨_, m2, d2, h4, h5, h6⟩ := renHp_get hhp hd
    rw [Nat.sub_zero] at h1 h4
    simp only [h1, h4] at hb hb'
    refine hs.li.dis m1 m2 d1 d2 trivial trivial (fun e => hne ?_) h2 h5 b hb hb'
    subst e
    exact (List.getElem?_inj (lt_of_some h1) hnd).1 (h1.trans h4.symm)
  · obtain ⟨_, m, d, h1, h2, h3⟩ := renHp_get hhp hc
    rw [Nat.sub_zero] at h1
    simp only [h1] at hb
    exact hs.li.low m d trivial h2 b hb
  · cases hx : hget n hp with
    | none => rfl
    | some c =>
      obtain ⟨_, m, d, h1, _⟩ := renHp_get hhp hx
      rw [Nat.sub_zero] at h1
      have := lt_of_some h1
      simp only at hn
      omega
  · simp only [renN]
    rw [List.getElem?_eq_none hn]
  · obtain ⟨s0, h1, h2⟩ := renEnv_get he ht
    obtain ⟨x, h3, h4⟩ := ha t s0 h1
    exact ⟨x, h3, den_ren s0 v x h2 h4⟩
  · obtain ⟨_, m, d, h1, h2, h3⟩ := renHp_get hhp hc
    rw [Nat.sub_zero] at h1
    simp only [h1] at hb
    exact ⟨m, d, h2, hb⟩
  · have := starts_get hst (n := n) (by simpa using hn)
    rw [List.getElem?_range hn] at this
    simp [renN, this]
end
end Go.Proofs.Ytdjogfofedbohaa
end
section
/- A long run cut into pieces at a loop's rounds: each piece its own theorem. No condition. -/
namespace Go.Proofs.Ytdjogfofedbohaa
variable {R : Type} {P : Program} {lib : Lib R}

def fEnv {β : Type} : Env → (Env → β) → β
  | [], k => k []
  | (t, s) :: r, k => fNat t fun t => fTop s fun s => fEnv r fun r => k ((t, s) :: r)
theorem fEnv_eq {β : Type} (e : Env) (k : Env → β) : fEnv e k = k e := by
  induction e generalizing k with
  | nil => rfl
  | cons p e ih => obtain ⟨t, s⟩ := p; simp [fEnv, fNat_eq, fTop_eq, ih]
/-- One round of a loop: what the next begins with, reckoned out. -/
def roundX (fR : R → (R → Option (Env × St R)) → Option (Env × St R)) (P : Program) (lib : Lib R) (n sz : Nat) (c : Code) (e : Env) (st : St R) : Option (Env × St R) := match runX P lib n sz c e st with
  | .ok (.nor, e1) st1 => fEnv (pruneE (maskE e) e1) fun e2 => fSt fR st1 fun st2 => some (e2, st2)
  | _ => none
theorem loop_round {fR : R → (R → Option (Env × St R)) → Option (Env × St R)} (hR : ∀ r k, fR r k = k r) {n sz : Nat} {c : Code} {e e1 : Env} {st st1 : St R} (h : roundX fR P lib n sz c e st = some (e1, st1)) : runX P lib (n + 1) sz (.loop c) e st = runX P lib n sz (.loop c) e1 st1 := by
  unfold roundX at h
  simp only [runX, codeF, M.bind]
  cases hr : runX P lib n sz c e st with
  | no w l => rw [hr] at h; cases h
  | ok a s =>
    obtain ⟨ex, e2⟩ := a
    rw [hr] at h
    cases ex with
    | nor =>
      simp only [fEnv_eq, fSt_eq hR] at h
      injection h with h; injection h with h1 h2; subst h1; subst h2; rfl
    | ret => cases h
    | out id => cases h

/-- A run up to its first loop. -/
inductive Sus (R : Type) where
  | done (r : Res R (Ex × Env))
  | here (n : Nat) (c : Code) (e : Env) (st : St R)
def susX (P : Program) (lib : Lib R) : Nat → Nat → Code → Env → St R → Sus R
  | n + 1, sz, .seq a b, e, st => match susX P lib n sz a e st with
    | .done (.ok (.nor, e1) st1) => susX P lib n sz b e1 st1
    | x => x
  | n + 1, sz, .block id c, e, st => match susX P lib n sz c e st with
    | .here m c' e' st' => .here m c' e' st'
    | .done _ => .done (runX P lib (n + 1) sz (.block id c) e st)
  | n + 1, _, .loop c, e, st => .here n c e st
  | n, sz, c, e, st => .done (runX P lib n sz c e st)
/-- The same, with the first loop's outcome given. -/
def finX (P : Program) (lib : Lib R) (v : Res R (Ex × Env)) : Nat → Nat → Code → Env → St R → Res R (Ex × Env)
  | n + 1, sz, .seq a b, e, st => match susX P lib n sz a e st with
    | .done (.ok (.nor, e1) st1) => finX P lib v n sz b e1 st1
    | .done r => r
    | .here _ _ _ _ => match finX P lib v n sz a e st with
      | .ok (.nor, e1) st1 => runX P lib n sz b e1 st1
      | r => r
  | n + 1, sz, .block id c, e, st => match finX P lib v n sz c e st with
    | .ok (.out id', e1) st1 => match Nat.beq id' id with
      | true => .ok (.nor, e1) st1
      | false => .ok (.out id', e1) st1
    | r => r
  | _ + 1, _, .loop _, _, _ => v
  | n, sz, c, e, st => runX P lib n sz c e st

theorem run_seq (n sz : Nat) (a b : Code) (e : Env) (st : St R) : runX P lib (n + 1) sz (.seq a b) e st = (match runX P lib n sz a e st with
    | .ok (.nor, e1) st1 => runX P lib n sz b e1 st1
    | r => r) := by
  simp only [runX, codeF, M.bind]
  cases runX P lib n sz a e st with
  | no w l => rfl
  | ok a s => obtain ⟨ex, e2⟩ := a; cases ex <;> rfl
theorem run_block (n sz id : Nat) (c : Code) (e : Env) (st : St R) : runX P lib (n + 1) sz (.block id c) e st = (match runX P lib n sz c e st with
    | .ok (.out id', e1) st1 => (match Nat.beq id' id with
      | true => .ok (.nor, e1) st1
      | false => .ok (.out id', e1) st1)
    | r => r) := by
  simp only [runX, codeF, M.bind]
  cases runX P lib n sz c e st with
  | no w l => rfl
  | ok a s =>
    obtain ⟨ex, e2⟩ := a
    cases ex with
    | nor => rfl
    | ret => rfl
    | out id' => cases hb : Nat.beq id' id <;> simp only [hb] <;> rfl
theorem sus_run : ∀ (n sz : Nat) (c : Code) (e : Env) (st : St R), (∀ r, susX P lib n sz c e st = .done r → runX P lib n sz c e st = r) ∧
    ∀ m c' e' st', susX P lib n sz c e st = .here m c' e' st' → runX P lib n sz c e st = finX P lib (runX P lib (m + 1) sz (.loop c') e' st') n sz c e st := by
  intro n
  induction n with
  | zero => exact fun sz c e st => ⟨fun r h => by cases c <;> (injection h), fun m c' e' st' h => by cases c <;> cases h⟩
  | succ n ih =>
    intro sz c e st
    cases c with
    | seq a b =>
      have ia := ih sz a e st
      rw [run_seq]
      cases hs : susX P lib n sz a e st with
      | done r =>
        rw [ia.1 r hs]
        cases r with
        | no w l => exact ⟨fun r h => by rw [susX, hs] at h; injection h, fun m c' e' st' h => by rw [susX, hs] at h; cases h⟩
        | ok v st1 =>
          obtain ⟨ex, e1⟩ := v
          have ib := ih sz b e1 st1
          cases ex with
          | nor =>
            refine ⟨fun r h => ?_, fun m c' e' st' h => ?_⟩
            · rw [susX, hs] at h
              exact ib.1 r h
            · rw [susX, hs] at h
              rw [finX, hs]
              exact ib.2 m c' e' st' h
          | ret => exact ⟨fun r h => by rw [susX, hs] at h; injection h, fun m c' e' st' h => by rw [susX, hs] at h; cases h⟩
          | out id => exact ⟨fun r h => by rw [susX, hs] at h; injection h, fun m c' e' st' h => by rw [susX, hs] at h; cases h⟩
      | here m c' e' st' =>
        refine ⟨fun r h => (by rw [susX, hs] at h; cases h), fun m2 c2 e2 st2 h => ?_⟩
        rw [susX, hs] at h
        injection h with h1 h2 h3 h4
        subst h1; subst h2; subst h3; subst h4
        rw [finX, hs, ia.2 _ _ _ _ hs]
    | block id c =>
      have ic := ih sz c e st
      cases hs : susX P lib n sz c e st with
      | done r => exact ⟨fun r h => by rw [susX, hs] at h; injection h, fun m c' e' st' h => by rw [susX, hs] at h; cases h⟩
      | here m c' e' st' =>
        refine ⟨fun r h => (by rw [susX, hs] at h; cases h), fun m2 c2 e2 st2 h => ?_⟩
        rw [susX, hs] at h
        injection h with h1 h2 h3 h4
        subst h1; subst h2; subst h3; subst h4
        rw [run_block, finX, ic.2 _ _ _ _ hs]
    | loop c => exact ⟨fun r h => (by cases h), fun m c' e' st' h => by injection h with h1 h2 h3 h4; subst h1; subst h2; subst h3; subst h4; rfl⟩
    | _ => exact ⟨fun r h => (by injection h), fun m c' e' st' h => by cases h⟩
/-- Where a run stands at its first loop, reckoned out. -/
def susF (fR : R → (R → Option (Nat × Env × St R)) → Option (Nat × Env × St R)) (x : Sus R) : Option (Nat × Env × St R) := match x with
  | .here n _ e st => fNat n fun n => fEnv e fun e => fSt fR st fun st => some (n, e, st)
  | .done _ => none
def endF (fR : R → (R → Option (Ex × Env × St R)) → Option (Ex × Env × St R)) (x : Res R (Ex × Env)) : Option (Ex × Env × St R) := match x with
  | .ok (.out i, e) st => fEnv e fun e => fSt fR st fun st => some (.out i, e, st)
  | _ => none
theorem endF_eq {fR : R → (R → Option (Ex × Env × St R)) → Option (Ex × Env × St R)} (hR : ∀ r k, fR r k = k r) {x : Res R (Ex × Env)} {ex : Ex} {e : Env} {st : St R} (h : endF fR x = some (ex, e, st)) : x = .ok (ex, e) st := by
  cases x with
  | no w l => cases h
  | ok a s =>
    obtain ⟨x1, e2⟩ := a
    cases x1 with
    | nor => cases h
    | ret => cases h
    | out id =>
      simp only [endF, fEnv_eq, fSt_eq hR] at h
      injection h with h; injection h with h1 h2; injection h2 with h2 h3; subst h1; subst h2; subst h3; rfl
def firstLoop : Code → Code
  | .seq a b => match firstLoop a with
    | .skip => firstLoop b
    | c => c
  | .block _ c => firstLoop c
  | .loop c => c
  | _ => .skip
def bodyOf (P : Program) (f : FuncId) : Code := match P.funcs[f]? with
  | some fn => match fn.body with
    | some c => c
    | none => .skip
  | none => .skip
def slotsOf (P : Program) (f : FuncId) : Nat := match P.funcs[f]? with
  | some fn => fn.ntmps
  | none => 0
/-- A call by its body's run. -/
theorem call_run {n : Nat} {f : FuncId} {args : List SV} {st : St R} (hp : (lib.prim f args).isNone = true) {v : Res R (Ex × Env)}
    (hr : runX P lib n (slotsOf P f) (bodyOf P f) (args.zipIdx.map fun p => (p.2, p.1)) st = v) : callX P lib n f args st = callF P lib (fun _ _ _ _ => v) f args st := by
  subst hr
  cases h1 : lib.prim f args with
  | some m => rw [h1] at hp; cases hp
  | none =>
    cases h2 : P.funcs[f]? with
    | none => simp only [callX, callF, h1, h2]
    | some fn =>
      cases h3 : fn.body with
      | none => simp only [callX, callF, h1, h2, h3]
      | some c =>
        have e1 : bodyOf P f = c := by simp only [bodyOf, h2, h3]
        have e2 : slotsOf P f = fn.ntmps := by simp only [slotsOf, h2]
        simp only [callX, callF, h1, h2, h3, e1, e2, stNow, M.bind]
        cases hw : Nat.ble args.length fn.ntmps <;> rfl
end Go.Proofs.Ytdjogfofedbohaa
end
section
/- Paths of a body, and a call by its body's rule. Condition: the program follows the looser reading of Go's order. -/
namespace Go.Proofs.Ytdjogfofedbohaa

section
variable {R : Type}
/-- A path: where it comes to, in names anew; and its tests. -/
def pathX (P : Program) (lib : Lib R) (n sz k j : Nat) (pins vars : List Nat) (g : Goer) (fs : List Fr) (s : Sym R) (o : List (Option Bool)) : Option (Goer × List Fr × Sym R × List (Bool × Bool)) := match stepC P lib n sz k j g fs s.e ⟨s.hp, s.nx, [], [], [], o⟩ with
  | .ok r st => match canonX pins vars ⟨r.env, st.hp, st.nx⟩ with
    | some s' => some (r.next.1, r.next.2, s', st.ask)
    | none => none
  | .no _ _ => none
variable {A : RepAt R} {P : Program} {lib : Lib R} {n sz pin k j : Nat} {g g' : Goer} {fs fs' : List Fr} {s s' : Sym R} {Q : Ex → Sym R → Prop}
theorem Tri.path (hm : P.follows .mixedOrders = true) (hl : LibOK A P lib) {vars : List Nat} {o : List (Option Bool)} {asks : List (Bool × Bool)} (h : pathX P lib n sz k j (List.range pin) vars g fs s o = some (g', fs', s', asks)) (ha : AllAsk asks) (hpin : pin ≤ s.nx)
    (ht : Tri A P sz pin g' fs' s' Q) : Tri A P sz pin g fs s Q := by
  unfold pathX at h
  split at h
  · next r st hr =>
    split at h
    · next s1 hs =>
      simp only [Option.some.injEq, Prod.mk.injEq] at h
      obtain ⟨rfl, rfl, rfl, rfl⟩ := h
      exact Tri.run hm hl hr ha.all hpin (Tri.view (canon_view hs) ht)
    · cases h
  · cases h

/-- The loops of a body, each with what stands round it; those within loops are left out. -/
def loopsC : Code → List Fr → List (Code × List Fr)
  | .seq a b, fs => loopsC a (.sq b :: fs) ++ loopsC b fs
  | .block id c, fs => loopsC c (.bk id :: fs)
  | .cond _ a b, fs => loopsC a fs ++ loopsC b fs
  | .loop c, fs => [(c, fs)]
  | _, _ => []
def lpAt (l : List (Code × List Fr)) (i : Nat) : Code × List Fr := match l[i]? with
  | some x => x
  | none => (.skip, [])
def loopOf (P : Program) (f : FuncId) (i : Nat) : Code × List Fr := lpAt (loopsC (bodyOf P f) []) i
def loopIn (p : Code × List Fr) (i : Nat) : Code × List Fr := lpAt (loopsC p.1 []) i

/-- What a body's end hands back. -/
def Ends (P : Program) (fn : Func) (T : List SV → Sym R → Prop) (x : Ex) (s : Sym R) : Prop := (x = .ret ∨ x = .nor) ∧ ∃ l st, resX P s.e fn.results.toList (⟨s.hp, s.nx, [], [], [], []⟩ : St R) = .ok l st ∧ T l s
theorem Ends.one {P : Program} {fn : Func} {x : Ex} {s : Sym R} {t : Nat} {v : SV} (hr : fn.results.toList = [.tmp t]) (hx : x = .ret ∨ x = .nor) (he : elook t s.e = some v) : Ends P fn (fun l _ => l = [v]) x s := by
  refine ⟨hx, [v], ⟨s.hp, s.nx, [], [], [], []⟩, ?_, rfl⟩
  rw [hr]
  simp only [resX, M.bind, M.opt, he, M.ret]
def argsE (args : List SV) : Env := args.zipIdx.map fun p => (p.2, p.1)
theorem argsE_den {ρ : Names} {args : List SV} {vals : List Value} (h : denL ρ args = some vals) (m : Nat) : EnvR ρ (argsE args) { tmps := vals.toArray ++ Array.replicate m undef, defers := [] } := fun t s hs => by
  obtain ⟨_, h9⟩ := elook_zip hs
  rw [Nat.sub_zero] at h9
  obtain ⟨x, g1, g2⟩ := denL_get h h9
  refine ⟨x, ?_, g1⟩
  rw [Array.getElem?_append_left (by rw [List.size_toArray]; exact lt_of_some g2), List.getElem?_toArray]
  exact g2

theorem Tri.calls {f : FuncId} {fn : Func} {c : Code} (hf : P.funcs[f]? = some fn) (hb : fn.body = some c) {args : List SV} {hp : List (Nat × Chunk R)} {nx : Nat} {T : List SV → Sym R → Prop} (hle : args.length ≤ fn.ntmps)
    (h : Tri A P fn.ntmps pin (.go c) [] ⟨argsE args, hp, nx⟩ (Ends P fn T)) {B : Nat} {ρ : Names} {own : Nat → List Nat} {w : World} (hs : Stand A P B ⟨argsE args, hp, nx⟩ ρ own w) {vals : List Value} (hv : denL ρ args = some vals) :
    Calls P f vals.toArray w fun e w' => ∃ y l s' ρ' own', e = .returned y ∧ den ρ' (oneOf l) = some y ∧ T l s' ∧ Stand A P B s' ρ' own' w' ∧ Way hp own w s'.hp own' w' ∧ ∀ n, n < pin → ρ' n = ρ n := by
  have hlen := denL_length hv
  refine calls_of_wp hf hb ?_
  refine h B ρ own w _ hs (argsE_den hv _) (by simp; omega) _ (fun x s' ρ' own' w' a' ⟨hx, l, st, hres, ht⟩ hs' he hz hd hw hpp => ?_)
  obtain ⟨q, hr⟩ := res_s (A := A) (sz := fn.ntmps) hres
  obtain ⟨vs, g1, g2⟩ := hr B (fun _ => True) ρ' own' w' a' hs'.li (fun _ _ => trivial) he hz
  have hr : (results fn a'.tmps).run P w' = .ok (if h : vs.length = 1 then vs[0] else .tuple vs.toArray) w' := by
    have e : results fn a'.tmps = (do
        let vs ← fn.results.mapM (resOp a'.tmps)
        pure (if h : vs.size = 1 then vs[0] else .tuple vs)) := rfl
    rw [e, Array.mapM_eq_mapM_toList]
    simp only [Sem.run_bind, Sem.run_map, g2, Result.andThen_ok, Sem.run_pure]
    congr 1
  have hone : den ρ' (oneOf l) = some (if h : vs.length = 1 then vs[0] else .tuple vs.toArray) := by
    have hl := denL_length g1
    cases l with
    | nil =>
      simp only [denL, Option.some.injEq] at g1
      subst g1
      rfl
    | cons x l =>
      obtain ⟨y, ys, g3, g4, rfl⟩ := denL_cons.1 g1
      cases l with
      | nil =>
        simp only [denL, Option.some.injEq] at g4
        subst g4
        simpa [oneOf] using g3
      | cons z l =>
        simp only [List.length_cons] at hl
        rw [dif_neg (by simp only [List.length_cons]; omega)]
        simp only [oneOf, den, g1, Option.map_some]
  have hpost : ∃ v, (results fn a'.tmps).run P w' = .ok v w' ∧ ∃ y l s' ρ' own', Ending.returned v = .returned y ∧ den ρ' (oneOf l) = some y ∧ T l s' ∧ Stand A P B s' ρ' own' w' ∧ Way hp own w s'.hp own' w' ∧ ∀ n, n < pin → ρ' n = ρ n := ⟨_, hr, _, l, s', ρ', own', rfl, hone, ht, hs', hw, hpp⟩
  rcases hx with rfl | rfl
  · exact ⟨hd, hpost⟩
  · exact ⟨hd, hpost⟩

/-- A law's call: it answers true, and what was there is as it was. -/
theorem Tri.law {f : FuncId} {fn : Func} {c : Code} (hf : P.funcs[f]? = some fn) (hb : fn.body = some c) {args : List SV} {hp : List (Nat × Chunk R)} {nx : Nat} (hle : Nat.ble args.length fn.ntmps = true)
    (h : Tri A P fn.ntmps 0 (.go c) [] ⟨argsE args, hp, nx⟩ (Ends P fn fun l _ => l = [.v (.bool true)])) {ρ : Names} {own : Nat → List Nat} {w : World} (hs : Stand A P w.heap.size ⟨argsE args, hp, nx⟩ ρ own w) {vals : List Value} (hv : denL ρ args = some vals) :
    Calls P f vals.toArray w fun e w' => e = .returned (.bool true) ∧ Mod [] w w' := by
  refine (Tri.calls hf hb (Nat.le_of_ble_eq_true hle) h hs hv).mono fun e w' ⟨y, l, s', ρ', own', he, hy, hl, _, hw, _⟩ => ?_
  subst hl
  simp only [oneOf, den, Option.some.injEq] at hy
  subst hy
  refine ⟨he, hw.mod.mod fun b hb ⟨n, d, hd, hn⟩ => ?_⟩
  have := (hs.li.low n d trivial hd b hn).1
  omega
end
end Go.Proofs.Ytdjogfofedbohaa
end
section
/- A known row seen as a row of open number; nil seen as such a row. No condition. -/
namespace Go.Proofs.Ytdjogfofedbohaa
open Go.RowKit

mutual
/-- Slices of all of block n are seen as a row's. -/
def absS (sl : Bool) (n : Nat) : SV → Option SV
  | .v x => some (.v x)
  | .ptr m o => some (.ptr m o)
  | .sl m o i k => match Nat.beq m n with
    | true => match sl, o, i with
      | true, 0, 0 => some (.tsl m k)
      | _, _, _ => none
    | false => some (.sl m o i k)
  | .slE m => match Nat.beq m n with
    | true => none
    | false => some (.slE m)
  | .tptr m i j => match Nat.beq m n with
    | true => none
    | false => some (.tptr m i j)
  | .tsl m k => match Nat.beq m n with
    | true => none
    | false => some (.tsl m k)
  | .mp m => some (.mp m)
  | .ifc t x => (absS sl n x).map fun y => .ifc t y
  | .agg r => (absL sl n r).map fun r => .agg r
  | .tup r => (absL sl n r).map fun r => .tup r
  | .clo f a b => match absL sl n a, absL sl n b with
    | some a, some b => some (.clo f a b)
    | _, _ => none
def absL (sl : Bool) (n : Nat) : List SV → Option (List SV)
  | [] => some []
  | x :: r => match absS sl n x, absL sl n r with
    | some x, some r => some (x :: r)
    | _, _ => none
end
def absC (sl : Bool) (n : Nat) : Chunk Rep → Option (Chunk Rep)
  | .row l t => (absL sl n l).map fun l => .row l t
  | .tab _ _ _ => none
  | c => some c
def absHp (sl : Bool) (n : Nat) (c0 : Chunk Rep) : List (Nat × Chunk Rep) → Option (List (Nat × Chunk Rep))
  | [] => some []
  | (m, c) :: r => match Nat.beq m n with
    | true => (absHp sl n c0 r).map fun r => (m, c0) :: r
    | false => match absC sl n c, absHp sl n c0 r with
      | some c, some r => some ((m, c) :: r)
      | _, _ => none
def absE (sl : Bool) (n : Nat) : Env → Option Env
  | [] => some []
  | (t, s) :: r => match absS sl n s, absE sl n r with
    | some s, some r => some ((t, s) :: r)
    | _, _ => none
inductive Gen where
  | row (n m : Nat) (ks : List CK)
  | arr (n m : Nat) (ks : List CK)
  | nilE (tmp : Nat) (ks : List CK) (t : TypeId)
  | nilC (n j : Nat) (ks : List CK) (t : TypeId)
  | map (n : Nat)
  | junk (n : Nat)
def setAtE (t : Nat) (s : SV) : Env → Env
  | [] => []
  | (u, x) :: r => match Nat.beq t u with
    | true => (u, s) :: r
    | false => (u, x) :: setAtE t s r
def isNil : SV → Bool
  | .v (.slice none 0 0) => true
  | _ => false
def allInt (kd : IntKind) : List Value → Option (List Int)
  | [] => some []
  | .int kd' z :: r => match eqKd kd kd', allInt kd r with
    | true, some l => some (z :: l)
    | _, _ => none
  | _ :: _ => none
def allBool : List Value → Option (List Bool)
  | [] => some []
  | .bool b :: r => (allBool r).map fun l => b :: l
  | _ :: _ => none
def allStr : List Value → Option (List ByteArray)
  | [] => some []
  | .string b :: r => (allStr r).map fun l => b :: l
  | _ :: _ => none
def colOf : CK → List Value → Option Col
  | .int kd, l => (allInt kd l).map fun zs => .int kd fun i => zs.getD i 0
  | .bool, l => (allBool l).map fun bs => .bool fun i => bs.getD i false
  | .str, l => (allStr l).map fun bs => .str fun i => bs.getD i ByteArray.empty
  | .raw, l => some (.raw fun i => l.getD i undef)
def colVals (l : List Value) (m k j : Nat) : List Value := (List.range m).map fun i => l.getD (i * k + j) undef
def colsOf (l : List Value) (m k : Nat) : Nat → List CK → Option (List Col)
  | _, [] => some []
  | j, c :: r => match colOf c (colVals l m k j), colsOf l m k (j + 1) r with
    | some c, some r => some (c :: r)
    | _, _ => none
def nilCol : CK → Col
  | .int kd => .int kd fun _ => 0
  | .bool => .bool fun _ => false
  | .str => .str fun _ => ByteArray.empty
  | .raw => .raw fun _ => undef
def genX (P : Program) (g : Gen) (s : Sym Rep) : Option (Sym Rep) := match g with
  | .row n m ks => match hget n s.hp with
    | some (.row l t) => match plainL l with
      | some vs => match Nat.beq vs.length (m * ks.length) && Nat.beq (P.cellsOf t) ks.length && vs.all Value.oneCell' && !Nat.beq ks.length 0, colsOf vs m ks.length 0 ks with
        | true, some cs => match absE true n s.e, absHp true n (.rep (.vec cs m t)) s.hp with
          | some e, some hp => some ⟨e, hp, s.nx⟩
          | _, _ => none
        | _, _ => none
      | none => none
    | _ => none
  | .arr n m ks => match hget n s.hp with
    | some (.row l t) => match plainL l with
      | some vs => match Nat.beq vs.length (m * ks.length) && vs.all Value.oneCell' && !Nat.beq ks.length 0, colsOf vs m ks.length 0 ks with
        | true, some cs => match absE false n s.e, absHp false n (.rep (.vec cs m t)) s.hp with
          | some e, some hp => some ⟨e, hp, s.nx⟩
          | _, _ => none
        | _, _ => none
      | none => none
    | _ => none
  | .nilE tmp ks t => match elook tmp s.e with
    | some x => match isNil x with
      | true => some ⟨setAtE tmp (.tsl s.nx 0) s.e, (s.nx, .rep (.vec (ks.map nilCol) 0 t)) :: s.hp, s.nx + 1⟩
      | false => none
    | none => none
  | .nilC n j ks t => match hget n s.hp with
    | some (.row l t0) => match l[j]? with
      | some x => match isNil x with
        | true => some ⟨s.e, (s.nx, .rep (.vec (ks.map nilCol) 0 t)) :: hset n (.row (splice l j [.tsl s.nx 0]) t0) s.hp, s.nx + 1⟩
        | false => none
      | none => none
    | _ => none
  | .map n => match hget n s.hp with
    | some (.rep (.pmap l g c)) => some ⟨s.e, hset n (.rep (.pmap [] (getL l g) c)) s.hp, s.nx⟩
    | some (.rep (.ucells l g c)) => some ⟨s.e, hset n (.rep (.ucells [] (getL l g) c)) s.hp, s.nx⟩
    | some (.row [.v (.slice none 0 0)] t) => match Nat.beq t tRC && Nat.beq (P.cellsOf tRC) 1 with
      | true => some ⟨s.e, hset n (.rep (.ucells [] zeroG 0)) s.hp, s.nx⟩
      | false => none
    | _ => none
  | .junk n => match hget n s.hp with
    | some _ => some ⟨s.e, hset n (.rep .junk) s.hp, s.nx⟩
    | none => none
def gensX (P : Program) : List Gen → Sym Rep → Option (Sym Rep)
  | [], s => some s
  | g :: r, s => match genX P g s with
    | some s => gensX P r s
    | none => none
/-- Names anew, seen otherwise, and anew. -/
def normX (P : Program) (gens : List Gen) (pins vars : List Nat) (s : Sym Rep) : Option (Sym Rep) := match canonX pins vars s with
  | some s1 => match gens with
    | [] => some s1
    | gens => match gensX P gens s1 with
      | some s2 => canonX pins vars s2
      | none => none
  | none => none

section
variable {P : Program} {ρ : Names} {n : Nat} {e e1 : Spot} {sl : Bool}
mutual
theorem den_abs (he : ρ n = some e) (hb : e1.b = e.b) (ho : e1.off = e.off) (hc : sl = true → e1.cap = e.cap) (had : sl = true → e1.ad = some ⟨e.b, e.off, none⟩) : ∀ (s s' : SV) (x : Value), absS sl n s = some s' → den ρ s = some x → den (ρ.put n e1) s' = some x
  | .v _, s', x, h, hx => by
    simp only [absS, Option.some.injEq] at h
    subst h
    exact hx
  | .ptr m o, s', x, h, hx => by
    simp only [absS, Option.some.injEq] at h
    subst h
    by_cases hm : m = n
    · subst hm
      simp only [den, Names.put_same, he, Option.map_some, hb, ho] at hx ⊢
      exact hx
    · simpa only [den, Names.put_other hm] using hx
  | .mp m, s', x, h, hx => by
    simp only [absS, Option.some.injEq] at h
    subst h
    by_cases hm : m = n
    · subst hm
      simp only [den, Names.put_same, he, Option.map_some, hb] at hx ⊢
      exact hx
    · simpa only [den, Names.put_other hm] using hx
  | .sl m o i k, s', x, h, hx => by
    simp only [absS] at h
    cases hq : Nat.beq m n with
    | true =>
      rw [hq] at h
      have hm := Nat.eq_of_beq_eq_true hq
      subst hm
      simp only at h
      split at h <;> cases h
      simp only [den, Names.put_same, he, Option.map_some, hc rfl, had rfl, Nat.add_zero, Nat.sub_zero] at hx ⊢
      exact hx
    | false =>
      rw [hq] at h
      injection h with h
      subst h
      simpa only [den, Names.put_other (Nat.ne_of_beq_eq_false hq)] using hx
  | .slE m, s', x, h, hx => by
    simp only [absS] at h
    cases hq : Nat.beq m n with
    | true => rw [hq] at h; cases h
    | false =>
      rw [hq] at h
      injection h with h
      subst h
      simpa only [den, Names.put_other (Nat.ne_of_beq_eq_false hq)] using hx
  | .tptr m i j, s', x, h, hx => by
    simp only [absS] at h
    cases hq : Nat.beq m n with
    | true => rw [hq] at h; cases h
    | false =>
      rw [hq] at h
      injection h with h
      subst h
      simpa only [den, Names.put_other (Nat.ne_of_beq_eq_false hq)] using hx
  | .tsl m k, s', x, h, hx => by
    simp only [absS] at h
    cases hq : Nat.beq m n with
    | true => rw [hq] at h; cases h
    | false =>
      rw [hq] at h
      injection h with h
      subst h
      simpa only [den, Names.put_other (Nat.ne_of_beq_eq_false hq)] using hx
  | .ifc t y, s', x, h, hx => by
    simp only [absS, Option.map_eq_some_iff] at h
    obtain ⟨y', hy, rfl⟩ := h
    simp only [den, Option.map_eq_some_iff] at hx ⊢
    obtain ⟨z, hz, hx⟩ := hx
    exact ⟨z, den_abs he hb ho hc had y y' z hy hz, hx⟩
  | .agg r, s', x, h, hx => by
    simp only [absS, Option.map_eq_some_iff] at h
    obtain ⟨y', hy, rfl⟩ := h
    simp only [den, Option.map_eq_some_iff] at hx ⊢
    obtain ⟨z, hz, hx⟩ := hx
    exact ⟨z, denL_abs he hb ho hc had r y' z hy hz, hx⟩
  | .tup r, s', x, h, hx => by
    simp only [absS, Option.map_eq_some_iff] at h
    obtain ⟨y', hy, rfl⟩ := h
    simp only [den, Option.map_eq_some_iff] at hx ⊢
    obtain ⟨z, hz, hx⟩ := hx
    exact ⟨z, denL_abs he hb ho hc had r y' z hy hz, hx⟩
  | .clo f a b, s', x, h, hx => by
    simp only [absS] at h
    split at h <;> cases h
    next a' b' ha hb' =>
    simp only [den] at hx ⊢
    split at hx <;> try cases hx
    next va vb h1 h2 =>
    rw [denL_abs he hb ho hc had a a' va ha h1, denL_abs he hb ho hc had b b' vb hb' h2]
theorem denL_abs (he : ρ n = some e) (hb : e1.b = e.b) (ho : e1.off = e.off) (hc : sl = true → e1.cap = e.cap) (had : sl = true → e1.ad = some ⟨e.b, e.off, none⟩) : ∀ (s s' : List SV) (x : List Value), absL sl n s = some s' → denL ρ s = some x → denL (ρ.put n e1) s' = some x
  | [], s', x, h, hx => by
    simp only [absL, Option.some.injEq] at h
    subst h
    exact hx
  | y :: r, s', x, h, hx => by
    simp only [absL] at h
    split at h <;> cases h
    next y' r' hy hr =>
    obtain ⟨a, b, h1, h2, rfl⟩ := denL_cons.1 hx
    exact denL_cons.2 ⟨a, b, den_abs he hb ho hc had y y' a hy h1, denL_abs he hb ho hc had r r' b hr h2, rfl⟩
end
theorem absHp_get {c0 : Chunk Rep} : ∀ {hp hp' : List (Nat × Chunk Rep)}, absHp sl n c0 hp = some hp' → ∀ m, (m = n → hget m hp' = (hget m hp).map fun _ => c0) ∧ (m ≠ n → ∀ c', hget m hp' = some c' → ∃ c, hget m hp = some c ∧ absC sl n c = some c') ∧ (hget m hp = none → hget m hp' = none)
  | [], hp', h, m => by
    simp only [absHp, Option.some.injEq] at h
    subst h
    exact ⟨fun _ => rfl, (fun _ c' hc => by cases hc), fun _ => rfl⟩
  | (k, c) :: r, hp', h, m => by
    simp only [absHp] at h
    cases hq : Nat.beq k n with
    | true =>
      rw [hq] at h
      simp only [Option.map_eq_some_iff] at h
      obtain ⟨r', hr, rfl⟩ := h
      have ih := absHp_get hr m
      have hk := Nat.eq_of_beq_eq_true hq
      subst hk
      simp only [hget_cons]
      refine ⟨fun hm => by subst hm; simp, fun hm c' hc' => ?_, fun hn => ?_⟩
      · rw [if_neg hm] at hc' ⊢
        exact ih.2.1 hm c' hc'
      · split at hn
        · cases hn
        · next hm => rw [if_neg hm]; exact ih.2.2 hn
    | false =>
      rw [hq] at h
      simp only at h
      split at h <;> cases h
      next c1 r' hc hr =>
      have ih := absHp_get hr m
      have hk := Nat.ne_of_beq_eq_false hq
      simp only [hget_cons]
      refine ⟨fun hm => ?_, fun hm c' hc' => ?_, fun hn => ?_⟩
      · subst hm
        rw [if_neg (Ne.symm hk), if_neg (Ne.symm hk)]
        exact ih.1 rfl
      · split at hc'
        · next hmk =>
          injection hc' with hc'
          subst hc'
          subst hmk
          exact ⟨c, by simp, hc⟩
        · next hmk =>
          rw [if_neg hmk]
          exact ih.2.1 hm c' hc'
      · split at hn
        · cases hn
        · next hm => rw [if_neg hm]; exact ih.2.2 hn
theorem absE_get : ∀ {en en' : Env}, absE sl n en = some en' → ∀ {t : Nat} {s : SV}, elook t en' = some s → ∃ s0, elook t en = some s0 ∧ absS sl n s0 = some s
  | [], en', h, t, s, hs => by
    simp only [absE, Option.some.injEq] at h
    subst h
    cases hs
  | (u, x) :: r, en', h, t, s, hs => by
    simp only [absE] at h
    split at h <;> cases h
    next x' r' hx hr =>
    rw [elook_cons] at hs ⊢
    split at hs
    · next htu =>
      injection hs with hs
      subst hs
      rw [if_pos htu]
      exact ⟨x, rfl, hx⟩
    · next htu =>
      rw [if_neg htu]
      exact absE_get hr hs

/-- Block n is seen otherwise. -/
theorem abs_view {pin : Nat} {s : Sym Rep} {l : List SV} {t : TypeId} {c0 : Chunk Rep} {en : Env} {hp : List (Nat × Chunk Rep)} (hn : hget n s.hp = some (.row l t)) (hpin : pin ≤ n) (hE : absE sl n s.e = some en) (hH : absHp sl n c0 s.hp = some hp)
    (hview : ∀ B (ρ : Names) own w e, ρ n = some e → CAt repAt P ρ B e own (.row l t) w → ∃ e1 : Spot, e1.b = e.b ∧ e1.off = e.off ∧ (sl = true → e1.cap = e.cap) ∧ (sl = true → e1.ad = some ⟨e.b, e.off, none⟩) ∧ CAt repAt P (ρ.put n e1) B e1 own c0 w) : View repAt P pin s ⟨en, hp, s.nx⟩ := by
  intro B ρ own w hs
  obtain ⟨e, he, hat⟩ := hs.li.at_ n _ trivial hn
  obtain ⟨e1, h1, h2, h3, h4, h5⟩ := hview B ρ (own n) w e he hat
  have hlt : n < s.nx := by
    rcases Nat.lt_or_ge n s.nx with h | h
    · exact h
    · rw [hs.top n h] at hn; cases hn
  have back : ∀ m c', hget m hp = some c' → ∃ c, hget m s.hp = some c := fun m c' hc' => by
    cases hx : hget m s.hp with
    | some c => exact ⟨c, rfl⟩
    | none => rw [(absHp_get hH m).2.2 hx] at hc'; cases hc'
  refine ⟨ρ.put n e1, own, ⟨⟨fun m c' _ hc' => ?_, fun m k c d _ _ hne hc hd => ?_, fun m c _ hc => ?_⟩, fun m hm => ?_, fun m hm => ?_, hs.base⟩, fun a ha u v hu => ?_, fun m c hc b hb => ?_, fun m hm => Names.put_other (by omega)⟩
  · by_cases hm : m = n
    · subst hm
      rw [(absHp_get hH m).1 rfl, hn] at hc'
      injection hc' with hc'
      subst hc'
      exact ⟨e1, Names.put_same, h5⟩
    · obtain ⟨c, hc, hcc⟩ := (absHp_get hH m).2.1 hm c' hc'
      obtain ⟨e2, g1, g2⟩ := hs.li.at_ m c trivial hc
      refine ⟨e2, by rw [Names.put_other hm]; exact g1, ?_⟩
      cases c with
      | row l' t' =>
        simp only [absC, Option.map_eq_some_iff] at hcc
        obtain ⟨l2, q1, rfl⟩ := hcc
        obtain ⟨q2, cs, vs, q3, q4, q5⟩ := g2
        exact ⟨q2, cs, vs, q3, denL_abs he h1 h2 h3 h4 _ _ _ q1 q4, q5⟩
      | tab f len t => cases hcc
      | emp => injection hcc with hcc; subst hcc; exact g2
      | rep r => injection hcc with hcc; subst hcc; exact g2
  · obtain ⟨c1, hc1⟩ := back m c hc
    obtain ⟨d1, hd1⟩ := back k d hd
    exact hs.li.dis m k c1 d1 trivial trivial hne hc1 hd1
  · obtain ⟨c1, hc1⟩ := back m c hc
    exact hs.li.low m c1 trivial hc1
  · exact (absHp_get hH m).2.2 (hs.top m hm)
  · simp only at hm
    rw [Names.put_other (by omega)]
    exact hs.fresh m hm
  · obtain ⟨s0, q1, q2⟩ := absE_get hE hu
    obtain ⟨x, q3, q4⟩ := ha u s0 q1
    exact ⟨x, q3, den_abs he h1 h2 h3 h4 s0 v x q2 q4⟩
  · obtain ⟨c1, hc1⟩ := back m c hc
    exact ⟨m, c1, hc1, hb⟩

theorem nil_of {x : SV} (h : isNil x = true) : x = .v (.slice none 0 0) := by
  unfold isNil at h
  split at h
  · rfl
  · cases h
theorem setAtE_get {t : Nat} {x : SV} : ∀ {en : Env} {u : Nat} {s : SV}, elook u (setAtE t x en) = some s → elook u en = some s ∨ (u = t ∧ s = x)
  | [], u, s, h => .inl h
  | (k, y) :: r, u, s, h => by
    simp only [setAtE] at h
    cases hb : Nat.beq t k with
    | true =>
      rw [hb] at h
      have htk := Nat.eq_of_beq_eq_true hb
      subst htk
      rw [elook_cons] at h ⊢
      split at h
      · next hu => injection h with h; exact .inr ⟨hu, h.symm⟩
      · next hu => rw [if_neg hu]; exact .inl h
    | false =>
      rw [hb] at h
      rw [elook_cons] at h ⊢
      split at h
      · next hu => rw [if_pos hu]; exact .inl h
      · next hu => rw [if_neg hu]; exact setAtE_get h
/-- A name more, for nil. -/
theorem nil_stand {s : Sym Rep} {B : Nat} {cs : List Col} {t : TypeId} {own : Nat → List Nat} {w : World} (hs : Stand repAt P B s ρ own w) : Stand repAt P B ⟨s.e, (s.nx, .rep (.vec cs 0 t)) :: s.hp, s.nx + 1⟩ (ρ.put s.nx ⟨0, 0, 0, cs.length, 0, none⟩) (ownPut own s.nx []) w ∧ ρ.le (ρ.put s.nx ⟨0, 0, 0, cs.length, 0, none⟩) := by
  have hle : ρ.le (ρ.put s.nx ⟨0, 0, 0, cs.length, 0, none⟩) := Names.put_le (hs.fresh _ (Nat.le_refl _))
  have hlt : ∀ m c, hget m s.hp = some c → m ≠ s.nx := fun m c hc e => by rw [e, hs.top _ (Nat.le_refl _)] at hc; cases hc
  refine ⟨⟨⟨fun m c _ hc => ?_, fun m k' c d _ _ hne hc hd b hb => ?_, fun m c _ hc b hb => ?_⟩, fun m hm => ?_, fun m hm => ?_, hs.base⟩, hle⟩
  · simp only [hget_cons] at hc
    split at hc
    · next e =>
      subst e
      injection hc with hc
      subst hc
      refine ⟨_, Names.put_same, ?_⟩
      rw [ownPut_same]
      exact (⟨rfl, rfl, Nat.le_refl _, (fun i hi => by omega), rfl, rfl⟩ : VecAt (colsF cs) 0 t cs.length ⟨0, 0, 0, cs.length, 0, none⟩ [] w)
    · next e =>
      obtain ⟨e2, g1, g2⟩ := hs.li.at_ m c trivial hc
      refine ⟨e2, hle _ _ g1, ?_⟩
      rw [ownPut_other e]
      exact g2.stable hle (ModP.refl (fun _ => False) w) (fun _ _ h => h) (fun _ h => h.elim)
  · simp only [hget_cons] at hc hd
    split at hc
    · next e => subst e; rw [ownPut_same] at hb; cases hb
    · next e =>
      split at hd
      · next e2 => subst e2; rw [ownPut_same]; simp
      · next e2 =>
        rw [ownPut_other e] at hb
        rw [ownPut_other e2]
        exact hs.li.dis m k' c d trivial trivial hne hc hd b hb
  · simp only [hget_cons] at hc
    split at hc
    · next e => subst e; rw [ownPut_same] at hb; cases hb
    · next e =>
      rw [ownPut_other e] at hb
      exact hs.li.low m c trivial hc b hb
  · simp only at hm
    rw [hget_cons, if_neg (by omega)]
    exact hs.top m (by omega)
  · simp only at hm
    rw [Names.put_other (by omega)]
    exact hs.fresh m (by omega)
/-- A piece is seen as something else. -/
theorem swap_view {pin n : Nat} {s : Sym Rep} {c0 c1 : Chunk Rep} (hn : hget n s.hp = some c0) (hc : ∀ B ρ own w e, ρ n = some e → CAt repAt P ρ B e own c0 w → ∃ own', CAt repAt P ρ B e own' c1 w ∧ ∀ x ∈ own', x ∈ own) : View repAt P pin s ⟨s.e, hset n c1 s.hp, s.nx⟩ := by
  intro B ρ own w hs
  have hsame : ∀ m d, hget m (hset n c1 s.hp) = some d → (m = n ∧ d = c1) ∨ (m ≠ n ∧ hget m s.hp = some d) := by
    intro m d hd
    rw [hget_set] at hd
    split at hd
    · next e =>
      rw [hn] at hd
      injection hd with hd
      exact .inl ⟨e, hd.symm⟩
    · next e => exact .inr ⟨e, hd⟩
  have any : ∀ m d, hget m (hset n c1 s.hp) = some d → ∃ d', hget m s.hp = some d' := fun m d hd => by
    rcases hsame m d hd with ⟨rfl, _⟩ | ⟨_, h⟩
    · exact ⟨_, hn⟩
    · exact ⟨_, h⟩
  obtain ⟨e, he, hat⟩ := hs.li.at_ n _ trivial hn
  obtain ⟨own', h1, h2⟩ := hc B ρ (own n) w e he hat
  have sub : ∀ m, ∀ x ∈ ownPut own n own' m, x ∈ own m := fun m x hx => by
    by_cases hm : m = n
    · subst hm
      rw [ownPut_same] at hx
      exact h2 x hx
    · rw [ownPut_other hm] at hx
      exact hx
  refine ⟨ρ, ownPut own n own', ⟨⟨fun m d _ hd => ?_, fun m k' d d' _ _ hne hd hd' b hb hb' => ?_, fun m d _ hd b hb => ?_⟩, fun m hm => ?_, hs.fresh, hs.base⟩, fun _ h => h, fun m d hd b hb => ?_, fun _ _ => rfl⟩
  · rcases hsame m d hd with ⟨rfl, rfl⟩ | ⟨hm, h⟩
    · exact ⟨e, he, by rw [ownPut_same]; exact h1⟩
    · rw [ownPut_other hm]
      exact hs.li.at_ m d trivial h
  · obtain ⟨d1, hd1⟩ := any m d hd
    obtain ⟨d2, hd2⟩ := any k' d' hd'
    exact hs.li.dis m k' d1 d2 trivial trivial hne hd1 hd2 b (sub m b hb) (sub k' b hb')
  · obtain ⟨d1, hd1⟩ := any m d hd
    exact hs.li.low m d1 trivial hd1 b (sub m b hb)
  · cases hq : hget m (hset n c1 s.hp) with
    | none => rfl
    | some d =>
      obtain ⟨d1, hd1⟩ := any m d hq
      rw [hs.top m hm] at hd1
      cases hd1
  · obtain ⟨d1, hd1⟩ := any m d hd
    exact ⟨m, d1, hd1, sub m b hb⟩
/-- A row's elements under another law. -/
theorem vec_view {pin n len : Nat} {t : TypeId} {cs cs' : List Col} {s : Sym Rep} (hn : hget n s.hp = some (.rep (.vec cs len t))) (hl : cs'.length = cs.length) (hf : ∀ i, i < len → colsF cs i = colsF cs' i) : View repAt P pin s ⟨s.e, hset n (.rep (.vec cs' len t)) s.hp, s.nx⟩ :=
  swap_view hn fun B ρ own w e he hat => ⟨own, by
    obtain ⟨h1, h2, h3, h4, h5⟩ := (show VecAt (colsF cs) len t cs.length e own w from hat)
    refine (⟨h1, by rw [hl]; exact h2, h3, fun i hi => by rw [← hf i hi, hl]; exact h4 i hi, ?_⟩ : VecAt (colsF cs') len t cs'.length e own w)
    rw [hl]
    cases ha : e.ad with
    | none => rw [ha] at h5; exact h5
    | some g =>
      rw [ha] at h5
      obtain ⟨g1, g2, cs, g3, g4, g5⟩ := h5
      exact ⟨g1, g2, cs, g3, g4, fun i hi j hj => by rw [← hf i hi]; exact g5 i hi j hj⟩, fun _ h => h⟩
theorem allInt_ok {kd : IntKind} : ∀ {l : List Value} {zs : List Int}, allInt kd l = some zs → l = zs.map (.int kd)
  | [], zs, h => by
    simp only [allInt, Option.some.injEq] at h
    subst h
    rfl
  | v :: r, zs, h => by
    cases v with
    | int kd' z =>
      simp only [allInt] at h
      split at h <;> cases h
      next l hk hl =>
      obtain rfl := eqKd_ok hk
      rw [allInt_ok hl]
      rfl
    | _ => cases h
theorem allBool_ok : ∀ {l : List Value} {bs : List Bool}, allBool l = some bs → l = bs.map .bool
  | [], zs, h => by
    simp only [allBool, Option.some.injEq] at h
    subst h
    rfl
  | v :: r, zs, h => by
    cases v with
    | bool b =>
      simp only [allBool, Option.map_eq_some_iff] at h
      obtain ⟨l, hl, rfl⟩ := h
      rw [allBool_ok hl]
      rfl
    | _ => cases h
theorem allStr_ok : ∀ {l : List Value} {bs : List ByteArray}, allStr l = some bs → l = bs.map .string
  | [], zs, h => by
    simp only [allStr, Option.some.injEq] at h
    subst h
    rfl
  | v :: r, zs, h => by
    cases v with
    | string b =>
      simp only [allStr, Option.map_eq_some_iff] at h
      obtain ⟨l, hl, rfl⟩ := h
      rw [allStr_ok hl]
      rfl
    | _ => cases h
theorem getD_map_lt {α β : Type} {f : α → β} {l : List α} {i : Nat} (hi : i < l.length) (d : α) (d' : β) : (l.map f).getD i d' = f (l.getD i d) := by
  simp [List.getD_eq_getElem?_getD, List.getElem?_map, List.getElem?_eq_getElem hi]
theorem colOf_ok {c : CK} {l : List Value} {r : Col} (h : colOf c l = some r) {i : Nat} (hi : i < l.length) : r.at i = l.getD i undef := by
  cases c with
  | int kd =>
    simp only [colOf, Option.map_eq_some_iff] at h
    obtain ⟨zs, hz, rfl⟩ := h
    rw [allInt_ok hz] at hi ⊢
    rw [List.length_map] at hi
    exact (getD_map_lt hi 0 undef).symm
  | bool =>
    simp only [colOf, Option.map_eq_some_iff] at h
    obtain ⟨zs, hz, rfl⟩ := h
    rw [allBool_ok hz] at hi ⊢
    rw [List.length_map] at hi
    exact (getD_map_lt hi false undef).symm
  | str =>
    simp only [colOf, Option.map_eq_some_iff] at h
    obtain ⟨zs, hz, rfl⟩ := h
    rw [allStr_ok hz] at hi ⊢
    rw [List.length_map] at hi
    exact (getD_map_lt hi ByteArray.empty undef).symm
  | raw =>
    simp only [colOf, Option.some.injEq] at h
    subst h
    rfl
theorem colsOf_ok {l : List Value} {m k : Nat} : ∀ {ks : List CK} {j : Nat} {cs : List Col}, colsOf l m k j ks = some cs → cs.length = ks.length ∧ ∀ i, i < m → colsF cs i = (List.range' j ks.length).map fun j => l.getD (i * k + j) undef
  | [], j, cs, h => by
    injection h with h
    subst h
    exact ⟨rfl, fun i _ => rfl⟩
  | c :: r, j, cs, h => by
    simp only [colsOf] at h
    split at h <;> cases h
    next c1 r1 h1 h2 =>
    obtain ⟨g1, g2⟩ := colsOf_ok h2
    refine ⟨by simp [g1], fun i hi => ?_⟩
    have hlen : i < (colVals l m k j).length := by simp [colVals, hi]
    simp only [colsF, colOf_ok h1 hlen, g2 i hi, List.length_cons, List.range'_succ, List.map_cons]
    congr 1
    simp [colVals, List.getD_eq_getElem?_getD, hi]
theorem colsOf_rows {l : List Value} {m : Nat} {ks : List CK} {cs : List Col} (h : colsOf l m ks.length 0 ks = some cs) (hl : l.length = m * ks.length) {i : Nat} (hi : i < m) : colsF cs i = rowsF ks.length l i := by
  obtain ⟨_, g⟩ := colsOf_ok h
  rw [g i hi]
  have hle : (i + 1) * ks.length ≤ m * ks.length := Nat.mul_le_mul_right _ hi
  rw [Nat.add_mul, Nat.one_mul] at hle
  apply List.ext_getElem?
  intro j
  by_cases hj : j < ks.length
  · rw [rowsF_get hj]
    simp only [List.getElem?_map, List.getElem?_range' hj, Option.map_some, Nat.zero_add, Nat.one_mul]
    rw [List.getD_eq_getElem?_getD, List.getElem?_eq_getElem (by omega)]
    rfl
  · rw [List.getElem?_eq_none (by simp; omega), List.getElem?_eq_none (by simp [rowsF]; omega)]
theorem nilU_at {B : Nat} {e : Spot} {own : List Nat} {w : World} (h1 : P.cellsOf tRC = 1) (h : CAt repAt P ρ B e own (.row [.v (.slice none 0 0)] tRC) w) : UAt (getL [] zeroG) 0 e own w := by
  obtain ⟨rfl, cs, vs, g1, g2, g3, g4, g5⟩ := h
  simp only [denL, den, Option.some.injEq] at g2
  subst g2
  rw [h1, Nat.mul_one] at g4 g5
  exact ⟨fun _ => 0, fun _ => 0, fun _ => 0, fun _ => 0, 0, ⟨0, 0, 0, 4, 0, none⟩, [], rfl, by simp, ⟨cs, g1, g3 0 (by simp), g4, g5⟩, ⟨rfl, rfl, Nat.le_refl _, (fun i hi => absurd hi (Nat.not_lt_zero _)), rfl, rfl⟩, ⟨(fun k hk => absurd hk (Nat.not_lt_zero _)), (fun k hk => absurd hk (Nat.not_lt_zero _)), fun _ _ => rfl, fun j k hj => absurd hj (Nat.not_lt_zero _)⟩, Nat.le_refl _⟩
theorem gen_view {pin : Nat} {g : Gen} {s s' : Sym Rep} (hpin : ∀ n m ks, g = .row n m ks ∨ g = .arr n m ks → pin ≤ n) (hnx : pin ≤ s.nx) (h : genX P g s = some s') : View repAt P pin s s' := by
  unfold genX at h
  split at h
  · next n m ks =>
    split at h <;> try cases h
    next l t hn =>
    split at h <;> try cases h
    next vs hvs =>
    split at h <;> try cases h
    next cs hb hcs =>
    split at h <;> cases h
    next e hp he hhp =>
    simp only [Bool.and_eq_true, Bool.not_eq_true'] at hb
    obtain ⟨⟨⟨hb1, hb2⟩, hb3⟩, hb4⟩ := hb
    have hb1 := Nat.eq_of_beq_eq_true hb1
    have hb2 := Nat.eq_of_beq_eq_true hb2
    have hb3 := List.all_eq_true.1 hb3
    have hb4 := Nat.ne_of_beq_eq_false hb4
    have hlen := (colsOf_ok hcs).1
    refine abs_view hn (hpin n m ks (.inl rfl)) he hhp fun B ρ own w e he hat => ?_
    obtain ⟨h1, ds, us, h2, h3, h4, h5, h6⟩ := hat
    have hus := plainL_den hvs h3
    subst hus
    rw [hb2] at h5 h6
    refine ⟨⟨e.b, e.cap, e.off, ks.length, m, some ⟨e.b, e.off, none⟩⟩, rfl, rfl, fun _ => rfl, fun _ => rfl, ?_⟩
    refine (⟨rfl, hlen.symm, ?_, fun i hi => ?_, rfl, h1, ds, h2, ?_, fun i hi j hj => ?_⟩ : VecAt (colsF cs) m t cs.length ⟨e.b, e.cap, e.off, ks.length, m, some ⟨e.b, e.off, none⟩⟩ own w)
    · rw [hb1] at h5
      exact Nat.le_of_mul_le_mul_right h5 (by omega)
    · rw [colsOf_rows hcs hb1 hi, hlen]
      exact rowsOK hb1 hb3 hi
    · rw [hlen]
      exact h6
    · rw [hlen] at hj ⊢
      have hx : (i + 1) * ks.length ≤ m * ks.length := Nat.mul_le_mul_right _ hi
      rw [Nat.add_mul, Nat.one_mul] at hx
      show ds[e.off + (i * ks.length + j)]? = _
      rw [h4 _ (by omega), colsOf_rows hcs hb1 hi, rowsF_get hj]
  · next n m ks =>
    split at h <;> try cases h
    next l t hn =>
    split at h <;> try cases h
    next vs hvs =>
    split at h <;> try cases h
    next cs hb hcs =>
    split at h <;> cases h
    next e hp he hhp =>
    simp only [Bool.and_eq_true, Bool.not_eq_true'] at hb
    obtain ⟨⟨hb1, hb3⟩, hb4⟩ := hb
    have hb1 := Nat.eq_of_beq_eq_true hb1
    have hb3 := List.all_eq_true.1 hb3
    have hb4 := Nat.ne_of_beq_eq_false hb4
    have hlen := (colsOf_ok hcs).1
    refine abs_view hn (hpin n m ks (.inr rfl)) he hhp fun B ρ own w e he hat => ?_
    obtain ⟨h1, ds, us, h2, h3, h4, h5, h6⟩ := hat
    have hus := plainL_den hvs h3
    subst hus
    refine ⟨⟨e.b, m, e.off, ks.length, m, some ⟨e.b, e.off, none⟩⟩, rfl, rfl, (fun h => by cases h), (fun h => by cases h), ?_⟩
    refine (⟨rfl, hlen.symm, Nat.le_refl _, fun i hi => ?_, rfl, h1, ds, h2, ?_, fun i hi j hj => ?_⟩ : VecAt (colsF cs) m t cs.length ⟨e.b, m, e.off, ks.length, m, some ⟨e.b, e.off, none⟩⟩ own w)
    · rw [colsOf_rows hcs hb1 hi, hlen]
      exact rowsOK hb1 hb3 hi
    · rw [hlen]
      show e.off + m * ks.length ≤ _
      omega
    · rw [hlen] at hj ⊢
      have hx : (i + 1) * ks.length ≤ m * ks.length := Nat.mul_le_mul_right _ hi
      rw [Nat.add_mul, Nat.one_mul] at hx
      show ds[e.off + (i * ks.length + j)]? = _
      rw [h4 _ (by omega), colsOf_rows hcs hb1 hi, rowsF_get hj]
  · next tmp ks t =>
    split at h <;> try cases h
    next x hx =>
    split at h <;> cases h
    next hnil =>
    have hnil := nil_of hnil
    subst hnil
    intro B ρ own w hs
    obtain ⟨h1, hle⟩ := nil_stand (t := t) (cs := ks.map nilCol) hs
    refine ⟨_, _, ⟨h1.li, h1.top, h1.fresh, h1.base⟩, fun a ha u v hu => ?_, fun m c hc b hb => ?_, fun m hm => Names.put_other (by omega)⟩
    · rcases setAtE_get hu with hu | ⟨rfl, rfl⟩
      · obtain ⟨y, q1, q2⟩ := ha u v hu
        exact ⟨y, q1, den_mono hle _ _ q2⟩
      · obtain ⟨y, q1, q2⟩ := ha u _ hx
        refine ⟨y, q1, ?_⟩
        simp only [den, Option.some.injEq, Names.put_same, Option.map_some] at q2 ⊢
        exact q2
    · simp only [hget_cons] at hc
      split at hc
      · next e => subst e; rw [ownPut_same] at hb; cases hb
      · next e => rw [ownPut_other e] at hb; exact ⟨m, c, hc, hb⟩
  · next n j ks t =>
    split at h <;> try cases h
    next l t0 hn =>
    split at h <;> try cases h
    next x hx =>
    split at h <;> cases h
    next hnil =>
    have hnil := nil_of hnil
    subst hnil
    intro B ρ own w hs
    obtain ⟨h1, hle⟩ := nil_stand (t := t) (cs := ks.map nilCol) hs
    have hlt : n ≠ s.nx := fun e => by rw [e, hs.top _ (Nat.le_refl _)] at hn; cases hn
    have hsame : ∀ m c, hget m ((s.nx, (.rep (.vec (ks.map nilCol) 0 t) : Chunk Rep)) :: hset n (.row (splice l j [.tsl s.nx 0]) t0) s.hp) = some c → (m = n ∧ c = .row (splice l j [.tsl s.nx 0]) t0) ∨ (m ≠ n ∧ hget m ((s.nx, (.rep (.vec (ks.map nilCol) 0 t) : Chunk Rep)) :: s.hp) = some c) := by
      intro m c hc
      by_cases hm : m = n
      · subst hm
        rw [hget_cons, if_neg hlt, hget_set, if_pos rfl, hn] at hc
        injection hc with hc
        exact .inl ⟨rfl, hc.symm⟩
      · refine .inr ⟨hm, ?_⟩
        rw [hget_cons] at hc ⊢
        split at hc
        · next e => rw [if_pos e]; exact hc
        · next e =>
          rw [if_neg e]
          rw [hget_set, if_neg hm] at hc
          exact hc
    have hold : hget n ((s.nx, (.rep (.vec (ks.map nilCol) 0 t) : Chunk Rep)) :: s.hp) = some (.row l t0) := by rw [hget_cons, if_neg hlt]; exact hn
    have any : ∀ m c, hget m ((s.nx, (.rep (.vec (ks.map nilCol) 0 t) : Chunk Rep)) :: hset n (.row (splice l j [.tsl s.nx 0]) t0) s.hp) = some c → ∃ d, hget m ((s.nx, (.rep (.vec (ks.map nilCol) 0 t) : Chunk Rep)) :: s.hp) = some d := fun m c hc => by
      rcases hsame m c hc with ⟨rfl, _⟩ | ⟨_, h⟩
      · exact ⟨_, hold⟩
      · exact ⟨_, h⟩
    refine ⟨_, ownPut own s.nx [], ⟨⟨fun m c _ hc => ?_, fun m k' c d _ _ hne hc hd => ?_, fun m c _ hc => ?_⟩, fun m hm => ?_, h1.fresh, h1.base⟩, fun a ha u v hu => ?_, fun m c hc b hb => ?_, fun m hm => Names.put_other (by omega)⟩
    · rcases hsame m c hc with ⟨rfl, rfl⟩ | ⟨hm, hc⟩
      · obtain ⟨e, g1, g2, cs, vs, g3, g4, g5, g6, g7⟩ := h1.li.at_ m _ trivial hold
        refine ⟨e, g1, g2, cs, vs, g3, ?_, g5, g6, g7⟩
        obtain ⟨y, q1, q2⟩ := denL_get g4 hx
        simp only [den, Option.some.injEq] at q1
        subst q1
        have hj := lt_of_some hx
        have hlen := denL_length g4
        have hsp := denL_splice g4 (m := [.tsl s.nx 0]) (us := [.slice none 0 0]) (by simp [denL, den, Names.put_same]) j
        rw [hsp]
        congr 1
        apply List.ext_getElem?
        intro i
        rw [show vs.take j ++ ([Value.slice none 0 0] ++ vs.drop (j + [Value.slice none 0 0].length)) = spliceV vs j [.slice none 0 0] from rfl, spliceV_get (by simp; omega)]
        split
        · rfl
        · split
          · next g8 g9 =>
            simp only [List.length_singleton] at g9
            obtain rfl : i = j := by omega
            simp [q2]
          · rfl
      · exact h1.li.at_ m c trivial hc
    · obtain ⟨c1, hc1⟩ := any m c hc
      obtain ⟨d1, hd1⟩ := any k' d hd
      exact h1.li.dis m k' c1 d1 trivial trivial hne hc1 hd1
    · obtain ⟨c1, hc1⟩ := any m c hc
      exact h1.li.low m c1 trivial hc1
    · cases hq : hget m ((s.nx, (.rep (.vec (ks.map nilCol) 0 t) : Chunk Rep)) :: hset n (.row (splice l j [.tsl s.nx 0]) t0) s.hp) with
      | none => rfl
      | some c =>
        obtain ⟨d, hd⟩ := any m c hq
        rw [h1.top m hm] at hd
        cases hd
    · obtain ⟨y, q1, q2⟩ := ha u v hu
      exact ⟨y, q1, den_mono hle _ _ q2⟩
    · obtain ⟨d, hd⟩ := any m c hc
      rw [hget_cons] at hd
      split at hd
      · next e => subst e; rw [ownPut_same] at hb; cases hb
      · next e => rw [ownPut_other e] at hb; exact ⟨m, d, hd, hb⟩
  · next n =>
    split at h <;> try cases h
    · next l g c hn => exact swap_view hn fun B ρ own w e he hat => ⟨own, hat, fun _ h => h⟩
    · next l g c hn => exact swap_view hn fun B ρ own w e he hat => ⟨own, hat, fun _ h => h⟩
    · next t hn =>
      split at h <;> cases h
      next hb =>
      simp only [Bool.and_eq_true] at hb
      obtain rfl := Nat.eq_of_beq_eq_true hb.1
      exact swap_view hn fun B ρ own w e he hat => ⟨own, nilU_at (Nat.eq_of_beq_eq_true hb.2) hat, fun _ h => h⟩
  · next n =>
    split at h <;> cases h
    next c0 hn =>
    exact swap_view hn fun B ρ own w e he hat => ⟨[], rfl, fun x hx => by cases hx⟩
theorem gens_view {s' : Sym Rep} : ∀ {gs : List Gen} {s : Sym Rep}, gensX P gs s = some s' → View repAt P 0 s s'
  | [], s, h => by
    simp only [gensX, Option.some.injEq] at h
    subst h
    exact View.refl
  | g :: r, s, h => by
    simp only [gensX] at h
    split at h
    · next s1 h1 => exact (gen_view (pin := 0) (fun _ _ _ _ => Nat.zero_le _) (Nat.zero_le _) h1).trans (gens_view h)
    · cases h
theorem norm_view {gs : List Gen} {vars : List Nat} {s s' : Sym Rep} (h : normX P gs [] vars s = some s') : View repAt P 0 s s' := by
  unfold normX at h
  split at h
  · next s1 h1 =>
    have v1 : View repAt P 0 s s1 := canon_view (pin := 0) h1
    split at h
    · injection h with h
      subst h
      exact v1
    · split at h
      · next s2 h2 => exact (v1.trans (gens_view h2)).trans (canon_view (pin := 0) h)
      · cases h
  · cases h
/-- A path: where it comes to, in names anew and seen otherwise; and its tests. -/
def pathG (P : Program) (lib : Lib Rep) (n sz k j : Nat) (cfg : Stop → List Gen × List Nat) (g : Goer) (fs : List Fr) (s : Sym Rep) (o : List (Option Bool)) : Option (Goer × List Fr × Sym Rep × List (Bool × Bool)) := match stepC P lib n sz k j g fs s.e ⟨s.hp, s.nx, [], [], [], o⟩ with
  | .ok r st => match normX P (cfg r).1 [] (cfg r).2 ⟨r.env, st.hp, st.nx⟩ with
    | some s' => some (r.next.1, r.next.2, s', st.ask)
    | none => none
  | .no _ _ => none
theorem Tri.pathG {lib : Lib Rep} {n sz k j : Nat} {g g' : Goer} {fs fs' : List Fr} {s s' : Sym Rep} {Q : Ex → Sym Rep → Prop} (hm : P.follows .mixedOrders = true) (hl : LibOK repAt P lib) {cfg : Stop → List Gen × List Nat} {o : List (Option Bool)} {asks : List (Bool × Bool)}
    (h : pathG P lib n sz k j cfg g fs s o = some (g', fs', s', asks)) (ha : AllAsk asks) (ht : Tri repAt P sz 0 g' fs' s' Q) : Tri repAt P sz 0 g fs s Q := by
  unfold Proofs.Ytdjogfofedbohaa.pathG at h
  split at h
  · next r st hr =>
    split at h
    · next s1 hs =>
      simp only [Option.some.injEq, Prod.mk.injEq] at h
      obtain ⟨rfl, rfl, rfl, rfl⟩ := h
      exact Tri.run hm hl hr ha.all (Nat.zero_le _) (Tri.view (norm_view hs) ht)
    · cases h
  · cases h
/-- The same, the first names kept. -/
def pinsB (pin : Nat) : Gen → Bool
  | .row n _ _ => Nat.ble pin n
  | .arr n _ _ => Nat.ble pin n
  | _ => true
def gensP (P : Program) (pin : Nat) : List Gen → Sym Rep → Option (Sym Rep)
  | [], s => some s
  | g :: r, s => match pinsB pin g && Nat.ble pin s.nx, genX P g s with
    | true, some s => gensP P pin r s
    | _, _ => none
theorem gensP_view {pin : Nat} {s' : Sym Rep} : ∀ {gs : List Gen} {s : Sym Rep}, gensP P pin gs s = some s' → View repAt P pin s s'
  | [], s, h => by
    simp only [gensP, Option.some.injEq] at h
    subst h
    exact View.refl
  | g :: r, s, h => by
    simp only [gensP] at h
    split at h
    · next hb h1 =>
      simp only [Bool.and_eq_true] at hb
      refine (gen_view (pin := pin) (fun n m ks hg => ?_) (Nat.le_of_ble_eq_true hb.2) h1).trans (gensP_view h)
      rcases hg with rfl | rfl <;> exact Nat.le_of_ble_eq_true hb.1
    · cases h
def normP (P : Program) (pin : Nat) (gens : List Gen) (vars : List Nat) (s : Sym Rep) : Option (Sym Rep) := match canonX (List.range pin) vars s with
  | some s1 => match gens with
    | [] => some s1
    | gens => match gensP P pin gens s1 with
      | some s2 => canonX (List.range pin) vars s2
      | none => none
  | none => none
theorem normP_view {pin : Nat} {gs : List Gen} {vars : List Nat} {s s' : Sym Rep} (h : normP P pin gs vars s = some s') : View repAt P pin s s' := by
  unfold normP at h
  split at h
  · next s1 h1 =>
    have v1 : View repAt P pin s s1 := canon_view h1
    split at h
    · injection h with h
      subst h
      exact v1
    · split at h
      · next s2 h2 => exact (v1.trans (gensP_view h2)).trans (canon_view h)
      · cases h
  · cases h
def pathP (P : Program) (lib : Lib Rep) (pin n sz k j : Nat) (cfg : Stop → List Gen × List Nat) (g : Goer) (fs : List Fr) (s : Sym Rep) (o : List (Option Bool)) : Option (Goer × List Fr × Sym Rep × List (Bool × Bool)) := match stepC P lib n sz k j g fs s.e ⟨s.hp, s.nx, [], [], [], o⟩ with
  | .ok r st => match normP P pin (cfg r).1 (cfg r).2 ⟨r.env, st.hp, st.nx⟩ with
    | some s' => some (r.next.1, r.next.2, s', st.ask)
    | none => none
  | .no _ _ => none
theorem Tri.pathP {lib : Lib Rep} {pin n sz k j : Nat} {g g' : Goer} {fs fs' : List Fr} {s s' : Sym Rep} {Q : Ex → Sym Rep → Prop} (hm : P.follows .mixedOrders = true) (hl : LibOK repAt P lib) {cfg : Stop → List Gen × List Nat} {o : List (Option Bool)} {asks : List (Bool × Bool)} (hpin : Nat.ble pin s.nx = true)
    (h : pathP P lib pin n sz k j cfg g fs s o = some (g', fs', s', asks)) (ha : AllAsk asks) (ht : Tri repAt P sz pin g' fs' s' Q) : Tri repAt P sz pin g fs s Q := by
  unfold Proofs.Ytdjogfofedbohaa.pathP at h
  split at h
  · next r st hr =>
    split at h
    · next s1 hs =>
      simp only [Option.some.injEq, Prod.mk.injEq] at h
      obtain ⟨rfl, rfl, rfl, rfl⟩ := h
      exact Tri.run hm hl hr ha.all (Nat.le_of_ble_eq_true hpin) (Tri.view (normP_view hs) ht)
    · cases h
  · cases h
end
end Go.Proofs.Ytdjogfofedbohaa
end
section
/- The executor with maps from places to words. No condition. -/
namespace Go.Proofs.Ytdjogfofedbohaa
theorem own_ : ownKnob Try.prog.godebug = none := by kernel_rfl
theorem laid_ : laidOutB Try.prog = true := by kernel_rfl
theorem mixed : Try.prog.follows .mixedOrders = true := by kernel_rfl
noncomputable def extX (ev : Operand → Option SV) (o : Oper) : Option (M Rep SV) := match extM ev o with
  | some m => some m
  | none => extV Try.prog ev o
theorem ext_ok : ∀ ev o m, extX ev o = some m → ∀ st s st', m st = .ok s st' → OpS repAt Try.prog o ev st st' s := by
  intro ev o m hm
  unfold extX at hm
  split at hm
  · next m' h =>
    injection hm with hm
    subst hm
    exact extM_ok ev o m' h
  · exact extV_ok ev o m hm
noncomputable def lib0 : Lib Rep := ⟨fun _ _ => none, extX, some tidyG⟩
theorem lib0_ok : LibOK repAt Try.prog lib0 := ⟨(fun _ _ _ h => by cases h), ext_ok, fun f h st s k => by injection h with h; subst h; exact tidyG_eq st s k⟩
/-- For calls of which all is known. -/
noncomputable def libT : Lib Rep := ⟨fun _ _ => none, extX, some (tidyF fRep)⟩
theorem libT_ok : LibOK repAt Try.prog libT := ⟨(fun _ _ _ h => by cases h), ext_ok, fun f h st s k => by injection h with h; subst h; exact tidyF_eq fRep_eq st s k⟩
noncomputable abbrev runT : FuncId → List SV → M Rep SV := callX Try.prog libT 10000
theorem runT_ok : CallOK repAt Try.prog runT := callX_s mixed libT_ok 10000
noncomputable abbrev run0 : FuncId → List SV → M Rep SV := callX Try.prog lib0 10000
theorem run0_ok : CallOK repAt Try.prog run0 := callX_s mixed lib0_ok 10000
end Go.Proofs.Ytdjogfofedbohaa
end
section
/- Rows of numbers as functions. No condition. -/
namespace Go.Proofs.Ytdjogfofedbohaa
theorem updI_same {α : Type} {W : Nat → α} {i : Nat} {v : α} : updI W i v i = v := by simp [updI]
theorem updI_other {α : Type} {W : Nat → α} {i j : Nat} {v : α} (h : j ≠ i) : updI W i v j = W j := by simp [updI, h]
theorem joinI_old {α : Type} {W V : Nat → α} {n i : Nat} (h : i < n) : joinI W n V i = W i := by simp [joinI, h]
theorem joinI_new {α : Type} {W V : Nat → α} {n i : Nat} (h : n ≤ i) : joinI W n V i = V (i - n) := by simp [joinI, Nat.not_lt.2 h]
theorem getL_nil {g : Pl → Int} : getL [] g = g := rfl
theorem getL_same {l : List (Pl × Int)} {g : Pl → Int} {p : Pl} {v : Int} : getL ((p, v) :: l) g p = v := by simp [getL]
theorem getL_other {l : List (Pl × Int)} {g : Pl → Int} {p q : Pl} {v : Int} (h : q ≠ p) : getL ((p, v) :: l) g q = getL l g q := by simp [getL, h]
end Go.Proofs.Ytdjogfofedbohaa
end
section
/- Words and their bits: wrapping, masks, shifts, in numbers. No condition. -/
namespace Go.Proofs.Ytdjogfofedbohaa

theorem wrapU {x : Int} (h0 : 0 ≤ x) (h1 : x < 18446744073709551616) : IntKind.u64.wrap x = x := by
  unfold IntKind.wrap
  simp [IntKind.bits, IntKind.signed]
  omega
theorem wrapI {x : Int} (h0 : -9223372036854775808 ≤ x) (h1 : x < 9223372036854775808) : IntKind.i64.wrap x = x := by
  unfold IntKind.wrap
  simp [IntKind.bits, IntKind.signed]
  omega
theorem wrapU_pos (x : Int) : 0 ≤ IntKind.u64.wrap x ∧ IntKind.u64.wrap x < 18446744073709551616 := by
  unfold IntKind.wrap
  simp [IntKind.bits, IntKind.signed]
  omega
theorem wrapU_mod (x : Int) : IntKind.u64.wrap x = x % 18446744073709551616 := by
  unfold IntKind.wrap
  simp [IntKind.bits, IntKind.signed]
theorem fdiv_nat (a b : Nat) : Int.fdiv (a : Int) (b : Int) = ((a / b : Nat) : Int) := by
  rw [Int.fdiv_eq_ediv_of_nonneg _ (by omega)]
  simp
theorem tdiv_nat (a b : Nat) : Int.tdiv (a : Int) (b : Int) = ((a / b : Nat) : Int) := rfl
theorem tmod_nat (a b : Nat) : Int.tmod (a : Int) (b : Int) = ((a % b : Nat) : Int) := rfl
theorem ofInt_nat (n : Nat) : BitVec.ofInt 64 (n : Int) = BitVec.ofNat 64 n := by simp
/-- A number's low bits. -/
theorem and_mask (a k : Nat) (hk : k ≤ 64) : (BitVec.ofNat 64 a &&& BitVec.ofNat 64 (2 ^ k - 1)).toNat = a % 2 ^ k := by
  rw [BitVec.toNat_and, BitVec.toNat_ofNat, BitVec.toNat_ofNat]
  have hp : 2 ^ k ≤ 2 ^ 64 := Nat.pow_le_pow_right (by omega) hk
  have h0 : 0 < 2 ^ k := Nat.two_pow_pos k
  rw [Nat.mod_eq_of_lt (a := 2 ^ k - 1) (by omega), Nat.and_two_pow_sub_one_eq_mod]
  have : 2 ^ 64 = 2 ^ k * 2 ^ (64 - k) := by rw [← Nat.pow_add]; congr 1; omega
  rw [this, Nat.mod_mul_right_mod]
/-- A word's field, as the program takes it: shifted, and masked. -/
def fieldP (w : Int) (sh k : Int) : Int := IntKind.u64.wrap ↑(BitVec.ofInt IntKind.u64.bits (w.fdiv (2 ^ min (IntKind.u64.wrap sh).toNat IntKind.u64.bits)) &&&
  BitVec.ofInt IntKind.u64.bits (Int.fdiv 18446744073709551615 (2 ^ min (IntKind.u64.wrap (IntKind.i64.wrap k)).toNat IntKind.u64.bits))).toNat
theorem fieldP_eq {w : Int} (h0 : 0 ≤ w) (sh k : Nat) (hsh : sh < 64) (hk : k ≤ 64) : fieldP w sh (64 - k : Nat) = w / 2 ^ sh % 2 ^ k := by
  obtain ⟨n, rfl⟩ := Int.eq_ofNat_of_zero_le h0
  unfold fieldP
  rw [wrapU (x := (sh : Int)) (by omega) (by omega), wrapI (x := ((64 - k : Nat) : Int)) (by omega) (by omega), wrapU (x := ((64 - k : Nat) : Int)) (by omega) (by omega)]
  simp only [Int.toNat_natCast]
  have e1 : min sh IntKind.u64.bits = sh := Nat.min_eq_left (by simp [IntKind.bits]; omega)
  have e2 : min (64 - k) IntKind.u64.bits = 64 - k := Nat.min_eq_left (by simp [IntKind.bits])
  rw [e1, e2]
  have e3 : (n : Int).fdiv (2 ^ sh) = ((n / 2 ^ sh : Nat) : Int) := by
    have := fdiv_nat n (2 ^ sh)
    simpa using this
  have e4 : Int.fdiv 18446744073709551615 (2 ^ (64 - k)) = ((2 ^ k - 1 : Nat) : Int) := by
    have h1 := fdiv_nat 18446744073709551615 (2 ^ (64 - k))
    have h2 : 18446744073709551615 / 2 ^ (64 - k) = 2 ^ k - 1 := by
      have h3 : 2 ^ 64 = 2 ^ k * 2 ^ (64 - k) := by rw [← Nat.pow_add]; congr 1; omega
      have h4 : 0 < 2 ^ (64 - k) := Nat.two_pow_pos _
      have h5 : 0 < 2 ^ k := Nat.two_pow_pos _
      have h6 : 18446744073709551615 = (2 ^ k - 1) * 2 ^ (64 - k) + (2 ^ (64 - k) - 1) := by
        rw [Nat.sub_mul, Nat.one_mul, ← h3]
        have : 2 ^ (64 - k) ≤ 2 ^ 64 := Nat.pow_le_pow_right (by omega) (by omega)
        omega
      rw [h6, Nat.mul_comm, Nat.mul_add_div h4, Nat.div_eq_of_lt (by omega)]
      omega
    rw [← h2]
    simpa using h1
  have e5 : (BitVec.ofInt IntKind.u64.bits ((n / 2 ^ sh : Nat) : Int) &&& BitVec.ofInt IntKind.u64.bits ((2 ^ k - 1 : Nat) : Int)).toNat = n / 2 ^ sh % 2 ^ k := by
    show (BitVec.ofInt 64 _ &&& BitVec.ofInt 64 _).toNat = _
    rw [ofInt_nat, ofInt_nat, and_mask _ k hk]
  rw [e3, e4, e5]
  have h6 : n / 2 ^ sh % 2 ^ k < 2 ^ 64 := Nat.lt_of_lt_of_le (Nat.mod_lt _ (Nat.two_pow_pos _)) (Nat.pow_le_pow_right (by omega) hk)
  rw [wrapU (by omega) (by omega)]
  simp
end Go.Proofs.Ytdjogfofedbohaa
end
section
/- Small words of many laws. No condition. -/
namespace Go.Proofs.Ytdjogfofedbohaa
abbrev iv (z : Int) : SV := .v (.int .i64 z)
abbrev uv (z : Int) : SV := .v (.int .u64 z)
theorem beq_flip (a b : Int) : (a == b) = (b == a) := by
  rw [Bool.eq_iff_iff, beq_iff_eq, beq_iff_eq]
  exact eq_comm
theorem beq_turn (a b : Int) : ((a == b) == (b == a)) = true := by
  rw [beq_iff_eq, Bool.eq_iff_iff, beq_iff_eq, beq_iff_eq]
  exact eq_comm
theorem put_ok {z : Int} {n : Nat} {p : Pl} (hp : plWfB p = true) (h0 : 0 < z) (h1 : z < 18446744073709551616) (hn : n < 9223372036854775807) : (plWfB p && (Lit.int IntKind.u64 z).wf && z != 0 && decide (n < maxLen)) = true := by
  simp only [Bool.and_eq_true, bne_iff_ne, decide_eq_true_eq, hp, true_and]
  refine ⟨⟨?_, by omega⟩, by unfold maxLen; omega⟩
  simp [Lit.wf, IntKind.min, IntKind.max, IntKind.signed, IntKind.bits]
  omega
theorem wb_put {z : Int} {n : Nat} {p : Pl} (hp : plWfB p = true) (hw : (Lit.int .u64 z).wf = true) (h0 : (z == 0) = false) (hn : (n : Int) ≤ 1000) : (plWfB p && (Lit.int IntKind.u64 z).wf && z != 0 && decide (n < maxLen)) = true := by
  simp only [Bool.and_eq_true, bne, h0, decide_eq_true_eq, hp, hw, true_and, Bool.not_false]
  unfold maxLen
  omega
theorem wrap_wf (z : Int) : (Lit.int .u64 (IntKind.u64.wrap z)).wf = true := by
  have h := wrapU_pos z
  simp [Lit.wf, IntKind.min, IntKind.max, IntKind.signed, IntKind.bits]
  omega
theorem two_uncons {α β : Type} {R : α → β → Prop} {l : α} {ls : List α} {c : List β} (h : Two R (l :: ls) c) : ∃ a r, c = a :: r ∧ R l a ∧ Two R ls r := by
  cases h with
  | cons h1 h2 => exact ⟨_, _, rfl, h1, h2⟩
theorem two_nil {α β : Type} {R : α → β → Prop} {c : List β} (h : Two R [] c) : c = [] := by
  cases h
  rfl
end Go.Proofs.Ytdjogfofedbohaa
end
section
/- The document's Cells, in rows: the states at the loops' heads of Get and Set. No condition. -/
namespace Go.Proofs.Ytdjogfofedbohaa
noncomputable abbrev ugF : FuncId := 15
noncomputable abbrev usF : FuncId := 29
noncomputable abbrev ugZ : Nat := slotsOf Try.prog ugF
noncomputable abbrev usZ : Nat := slotsOf Try.prog usF
noncomputable def ugL : Code × List Fr := loopOf Try.prog ugF 0
noncomputable def usL : Code × List Fr := loopOf Try.prog usF 0
structure UA where
  A0 : Nat → Int
  A1 : Nat → Int
  A2 : Nat → Int
  W : Nat → Int
  len : Nat
  p0 : Int
  p1 : Int
  p2 : Int
  v : Int
def UA.key (a : UA) (k : Nat) : Pl := (a.A0 k, a.A1 k, a.A2 k)
def UA.p (a : UA) : Pl := (a.p0, a.p1, a.p2)
def ugS (a : UA) (i : Int) : Sym Rep :=
  ⟨[(0, .ptr 0 0), (3, .ptr 1 0), (5, iv i)], [(0, .row [.tsl 2 a.len] tRC), (1, .row [iv a.p0, iv a.p1, iv a.p2] 34), (2, .rep (.vec (oneCols a.A0 a.A1 a.A2 a.W) a.len tOne))], 3⟩
def usS (a : UA) (i : Int) : Sym Rep :=
  ⟨[(2, uv a.v), (4, .ptr 1 0), (0, .ptr 0 0), (6, iv i)], [(0, .row [.tsl 2 a.len] tRC), (1, .row [iv a.p0, iv a.p1, iv a.p2] 34), (2, .rep (.vec (oneCols a.A0 a.A1 a.A2 a.W) a.len tOne))], 3⟩
def ugCfg : Stop → List Gen × List Nat
  | .fin .ret _ => ([], [4])
  | _ => ([], [0, 3, 5])
def usCfg : Stop → List Gen × List Nat
  | .fin .ret _ => ([], [])
  | _ => ([], [2, 4, 0, 6])
def UP (a : UA) (i : Int) : Prop := 0 ≤ i ∧ i ≤ (a.len : Int) ∧ a.len ≤ 1000000 ∧ ∀ k, k < i.toNat → a.key k ≠ a.p
def usCfg1 : Stop → List Gen × List Nat := fun _ => ([], [])
theorem Ends.of {P : Program} {fn : Func} {x : Ex} {s : Sym Rep} {t : Nat} {v : SV} {T : List SV → Sym Rep → Prop} (hr : fn.results.toList = [.tmp t]) (hx : x = .ret ∨ x = .nor) (he : elook t s.e = some v) (hT : T [v] s) : Ends P fn T x s := by
  refine ⟨hx, [v], ⟨s.hp, s.nx, [], [], [], []⟩, ?_, hT⟩
  rw [hr]
  simp only [resX, M.bind, M.opt, he, M.ret]
theorem Ends.none {P : Program} {fn : Func} {x : Ex} {s : Sym Rep} {T : List SV → Sym Rep → Prop} (hr : fn.results.toList = []) (hx : x = .ret ∨ x = .nor) (hT : T [] s) : Ends P fn T x s := by
  refine ⟨hx, [], ⟨s.hp, s.nx, [], [], [], []⟩, ?_, hT⟩
  rw [hr]
  rfl
/-- A Cells, its row's columns told. -/
def cellsHp (A0 A1 A2 W : Nat → Int) (len : Nat) : List (Nat × Chunk Rep) := [(0, .row [.tsl 1 len] tRC), (1, .rep (.vec (oneCols A0 A1 A2 W) len tOne))]
def UA.hit (a : UA) (k : Nat) : Prop := k < a.len ∧ a.key k = a.p
def UA.miss (a : UA) : Prop := ∀ k, k < a.len → a.key k ≠ a.p
def ugT (a : UA) (l : List SV) (s : Sym Rep) : Prop := ∃ x : Int, l = [uv x] ∧ s.hp = cellsHp a.A0 a.A1 a.A2 a.W a.len ∧ ((∃ k, a.hit k ∧ x = a.W k) ∨ a.miss ∧ x = 0)
def usT (a : UA) (l : List SV) (s : Sym Rep) : Prop := l = [] ∧ ((∃ k, a.hit k ∧ s.hp = cellsHp a.A0 a.A1 a.A2 (updI a.W k a.v) a.len) ∨ a.miss ∧ s.hp = cellsHp (joinI a.A0 a.len fun _ => a.p0) (joinI a.A1 a.len fun _ => a.p1) (joinI a.A2 a.len fun _ => a.p2) (joinI a.W a.len fun _ => a.v) (a.len + 1))
abbrev ugQ (a : UA) : Ex → Sym Rep → Prop := Ends Try.prog Try.f15 (ugT a)
abbrev usQ (a : UA) : Ex → Sym Rep → Prop := Ends Try.prog Try.f29 (usT a)
def ugI (a : UA) (r : Nat) (s : Sym Rep) : Prop := ∃ i, s = ugS a i ∧ UP a i ∧ r = a.len - i.toNat
def usI (a : UA) (r : Nat) (s : Sym Rep) : Prop := ∃ i, s = usS a i ∧ UP a i ∧ r = a.len - i.toNat
abbrev ugR (a : UA) (k : Nat) (x : Ex) (s : Sym Rep) : Prop := match x with
  | .nor => ∃ k', k' < k ∧ ugI a k' s
  | x => Tri repAt Try.prog ugZ 1 (.out x) ugL.2 s (ugQ a)
abbrev usR (a : UA) (k : Nat) (x : Ex) (s : Sym Rep) : Prop := match x with
  | .nor => ∃ k', k' < k ∧ usI a k' s
  | x => Tri repAt Try.prog usZ 1 (.out x) usL.2 s (usQ a)
theorem ug_next (a : UA) (i : Int) {r : Nat} (hP : UP a i) (hk : a.len - i.toNat < r) : Tri repAt Try.prog ugZ 1 (.out .nor) [] (ugS a i) (ugR a r) := Tri.fin ⟨_, hk, i, rfl, hP, rfl⟩
theorem us_next (a : UA) (i : Int) {r : Nat} (hP : UP a i) (hk : a.len - i.toNat < r) : Tri repAt Try.prog usZ 1 (.out .nor) [] (usS a i) (usR a r) := Tri.fin ⟨_, hk, i, rfl, hP, rfl⟩
theorem up_step {a : UA} {i : Int} (hP : UP a i) (h0 : decide (i < (a.len : Int)) = true) (h : (a.A0 i.toNat == a.p0 && (a.A1 i.toNat == a.p1 && (a.A2 i.toNat == a.p2 && true))) = false) : UP a (IntKind.i64.wrap (i + 1)) := by
  obtain ⟨i0, i1, hl, hk⟩ := hP
  have hlt := of_decide_eq_true h0
  rw [wrapI (by omega) (by omega)]
  refine ⟨by omega, by omega, hl, fun k hkk => ?_⟩
  by_cases e : k = i.toNat
  · subst e
    intro e
    simp only [UA.key, UA.p, Prod.mk.injEq] at e
    rw [e.1, e.2.1, e.2.2] at h
    simp at h
  · exact hk k (by omega)
theorem up_less {a : UA} {i : Int} (hP : UP a i) (h0 : decide (i < (a.len : Int)) = true) : a.len - (IntKind.i64.wrap (i + 1)).toNat < a.len - i.toNat := by
  obtain ⟨i0, i1, hl, hk⟩ := hP
  have hlt := of_decide_eq_true h0
  rw [wrapI (by omega) (by omega)]
  omega
theorem up_hit {a : UA} {i : Int} (hP : UP a i) (h0 : decide (i < (a.len : Int)) = true) (h : (a.A0 i.toNat == a.p0 && (a.A1 i.toNat == a.p1 && (a.A2 i.toNat == a.p2 && true))) = true) : a.hit i.toNat := by
  obtain ⟨i0, i1, hl, hk⟩ := hP
  have hlt := of_decide_eq_true h0
  simp only [Bool.and_eq_true, beq_iff_eq, and_true] at h
  exact ⟨by omega, by simp [UA.key, UA.p, h]⟩
theorem up_miss {a : UA} {i : Int} (hP : UP a i) (h0 : decide (i < (a.len : Int)) = false) : a.miss := by
  obtain ⟨i0, i1, hl, hk⟩ := hP
  have hlt := of_decide_eq_false h0
  exact fun k hk' => hk k (by omega)
end Go.Proofs.Ytdjogfofedbohaa
end
section
/- The document's Get and Set, run from point to point. No condition. -/
namespace Go.Proofs.Ytdjogfofedbohaa
set_option linter.unusedVariables false
set_option linter.unusedSimpArgs false
set_option maxRecDepth 100000
set_option maxHeartbeats 8000000

theorem ug_exit (a : UA) (i : Int) (hP : UP a i) (hm : a.miss) : Tri repAt Try.prog ugZ 1 (.out (.out 0)) ugL.2 (ugS a i) (ugQ a) := by
  exact Tri.pathP mixed lib0_ok (n := 10000) (k := 10000) (j := 0) (cfg := ugCfg) (o := []) (g' := .out .ret) (fs' := []) (s' := ⟨[(4, SV.v (Value.int IntKind.u64 (Int.ofNat 0)))], [(0, Chunk.row [SV.tsl 1 a.len] 29), (1, Chunk.rep (Rep.vec [Col.int IntKind.i64 a.A0, Col.int IntKind.i64 a.A1, Col.int IntKind.i64 a.A2, Col.int IntKind.u64 a.W] a.len 116))], 2⟩) (asks := []) rfl (by kernel_rfl) trivial (Tri.fin (Ends.of (t := 4) (v := uv 0) (by kernel_rfl) (.inl rfl) rfl ⟨0, rfl, rfl, .inr ⟨hm, rfl⟩⟩))
theorem ug_ret (a : UA) (i : Int) (h : a.hit i.toNat) : Tri repAt Try.prog ugZ 1 (.out .ret) ugL.2 ⟨[(4, uv (a.W i.toNat))], cellsHp a.A0 a.A1 a.A2 a.W a.len, 2⟩ (ugQ a) :=
  Tri.pathP mixed lib0_ok (n := 10000) (k := 10000) (j := 0) (cfg := ugCfg) (o := []) (g' := .out .ret) (fs' := []) (s' := ⟨[(4, uv (a.W i.toNat))], cellsHp a.A0 a.A1 a.A2 a.W a.len, 2⟩) (asks := []) rfl (by kernel_rfl) trivial (Tri.fin (Ends.of (t := 4) (by kernel_rfl) (.inl rfl) rfl ⟨_, rfl, rfl, .inl ⟨_, h, rfl⟩⟩))
theorem ug_round (a : UA) (i : Int) (hP : UP a i) {r : Nat} (hr : r = a.len - i.toNat) : Tri repAt Try.prog ugZ 1 (.go ugL.1) [] (ugS a i) (ugR a r) := by
  rcases Bool.eq_false_or_eq_true (decide (i < (↑a.len : Int))) with h0 | h0
  · have h1 : (decide (0 ≤ i ∧ i < (↑a.len : Int) ∧ a.len ≤ a.len)) = true := by (obtain ⟨i0, i1, hl, hk⟩ := hP; first | rfl | (simp only [decide_eq_true_eq, decide_eq_false_iff_not] at *; omega) | (simp; done))
    rcases Bool.eq_false_or_eq_true (a.A0 i.toNat == a.p0 && (a.A1 i.toNat == a.p1 && (a.A2 i.toNat == a.p2 && true))) with h2 | h2
    · exact Tri.pathP mixed lib0_ok (n := 10000) (k := 10000) (j := 0) (cfg := ugCfg) (o := List.replicate 4 (some true)) (g' := .out .ret) (fs' := []) (s' := ⟨[(4, SV.v (Value.int IntKind.u64 (a.W i.toNat)))], [(0, Chunk.row [SV.tsl 1 a.len] 29), (1, Chunk.rep (Rep.vec [Col.int IntKind.i64 a.A0, Col.int IntKind.i64 a.A1, Col.int IntKind.i64 a.A2, Col.int IntKind.u64 a.W] a.len 116))], 2⟩) (asks := [((decide (0 ≤ i ∧ i < (↑a.len : Int) ∧ a.len ≤ a.len)), true), ((a.A0 i.toNat == a.p0 && (a.A1 i.toNat == a.p1 && (a.A2 i.toNat == a.p2 && true))), true), ((decide (0 ≤ i ∧ i < (↑a.len : Int) ∧ a.len ≤ a.len)), true), ((decide (i < (↑a.len : Int))), true)]) rfl (by kernel_rfl) ⟨h1, h2, h1, h0, trivial⟩ (Tri.fin (ug_ret a i (up_hit hP h0 h2)))
    · exact Tri.pathP mixed lib0_ok (n := 10000) (k := 10000) (j := 0) (cfg := ugCfg) (o := [some true, some true] ++ [some false]) (g' := .out .nor) (fs' := []) (s' := ugS (a) (IntKind.i64.wrap (i + 1))) (asks := [((a.A0 i.toNat == a.p0 && (a.A1 i.toNat == a.p1 && (a.A2 i.toNat == a.p2 && true))), false), ((decide (0 ≤ i ∧ i < (↑a.len : Int) ∧ a.len ≤ a.len)), true), ((decide (i < (↑a.len : Int))), true)]) rfl (by kernel_rfl) ⟨h2, h1, h0, trivial⟩ (ug_next (a) (IntKind.i64.wrap (i + 1)) (up_step hP h0 h2) (by rw [hr]; exact up_less hP h0))
  · exact Tri.pathP mixed lib0_ok (n := 10000) (k := 10000) (j := 0) (cfg := ugCfg) (o := [some false]) (g' := .out (.out 0)) (fs' := []) (s' := ugS (a) (i)) (asks := [((decide (i < (↑a.len : Int))), false)]) rfl (by kernel_rfl) ⟨h0, trivial⟩ (Tri.fin (ug_exit (a) (i) hP (up_miss hP h0)))
theorem ug_start (a : UA) (hl : a.len ≤ 1000000)  : Tri repAt Try.prog ugZ 1 (.go (bodyOf Try.prog ugF)) [] (⟨argsE [.ptr 0 0, .agg [iv a.p0, iv a.p1, iv a.p2]], cellsHp a.A0 a.A1 a.A2 a.W a.len, 2⟩) (ugQ a) := by
  exact Tri.pathP mixed lib0_ok (n := 10000) (k := 10000) (j := 0) (cfg := ugCfg) (o := []) (g' := .go (.loop ugL.1)) (fs' := ugL.2) (s' := ugS (a) (Int.ofNat 0)) (asks := []) rfl (by kernel_rfl) trivial (Tri.loop (I := ugI a) (fun k s ⟨i, hs, hP, hk⟩ => by subst hs; exact ug_round a i hP hk) ⟨_, rfl, ⟨by decide, by simp, hl, fun k hk => absurd hk (Nat.not_lt_zero _)⟩, rfl⟩)
theorem us_exit (a : UA) (i : Int) (hP : UP a i) (hm : a.miss) : Tri repAt Try.prog usZ 1 (.out (.out 0)) usL.2 (usS a i) (usQ a) := by
  have h0 : decide (a.len ≤ a.len ∧ (a.len + 1) * 32 ≤ 140737488351232) = true := by
    have := hP.2.2.1
    simp only [decide_eq_true_eq]
    omega
  exact Tri.pathP mixed lib0_ok (n := 10000) (k := 10000) (j := 0) (cfg := usCfg1) (o := [some true]) (g' := .out .nor) (fs' := []) (s' := ⟨[], cellsHp (joinI a.A0 a.len fun _ => a.p0) (joinI a.A1 a.len fun _ => a.p1) (joinI a.A2 a.len fun _ => a.p2) (joinI a.W a.len fun _ => a.v) (a.len + 1), 2⟩) (asks := [(decide (a.len ≤ a.len ∧ (a.len + 1) * 32 ≤ 140737488351232), true)]) rfl (by kernel_rfl) ⟨h0, trivial⟩ (Tri.fin (Ends.none (by kernel_rfl) (.inr rfl) ⟨rfl, .inr ⟨hm, rfl⟩⟩))
theorem us_ret (a : UA) (i : Int) (h : a.hit i.toNat) : Tri repAt Try.prog usZ 1 (.out .ret) usL.2 ⟨[], cellsHp a.A0 a.A1 a.A2 (updI a.W i.toNat a.v) a.len, 2⟩ (usQ a) :=
  Tri.pathP mixed lib0_ok (n := 10000) (k := 10000) (j := 0) (cfg := usCfg1) (o := []) (g' := .out .ret) (fs' := []) (s' := ⟨[], cellsHp a.A0 a.A1 a.A2 (updI a.W i.toNat a.v) a.len, 2⟩) (asks := []) rfl (by kernel_rfl) trivial (Tri.fin (Ends.none (by kernel_rfl) (.inl rfl) ⟨rfl, .inl ⟨_, h, rfl⟩⟩))
theorem us_round (a : UA) (i : Int) (hP : UP a i) {r : Nat} (hr : r = a.len - i.toNat) : Tri repAt Try.prog usZ 1 (.go usL.1) [] (usS a i) (usR a r) := by
  rcases Bool.eq_false_or_eq_true (decide (i < (↑a.len : Int))) with h0 | h0
  · have h1 : (decide (0 ≤ i ∧ i < (↑a.len : Int) ∧ a.len ≤ a.len)) = true := by (obtain ⟨i0, i1, hl, hk⟩ := hP; first | rfl | (simp only [decide_eq_true_eq, decide_eq_false_iff_not] at *; omega) | (simp; done))
    rcases Bool.eq_false_or_eq_true (a.A0 i.toNat == a.p0 && (a.A1 i.toNat == a.p1 && (a.A2 i.toNat == a.p2 && true))) with h2 | h2
    · exact Tri.pathP mixed lib0_ok (n := 10000) (k := 10000) (j := 0) (cfg := usCfg) (o := List.replicate 4 (some true)) (g' := .out .ret) (fs' := []) (s' := ⟨[], [(0, Chunk.row [SV.tsl 1 a.len] 29), (1, Chunk.rep (Rep.vec [Col.int IntKind.i64 a.A0, Col.int IntKind.i64 a.A1, Col.int IntKind.i64 a.A2, Col.int IntKind.u64 (updI a.W i.toNat a.v)] a.len 116))], 2⟩) (asks := [((decide (0 ≤ i ∧ i < (↑a.len : Int) ∧ a.len ≤ a.len)), true), ((a.A0 i.toNat == a.p0 && (a.A1 i.toNat == a.p1 && (a.A2 i.toNat == a.p2 && true))), true), ((decide (0 ≤ i ∧ i < (↑a.len : Int) ∧ a.len ≤ a.len)), true), ((decide (i < (↑a.len : Int))), true)]) rfl (by kernel_rfl) ⟨h1, h2, h1, h0, trivial⟩ (Tri.fin (us_ret a i (up_hit hP h0 h2)))
    · exact Tri.pathP mixed lib0_ok (n := 10000) (k := 10000) (j := 0) (cfg := usCfg) (o := [some true, some true] ++ [some false]) (g' := .out .nor) (fs' := []) (s' := usS (a) (IntKind.i64.wrap (i + 1))) (asks := [((a.A0 i.toNat == a.p0 && (a.A1 i.toNat == a.p1 && (a.A2 i.toNat == a.p2 && true))), false), ((decide (0 ≤ i ∧ i < (↑a.len : Int) ∧ a.len ≤ a.len)), true), ((decide (i < (↑a.len : Int))), true)]) rfl (by kernel_rfl) ⟨h2, h1, h0, trivial⟩ (us_next (a) (IntKind.i64.wrap (i + 1)) (up_step hP h0 h2) (by rw [hr]; exact up_less hP h0))
  · exact Tri.pathP mixed lib0_ok (n := 10000) (k := 10000) (j := 0) (cfg := usCfg) (o := [some false]) (g' := .out (.out 0)) (fs' := []) (s' := usS (a) (i)) (asks := [((decide (i < (↑a.len : Int))), false)]) rfl (by kernel_rfl) ⟨h0, trivial⟩ (Tri.fin (us_exit (a) (i) hP (up_miss hP h0)))
theorem us_start (a : UA) (hl : a.len ≤ 1000000)  : Tri repAt Try.prog usZ 1 (.go (bodyOf Try.prog usF)) [] (⟨argsE [.ptr 0 0, .agg [iv a.p0, iv a.p1, iv a.p2], uv a.v], cellsHp a.A0 a.A1 a.A2 a.W a.len, 2⟩) (usQ a) := by
  exact Tri.pathP mixed lib0_ok (n := 10000) (k := 10000) (j := 0) (cfg := usCfg) (o := []) (g' := .go (.loop usL.1)) (fs' := usL.2) (s' := usS (a) (Int.ofNat 0)) (asks := []) rfl (by kernel_rfl) trivial (Tri.loop (I := usI a) (fun k s ⟨i, hs, hP, hk⟩ => by subst hs; exact us_round a i hP hk) ⟨_, rfl, ⟨by decide, by simp, hl, fun k hk => absurd hk (Nat.not_lt_zero _)⟩, rfl⟩)
end Go.Proofs.Ytdjogfofedbohaa
end
section
/- The document's Get and Set as functions on words. Condition: a few places at most. -/
namespace Go.Proofs.Ytdjogfofedbohaa
open Go.RowKit
theorem vec_lt {f : Nat → List Value} {len k : Nat} {t : TypeId} {e : Spot} {own : List Nat} {w : World} (h : VecAt f len t k e own w) : ∀ b ∈ own, b < w.heap.size := by
  obtain ⟨_, _, _, _, h5⟩ := h
  intro b hb
  cases ha : e.ad with
  | none => rw [ha] at h5; rw [h5.1] at hb; cases hb
  | some g =>
    rw [ha] at h5
    obtain ⟨_, g2, cs, g3, _⟩ := h5
    rw [g2, List.mem_singleton] at hb
    subst hb
    exact heap_lt g3
def putF (f : Pl → Int) (p : Pl) (v : Int) : Pl → Int := fun q => if q = p then v else f q
theorem URel.get {a : UA} {f : Pl → Int} (h : URel a.A0 a.A1 a.A2 a.W a.len f) {x : Int} (hx : (∃ k, a.hit k ∧ x = a.W k) ∨ a.miss ∧ x = 0) : x = f a.p := by
  rcases hx with ⟨k, ⟨h1, h2⟩, rfl⟩ | ⟨h1, rfl⟩
  · rw [← h2]; exact (h.val k h1).symm
  · exact (h.off _ h1).symm
theorem URel.put {a : UA} {f : Pl → Int} (h : URel a.A0 a.A1 a.A2 a.W a.len f) {k : Nat} (hk : a.hit k) : URel a.A0 a.A1 a.A2 (updI a.W k a.v) a.len (putF f a.p a.v) := by
  obtain ⟨h1, h2⟩ := hk
  refine ⟨h.wf, fun j hj => ?_, fun q hq => ?_, h.one⟩
  · by_cases e : j = k
    · subst e
      rw [updI_same]
      unfold putF
      exact if_pos h2
    · rw [updI_other e, ← h.val j hj]
      unfold putF
      exact if_neg fun he => e (h.one j k hj h1 (he.trans h2.symm))
  · unfold putF
    rw [if_neg fun he => hq k h1 (h2.trans he.symm)]
    exact h.off q hq
theorem URel.push {a : UA} {f : Pl → Int} (h : URel a.A0 a.A1 a.A2 a.W a.len f) (hm : a.miss) (hp : PlWf a.p) : URel (joinI a.A0 a.len fun _ => a.p0) (joinI a.A1 a.len fun _ => a.p1) (joinI a.A2 a.len fun _ => a.p2) (joinI a.W a.len fun _ => a.v) (a.len + 1) (putF f a.p a.v) := by
  have old : ∀ j, j < a.len → (joinI a.A0 a.len (fun _ => a.p0) j, joinI a.A1 a.len (fun _ => a.p1) j, joinI a.A2 a.len (fun _ => a.p2) j) = a.key j := fun j hj => by rw [joinI_old hj, joinI_old hj, joinI_old hj]; rfl
  have new : (joinI a.A0 a.len (fun _ => a.p0) a.len, joinI a.A1 a.len (fun _ => a.p1) a.len, joinI a.A2 a.len (fun _ => a.p2) a.len) = a.p := by rw [joinI_new (Nat.le_refl _), joinI_new (Nat.le_refl _), joinI_new (Nat.le_refl _)]; rfl
  have cases_ : ∀ {j}, j < a.len + 1 → j < a.len ∨ j = a.len := fun h => by omega
  refine ⟨fun j hj => ?_, fun j hj => ?_, fun q hq => ?_, fun i j hi hj e => ?_⟩
  · rcases cases_ hj with hj | rfl
    · rw [old j hj]; exact h.wf j hj
    · rw [new]; exact hp
  · rcases cases_ hj with hj | rfl
    · rw [old j hj, joinI_old hj, ← h.val j hj]
      unfold putF
      exact if_neg (hm j hj)
    · rw [new, joinI_new (Nat.le_refl _)]
      unfold putF
      exact if_pos rfl
  · unfold putF
    rw [if_neg fun he => hq a.len (Nat.lt_succ_self _) (new.trans he.symm)]
    exact h.off q fun j hj => by rw [← show _ = (a.A0 j, a.A1 j, a.A2 j) from old j hj]; exact hq j (by omega)
  · rcases cases_ hi with hi | rfl <;> rcases cases_ hj with hj | rfl
    · rw [old i hi, old j hj] at e; exact h.one i j hi hj e
    · rw [old i hi, new] at e; exact absurd e (hm i hi)
    · rw [old j hj, new] at e; exact absurd e.symm (hm j hj)
    · rfl
theorem cells1 : Try.prog.cellsOf tRC = 1 := by kernel_rfl
def cellsN (e sp : Spot) : Names := fun n => match n with
  | 0 => some e
  | 1 => some sp
  | _ => none
def cellsO (b : Nat) (own1 : List Nat) : Nat → List Nat := fun n => match n with
  | 0 => [b]
  | 1 => own1
  | _ => []
theorem cellsHp_get {A0 A1 A2 W : Nat → Int} {len n : Nat} {c : Chunk Rep} (h : hget n (cellsHp A0 A1 A2 W len) = some c) : (n = 0 ∧ c = .row [.tsl 1 len] tRC) ∨ (n = 1 ∧ c = .rep (.vec (oneCols A0 A1 A2 W) len tOne)) := by
  unfold cellsHp at h
  rw [hget_cons] at h
  split at h
  · next e => injection h with h; exact .inl ⟨e, h.symm⟩
  · rw [hget_cons] at h
    split at h
    · next e => injection h with h; exact .inr ⟨e, h.symm⟩
    · cases h
theorem cells_stand {A0 A1 A2 W : Nat → Int} {len : Nat} {e sp : Spot} {own1 : List Nat} {w : World} (h1 : e.b ∉ own1) (h2 : ∃ cs : Array Value, w.heap[e.b]? = some (.cells cs tRC (0, 0)) ∧ cs[e.off]? = some (.slice sp.ad len sp.cap) ∧ 1 ≤ e.cap ∧ e.off + e.cap ≤ cs.size)
    (h3 : VecAt (colsF (oneCols A0 A1 A2 W)) len tOne 4 sp own1 w) (en : Env) : Stand repAt Try.prog 0 ⟨en, cellsHp A0 A1 A2 W len, 2⟩ (cellsN e sp) (cellsO e.b own1) w := by
  obtain ⟨cs, g1, g2, g3, g4⟩ := h2
  have hlt := heap_lt g1
  refine ⟨⟨fun n c _ hc => ?_, fun n m c d _ _ hne hc hd b hb hb' => ?_, fun n c _ hc b hb => ?_⟩, fun n hn => ?_, fun n hn => ?_, Nat.zero_le _⟩
  · rcases cellsHp_get hc with ⟨rfl, rfl⟩ | ⟨rfl, rfl⟩
    · refine ⟨e, rfl, rfl, cs, [.slice sp.ad len sp.cap], g1, rfl, fun i hi => ?_, by rw [cells1, Nat.mul_one]; exact g3, by rw [cells1, Nat.mul_one]; exact g4⟩
      obtain rfl : i = 0 := by simpa using hi
      exact g2
    · exact ⟨sp, rfl, h3⟩
  · rcases cellsHp_get hc with ⟨rfl, rfl⟩ | ⟨rfl, rfl⟩ <;> rcases cellsHp_get hd with ⟨rfl, rfl⟩ | ⟨rfl, rfl⟩
    · exact hne rfl
    · simp only [cellsO, List.mem_singleton] at hb hb'; subst hb; exact h1 hb'
    · simp only [cellsO, List.mem_singleton] at hb hb'; subst hb'; exact h1 hb
    · exact hne rfl
  · rcases cellsHp_get hc with ⟨rfl, rfl⟩ | ⟨rfl, rfl⟩
    · simp only [cellsO, List.mem_singleton] at hb; subst hb; exact ⟨Nat.zero_le _, hlt⟩
    · exact ⟨Nat.zero_le _, vec_lt h3 b hb⟩
  · match n, hn with
    | n + 2, _ => rfl
  · match n, hn with
    | n + 2, _ => rfl
theorem cells_back {A0 A1 A2 W : Nat → Int} {len n : Nat} {f : Pl → Int} {e : Spot} {s' : Sym Rep} {ρ' : Names} {own' : Nat → List Nat} {w' : World} (hs : Stand repAt Try.prog 0 s' ρ' own' w') (hhp : s'.hp = cellsHp A0 A1 A2 W len) (he : ρ' 0 = some e) (hf : URel A0 A1 A2 W len f) (hn : len ≤ n) :
    UAt f n e (e.b :: own' 1) w' := by
  obtain ⟨e0, h0, o0, cs, vs, g1, g2, g3, g4, g5⟩ := hs.li.at_ 0 (.row [.tsl 1 len] tRC) trivial (by rw [hhp]; rfl)
  obtain ⟨sp, h1, g6⟩ := hs.li.at_ 1 (.rep (.vec (oneCols A0 A1 A2 W) len tOne)) trivial (by rw [hhp]; rfl)
  rw [he] at h0
  injection h0 with h0
  subst h0
  simp only [denL, den, h1, Option.map_some, Option.some.injEq] at g2
  subst g2
  rw [cells1, Nat.mul_one] at g4 g5
  refine ⟨A0, A1, A2, W, len, sp, own' 1, rfl, fun hx => ?_, ⟨cs, g1, g3 0 (by simp), g4, g5⟩, g6, hf, hn⟩
  exact hs.li.dis 0 1 _ _ trivial trivial (by decide) (by rw [hhp]; rfl) (by rw [hhp]; rfl) e.b (by rw [o0]; simp) hx
/-- What a call on a Cells leaves. -/
def UCame (f : Pl → Int) (n : Nat) (e : Spot) (own : List Nat) (w w' : World) : Prop := ∃ own', UAt f n e own' w' ∧ ModP (fun b => b ∈ own) w w' ∧ ∀ b ∈ own', b ∈ own ∨ (w.heap.size ≤ b ∧ b < w'.heap.size)
theorem cells_came {A0 A1 A2 W : Nat → Int} {len n : Nat} {f : Pl → Int} {e sp : Spot} {own1 : List Nat} {s' : Sym Rep} {ρ' : Names} {own' : Nat → List Nat} {w w' : World} {A0' A1' A2' W' : Nat → Int} {len' : Nat} (hs : Stand repAt Try.prog 0 s' ρ' own' w') (hhp : s'.hp = cellsHp A0 A1 A2 W len) (he : ρ' 0 = cellsN e sp 0) (hf : URel A0 A1 A2 W len f) (hn : len ≤ n)
    (hw : Way (cellsHp A0' A1' A2' W' len') (cellsO e.b own1) w s'.hp own' w') : UCame f n e (e.b :: own1) w w' := by
  have hown : ∀ m d, hget m (cellsHp A0' A1' A2' W' len') = some d → ∀ b ∈ cellsO e.b own1 m, b ∈ e.b :: own1 := fun m d hd b hb => by
    rcases cellsHp_get hd with ⟨rfl, _⟩ | ⟨rfl, _⟩
    · simp only [cellsO, List.mem_singleton] at hb; simp [hb]
    · exact List.mem_cons_of_mem _ hb
  have hlo := hs.li.low 1 _ trivial (by rw [hhp]; rfl)
  refine ⟨_, cells_back hs hhp he hf hn, hw.mod.mono fun b _ ⟨m, d, hd, hb⟩ => hown m d hd b hb, fun b hb => ?_⟩
  rcases List.mem_cons.1 hb with rfl | hb
  · exact .inl (by simp)
  · rcases hw.pool 1 (.rep (.vec (oneCols A0 A1 A2 W) len tOne)) (by rw [hhp]; rfl) b hb with h | ⟨m, d, hd, hm⟩
    · exact .inr ⟨h, (hlo b hb).2⟩
    · exact .inl (hown m d hd b hm)
set_option maxRecDepth 100000 in
set_option maxHeartbeats 4000000 in
theorem ucells_get {f : Pl → Int} {n : Nat} {e : Spot} {own : List Nat} {w : World} (h : UAt f n e own w) (hn : n ≤ 1000000) (p : Pl) :
    Calls Try.prog 15 #[.pointer (some ⟨e.b, e.off, none⟩), kagg p] w fun x w' => x = .returned (.int .u64 (f p)) ∧ UCame f n e own w w' := by
  obtain ⟨A0, A1, A2, W, len, sp, own1, rfl, h1, h2, h3, h4, h5⟩ := h
  have hst := cells_stand h1 h2 h3 (argsE [.ptr 0 0, .agg [iv p.1, iv p.2.1, iv p.2.2]])
  refine (Tri.calls (pin := 1) Try.func15 (c := bodyOf Try.prog ugF) (by kernel_rfl) (args := [.ptr 0 0, .agg [iv p.1, iv p.2.1, iv p.2.2]]) (Nat.le_of_ble_eq_true (by kernel_rfl)) (ug_start ⟨A0, A1, A2, W, len, p.1, p.2.1, p.2.2, 0⟩ (Nat.le_trans h5 hn)) hst (vals := [.pointer (some ⟨e.b, e.off, none⟩), kagg p]) rfl).mono ?_
  rintro x w' ⟨y, l, s', ρ', own', rfl, hy, ⟨z, rfl, hhp, hz⟩, hs, hw, hpp⟩
  simp only [oneOf, den, Option.some.injEq] at hy
  subst hy
  have hx : z = f p := URel.get (a := ⟨A0, A1, A2, W, len, p.1, p.2.1, p.2.2, 0⟩) h4 hz
  rw [hx]
  exact ⟨rfl, cells_came hs hhp (hpp 0 (by decide)) h4 h5 hw⟩
set_option maxRecDepth 100000 in
set_option maxHeartbeats 4000000 in
theorem ucells_set {f : Pl → Int} {n : Nat} {e : Spot} {own : List Nat} {w : World} (h : UAt f n e own w) (hn : n ≤ 1000000) {p : Pl} (hp : PlWf p) (v : Int) :
    Calls Try.prog 29 #[.pointer (some ⟨e.b, e.off, none⟩), kagg p, .int .u64 v] w fun x w' => x = .returned (.tuple #[]) ∧ UCame (putF f p v) (n + 1) e own w w' := by
  obtain ⟨A0, A1, A2, W, len, sp, own1, rfl, h1, h2, h3, h4, h5⟩ := h
  have hst := cells_stand h1 h2 h3 (argsE [.ptr 0 0, .agg [iv p.1, iv p.2.1, iv p.2.2], uv v])
  refine (Tri.calls (pin := 1) Try.func29 (c := bodyOf Try.prog usF) (by kernel_rfl) (args := [.ptr 0 0, .agg [iv p.1, iv p.2.1, iv p.2.2], uv v]) (Nat.le_of_ble_eq_true (by kernel_rfl)) (us_start ⟨A0, A1, A2, W, len, p.1, p.2.1, p.2.2, v⟩ (Nat.le_trans h5 hn)) hst (vals := [.pointer (some ⟨e.b, e.off, none⟩), kagg p, .int .u64 v]) rfl).mono ?_
  rintro x w' ⟨y, l, s', ρ', own', rfl, hy, ⟨rfl, hz⟩, hs, hw, hpp⟩
  simp only [oneOf, den, denL, Option.map_some, Option.some.injEq] at hy
  subst hy
  refine ⟨rfl, ?_⟩
  rcases hz with ⟨k, hk, hhp⟩ | ⟨hm, hhp⟩
  · exact cells_came hs hhp (hpp 0 (by decide)) (URel.put (a := ⟨A0, A1, A2, W, len, p.1, p.2.1, p.2.2, v⟩) h4 hk) (Nat.le_succ_of_le h5) hw
  · exact cells_came hs hhp (hpp 0 (by decide)) (URel.push (a := ⟨A0, A1, A2, W, len, p.1, p.2.1, p.2.2, v⟩) h4 hm hp) (Nat.succ_le_succ h5) hw
end Go.Proofs.Ytdjogfofedbohaa
end
section
/- The document's Get and Set as known calls. -/
namespace Go.Proofs.Ytdjogfofedbohaa
open Go.RowKit
/-- A Cells, told as words. -/
def asU : Chunk Rep → Option (List (Pl × Int) × (Pl → Int) × Nat)
  | .rep (.ucells l g n) => some (l, g, n)
  | .row [.v (.slice none 0 0)] t => match Nat.beq t tRC with
    | true => some ([], zeroG, 0)
    | false => none
  | _ => none
theorem asU_at {c : Chunk Rep} {l : List (Pl × Int)} {g : Pl → Int} {n B : Nat} {ρ : Names} {e : Spot} {own : List Nat} {w : World} (h : asU c = some (l, g, n)) (hc : CAt repAt Try.prog ρ B e own c w) : UAt (getL l g) n e own w := by
  unfold asU at h
  split at h
  · simp only [Option.some.injEq, Prod.mk.injEq] at h
    obtain ⟨rfl, rfl, rfl⟩ := h
    exact hc
  · split at h
    · next hb =>
      obtain rfl := Nat.eq_of_beq_eq_true hb
      simp only [Option.some.injEq, Prod.mk.injEq] at h
      obtain ⟨rfl, rfl, rfl⟩ := h
      exact nilU_at cells1 hc
    · cases h
  · cases h
def getUX : List SV → M Rep SV
  | [.ptr n 0, P] => (getC n).bind fun c => (M.opt 360 (asU c)).bind fun | (l, g, k) => (M.opt 361 (plOf P)).bind fun p => (need 362 (Nat.ble k 1000000)).bind fun _ => (setC n (.rep (.ucells l g k))).bind fun _ => .ret (.v (.int .u64 (getL l g p)))
  | _ => .fail 363
def setUX : List SV → M Rep SV
  | [.ptr n 0, P, V] => (getC n).bind fun c => (M.opt 364 (asU c)).bind fun | (l, g, k) => (M.opt 365 (plOf P)).bind fun p => (M.opt 366 (wordOf V)).bind fun v => (need 367 (plWfB p && Nat.ble k 1000000)).bind fun _ => (setC n (.rep (.ucells ((p, v) :: l) g (k + 1)))).bind fun _ => .ret (.tup [])
  | _ => .fail 368
theorem getU_s {args : List SV} {st st' : St Rep} {s : SV} (h : getUX args st = .ok s st') : CallS repAt Try.prog 15 args st st' s := by
  unfold getUX at h
  split at h
  · next n P =>
    obtain ⟨c, st1, h3, h4⟩ := bind_ok.1 h
    obtain ⟨hc, rfl⟩ := getC_ok.1 h3
    obtain ⟨⟨l, g, k⟩, _, h5, h6⟩ := bind_ok.1 h4
    obtain ⟨hu, rfl⟩ := opt_ok.1 h5
    obtain ⟨p, _, h7, h8⟩ := bind_ok.1 h6
    obtain ⟨hp, rfl⟩ := opt_ok.1 h7
    obtain ⟨_, st2, h9, h10⟩ := bind_ok.1 h8
    obtain ⟨q2, hq⟩ := need_ok h9
    obtain ⟨_, st3, h11, h12⟩ := bind_ok.1 h10
    obtain ⟨_, rfl⟩ := setC_ok.1 h11
    obtain ⟨rfl, rfl⟩ := ret_ok.1 h12
    have q := Quiet.get.trans q2
    have hc2 : hget n st2.hp = some c := by rw [q.hp]; exact hc
    refine ⟨q.fn.trans (Fn.set st2 n (.rep (.ucells l g k)) _ hc2), fun B F ρ own w vals si hv => ?_⟩
    have s1 := si.of_quiet q
    obtain ⟨e, he, hat⟩ := s1.li.at_ n _ (s1.log n (mem_ins.2 (.inl rfl))) hc2
    obtain ⟨v1, vs1, e1, e2, rfl⟩ := denL_cons.1 hv
    obtain ⟨v2, vs2, e3, e4, rfl⟩ := denL_cons.1 e2
    simp only [denL, Option.some.injEq] at e4
    subst e4
    simp only [den, he, Option.map_some, Option.some.injEq, Nat.add_zero] at e1
    subst e1
    obtain rfl := plOf_den hp e3
    refine (ucells_get (asU_at hu hat) (Nat.le_of_ble_eq_true (hq si.ask)) p).mono ?_
    rintro x w' ⟨rfl, own', ha, hm, ho⟩
    have ht := Tr.set s1 hc2 he own' hm (show Rep.At B (.ucells l g k) e own' w' from ha) ho
    exact ⟨_, _, _, rfl, rfl, Tr.of_quiet q ht⟩
  · exact (fail_ok.1 h).elim
theorem setU_s {args : List SV} {st st' : St Rep} {s : SV} (h : setUX args st = .ok s st') : CallS repAt Try.prog 29 args st st' s := by
  unfold setUX at h
  split at h
  · next n P V =>
    obtain ⟨c, st1, h3, h4⟩ := bind_ok.1 h
    obtain ⟨hc, rfl⟩ := getC_ok.1 h3
    obtain ⟨⟨l, g, k⟩, _, h5, h6⟩ := bind_ok.1 h4
    obtain ⟨hu, rfl⟩ := opt_ok.1 h5
    obtain ⟨p, _, h7, h8⟩ := bind_ok.1 h6
    obtain ⟨hp, rfl⟩ := opt_ok.1 h7
    obtain ⟨v, _, h7b, h8b⟩ := bind_ok.1 h8
    obtain ⟨hv1, rfl⟩ := opt_ok.1 h7b
    obtain ⟨_, st2, h9, h10⟩ := bind_ok.1 h8b
    obtain ⟨q2, hq⟩ := need_ok h9
    obtain ⟨_, st3, h11, h12⟩ := bind_ok.1 h10
    obtain ⟨_, rfl⟩ := setC_ok.1 h11
    obtain ⟨rfl, rfl⟩ := ret_ok.1 h12
    have q := Quiet.get.trans q2
    have hc2 : hget n st2.hp = some c := by rw [q.hp]; exact hc
    refine ⟨q.fn.trans (Fn.set st2 n (.rep (.ucells ((p, v) :: l) g (k + 1))) _ hc2), fun B F ρ own w vals si hv => ?_⟩
    have s1 := si.of_quiet q
    have hn := hq si.ask
    simp only [Bool.and_eq_true] at hn
    obtain ⟨e, he, hat⟩ := s1.li.at_ n _ (s1.log n (mem_ins.2 (.inl rfl))) hc2
    obtain ⟨v1, vs1, e1, e2, rfl⟩ := denL_cons.1 hv
    obtain ⟨v2, vs2, e3, e4, rfl⟩ := denL_cons.1 e2
    obtain ⟨v3, vs3, e5, e6, rfl⟩ := denL_cons.1 e4
    simp only [denL, Option.some.injEq] at e6
    subst e6
    simp only [den, he, Option.map_some, Option.some.injEq, Nat.add_zero] at e1
    subst e1
    obtain rfl := plOf_den hp e3
    have e7 : v3 = .int .u64 v := by
      unfold wordOf at hv1
      split at hv1 <;> cases hv1
      simp only [den, Option.some.injEq] at e5
      exact e5.symm
    subst e7
    refine (ucells_set (asU_at hu hat) (Nat.le_of_ble_eq_true hn.2) (plWfB_iff.1 hn.1) v).mono ?_
    rintro x w' ⟨rfl, own', ha, hm, ho⟩
    have ht := Tr.set s1 hc2 he own' hm (show Rep.At B (.ucells ((p, v) :: l) g (k + 1)) e own' w' from ha) ho
    exact ⟨_, _, _, rfl, rfl, Tr.of_quiet q ht⟩
  · exact (fail_ok.1 h).elim
noncomputable def primU (f : FuncId) (args : List SV) : Option (M Rep SV) := match Nat.beq f 15 with
  | true => some (getUX args)
  | false => match Nat.beq f 29 with
    | true => some (setUX args)
    | false => none
theorem primU_ok : ∀ f args m, primU f args = some m → ∀ st s st', m st = .ok s st' → CallS repAt Try.prog f args st st' s := by
  intro f args m hm st s st' h
  unfold primU at hm
  split at hm
  · next hb =>
    obtain rfl := Nat.eq_of_beq_eq_true hb
    cases hm
    exact getU_s h
  · split at hm
    · next hb =>
      obtain rfl := Nat.eq_of_beq_eq_true hb
      cases hm
      exact setU_s h
    · cases hm
/-- With more calls known. -/
def Lib.more (l : Lib Rep) (p : FuncId → List SV → Option (M Rep SV)) : Lib Rep := ⟨fun f args => match p f args with
  | some m => some m
  | none => l.prim f args, l.ext, l.tidy⟩
theorem Lib.more_ok {l : Lib Rep} {p : FuncId → List SV → Option (M Rep SV)} (hl : LibOK repAt Try.prog l) (hp : ∀ f args m, p f args = some m → ∀ st s st', m st = .ok s st' → CallS repAt Try.prog f args st st' s) : LibOK repAt Try.prog (l.more p) := by
  refine ⟨fun f args m hm => ?_, hl.ext, hl.tidy⟩
  simp only [Lib.more] at hm
  split at hm
  · next m' h =>
    injection hm with hm
    subst hm
    exact hp f args m' h
  · exact hl.prim f args m hm
end Go.Proofs.Ytdjogfofedbohaa
end
section
/- A key of a map of places is a place's value whose numbers fit int. -/
namespace Go.Proofs.Ytdjogfofedbohaa
open Go.RowKit Go.Maps

set_option maxRecDepth 100000 in
theorem keyLits_int {n : Nat} {x : Value} {l : List Lit} (h : Try.prog.keyLits (n + 1) 3 [x] = some l) : ∃ i, x = .int .i64 i ∧ (Lit.int .i64 i).wf = true ∧ l = [.int .i64 i] := by
  unfold Program.keyLits at h
  rw [Try.underlying3] at h
  cases x <;> simp at h
  obtain ⟨⟨rfl, hw⟩, rfl⟩ := h
  exact ⟨_, rfl, hw, rfl⟩

set_option maxRecDepth 100000 in
theorem keyOf_inv {v : Value} {kl : Lit} (h : keyOf Try.prog 34 v = some kl) : ∃ p : Pl, v = kagg p ∧ PlWf p ∧ kl = litP p := by
  have hk : Try.prog.keyType 34 = true := by kernel_rfl
  have hI : Try.prog.cellsOf 3 = 1 := by kernel_rfl
  have hC : Try.prog.cellsOf 34 = 3 := by kernel_rfl
  obtain ⟨n, hn⟩ : ∃ n, Try.prog.types.size + 1 = n + 1 + 1 := ⟨Try.prog.types.size - 1, by have : 1 ≤ Try.prog.types.size := of_decide_eq_true (by kernel_rfl); omega⟩
  have h0 := h
  unfold keyOf at h
  rw [Try.underlying34, hn] at h
  cases v <;> simp only [hk, Value.formed, Try.underlying34, Bool.and_false, Bool.false_eq_true, if_false, Bool.true_and, reduceCtorEq] at h
  rename_i cs
  rw [hC] at h
  split at h
  · rename_i h3
    have h3 : cs.toList.length = 3 := by simpa using h3
    obtain ⟨l⟩ := cs
    match l, h3 with
    | [a, b, c], _ =>
      rw [Program.keyLits.eq_def] at h
      simp only [] at h
      generalize hg : Try.prog.keyLits (n + 1) = g at h
      simp [Try.underlying34, Value.cells, hC, hI] at h
      subst hg
      cases hx : Try.prog.keyLits (n + 1) 3 [a] with
      | none => rw [hx] at h; simp at h
      | some x =>
      cases hy : Try.prog.keyLits (n + 1) 3 [b] with
      | none => rw [hx, hy] at h; simp at h
      | some y =>
      cases hz : Try.prog.keyLits (n + 1) 3 [c] with
      | none => rw [hx, hy, hz] at h; simp at h
      | some z =>
      obtain ⟨i, rfl, hi, rfl⟩ := keyLits_int hx
      obtain ⟨j, rfl, hj, rfl⟩ := keyLits_int hy
      obtain ⟨k, rfl, hk, rfl⟩ := keyLits_int hz
      have hp : PlWf (i, j, k) := ⟨hi, hj, hk⟩
      refine ⟨(i, j, k), rfl, hp, ?_⟩
      have := keyOf_place (i, j, k) hp
      rw [show kagg (i, j, k) = .agg ⟨[.int .i64 i, .int .i64 j, .int .i64 k]⟩ from rfl, h0] at this
      injection this
  · cases h
end Go.Proofs.Ytdjogfofedbohaa
end
section
/- maps.Equal at map[api.Place]uint64 (the shelf's proof, turned to a struct key): both maps not nil. -/
namespace Go.Proofs.Ytdjogfofedbohaa
open Go.RowKit Go.Maps

/-- Whether two words are one. -/
def eqU (a b : DataW Unit) : Bool := match a, b with
  | .lit (.int _ i), .lit (.int _ j) => i == j
  | _, _ => false

set_option maxHeartbeats 4000000 in
set_option maxRecDepth 100000 in
theorem equal_maps (R : Value → Option (DataW Unit × List MemPlace)) (hR : ∀ {v : Value} {z : DataW Unit × List MemPlace}, R v = some z → ∃ a, v = .int .u64 a ∧ z = (.lit (.int .u64 a), [])) (b1 b2 n1 n2 : Nat) (D1 D2 : DataW Unit) (w : World)
    (h1 : w.ownsMap Try.prog 34 R b1 n1 D1) (h2 : w.ownsMap Try.prog 34 R b2 n2 D2)
    (zp : List MemPlace) (hzd : R (.int .u64 0) = some (.lit (.int .u64 0), zp))
    (hz2 : ∀ w, (zeroValue 35).run Try.prog w = .ok (.int .u64 0) w)
    (hneq : ∀ (W : World) (x y : Value) (xd yd : DataW Unit) (xp yp : List MemPlace), R x = some (xd, xp) → R y = some (yd, yp) → (binOp .neq 35 x y).run Try.prog W = .ok (.bool (!eqU xd yd)) W ∧ ∀ (a b : Operand), (eqGuard .neq 35 a b x y).run Try.prog W = .ok () W) :
    Calls Try.prog 67 #[.map (some b1), .map (some b2)] w fun e w' => e = .returned (.bool (Lib.equalFuncD eqU D1 D2)) ∧ w.grownBy w' none := by
  have l1 := fun ty => h1.len (t := 110) Try.underlying110 ty
  have l2 := fun ty => h2.len (t := 110) Try.underlying110 ty
  obtain ⟨es1, rfl, hap, hkeys⟩ := h1.entries place_keyed
  have hb2 := h2.lt
  have HQ : Aside _ := hneq
  clear hneq
  generalize hres : Lib.equalFuncD eqU (.map es1) D2 = res
  have RES : Aside (Lib.equalFuncD eqU (.map es1) D2 = res) := hres
  clear hres
  by_cases hsz : Maps.size (.map es1 : DataW Unit) = Maps.size D2
  · go_enter Try.func67, Try.ntmps67
    go_wp2_with (first
      | (at_range; refine wpList_range_own _ rfl _ 110 rfl 34 35 place_keyed Try.underlying110 R b1 n1 _ rfl h1 ?_; intro w0 hrg0 hg0 hs0)
      | go_in)
    go_frame
    go_loopw [18] (fun _ wr => ∃ (left : Lit → Bool) (cnt : Nat), wr.ranges Try.prog 34 R b1 w.heap.size n1 (.map es1) left cnt ∧ wr.ownsMap Try.prog 34 R b2 n2 D2 ∧ w.grownBy wr none ∧ Aside (GoodAt eqU es1 D2 left))
      (fun _ wr => wr.rangeLeft b1 w.heap.size)
    case atStart => exact ⟨_, _, hrg0, h2.kept hg0 (by simp), hg0, good_start hkeys D2⟩
    case round =>
      obtain ⟨left, cnt, hrg, h2r, hgw, G⟩ := hrel
      go_wp2_with (first
        | (at_next; refine wpList_next_ranges _ rfl _ rfl 34 place_keyed R (fun p : Pl => .agg #[.int .i64 p.1, .int .i64 p.2.1, .int .i64 p.2.2]) (fun i => .int .u64 i) (fun key _ h => by obtain ⟨p, rfl, _⟩ := keyOf_inv h; exact ⟨p, rfl⟩) (fun v _ h => by obtain ⟨a, rfl, _⟩ := hR h; exact ⟨a, rfl⟩) b1 w.heap.size n1 _ _ _ rfl hrg ?_ ?_)
        | go_in)
      · -- NOTHING IS LEFT
        intro _ hl0
        go_wp2
        go_ret
        exact ⟨by rw [← RES.out, all_good G.out hl0 hsz]; rfl, hgw⟩
      · -- AN ENTRY HAS COME
        intro x y z c kl yd yp w1 cnt1 hkey hlx hv hat hrg1 hlt hg1 hs1 hen
        have hgw1 : w.grownBy w1 none := hgw.andThen hg1 (fun j hj => by cases hj; exact Or.inl (Nat.le_refl _))
        have h2w1 := h2r.kept hg1 (fun e => by have := Option.some.inj e; omega)
        have HAT : Aside (∀ zd, (DataW.map es1).atKey kl zd = yd) := hat
        clear hat
        have h2a := h2w1.kept (World.grownBy_alloc w1 (.cells #[.int .i64 x, .int .i64 y, .int .i64 z] 34) none) (by simp)
        have hrga := hrg1.alloc (.cells #[.int .i64 x, .int .i64 y, .int .i64 z] 34)
        have hgwa := hgw1.andThen (World.grownBy_alloc w1 (.cells #[.int .i64 x, .int .i64 y, .int .i64 z] 34) none) (fun j hj => by cases hj)
        cases hh : Maps.has D2 kl
        · have hbad : Lib.goodD eqU D2 (kl, yd) = false := by unfold Lib.goodD; rw [hh]; rfl
          go_wp2_with (first
            | (at_lookup; refine wpList_lookup_own_ok _ rfl _ _ 110 rfl 34 35 place_keyed Try.underlying110 R (hz2 _) (.lit (.int .u64 0)) zp hzd b2 n2 D2 rfl h2a _ kl rfl hkey ?_; intro v2 ps2 hv2; rw [hh]; go_frame)
            | go_in)
          go_ret
          exact ⟨by rw [← RES.out, bad_false hap hkeys HAT.out hbad]; rfl, hgwa⟩
        · cases he : eqU yd (D2.atKey kl (.lit (.int .u64 0)))
          · have hbad : Lib.goodD eqU D2 (kl, yd) = false := by unfold Lib.goodD; rw [hh, atKey_indep hh .nil (.lit (.int .u64 0)), he]; rfl
            go_wp2_with (first
              | (at_lookup; refine wpList_lookup_own_ok _ rfl _ _ 110 rfl 34 35 place_keyed Try.underlying110 R (hz2 _) (.lit (.int .u64 0)) zp hzd b2 n2 D2 rfl h2a _ kl rfl hkey ?_; intro v2 ps2 hv2; rw [hh]; go_frame; have hc := fun W => (HQ.out W (.int .u64 c) v2 yd _ yp ps2 hv hv2).1; have hgd := fun W => (HQ.out W (.int .u64 c) v2 yd _ yp ps2 hv hv2).2; rw [he] at hc)
              | go_in)
            go_ret
            exact ⟨by rw [← RES.out, bad_false hap hkeys HAT.out hbad]; rfl, hgwa⟩
          · have hgood : Lib.goodD eqU D2 (kl, yd) = true := by unfold Lib.goodD; rw [hh, atKey_indep hh .nil (.lit (.int .u64 0)), he]; rfl
            go_wp2_with (first
              | (at_lookup; refine wpList_lookup_own_ok _ rfl _ _ 110 rfl 34 35 place_keyed Try.underlying110 R (hz2 _) (.lit (.int .u64 0)) zp hzd b2 n2 D2 rfl h2a _ kl rfl hkey ?_; intro v2 ps2 hv2; rw [hh]; go_frame; have hc := fun W => (HQ.out W (.int .u64 c) v2 yd _ yp ps2 hv hv2).1; have hgd := fun W => (HQ.out W (.int .u64 c) v2 yd _ yp ps2 hv hv2).2; rw [he] at hc)
              | go_in)
            go_roundw
            case rel => exact ⟨_, cnt1, hrga, h2a, hgwa, good_step hap hkeys HAT.out G.out hgood⟩
            case measure => rw [hrga.left_eq, hrg.left_eq]; exact hlt
  · have hne : ¬ ((Maps.size (.map es1 : DataW Unit) : Int) = (Maps.size D2 : Int)) := fun e => hsz (by exact_mod_cast e)
    go_enter Try.func67, Try.ntmps67
    go_wp2
    go_ret
    exact ⟨by rw [← RES.out, sizes_false hsz]; rfl, World.grownBy.refl _ _⟩
end Go.Proofs.Ytdjogfofedbohaa
end
section
/- What maps.Equal answers at maps of places: whether they are one as functions. -/
namespace Go.Proofs.Ytdjogfofedbohaa
open Go.RowKit Go.Maps
open Go.WideShapes
open Go.WideElems (Fit rg rd_key rg_of)

theorem keys_owned {R : Value → Option (DataW Unit × List MemPlace)} {w : World} {b n : Nat} {D : DataW Unit} (h : w.ownsMap Try.prog 34 R b n D) {k : Lit} (hk : has D k = true) : ∃ q, PlWf q ∧ k = litP q := by
  obtain ⟨es, clock, _, F, _, rfl⟩ := h
  rw [has_eq] at hk
  obtain ⟨p, hp, e⟩ := List.any_eq_true.1 hk
  have e := WideAt.sameKey_eq e
  subst e
  obtain ⟨x, hx, rfl⟩ := List.mem_map.1 (mem_sorted.1 hp)
  obtain ⟨y, hy⟩ := F.reads x hx
  rw [rg_of hy]
  obtain ⟨q, _, hq, h2⟩ := keyOf_inv (rd_key hy)
  exact ⟨q, hq, h2⟩

theorem sub_back {α : Type} : ∀ {l1 l2 : List α}, l1.Pairwise (· ≠ ·) → (∀ x ∈ l1, x ∈ l2) → l2.length ≤ l1.length → ∀ x ∈ l2, x ∈ l1
  | [], l2, _, _, hl, x, hx => by cases l2 <;> simp_all
  | a :: r, l2, hp, hs, hl, x, hx => by
    classical
    obtain ⟨ha, hr⟩ := List.pairwise_cons.1 hp
    have ha2 := hs a (by simp)
    by_cases e : x = a
    · simp [e]
    · have h1 : (l2.erase a).length ≤ r.length := by rw [List.length_erase_of_mem ha2]; simp at hl; omega
      exact List.mem_cons_of_mem _ (sub_back hr (fun y hy => (List.mem_erase_of_ne (fun e => (ha y hy) e.symm)).2 (hs y (by simp [hy]))) h1 x ((List.mem_erase_of_ne e).2 hx))

theorem equal_iff {w w' : World} {b1 b2 n1 n2 : Nat} {D1 D2 : DataW Unit} {R : Value → Option (DataW Unit × List MemPlace)} {f g : Pl → Int}
    (o1 : w.ownsMap Try.prog 34 R b1 n1 D1) (o2 : w'.ownsMap Try.prog 34 R b2 n2 D2)
    (a1 : ∀ p, PlWf p → D1.atKey (litP p) (.lit (.int .u64 0)) = .lit (.int .u64 (f p))) (h1 : ∀ p, PlWf p → has D1 (litP p) = decide (f p ≠ 0))
    (a2 : ∀ p, PlWf p → D2.atKey (litP p) (.lit (.int .u64 0)) = .lit (.int .u64 (g p))) (h2 : ∀ p, PlWf p → has D2 (litP p) = decide (g p ≠ 0)) :
    Lib.equalFuncD eqU D1 D2 = true ↔ ∀ p, PlWf p → f p = g p := by
  have c1 := o1.canon place_keyed
  have c2 := o2.canon place_keyed
  have k1 := fun k => keys_owned o1 (k := k)
  have k2 := fun k => keys_owned o2 (k := k)
  constructor
  · intro he
    obtain ⟨es1, rfl, s1, q1⟩ := c1
    obtain ⟨es2, rfl, s2, q2⟩ := c2
    unfold Lib.equalFuncD at he
    simp only [Bool.and_eq_true, decide_eq_true_eq, List.all_eq_true, Lib.entriesD, size_eq] at he
    obtain ⟨hz, hg⟩ := he
    have p1 := apart_of_rising s1
    have sub : ∀ x ∈ es1.map (·.1), x ∈ es2.map (·.1) := by
      intro x hx
      obtain ⟨p, hp, rfl⟩ := List.mem_map.1 hx
      have := hg p hp
      unfold Lib.goodD at this
      rw [Bool.and_eq_true, has_eq] at this
      obtain ⟨q, hq, e⟩ := List.any_eq_true.1 this.1
      exact List.mem_map.2 ⟨q, hq, WideAt.sameKey_eq e⟩
    have back := sub_back (List.pairwise_map.2 p1) sub (by rw [List.length_map, List.length_map]; exact Nat.le_of_eq (of_decide_eq_true hz).symm)
    intro p hp
    by_cases h0 : f p = 0
    · by_cases g0 : g p = 0
      · rw [h0, g0]
      · have := h2 p hp
        rw [decide_eq_true g0, has_eq] at this
        obtain ⟨q, hq, e⟩ := List.any_eq_true.1 this
        have e := WideAt.sameKey_eq e
        obtain ⟨q', hq', e'⟩ := List.mem_map.1 (back q.1 (List.mem_map.2 ⟨q, hq, rfl⟩))
        have h3 := h1 p hp
        rw [decide_eq_false (by simpa using h0)] at h3
        have : has (.map es1) (litP p) = true := by
          rw [has_eq]
          exact List.any_eq_true.2 ⟨q', hq', by rw [← e, ← e']; exact WideAt.sameKey_self (q1 q' hq')⟩
        rw [h3] at this
        cases this
    · have h3 := h1 p hp
      rw [decide_eq_true h0] at h3
      have h4 := h3
      rw [has_eq] at h4
      obtain ⟨q, hq, e⟩ := List.any_eq_true.1 h4
      have e := WideAt.sameKey_eq e
      have h5 := hg q hq
      unfold Lib.goodD at h5
      rw [e, Bool.and_eq_true, atKey_indep h5.1 .nil (.lit (.int .u64 0)), a2 p hp] at h5
      have h6 : q.2 = (DataW.map es1).atKey (litP p) (.lit (.int .u64 0)) := (WideAt.atKey_mem _ (e ▸ q1 q hq) p1 (by rw [← e]; exact hq)).symm
      rw [h6, a1 p hp] at h5
      simpa [eqU] using h5.2
  · intro hfg
    have hh : ∀ k, has D1 k = has D2 k := by
      intro k
      cases hx : has D1 k with
      | true =>
        obtain ⟨q, hq, rfl⟩ := k1 k hx
        rw [← hx, h1 q hq, h2 q hq, hfg q hq]
      | false =>
        cases hy : has D2 k with
        | false => rfl
        | true =>
          obtain ⟨q, hq, rfl⟩ := k2 k hy
          rw [← hx, ← hy, h1 q hq, h2 q hq, hfg q hq]
    have : D1 = D2 := Maps.ext c1 c2 hh (fun k z hk => by
      obtain ⟨q, hq, rfl⟩ := k1 k hk
      rw [atKey_indep hk z (.lit (.int .u64 0)), atKey_indep (hh _ ▸ hk) z (.lit (.int .u64 0)), a1 q hq, a2 q hq, hfg q hq])
    subst this
    obtain ⟨es1, rfl, s1, q1⟩ := c1
    unfold Lib.equalFuncD
    simp only [Bool.and_eq_true, decide_eq_true_eq, List.all_eq_true, Lib.entriesD, true_and]
    intro p hp
    have hk : has (.map es1) p.1 = true := by
      rw [has_eq]
      exact List.any_eq_true.2 ⟨p, hp, WideAt.sameKey_self (q1 p hp)⟩
    have hat : (DataW.map es1).atKey p.1 .nil = p.2 := WideAt.atKey_mem .nil (q1 p hp) (apart_of_rising s1) hp
    obtain ⟨q, hq, e⟩ := k1 _ hk
    unfold Lib.goodD
    rw [hk, hat, Bool.true_and, ← hat, atKey_indep hk .nil (.lit (.int .u64 0)), e, a1 q hq]
    simp [eqU]

set_option maxRecDepth 100000 in
theorem equal_at {w : World} {b1 b2 n1 n2 : Nat} {f g : Pl → Int} (m1 : MapAt w b1 f n1) (m2 : MapAt w b2 g n2) :
    Calls Try.prog 67 #[.map (some b1), .map (some b2)] w fun e w' => ∃ r : Bool, e = .returned (.bool r) ∧ (r = true ↔ ∀ p, PlWf p → f p = g p) ∧ w.grownBy w' none := by
  obtain ⟨D1, o1, a1, h1⟩ := m1
  obtain ⟨D2, o2, a2, h2⟩ := m2
  refine (equal_maps (plainElem Try.prog 35) (fun {v z} h => ?_) b1 b2 n1 n2 D1 D2 w o1 o2 [] (plainElem_int Try.underlying35 (by decide)) Try.zeroValue35 ?_).mono ?_
  · obtain ⟨a, h1, h2, _⟩ := plainElem_int_inv Try.underlying35 h
    exact ⟨a, h1, h2⟩
  · intro W x y xd yd xp yp hx hy
    obtain ⟨i, rfl, e1, _⟩ := plainElem_int_inv Try.underlying35 hx
    obtain ⟨j, rfl, e2, _⟩ := plainElem_int_inv Try.underlying35 hy
    injection e1 with e1 _
    injection e2 with e2 _
    subst e1 e2
    constructor
    · simp [go_sem, eqU, binOp]
      rfl
    · intro a b
      simp [eqGuard]
  · rintro e w' ⟨rfl, hg⟩
    exact ⟨_, rfl, equal_iff o1 o2 a1 h1 a2 h2, hg⟩
end Go.Proofs.Ytdjogfofedbohaa
end
section
/- Which places of a map have come, while its keys are gone through. -/
namespace Go.Proofs.Ytdjogfofedbohaa
open Go.RowKit Go.Maps

def CollP (D0 : DataW Unit) (left : Lit → Bool) (ss : List Pl) : Prop := ss.Nodup ∧ (∀ x ∈ ss, PlWf x) ∧ ∀ x, PlWf x → (x ∈ ss ↔ (has D0 (litP x) = true ∧ left (litP x) = false))
theorem CollP.start (D0 : DataW Unit) : CollP D0 (has D0) [] := ⟨List.nodup_nil, (fun _ h => by cases h), fun x _ => by cases has D0 (litP x) <;> simp⟩
theorem CollP.step {D0 : DataW Unit} {left : Lit → Bool} {ss : List Pl} (h : CollP D0 left ss) {x : Pl} (hx : PlWf x) {y : DataW Unit} (hlk : left (litP x) = true) (hat : ∀ zd, D0.atKey (litP x) zd = y) : CollP D0 (fun z => left z && !z.sameKey (litP x)) (ss ++ [x]) := by
  obtain ⟨h1, h2, h3⟩ := h
  have hn : x ∉ ss := fun hm => by have := ((h3 x hx).1 hm).2; rw [hlk] at this; cases this
  have hkey := place_keyed.key (keyOf_place x hx)
  refine ⟨?_, ?_, fun z hz => ?_⟩
  · rw [List.nodup_append]
    exact ⟨h1, by simp, fun a ha b hb => by rw [List.mem_singleton] at hb; subst hb; rintro rfl; exact hn ha⟩
  · intro z hz
    rcases List.mem_append.1 hz with hz | hz
    · exact h2 z hz
    · rw [List.mem_singleton] at hz
      subst hz
      exact hx
  · rw [List.mem_append, List.mem_singleton, h3 z hz]
    by_cases e : z = x
    · subst e
      simp [WideAt.sameKey_self hkey, has_true_of_atKey hat]
    · have hne : (litP z).sameKey (litP x) = false := by
        cases hs : (litP z).sameKey (litP x)
        · rfl
        · exact absurd (litP_inj hz hx (WideAt.sameKey_eq hs)) e
      simp [e, hne]
/-- All have come. -/
theorem CollP.done {D0 : DataW Unit} {left : Lit → Bool} {ss : List Pl} (h : CollP D0 left ss) (hl : ∀ k, left k = false) : ss.Nodup ∧ (∀ x ∈ ss, PlWf x) ∧ ∀ x, PlWf x → (x ∈ ss ↔ has D0 (litP x) = true) :=
  ⟨h.1, h.2.1, fun x hx => by rw [h.2.2 x hx, hl]; simp⟩
end Go.Proofs.Ytdjogfofedbohaa
end
section
/- maps.Keys' iterator at maps of places. -/
namespace Go.Proofs.Ytdjogfofedbohaa
open Go.RowKit Go.Maps

abbrev kv (p : Pl) : Value := .agg #[.int .i64 p.1, .int .i64 p.2.1, .int .i64 p.2.2]
set_option maxRecDepth 100000 in
set_option maxHeartbeats 1000000 in
theorem keys1_in (F : Fence) (n : Nat) (h10 : F.fn 93) (hro : F.round = none) (hn : 1 ≤ n) (l Bm b nn : Nat) (D0 : DataW Unit) {R : Value → Option (DataW Unit × List MemPlace)} (J : List Pl → World → Prop)
    (hY : ∀ pre x W, J pre W → PlWf x → pre.length < Maps.size D0 → YieldAt F (n - 1) Try.prog l #[kv x] W fun e W' => e = .returned (.bool true) ∧ J (pre ++ [x]) W' ∧ KeepsWalks W W')
    (W : World) (hJ : AbidesFrom W.heap.size J) (hm : W.cell? ⟨Bm, 0, none⟩ = some (.map (some b))) (hown : W.ownsMap Try.prog 34 R b nn D0) (h0 : J [] W) :
    CallsIn F n Try.prog 93 #[.func (.yield l) #[] #[], .pointer (some ⟨Bm, 0, none⟩)] W fun e W' => (∃ v, e = .returned v) ∧ ∃ ss : List Pl, (ss.Nodup ∧ (∀ x ∈ ss, PlWf x) ∧ ∀ x, PlWf x → (x ∈ ss ↔ has D0 (litP x) = true)) ∧ J ss W' := by
  refine callsIn_of_wp Try.func93 rfl h10 ?_ hro
  simp only [Try.ntmps93, List.size_toArray, List.length_cons, List.length_nil, Nat.reduceAdd, Nat.reduceSub, Array.replicate_succ, Array.replicate_zero, List.push_toArray, List.append_toArray, List.nil_append, List.cons_append]
  gi_wp2_with (first
    | (gi_at_range; refine wpListIn_range_own _ rfl _ 110 rfl 34 35 place_keyed Try.underlying110 _ b nn _ rfl hown ?_; intro w0 hrg0 hg0 hs0)
    | gi_in)
  go_frame
  gi_loopw [7] (fun _ wr => ∃ (left : Lit → Bool) (cnt : Nat) (ss : List Pl), wr.ranges Try.prog 34 R b W.heap.size nn D0 left cnt ∧ ss.length + cnt ≤ Maps.size D0 ∧ CollP D0 left ss ∧ J ss wr)
    (fun _ wr => wr.rangeLeft b W.heap.size)
  case atStart =>
    exact ⟨_, _, [], hrg0, by simp, CollP.start D0, hJ [] W w0 none h0 hg0 (fun r e => by cases e)⟩
  case round =>
    obtain ⟨left, cnt, ss, hrg, hcs, hC, hJs⟩ := hrel
    gi_wp2_with (first
      | (gi_at_next; refine wpListIn_next_ranges _ rfl _ rfl 34 place_keyed R (fun p : Pl => .agg #[.int .i64 p.1, .int .i64 p.2.1, .int .i64 p.2.2]) id (fun key _ h => by obtain ⟨p, rfl, _⟩ := keyOf_inv h; exact ⟨p, rfl⟩) (fun v _ _ => ⟨v, rfl⟩) b W.heap.size nn _ _ _ rfl hrg ?_ ?_)
      | gi_in)
    · intro hc0 hl0
      gi_wp2
      go_end0
      exact ⟨⟨_, rfl⟩, ss, hC.done hl0, hJs⟩
    · intro x y z c kl yd yp w2 cnt2 hkey hlk hv hat hrg2 hlt hg2 hs2 hen
      obtain ⟨q, e0, hq, rfl⟩ := keyOf_inv hkey
      obtain rfl : q = (x, y, z) := by
        obtain ⟨q1, q2, q3⟩ := q
        simpa [kagg, eq_comm] using e0
      have hJ2 : J ss w2 := hJ ss wr w2 (some W.heap.size) hJs hg2 (fun r e => by cases e; exact ⟨Nat.le_refl _, hrg.iter_walk⟩)
      have hJ3 : J ss (w2.alloc (.cells #[.int .i64 x, .int .i64 y, .int .i64 z] 34)) := hJ ss w2 _ none hJ2 (World.grownBy_alloc _ _ _) (fun r e => by cases e)
      obtain ⟨fn, tmps, assign, body, hy, hR⟩ := hY ss (x, y, z) _ hJ3 hq (by omega)
      have hrga := hrg2.alloc (.cells #[.int .i64 x, .int .i64 y, .int .i64 z] 34)
      clear hs2 e0
      simp only [kv] at hy
      gi_wp2
      refine hR.mono ?_
      rintro e W3 ⟨rfl, hJ3, hk3⟩
      gi_wp2
      have hrg3 := hrga.of_walks hk3
      go_roundw
      case rel => exact ⟨_, cnt2, ss ++ [(x, y, z)], hrg3, by simp; omega, hC.step hq hlk hat, hJ3⟩
      case measure => rw [hrg3.left_eq, hrg.left_eq]; exact hlt
end Go.Proofs.Ytdjogfofedbohaa
end
section
/- maps.Keys at maps of places hands back an iterator over their keys. -/
namespace Go.Proofs.Ytdjogfofedbohaa
open Go.RowKit Go.Maps
set_option maxRecDepth 100000 in
set_option maxHeartbeats 1000000 in
theorem keys_in (F : Fence) (n : Nat) (h7 : F.fn 69) (hro : F.round = none) (mb : Option Nat) (w : World) :
    CallsIn F n Try.prog 69 #[.map mb] w fun e w' => e = .returned (.func (.func 93) #[] #[.pointer (some ⟨w.heap.size, 0, none⟩)]) ∧ w' = w.alloc (.cells #[.map mb] 110) := by
  refine callsIn_of_wp Try.func69 rfl h7 ?_ hro
  simp only [Try.ntmps69, List.size_toArray, List.length_cons, List.length_nil, Nat.reduceAdd, Nat.reduceSub, Array.replicate_succ, Array.replicate_zero, List.push_toArray, List.append_toArray, List.nil_append, List.cons_append]
  gi_wp2
  go_ret
  exact ⟨rfl, rfl⟩
theorem keys_gives (F : Fence) (n : Nat) (h10 : F.fn 93) (hro : F.round = none) (hn : 1 ≤ n) (Bm b nn : Nat) (D0 : DataW Unit) {R : Value → Option (DataW Unit × List MemPlace)} (w : World) (hBm : Bm < w.heap.size)
    (hm : w.cell? ⟨Bm, 0, none⟩ = some (.map (some b))) (hown : w.ownsMap Try.prog 34 R b nn D0) :
    SeqGives F n Try.prog 93 #[.pointer (some ⟨Bm, 0, none⟩)] kv (fun ss => ss.Nodup ∧ (∀ x ∈ ss, PlWf x) ∧ ∀ x, PlWf x → (x ∈ ss ↔ has D0 (litP x) = true)) (Maps.size D0) w := fun l J W hW hJ hY h0 => by
  have hown' : W.ownsMap Try.prog 34 R b nn D0 := by
    have hbl := hown.lt
    obtain ⟨es, clock, hb, Ft, hs, hD⟩ := hown
    exact ⟨es, clock, (hW.block b hbl).trans hb, Ft, hs, hD⟩
  exact keys1_in F n h10 hro hn l Bm b nn D0 J (fun pre x W h _ hl => hY pre x W h hl) W hJ ((hW.cell (p := ⟨Bm, 0, none⟩) hBm).trans hm) hown' h0
end Go.Proofs.Ytdjogfofedbohaa
end
section
/- slices.AppendSeq(nil, seq), slices.Collect(seq) at places (the worked walk of the kit, turned to structs; not clean yet). -/
namespace Go.Proofs.Ytdjogfofedbohaa
open Go.RowKit Go.Maps Go.Sort
abbrev kvs (p : Pl) : List Value := [.int .i64 p.1, .int .i64 p.2.1, .int .i64 p.2.2]
theorem info_place : (Try.prog.info? 34).map (fun i => (i.zero, i.size, i.bytes)) = some (some (.agg #[.int .i64 0, .int .i64 0, .int .i64 0]), 3, 24) := by kernel_rfl
theorem kvs_one (p : Pl) : ∀ u ∈ kvs p, u.oneCell' = true := by simp [Value.oneCell']
theorem box_cells (w : World) (p : Pl) : ∀ j u, (kvs p)[j]? = some u → (w.alloc (.cells #[.int .i64 p.1, .int .i64 p.2.1, .int .i64 p.2.2] 34)).cell? ((⟨w.heap.size, 0, none⟩ : Addr).add j) = some u := by
  intro j u h
  have e : ((⟨w.heap.size, 0, none⟩ : Addr).add j) = ⟨w.heap.size, j, none⟩ := by
    by_cases hj : j = 0 <;> simp [Addr.add, hj]
  rw [e]
  exact ((Blk.new w 34 (kvs p)).cell j).trans h
def apAssign : Code := (Code.region 2 #[{ dst := some 5, op := Op.alloc 34, type := 0, pos := "iter.go:51", after := #[], guard := none }, { dst := none, op := Op.store 34 (Operand.tmp 5) (Operand.tmp 7), type := 0, pos := "iter.go:51", after := #[{ on := 0, ground := Ground.data }, { on := 0, ground := Ground.phase }], guard := none }] false)
def apBody : Code := (Code.block 1 (Code.region 3 #[{ dst := some 8, op := Op.load 45 (Operand.tmp 2), type := 45, pos := "iter.go:52", after := #[], guard := none }, { dst := some 9, op := Op.load 34 (Operand.tmp 5), type := 34, pos := "iter.go:52", after := #[], guard := none },
  { dst := some 10, op := Op.buildSlice 45 1 #[(0, Operand.tmp 9)], type := 45, pos := "iter.go:52", after := #[{ on := 1, ground := Ground.data }], guard := none },
  { dst := some 11, op := Op.call { callee := Callee.builtin Builtin.append, args := #[Operand.tmp 8, Operand.tmp 10], argTypes := #[45, 45] }, type := 45, pos := "iter.go:52", after := #[{ on := 0, ground := Ground.data }, { on := 2, ground := Ground.data }], guard := none },
  { dst := none, op := Op.store 45 (Operand.tmp 2) (Operand.tmp 11), type := 0, pos := "iter.go:52", after := #[{ on := 3, ground := Ground.data }, { on := 3, ground := Ground.chain }, { on := 0, ground := Ground.phase }, { on := 1, ground := Ground.phase }, { on := 2, ground := Ground.phase }, { on := 3, ground := Ground.phase }], guard := none }] false))
def apRec (fn : FuncId) (sv : Value) (Bs D : Nat) (st : LoopState) (pend : Option Code) : Loop :=
  { state := st, pending := pend, fn, tmps := #[.slice none 0 0, sv, .pointer (some ⟨Bs, 0, none⟩), undef, .slice none 0 0, undef, sv, undef, undef, undef, undef, undef, undef], params := #[7], assign := apAssign, body := apBody, defers := D }
end Go.Proofs.Ytdjogfofedbohaa
end
section
/- slices.AppendSeq(nil, seq), slices.Collect(seq) at places: the kit's worked walk turned (wip/turn_collect.py). -/
namespace Go.Proofs.Ytdjogfofedbohaa
open Go.RowKit Go.Maps Go.Sort
/-- BETWEEN TWO ROUNDS: the box holds a slice that owns, in a block of the call's own, what has come so far; IT IS nil JUST AS LONG AS NOTHING HAS COME; nothing that lay before the call has turned. -/
structure ApAt (w0 : World) (fn : FuncId) (sv : Value) (Bs l D : Nat) (ss : List Pl) (W : World) : Prop where
  box : ∃ v, W.heap[Bs]? = some (.cells #[v] (45) (0, 0)) ∧ W.ownsRow w0.heap.size (34) 3 v ss.length (ss.flatMap kvs) ∧ (v = .slice none 0 0 ↔ ss = [])
  L : W.heap[l]? = some (.loop (apRec fn sv Bs D .ready none))
  K : W.heap[D]? = some (.deferred (some []))
  below : Below w0.heap.size w0 W



theorem ap_abides (w0 : World) (fn : FuncId) (sv : Value) (Bs l D B : Nat) (hB : w0.heap.size ≤ B) : AbidesFrom B (ApAt w0 fn sv Bs l D) := fun s W W' row h hg hrow => by
  have hrow' : ∀ r, row = some r → ∃ o : Obj, W.heap[r]? = some o ∧ o.isWalk = true := fun r e => (hrow r e).2
  obtain ⟨v, hv, hr, hn⟩ := h.box
  exact ⟨⟨v, (grownBy_keeps hg hrow' hv rfl).trans hv, ownsRow_abides_a hr hg hrow', hn⟩, (grownBy_keeps hg hrow' h.L rfl).trans h.L, (grownBy_keeps hg hrow' h.K rfl).trans h.K,
    h.below.grown hg h.below.size (fun k e => Nat.le_trans hB (hrow k e).1)⟩









set_option maxRecDepth 100000 in
set_option maxHeartbeats 2000000 in
theorem apYield (F : Fence) (m : Nat) (w0 : World) (fn : FuncId) (hfn : F.fn fn) (sv : Value) (Bs l D : Nat) (hBl : Bs ≠ l) (hDl : D ≠ l) (hDB : D ≠ Bs) (h0B : w0.heap.size ≤ Bs) (h0l : w0.heap.size ≤ l)
    (N : Nat) (hN : N ≤ maxLen) (hNb : N * 24 ≤ 140737488355328) (ss : List Pl) (x : Pl) (W : World) (h : ApAt w0 fn sv Bs l D ss W) (hlen : ss.length < N) :
    YieldAt F m Try.prog l #[kv x] W fun e W' => e = .returned (.bool true) ∧ ApAt w0 fn sv Bs l D (ss ++ [x]) W' ∧ KeepsWalks W W' := by
  have hne : (45 : TypeId) ≠ 34 := by decide
  obtain ⟨i0, hi, hz0, hz1, hz2⟩ := info_parts info_place
  refine ⟨fn, #[.slice none 0 0, sv, .pointer (some ⟨Bs, 0, none⟩), undef, .slice none 0 0, undef, sv, kv x, undef, undef, undef, undef, undef], apAssign, apBody, by simpa [apRec] using run_yield (P := Try.prog) (args := #[kv x]) h.L rfl, roundIn_of_wpIn hfn ?_⟩
  have hA := ap_abides w0 fn sv Bs l D W.heap.size h.below.size ss W (W.alloc (.cells #[.int .i64 x.1, .int .i64 x.2.1, .int .i64 x.2.2] 34)) none h (World.grownBy_alloc _ _ _) (fun r e => by cases e)
  have hkA : KeepsWalks W (W.alloc (.cells #[.int .i64 x.1, .int .i64 x.2.1, .int .i64 x.2.2] 34)) := KeepsWalks.alloc _ _
  have hnew := Blk.new W 34 (kvs x)
  have hszA : (W.alloc (.cells #[.int .i64 x.1, .int .i64 x.2.1, .int .i64 x.2.2] 34)).heap.size = W.heap.size + 1 := by simp
  have hbl : l ≠ W.heap.size := fun e => by have := (Array.getElem?_eq_some_iff.1 h.L).1; omega
  unfold apAssign
  gi_wp2_with gi_round_op_a
  obtain ⟨WA, hWA⟩ : ∃ WA, W.alloc (.cells #[.int .i64 x.1, .int .i64 x.2.1, .int .i64 x.2.2] 34) = WA := ⟨_, rfl⟩
  have hnew : WA.heap[W.heap.size]? = some (.cells (kvs x).toArray 34 (0, 0)) := by rw [← hWA]; exact hnew
  rw [hWA] at hA hkA hszA ⊢
  obtain ⟨v, hv, hrow, _⟩ := hA.box
  have hl : l < WA.heap.size := (Array.getElem?_eq_some_iff.1 hA.L).1
  have hbr := run_beginRound (P := Try.prog) hA.L rfl
  obtain ⟨W2, hW2⟩ : ∃ W2, WA.putObj l (.loop { apRec fn sv Bs D .ready none with state := .busy }) = W2 := ⟨_, rfl⟩
  rw [hW2] at hbr
  have hg2 : WA.grownBy W2 (some l) := by rw [← hW2]; exact grownBy_putObj_a _ _ _
  have hk2 : KeepsWalks WA W2 := by rw [← hW2]; exact KeepsWalks.putObj _ hA.L rfl
  have hv2 : W2.heap[Bs]? = some (.cells #[v] (45) (0, 0)) := by rw [← hW2]; exact (World.putObj_heap_other hBl).trans hv
  have hK2 : W2.heap[D]? = some (.deferred (some [])) := by rw [← hW2]; exact (World.putObj_heap_other hDl).trans hA.K
  have hL2 : W2.heap[l]? = some (.loop { apRec fn sv Bs D .ready none with state := .busy }) := by rw [← hW2]; exact World.putObj_heap_same hl
  have hrow2 : W2.ownsRow w0.heap.size (34) 3 v ss.length (ss.flatMap kvs) := hrow.kept hg2 (ownsRow_ne_a hrow hA.L (fun cur e => by first | cases e | exact hne (Obj.cells.inj e).2.1))
  have hb2 : Below w0.heap.size w0 W2 := hA.below.grown hg2 hA.below.size (fun k e => by cases e; exact h0l)
  obtain ⟨hc2, hf2⟩ := cell_of_box_a hv2
  have hBlt : Bs < W2.heap.size := (Array.getElem?_eq_some_iff.1 hv2).1
  have hl2 : l < W2.heap.size := (Array.getElem?_eq_some_iff.1 hL2).1
  have hDlt : D < W2.heap.size := (Array.getElem?_eq_some_iff.1 hK2).1
  have ne_of : ∀ {j : Nat} {o : Obj}, W2.heap[j]? = some o → (∀ cur, o ≠ .cells cur (34) (0, 0)) → some j ≠ v.ownBlock := fun hj hno => by
    rcases ownsRow_ne_a hrow2 hj hno with e | e
    · rw [e]; simp
    · exact fun e' => e e'.symm
  have hbx2 : Blk W2 W.heap.size 34 (kvs x) := by unfold Blk; rw [← hW2]; exact (World.putObj_heap_other hbl.symm).trans hnew
  have hx0 := hbx2.cell 0
  have hx1 := hbx2.cell 1
  have hx2 := hbx2.cell 2
  clear hW2
  refine ⟨W2, hbr, ?_⟩
  unfold apBody
  gi_wp2_with (first
    | (gi_at_builtin; refine wpListIn_append_own _ rfl _ _ (45) rfl w0.heap.size (34) i0 (.agg #[.int .i64 0, .int .i64 0, .int .i64 0]) 3 24 Try.underlying45 hi hz0 hz1 hz2 rfl (by decide) _ _ _ rfl (hrow2.alloc _) ⟨W2.heap.size, 0, none⟩ 1 1 (kvs x) rfl rfl (box_cells _ x) (kvs_one x) (by omega) (by omega) (by have := hb2.size; simp; omega) ?_; intro v' w3 hown' hg3 hnil3
       have hv3 : w3.heap[Bs]? = some (.cells #[v] (45) (0, 0)) := (hg3.block Bs (by simp; omega) (ne_of hv2 (fun cur e => by first | cases e | exact hne (Obj.cells.inj e).2.1))).trans ((Below.heap_alloc _ _ Bs hBlt).trans hv2)
       obtain ⟨hc3, hf3⟩ := cell_of_box_a hv3
       obtain ⟨g', cap', cur', rfl, hbase', hgb', hr1, hr2, hr3, hr4⟩ : ∃ g' cap' cur', v' = .slice (some ⟨g', 0, none⟩) (ss.length + 1) cap' ∧ w0.heap.size ≤ g' ∧ w3.heap[g']? = some (.cells cur' (34) (0, 0)) ∧ ss.length + 1 ≤ cap' ∧ cap' ≤ maxLen ∧ cur'.size = cap' * 3 ∧ cur'.toList.take ((ss.length + 1) * 3) = ss.flatMap kvs ++ kvs x := by
         rcases hown'.2 with ⟨_, h0⟩ | h'
         · exact absurd h0 (by omega)
         · exact h'
       go_frame)
    | gi_round_op_a)
  have hg3' : (W2.alloc (.cells #[.int .i64 x.1, .int .i64 x.2.1, .int .i64 x.2.2] (34))).grownBy w3 v.ownBlock := hg3
  have hL3 : w3.heap[l]? = some (.loop { apRec fn sv Bs D .ready none with state := .busy }) := (hg3'.block l (by simp; omega) (ne_of hL2 (fun cur e => by first | cases e | exact hne (Obj.cells.inj e).2.1))).trans ((Below.heap_alloc _ _ l hl2).trans hL2)
  have hK3 : w3.heap[D]? = some (.deferred (some [])) := (hg3'.block D (by simp; omega) (ne_of hK2 (fun cur e => by first | cases e | exact hne (Obj.cells.inj e).2.1))).trans ((Below.heap_alloc _ _ D hDlt).trans hK2)
  obtain ⟨w4, hw4⟩ : ∃ w4, w3.setCell ⟨Bs, 0, none⟩ (.slice (some ⟨g', 0, none⟩) (ss.length + 1) cap') = w4 := ⟨_, rfl⟩
  rw [hw4]
  have hg4 : w3.grownBy w4 (some Bs) := by rw [← hw4]; exact grownBy_setCell0_a _ _ _
  have hv4 : w4.heap[Bs]? = some (.cells #[.slice (some ⟨g', 0, none⟩) (ss.length + 1) cap'] (45) (0, 0)) := by rw [← hw4]; exact heap_setCell_box_a _ hv3
  have hL4 : w4.heap[l]? = some (.loop { apRec fn sv Bs D .ready none with state := .busy }) := (hg4.block l (Array.getElem?_eq_some_iff.1 hL3).1 (fun e => hBl (by cases e; rfl))).trans hL3
  have hK4 : w4.heap[D]? = some (.deferred (some [])) := (hg4.block D (Array.getElem?_eq_some_iff.1 hK3).1 (fun e => hDB (by cases e; rfl))).trans hK3
  have hrow4 := hown'.kept hg4 (ownsRow_ne_a hown' hv3 (fun cur e => by first | cases e | exact hne (Obj.cells.inj e).2.1))
  have hl4 : l < w4.heap.size := (Array.getElem?_eq_some_iff.1 hL4).1
  have hb3 : Below w0.heap.size w0 w3 := (hb2.alloc hb2.size _).grown hg3' (by have := hb2.size; simp; omega) (fun k e => (hrow2.lt k e).1)
  have hb4 : Below w0.heap.size w0 w4 := hb3.grown hg4 hb3.size (fun k e => by cases e; exact h0B)
  have hk4 : KeepsWalks W w4 := hkA.trans <| ((hk2.trans (KeepsWalks.alloc _ _)).trans (KeepsWalks.of_grownBy hg3' (ownsRow_not_walk_a (hrow2.alloc _)))).trans (by rw [← hw4]; exact KeepsWalks.setCell _ _ _)
  clear hw4
  refine ⟨_, _, run_endRound none hL4, rfl, ⟨⟨_, (World.putObj_heap_other hBl).trans hv4, ?_, by simp⟩, World.putObj_heap_same hl4, (World.putObj_heap_other hDl).trans hK4, hb4.grown (grownBy_putObj_a _ _ _) hb4.size (fun k e => by cases e; exact h0l)⟩, hk4.trans (KeepsWalks.putObj _ hL4 rfl)⟩
  have := hrow4.kept (grownBy_putObj_a w4 l (.loop { { apRec fn sv Bs D .ready none with state := .busy } with state := if (none : Option Code).isNone then .ready else .done, pending := none })) (ownsRow_ne_a hrow4 hL4 (fun cur e => by first | cases e | exact hne (Obj.cells.inj e).2.1))
  simpa using this


set_option maxRecDepth 100000 in
set_option maxHeartbeats 2000000 in
/-- **slices.AppendSeq(nil, seq), AGAINST WHATEVER ITERATOR VALUE THAT 'SeqGives'**: it hands back a slice that owns, in a block of the call's own, JUST WHAT THE ITERATOR GAVE, IN THAT ORDER; nil JUST WHERE IT GAVE NOTHING (as Go: 'slices.Collect' of nothing is nil); nothing that lay before the call has turned. -/
theorem appendSeq_in (F : Fence) (n : Nat) (h11 : F.fn 112) (hro : F.round = none) (hn : 2 ≤ n) (g : Nat) (lb : Array Value) (hFg : F.fn g) (eg : ∀ args w, (callFunc g args).run Try.prog w = .ok (.enter g args) w)
    (S : List Pl → Prop) (N : Nat) (hN : N ≤ maxLen) (hNb : N * 24 ≤ 140737488355328) (w : World) (hseq : SeqGives F (n - 1) Try.prog g lb kv S N w) :
    CallsIn F n Try.prog 112 #[.slice none 0 0, .func (.func g) #[] lb] w fun e w' => ∃ (v : Value) (ss : List Pl), e = .returned v ∧ S ss ∧ w'.ownsRow w.heap.size (34) 3 v ss.length (ss.flatMap kvs) ∧ (v = .slice none 0 0 ↔ ss = []) ∧ Below w.heap.size w w' := by
  have h1 : 1 ≤ n := by omega
  have hne : (45 : TypeId) ≠ 34 := by decide
  refine callsIn_of_wp_marks Try.func112 rfl h11 ?_ hro
  simp only [Try.ntmps112, List.size_toArray, List.length_cons, List.length_nil, Nat.reduceAdd, Nat.reduceSub, Array.replicate_succ, Array.replicate_zero, List.push_toArray, List.append_toArray, List.nil_append, List.cons_append]
  gi_wp2
  refine wpIn_rangeFunc ?_
  intro fn hfn
  rw [hro]
  obtain ⟨W0, hW0⟩ : ∃ W0, w.alloc (.cells #[.slice none 0 0] (45)) = W0 := ⟨_, rfl⟩
  have hs0 : W0.heap.size = w.heap.size + 1 := by rw [← hW0]; simp
  have hv0 : W0.heap[w.heap.size]? = some (.cells #[.slice none 0 0] (45) (0, 0)) := by rw [← hW0]; exact World.alloc_heap_new w _
  have hb0 : Below w.heap.size w W0 := by rw [← hW0]; exact (Below.refl _ w).alloc (Nat.le_refl _) _
  rw [hW0]
  obtain ⟨W1, hW1⟩ : ∃ W1, (W0.alloc (.deferred (some []))).alloc (.loop (apRec fn (.func (.func g) #[] lb) w.heap.size W0.heap.size .ready none)) = W1 := ⟨_, rfl⟩
  have hold : ∀ k, k < W0.heap.size → W1.heap[k]? = W0.heap[k]? := fun k hk => by
    rw [← hW1]; exact (Below.heap_alloc _ _ k (by simp; omega)).trans (Below.heap_alloc _ _ k hk)
  have hb1 : Below w.heap.size w W1 := by rw [← hW1]; exact (hb0.alloc hb0.size _).alloc (by have := hb0.size; simp; omega) _
  have hs1 : W1.heap.size = W0.heap.size + 2 := by rw [← hW1]; simp
  have hM : ApAt w fn (.func (.func g) #[] lb) w.heap.size (W0.heap.size + 1) W0.heap.size [] W1 :=
    ⟨⟨_, (hold w.heap.size (by omega)).trans hv0, ⟨rfl, .inl ⟨rfl, rfl⟩⟩, by simp⟩,
     by rw [← hW1]; have := World.alloc_heap_new (W0.alloc (.deferred (some []))) (.loop (apRec fn (.func (.func g) #[] lb) w.heap.size W0.heap.size .ready none)); rwa [World.size_alloc] at this,
     by rw [← hW1]; exact (Below.heap_alloc _ _ _ (by simp)).trans (World.alloc_heap_new W0 _), hb1⟩
  refine ⟨W0.heap.size + 1, [{ target := .collected W0.heap.size, args := #[] }], W1, { target := .fn (.func g) lb, args := #[.func (.yield (W0.heap.size + 1)) #[] #[]] }, W1, g,
    #[.func (.yield (W0.heap.size + 1)) #[] #[]] ++ lb, W1, ?_, ?_, ?_, ?_, fun _ => h1, ?_⟩
  · rw [← hW1]; exact run_enterLoop_outer _ _ _ _ _
  · simp [resolve, go_sem]
  · intro f' hf'; simp [Target.leads] at hf'; subst hf'; exact hFg
  · simp [invoke, go_sem, eg]
  · refine (hseq (W0.heap.size + 1) (ApAt w fn (.func (.func g) #[] lb) w.heap.size (W0.heap.size + 1) W0.heap.size) W1 hb1 (ap_abides _ _ _ _ _ _ _ hb1.size)
      (fun pre x W hJ hl => apYield F (n - 1 - 1) w fn hfn _ w.heap.size (W0.heap.size + 1) W0.heap.size (by omega) (by omega) (by omega) (Nat.le_refl _) (by omega) N hN hNb pre x W hJ hl) hM).mono ?_
    rintro e W2 ⟨⟨v0, rfl⟩, ss, hS, h2⟩
    obtain ⟨v, hv, hrow, hnil⟩ := h2.box
    have hend := run_endLoop (P := Try.prog) h2.L (by simp [apRec])
    obtain ⟨W3, hW3⟩ : ∃ W3, W2.putObj (W0.heap.size + 1) (.loop { apRec fn (.func (.func g) #[] lb) w.heap.size W0.heap.size .ready none with state := .exhausted }) = W3 := ⟨_, rfl⟩
    rw [hW3] at hend
    have hg3 : W2.grownBy W3 (some (W0.heap.size + 1)) := by rw [← hW3]; exact grownBy_putObj_a _ _ _
    have hv3 : W3.heap[w.heap.size]? = some (.cells #[v] (45) (0, 0)) := by rw [← hW3]; exact (World.putObj_heap_other (by omega)).trans hv
    have hK3 : W3.heap[W0.heap.size]? = some (.deferred (some [])) := by rw [← hW3]; exact (World.putObj_heap_other (by omega)).trans h2.K
    have hrow3 := hrow.kept hg3 (ownsRow_ne_a hrow h2.L (fun cur e => by first | cases e | exact hne (Obj.cells.inj e).2.1))
    have hb3 : Below w.heap.size w W3 := h2.below.grown hg3 h2.below.size (fun k e => by cases e; omega)
    obtain ⟨hc3, hf3⟩ := cell_of_box_a hv3
    clear hW3
    refine ⟨none, W3, hend, ?_⟩
    gi_wp2
    rw [← hs0]
    refine ⟨by simp, .inl ⟨_, _, rfl, run_takeDeferred hK3, ?_⟩⟩
    exact ⟨_, results_tmp rfl _ _ _, v, ss, rfl, hS, hrow3.kept (grownBy_putObj_a _ _ _) (ownsRow_ne_a hrow3 hK3 (fun cur e => by first | cases e | exact hne (Obj.cells.inj e).2.1)), hnil, hb3.grown (grownBy_putObj_a _ _ _) hb3.size (fun k e => by cases e; omega)⟩


set_option maxHeartbeats 1000000 in
/-- **slices.Collect(seq), AGAINST WHATEVER ITERATOR VALUE.** -/
theorem collect_in (F : Fence) (n : Nat) (h8 : F.fn 91) (h11 : F.fn 112) (hro : F.round = none) (hn : 3 ≤ n) (g : Nat) (lb : Array Value) (hFg : F.fn g) (eg : ∀ args w, (callFunc g args).run Try.prog w = .ok (.enter g args) w)
    (S : List Pl → Prop) (N : Nat) (hN : N ≤ maxLen) (hNb : N * 24 ≤ 140737488355328) (w : World) (hseq : SeqGives F (n - 1 - 1) Try.prog g lb kv S N w) :
    CallsIn F n Try.prog 91 #[.func (.func g) #[] lb] w fun e w' => ∃ (v : Value) (ss : List Pl), e = .returned v ∧ S ss ∧ w'.ownsRow w.heap.size (34) 3 v ss.length (ss.flatMap kvs) ∧ (v = .slice none 0 0 ↔ ss = []) ∧ Below w.heap.size w w' := by
  have h1 : 1 ≤ n := by omega
  refine callsIn_of_wp Try.func91 rfl h8 ?_ hro
  simp only [Try.ntmps91, List.size_toArray, List.length_cons, List.length_nil, Nat.reduceAdd, Nat.reduceSub, Array.replicate_succ, Array.replicate_zero, List.push_toArray, List.append_toArray, List.nil_append, List.cons_append]
  gi_wp2_with fail
  refine (appendSeq_in F (n - 1) h11 hro (by omega) g lb hFg eg S N hN hNb _ hseq).mono ?_
  rintro e w' ⟨v, ss, rfl, hS, hrow, hnil, hb⟩
  gi_wp2
  go_ret
  exact ⟨v, ss, rfl, hS, hrow, hnil, hb⟩



end Go.Proofs.Ytdjogfofedbohaa
end
section
/- slices.SortFunc at places: the shelf's contract, laid at this program. -/
namespace Go.Proofs.Ytdjogfofedbohaa
open Go.Shelf Go.RowKit Go.Lib Go.Sort

def sortP_ren : Go.Shelf.Ren := ⟨fun | 6 => 92 | 15 => 114 | 14 => 113 | 28 => 136 | 29 => 137 | 20 => 128 | 21 => 129 | 22 => 130 | 23 => 131 | 24 => 132 | 25 => 133 | 26 => 134 | 27 => 135 | 46 => 142 | 47 => 143 | 48 => 144 | 49 => 145 | 50 => 146 | 57 => 148 | n => n, fun | 22 => 45 | 24 => 34 | 25 => 121 | 3 => 3 | 39 => 91 | 0 => 0 | 53 => 211 | 55 => 35 | 4 => 4 | 46 => 205 | 45 => 204 | 50 => 195 | 5 => 5 | 9 => 9 | 66 => 214 | 70 => 217 | 76 => 219 | 77 => 220 | n => n, fun n => n⟩
set_option maxRecDepth 100000 in
theorem sortP_laid : SlLaysF0.n6 Try.prog sortP_ren := {
  mixed := by kernel_rfl
  f6 := ⟨Try.f92.name, by decide, Try.func92.trans (congrArg some (by kernel_rfl))⟩
  f14 := ⟨Try.f113.name, by decide, Try.func113.trans (congrArg some (by kernel_rfl))⟩
  f15 := Try.func114.trans (congrArg some (by kernel_rfl))
  f20 := ⟨Try.f128.name, by decide, Try.func128.trans (congrArg some (by kernel_rfl))⟩
  f21 := ⟨Try.f129.name, by decide, Try.func129.trans (congrArg some (by kernel_rfl))⟩
  f22 := ⟨Try.f130.name, by decide, Try.func130.trans (congrArg some (by kernel_rfl))⟩
  f23 := ⟨Try.f131.name, by decide, Try.func131.trans (congrArg some (by kernel_rfl))⟩
  f24 := ⟨Try.f132.name, by decide, Try.func132.trans (congrArg some (by kernel_rfl))⟩
  f25 := ⟨Try.f133.name, by decide, Try.func133.trans (congrArg some (by kernel_rfl))⟩
  f26 := ⟨Try.f134.name, by decide, Try.func134.trans (congrArg some (by kernel_rfl))⟩
  f27 := ⟨Try.f135.name, by decide, Try.func135.trans (congrArg some (by kernel_rfl))⟩
  f28 := Try.func136.trans (congrArg some (by kernel_rfl))
  f29 := Try.func137.trans (congrArg some (by kernel_rfl))
  f46 := ⟨Try.f142.name, by decide, Try.func142.trans (congrArg some (by kernel_rfl))⟩
  f47 := Try.func143.trans (congrArg some (by kernel_rfl))
  f48 := Try.func144.trans (congrArg some (by kernel_rfl))
  f49 := ⟨Try.f145.name, by decide, Try.func145.trans (congrArg some (by kernel_rfl))⟩
  f50 := ⟨Try.f146.name, by decide, Try.func146.trans (congrArg some (by kernel_rfl))⟩
  f57 := ⟨Try.f148.name, by decide, Try.func148.trans (congrArg some (by kernel_rfl))⟩
  t0 := Try.underlying0
  a0 := Try.isAgg0
  z0 := Try.sizeOf0
  v0 := Try.zeroValue0
  t3 := Try.underlying3
  a3 := Try.isAgg3
  z3 := Try.sizeOf3
  v3 := Try.zeroValue3
  t4 := Try.underlying4
  a4 := Try.isAgg4
  z4 := Try.sizeOf4
  v4 := Try.zeroValue4
  t5 := Try.underlying5
  a5 := Try.isAgg5
  z5 := Try.sizeOf5
  v5 := Try.zeroValue5
  t9 := Try.underlying9
  a9 := Try.isAgg9
  z9 := Try.sizeOf9
  v9 := Try.zeroValue9
  t22 := Try.underlying45
  a22 := Try.isAgg45
  z22 := Try.sizeOf45
  v22 := Try.zeroValue45
  t25 := Try.underlying121
  a25 := Try.isAgg121
  z25 := Try.sizeOf121
  v25 := Try.zeroValue121
  t39 := Try.underlying91
  a39 := Try.isAgg91
  z39 := Try.sizeOf91
  v39 := Try.zeroValue91
  t45 := Try.underlying204
  a45 := Try.isAgg204
  z45 := Try.sizeOf204
  v45 := Try.zeroValue204
  t46 := Try.underlying205
  a46 := Try.isAgg205
  z46 := Try.sizeOf205
  v46 := Try.zeroValue205
  t50 := Try.underlying195
  a50 := Try.isAgg195
  z50 := Try.sizeOf195
  v50 := Try.zeroValue195
  t53 := Try.underlying211
  a53 := Try.isAgg211
  z53 := Try.sizeOf211
  v53 := Try.zeroValue211
  t55 := Try.underlying35
  a55 := Try.isAgg35
  z55 := Try.sizeOf35
  v55 := Try.zeroValue35
  t66 := Try.underlying214
  a66 := Try.isAgg214
  z66 := Try.sizeOf214
  v66 := Try.zeroValue214
  t70 := Try.underlying217
  a70 := Try.isAgg217
  z70 := Try.sizeOf217
  v70 := Try.zeroValue217
  t76 := Try.underlying219
  a76 := Try.isAgg219
  z76 := Try.sizeOf219
  v76 := Try.zeroValue219
  t77 := Try.underlying220
  a77 := Try.isAgg220
  z77 := Try.sizeOf220
  v77 := Try.zeroValue220 }
end Go.Proofs.Ytdjogfofedbohaa
end
