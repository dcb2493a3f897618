/- hist.Of: the states at its loop's head, and what it keeps. No condition. -/
import Derived.Test.YtkndpdmopgmlcaaG3
section
/- Calls known by a rule of their own over the part of memory that they come to. Condition: what the rule says of the call. -/
namespace Go.Proofs.Ytkndpdmopgmlcaa

section
variable {R : Type}
mutual
/-- Names back: name i is the i-th of a list. -/
def bakS (l : List Nat) : SV → Option SV
  | .v x => some (.v x)
  | .ptr n o => (l[n]?).map fun m => .ptr m o
  | .sl n o i k => (l[n]?).map fun m => .sl m o i k
  | .slE n => (l[n]?).map fun m => .slE m
  | .tptr n i j => (l[n]?).map fun m => .tptr m i j
  | .tsl n k => (l[n]?).map fun m => .tsl m k
  | .mp n => (l[n]?).map fun m => .mp m
  | .ifc t x => (bakS l x).map fun y => .ifc t y
  | .agg r => (bakL l r).map fun r => .agg r
  | .tup r => (bakL l r).map fun r => .tup r
  | .clo f a b => match bakL l a, bakL l b with
    | some a, some b => some (.clo f a b)
    | _, _ => none
def bakL (l : List Nat) : List SV → Option (List SV)
  | [] => some []
  | x :: r => match bakS l x, bakL l r with
    | some x, some r => some (x :: r)
    | _, _ => none
end
def bakC (l : List Nat) : Chunk R → Option (Chunk R)
  | .row cs t => (bakL l cs).map fun cs => .row cs t
  | .emp => some .emp
  | .rep r => some (.rep r)
  | .tab _ _ _ => none
def bakHp (l : List Nat) : List (Nat × Chunk R) → Option (List (Nat × Chunk R))
  | [] => some []
  | (i, c) :: r => match l[i]?, bakC l c, bakHp l r with
    | some n, some c, some r => some ((n, c) :: r)
    | _, _, _ => none
def newsL : Nat → Nat → List Nat
  | _, 0 => []
  | a, n + 1 => a :: newsL (a + 1) n
/-- What a call comes to: its results and the memory that it has left, by tests. -/
inductive Br (R : Type) where
  | leaf (res : List SV) (hp : List (Nat × Chunk R))
  | need (b : Bool) (r : Br R)
  | ask (b : Bool) (t e : Br R)
  | fail (n : Nat)
def brM : Br R → M R (List SV × List (Nat × Chunk R))
  | .leaf r hp => .ret (r, hp)
  | .need b r => (need 600 b).bind fun _ => brM r
  | .ask b t e => (askB b).bind fun
    | true => brM t
    | false => brM e
  | .fail n => .fail n
def coverB (hp : List (Nat × Chunk R)) : Nat → Bool
  | 0 => true
  | n + 1 => match hget n hp with
    | some _ => coverB hp n
    | none => false
def subC (l : List Nat) (r : List SV × List (Nat × Chunk R)) : M R SV := fun ⟨hp, nx, fr, wr, ak, oc⟩ => match bakHp (l ++ newsL nx (r.2.length - l.length)) r.2, bakS (l ++ newsL nx (r.2.length - l.length)) (oneOf r.1), coverB r.2 l.length with
  | some hp', some v, true => tidyG ⟨hp' ++ hp, nx + (r.2.length - l.length), uniN l fr, uniN l wr, ak, oc⟩ v fun st s => .ok s st
  | _, _, _ => .no 611 ak
def subXR (ex : List (Nat × Chunk R) → List Nat) (spec : List SV → List (Nat × Chunk R) → Br R) (args : List SV) : M R SV := fun st => fNats (orderX st.hp 2000 (namesL args ++ ex st.hp) []) fun l => match renL l args, renHp l st.hp l 0 with
  | some args', some hp' => ((brM (spec args' hp')).bind fun r => subC l r) st
  | _, _ => .no 610 st.ask
def subX (spec : List SV → List (Nat × Chunk R) → Br R) : List SV → M R SV := subXR (fun _ => []) spec
def BrOK (T : List SV → List (Nat × Chunk R) → Prop) : Br R → Prop
  | .leaf r hp => T r hp
  | .need b r => b = true → BrOK T r
  | .ask b t e => (b = true → BrOK T t) ∧ (b = false → BrOK T e)
  | .fail _ => True

mutual
theorem den_bak {l : List Nat} {ρ ρ' : Names} (h : ∀ i n, l[i]? = some n → ρ' n = ρ i) : ∀ (s s' : SV) (x : Value), bakS l s = some s' → den ρ s = some x → den ρ' s' = some x
  | .v _, s', x, hs, hx => by
    simp only [bakS, Option.some.injEq] at hs
    subst hs
    exact hx
  | .ptr n o, s', x, hs, hx => by
    simp only [bakS, Option.map_eq_some_iff] at hs
    obtain ⟨m, hm, rfl⟩ := hs
    simpa only [den, h _ _ hm] using hx
  | .sl n o i k, s', x, hs, hx => by
    simp only [bakS, Option.map_eq_some_iff] at hs
    obtain ⟨m, hm, rfl⟩ := hs
    simpa only [den, h _ _ hm] using hx
  | .slE n, s', x, hs, hx => by
    simp only [bakS, Option.map_eq_some_iff] at hs
    obtain ⟨m, hm, rfl⟩ := hs
    simpa only [den, h _ _ hm] using hx
  | .tptr n i j, s', x, hs, hx => by
    simp only [bakS, Option.map_eq_some_iff] at hs
    obtain ⟨m, hm, rfl⟩ := hs
    simpa only [den, h _ _ hm] using hx
  | .tsl n k, s', x, hs, hx => by
    simp only [bakS, Option.map_eq_some_iff] at hs
    obtain ⟨m, hm, rfl⟩ := hs
    simpa only [den, h _ _ hm] using hx
  | .mp n, s', x, hs, hx => by
    simp only [bakS, Option.map_eq_some_iff] at hs
    obtain ⟨m, hm, rfl⟩ := hs
    simpa only [den, h _ _ hm] using hx
  | .ifc t y, s', x, hs, hx => by
    simp only [bakS, Option.map_eq_some_iff] at hs
    obtain ⟨y', hy, rfl⟩ := hs
    simp only [den, Option.map_eq_some_iff] at hx ⊢
    obtain ⟨z, hz, hx⟩ := hx
    exact ⟨z, den_bak h y y' z hy hz, hx⟩
  | .agg r, s', x, hs, hx => by
    simp only [bakS, Option.map_eq_some_iff] at hs
    obtain ⟨y', hy, rfl⟩ := hs
    simp only [den, Option.map_eq_some_iff] at hx ⊢
    obtain ⟨z, hz, hx⟩ := hx
    exact ⟨z, denL_bak h r y' z hy hz, hx⟩
  | .tup r, s', x, hs, hx => by
    simp only [bakS, Option.map_eq_some_iff] at hs
    obtain ⟨y', hy, rfl⟩ := hs
    simp only [den, Option.map_eq_some_iff] at hx ⊢
    obtain ⟨z, hz, hx⟩ := hx
    exact ⟨z, denL_bak h r y' z hy hz, hx⟩
  | .clo f a b, s', x, hs, hx => by
    simp only [bakS] at hs
    split at hs <;> cases hs
    next a' b' ha hb =>
    simp only [den] at hx ⊢
    split at hx <;> try cases hx
    next va vb h1 h2 =>
    rw [denL_bak h a a' va ha h1, denL_bak h b b' vb hb h2]
theorem denL_bak {l : List Nat} {ρ ρ' : Names} (h : ∀ i n, l[i]? = some n → ρ' n = ρ i) : ∀ (s s' : List SV) (x : List Value), bakL l s = some s' → denL ρ s = some x → denL ρ' s' = some x
  | [], s', x, hs, hx => by
    simp only [bakL, Option.some.injEq] at hs
    subst hs
    exact hx
  | y :: r, s', x, hs, hx => by
    simp only [bakL] at hs
    split at hs <;> cases hs
    next y' r' hy hr =>
    obtain ⟨a, b, h1, h2, rfl⟩ := denL_cons.1 hx
    exact denL_cons.2 ⟨a, b, den_bak h y y' a hy h1, denL_bak h r r' b hr h2, rfl⟩
end
theorem bakHp_get {l : List Nat} (hnd : l.Nodup) : ∀ {hp hp' : List (Nat × Chunk R)}, bakHp l hp = some hp' → ∀ {n i : Nat}, l[i]? = some n → hget n hp' = (hget i hp).bind (bakC l) ∧ ∀ c, hget i hp = some c → ∃ c', bakC l c = some c'
  | [], hp', h, n, i, hi => by
    simp only [bakHp, Option.some.injEq] at h
    subst h
    exact ⟨rfl, fun c hc => by cases hc⟩
  | (j, c) :: r, hp', h, n, i, hi => by
    simp only [bakHp] at h
    split at h <;> cases h
    next m c' r' hm hc hr =>
    have ih := bakHp_get hnd hr hi
    rw [hget_cons, hget_cons]
    by_cases e : i = j
    · subst e
      rw [hi] at hm
      injection hm with hm
      subst hm
      rw [if_pos rfl, if_pos rfl]
      exact ⟨by simp [hc], fun d hd => by injection hd with hd; subst hd; exact ⟨c', hc⟩⟩
    · have : n ≠ m := fun e2 => by
        subst e2
        exact e ((List.getElem?_inj (lt_of_some hi) hnd).1 (hi.trans hm.symm))
      rw [if_neg this, if_neg e]
      exact ih
theorem bakHp_name {l : List Nat} : ∀ {hp hp' : List (Nat × Chunk R)}, bakHp l hp = some hp' → ∀ {n : Nat} {c : Chunk R}, hget n hp' = some c → ∃ i : Nat, l[i]? = some n
  | [], hp', h, n, c, hc => by
    simp only [bakHp, Option.some.injEq] at h
    subst h
    cases hc
  | (j, d) :: r, hp', h, n, c, hc => by
    simp only [bakHp] at h
    split at h <;> cases h
    next m c' r' hm _ hr =>
    rw [hget_cons] at hc
    split at hc
    · next e => subst e; exact ⟨j, hm⟩
    · exact bakHp_name hr hc
theorem hget_append {n : Nat} : ∀ {a b : List (Nat × Chunk R)}, hget n (a ++ b) = match hget n a with | some c => some c | none => hget n b
  | [], b => rfl
  | (m, c) :: a, b => by
    rw [List.cons_append, hget_cons, hget_cons]
    split
    · rfl
    · exact hget_append
theorem mem_news {n : Nat} : ∀ {m a : Nat}, n ∈ newsL a m ↔ a ≤ n ∧ n < a + m
  | 0, a => by simp [newsL]
  | m + 1, a => by
    simp only [newsL, List.mem_cons, mem_news]
    omega
theorem news_nodup : ∀ {m a : Nat}, (newsL a m).Nodup
  | 0, _ => List.nodup_nil
  | m + 1, a => by
    simp only [newsL, List.nodup_cons]
    exact ⟨fun h => by have := (mem_news.1 h).1; omega, news_nodup⟩
theorem idx_some {n : Nat} : ∀ {l : List Nat} {k : Nat}, n ∈ l → ∃ m, idxN n l k = some m
  | [], _, h => by cases h
  | x :: l, k, h => by
    simp only [idxN]
    cases hb : Nat.beq n x with
    | true => exact ⟨k, rfl⟩
    | false =>
      rcases List.mem_cons.1 h with rfl | h
      · simp at hb
      · exact idx_some h
theorem idx_none {n : Nat} {l : List Nat} (h : n ∉ l) : idxN n l 0 = none := by
  cases hi : idxN n l 0 with
  | none => rfl
  | some m =>
    obtain ⟨_, h1⟩ := idxN_ok hi
    exact absurd (List.mem_of_getElem? h1) h
theorem idx_at {n i : Nat} {l : List Nat} (hnd : l.Nodup) (h : l[i]? = some n) : idxN n l 0 = some i := by
  obtain ⟨m, hm⟩ := idx_some (k := 0) (List.mem_of_getElem? h)
  obtain ⟨_, h1⟩ := idxN_ok hm
  rw [Nat.sub_zero] at h1
  rw [hm, (List.getElem?_inj (lt_of_some h) hnd).1 (h.trans h1.symm)]
theorem cover_get {hp : List (Nat × Chunk R)} : ∀ {k : Nat}, coverB hp k = true → ∀ i, i < k → ∃ c, hget i hp = some c
  | 0, _, i, hi => by omega
  | k + 1, h, i, hi => by
    simp only [coverB] at h
    split at h
    · next c hc =>
      by_cases e : i = k
      · subst e; exact ⟨c, hc⟩
      · exact cover_get h i (by omega)
    · cases h
theorem renHp_len {l : List Nat} {hp : List (Nat × Chunk R)} : ∀ {r : List Nat} {i : Nat} {hp' : List (Nat × Chunk R)}, renHp l hp r i = some hp' → hp'.length = r.length
  | [], _, hp', h => by
    simp only [renHp, Option.some.injEq] at h
    subst h
    rfl
  | x :: r, i, hp', h => by
    simp only [renHp] at h
    split at h <;> cases h
    next c t h1 h2 => simp [renHp_len h2]
theorem renHp_has {l : List Nat} {hp : List (Nat × Chunk R)} : ∀ {r : List Nat} {i : Nat} {hp' : List (Nat × Chunk R)}, renHp l hp r i = some hp' → ∀ n ∈ r, ∃ c, hget n hp = some c
  | [], _, _, _, n, hn => by cases hn
  | x :: r, i, hp', h, n, hn => by
    simp only [renHp] at h
    split at h <;> cases h
    next c t h1 h2 =>
    simp only [Option.bind_eq_some_iff] at h1
    obtain ⟨d, h3, _⟩ := h1
    rcases List.mem_cons.1 hn with rfl | hn
    · exact ⟨d, h3⟩
    · exact renHp_has h2 n hn
def ownN (l : List Nat) (own : Nat → List Nat) : Nat → List Nat := fun i => match l[i]? with
  | some n => own n
  | none => []
def backN (l : List Nat) (ρ' ρ : Names) : Names := fun n => match idxN n l 0 with
  | some i => ρ' i
  | none => ρ n
def backO (l : List Nat) (hp : List (Nat × Chunk R)) (own' own : Nat → List Nat) : Nat → List Nat := fun n => match idxN n l 0 with
  | some i => match hget i hp with
    | some _ => own' i
    | none => []
  | none => own n

variable {A : RepAt R} {P : Program} {B : Nat} {F : Nat → Prop} {ρ ρ2 : Names} {own own2 : Nat → List Nat} {w w' : World}
theorem CAt_bak {l : List Nat} {ρ' : Names} (h : ∀ i n, l[i]? = some n → ρ' n = ρ i) {e : Spot} {o : List Nat} {c c' : Chunk R} (hc : bakC l c = some c') (ha : CAt A P ρ B e o c w) : CAt A P ρ' B e o c' w := by
  cases c with
  | row cs t =>
    simp only [bakC, Option.map_eq_some_iff] at hc
    obtain ⟨cs', h6, rfl⟩ := hc
    obtain ⟨g1, ds, vs, g2, g3, g4⟩ := ha
    exact ⟨g1, ds, vs, g2, denL_bak h _ _ _ h6 g3, g4⟩
  | tab f len t => cases hc
  | emp =>
    simp only [bakC, Option.some.injEq] at hc
    subst hc
    exact ha
  | rep r =>
    simp only [bakC, Option.some.injEq] at hc
    subst hc
    exact ha
/-- The part of memory that a list of names tells stands by itself. -/
theorem sub_stand {l : List Nat} {hp hp1 : List (Nat × Chunk R)} {e : Env} (hli : LI A P B ρ own hp F w) (hF : ∀ n ∈ l, F n) (hnd : l.Nodup) (hB : B ≤ w.heap.size) (h : renHp l hp l 0 = some hp1) : Stand A P B ⟨e, hp1, l.length⟩ (renN l ρ) (ownN l own) w := by
  have hm : ∀ {n m : Nat}, l[n]? = some m → F m := fun hx => hF _ (List.mem_of_getElem? hx)
  refine ⟨⟨fun n c _ hc => ?_, fun n m c d _ _ hne hc hd b hb hb' => ?_, fun n c _ hc b hb => ?_⟩, fun n hn => ?_, fun n hn => ?_, hB⟩
  · obtain ⟨_, m, d, h1, h2, h3⟩ := renHp_get h hc
    rw [Nat.sub_zero] at h1
    obtain ⟨e0, h4, h5⟩ := hli.at_ m d (hm h1) h2
    refine ⟨e0, by simp [renN, h1, h4], ?_⟩
    simp only [ownN, h1]
    cases d with
    | row cs t =>
      simp only [renC, Option.map_eq_some_iff] at h3
      obtain ⟨cs', h6, rfl⟩ := h3
      obtain ⟨g1, ds, vs, g2, g3, g4⟩ := h5
      exact ⟨g1, ds, vs, g2, denL_ren _ _ _ h6 g3, g4⟩
    | tab f len t => cases h3
    | emp =>
      simp only [renC, Option.some.injEq] at h3
      subst h3
      exact h5
    | rep r =>
      simp only [renC, Option.some.injEq] at h3
      subst h3
      exact h5
  · obtain ⟨_, m1, d1, h1, h2, h3⟩ := renHp_get h hc
    obtain ⟨_, m2, d2, h4, h5, h6⟩ := renHp_get h hd
    rw [Nat.sub_zero] at h1 h4
    simp only [ownN, h1, h4] at hb hb'
    refine hli.dis m1 m2 d1 d2 (hm h1) (hm h4) (fun e => hne ?_) h2 h5 b hb hb'
    subst e
    exact (List.getElem?_inj (lt_of_some h1) hnd).1 (h1.trans h4.symm)
  · obtain ⟨_, m, d, h1, h2, h3⟩ := renHp_get h hc
    rw [Nat.sub_zero] at h1
    simp only [ownN, h1] at hb
    exact hli.low m d (hm h1) h2 b hb
  · cases hx : hget n hp1 with
    | none => rfl
    | some c =>
      obtain ⟨_, m, d, h1, _⟩ := renHp_get h hx
      rw [Nat.sub_zero] at h1
      have := lt_of_some h1
      simp only at hn
      omega
  · simp only [renN]
    rw [List.getElem?_eq_none hn]
def subSt (st : St R) (l : List Nat) (hp' : List (Nat × Chunk R)) (m : Nat) : St R := ⟨hp' ++ st.hp, st.nx + m, uniN l st.fr, uniN l st.wr, st.ask, st.ora⟩
theorem sub_name {l : List Nat} {hp2 hp' : List (Nat × Chunk R)} {nx m n : Nat} {c : Chunk R} (hb : bakHp (l ++ newsL nx m) hp2 = some hp') (hc : hget n hp' = some c) : n ∈ l ∨ nx ≤ n ∧ n < nx + m := by
  obtain ⟨i, hi⟩ := bakHp_name hb hc
  have := List.mem_of_getElem? hi
  rw [List.mem_append, mem_news] at this
  exact this
theorem sub_fn {st : St R} {l : List Nat} {hp1 hp2 hp' : List (Nat × Chunk R)} {m : Nat} (h1 : renHp l st.hp l 0 = some hp1) (hb : bakHp (l ++ newsL st.nx m) hp2 = some hp') : Fn st (subSt st l hp' m) where
  nx := Nat.le_add_right _ _
  fr n hn := mem_uni.2 (.inr hn)
  wr n hn := mem_uni.2 (.inr hn)
  ask p hp := hp
  hp n hn hl := by
    simp only [subSt, hget_append]
    cases hx : hget n hp' with
    | none => rfl
    | some c =>
      rcases sub_name hb hx with h | h
      · exact absurd (mem_uni.2 (.inl h)) hn
      · omega
  wf hw := by
    refine ⟨fun n hn => ?_, fun n hn => ?_⟩
    · rcases mem_uni.1 hn with h | h
      · obtain ⟨c, hc⟩ := renHp_has h1 n h
        exact ⟨mem_uni.2 (.inl h), Nat.lt_of_lt_of_le (hw.lt hc) (Nat.le_add_right _ _)⟩
      · exact ⟨mem_uni.2 (.inr (hw.wr n h).1), Nat.lt_of_lt_of_le (hw.wr n h).2 (Nat.le_add_right _ _)⟩
    · simp only [subSt] at hn ⊢
      rw [hget_append]
      cases hx : hget n hp' with
      | none => exact hw.top n (by omega)
      | some c =>
        rcases sub_name hb hx with h | h
        · obtain ⟨c, hc⟩ := renHp_has h1 n h
          have := hw.lt hc
          omega
        · omega
  al n hn := by
    rcases mem_uni.1 hn with h | h
    · exact .inr (.inr (renHp_has h1 n h))
    · exact .inl h
/-- What the part has come to, put back. -/
theorem Tr.sub {st : St R} {l : List Nat} {hp1 hp2 hp' : List (Nat × Chunk R)} {m nx2 : Nat} {e2 : Env} (si : Sit A P B F st (subSt st l hp' m) ρ own w) (hnd : l.Nodup) (h1 : renHp l st.hp l 0 = some hp1)
    (hst : Stand A P B ⟨e2, hp2, nx2⟩ ρ2 own2 w') (hw : Way hp1 (ownN l own) w hp2 own2 w') (hpin : ∀ n, n < l.length → ρ2 n = renN l ρ n) (hb : bakHp (l ++ newsL st.nx m) hp2 = some hp') (hcov : ∀ i, i < l.length → ∃ c, hget i hp2 = some c) :
    Tr A P B F st (subSt st l hp' m) ρ own w (backN (l ++ newsL st.nx m) ρ2 ρ) (backO (l ++ newsL st.nx m) hp2 own2 own) w' := by
  have hlt : ∀ n ∈ l, n < st.nx := fun n hn => by
    obtain ⟨c, hc⟩ := renHp_has h1 n hn
    exact si.wf.lt hc
  have hnd2 : (l ++ newsL st.nx m).Nodup := List.nodup_append.2 ⟨hnd, news_nodup, fun a ha b hb e => by
    subst e
    have := hlt a ha
    have := (mem_news.1 hb).1
    omega⟩
  have hnew : ∀ n, newN st (subSt st l hp' m) n ↔ st.nx ≤ n ∧ n < st.nx + m := fun n => Iff.rfl
  have hold : ∀ n ∈ l, ¬ newN st (subSt st l hp' m) n := fun n hn h => by
    have := hlt n hn
    have := ((hnew n).1 h).1
    omega
  have hmem : ∀ n, n ∈ l ++ newsL st.nx m ↔ n ∈ l ∨ newN st (subSt st l hp' m) n := fun n => by rw [List.mem_append, mem_news, hnew]
  have hFl : ∀ n ∈ l, F n := fun n hn => si.log n (mem_uni.2 (.inl hn))
  have hwr : ∀ n ∈ l, n ∈ (subSt st l hp' m).wr := fun n hn => mem_uni.2 (.inl hn)
  have hN : ∀ {i n : Nat}, (l ++ newsL st.nx m)[i]? = some n → backN (l ++ newsL st.nx m) ρ2 ρ n = ρ2 i := fun hi => by simp only [backN, idx_at hnd2 hi]
  have hO : ∀ {i n : Nat} {c : Chunk R}, (l ++ newsL st.nx m)[i]? = some n → hget i hp2 = some c → backO (l ++ newsL st.nx m) hp2 own2 own n = own2 i := fun hi hc => by simp only [backO, idx_at hnd2 hi, hc]
  have hN0 : ∀ {n : Nat}, n ∉ l ++ newsL st.nx m → backN (l ++ newsL st.nx m) ρ2 ρ n = ρ n := fun hn => by simp only [backN, idx_none hn]
  have hO0 : ∀ {n : Nat}, n ∉ l ++ newsL st.nx m → backO (l ++ newsL st.nx m) hp2 own2 own n = own n := fun hn => by simp only [backO, idx_none hn]
  have hl1 : ∀ {i n : Nat}, (l ++ newsL st.nx m)[i]? = some n → n ∈ l → l[i]? = some n ∧ i < l.length := fun {i n} hi hn => by
    obtain ⟨j, hj⟩ := List.mem_iff_getElem?.1 hn
    have hjl := lt_of_some hj
    have hj2 : (l ++ newsL st.nx m)[j]? = some n := by rw [List.getElem?_append_left hjl]; exact hj
    have := (List.getElem?_inj (lt_of_some hi) hnd2).1 (hi.trans hj2.symm)
    subst this
    exact ⟨hj, hjl⟩
  have le : ρ.le (backN (l ++ newsL st.nx m) ρ2 ρ) := fun n e he => by
    by_cases hn : n ∈ l ++ newsL st.nx m
    · obtain ⟨i, hi⟩ := List.mem_iff_getElem?.1 hn
      rw [hN hi]
      rcases (hmem n).1 hn with h | h
      · obtain ⟨h2, h3⟩ := hl1 hi h
        rw [hpin i h3]
        simp only [renN, h2, he]
      · rw [si.fresh n h] at he
        cases he
    · rw [hN0 hn]
      exact he
  have from1 : ∀ {b : Nat}, (∃ i c, hget i hp1 = some c ∧ b ∈ ownN l own i) → ∃ n c, n ∈ l ∧ hget n st.hp = some c ∧ b ∈ own n := fun ⟨i, c, hc, hb⟩ => by
    obtain ⟨_, n, d, h2, h3, _⟩ := renHp_get h1 hc
    rw [Nat.sub_zero] at h2
    simp only [ownN, h2] at hb
    exact ⟨n, d, List.mem_of_getElem? h2, h3, hb⟩
  have came : ∀ {i : Nat} {c : Chunk R}, hget i hp2 = some c → ∀ b ∈ own2 i, w.heap.size ≤ b ∨ ∃ n c, n ∈ l ∧ hget n st.hp = some c ∧ b ∈ own n := fun hc b hb => (hw.pool _ _ hc b hb).imp id from1
  refine ⟨le, fun n hn => ?_, fun n hn hw' => ?_, fun n hn b hbo => ?_, ?_, hw.mod.mono fun b _ h => ?_⟩
  · by_cases h : n ∈ l ++ newsL st.nx m
    · obtain ⟨i, hi⟩ := List.mem_iff_getElem?.1 h
      have h2 := ((hmem n).1 h).resolve_right hn
      obtain ⟨h3, h4⟩ := hl1 hi h2
      rw [hN hi, hpin i h4]
      simp only [renN, h3]
    · exact hN0 h
  · exact hO0 fun h => ((hmem n).1 h).elim (fun h => hw' (hwr n h)) hn
  · by_cases h : n ∈ l ++ newsL st.nx m
    · obtain ⟨i, hi⟩ := List.mem_iff_getElem?.1 h
      cases hc : hget i hp2 with
      | none => simp only [backO, idx_at hnd2 hi, hc] at hbo; cases hbo
      | some c =>
        rw [hO hi hc] at hbo
        exact (came hc b hbo).imp id fun ⟨k, _, h1, _, h2⟩ => ⟨k, hwr k h1, hold k h1, h2⟩
    · rw [hO0 h] at hbo
      rw [hmem, not_or] at h
      exact .inr ⟨n, hn.resolve_left h.2, h.2, hbo⟩
  · refine si.li.step (X := fun n => n ∈ l ++ newsL st.nx m) (T := fun b => ∃ i c, hget i hp1 = some c ∧ b ∈ ownN l own i) hw.mod le (fun b h => ?_) (fun n c hn hX hc => ?_) (fun n c _ hX hc => ?_) (fun n c _ hX hc b hbo => ?_) (fun n k c d _ _ h2 h3 hne hc hd b hbo hbo' => ?_)
    · obtain ⟨n, c, h2, h3, h4⟩ := from1 h
      exact ⟨n, c, List.mem_append_left _ h2, hFl n h2, h3, h4⟩
    · rw [hmem, not_or] at hX
      simp only [subSt, hget_append] at hc
      cases hx : hget n hp' with
      | none =>
        rw [hx] at hc
        exact ⟨hn.resolve_right hX.2, hc, hO0 (by rw [hmem, not_or]; exact hX)⟩
      | some c' => exact absurd ((sub_name hb hx).imp id (hnew n).2) (not_or.2 hX)
    · obtain ⟨i, hi⟩ := List.mem_iff_getElem?.1 hX
      obtain ⟨g1, g2⟩ := bakHp_get hnd2 hb hi
      simp only [subSt, hget_append, g1] at hc
      cases hx : hget i hp2 with
      | none =>
        rw [hx] at hc
        simp only [Option.bind_none] at hc
        rcases (hmem n).1 hX with h | h
        · obtain ⟨h3, h4⟩ := hl1 hi h
          obtain ⟨c0, hc0⟩ := hcov i h4
          rw [hx] at hc0
          cases hc0
        · rw [si.wf.top n ((hnew n).1 h).1] at hc
          cases hc
      | some c0 =>
        obtain ⟨c1, hc1⟩ := g2 c0 hx
        rw [hx, Option.bind_some, hc1] at hc
        injection hc with hc
        subst hc
        obtain ⟨e, he, ha⟩ := hst.li.at_ i c0 trivial hx
        refine ⟨e, (hN hi).trans he, ?_⟩
        rw [hO hi hx]
        exact CAt_bak (fun i n h => hN h) hc1 ha
    · obtain ⟨i, hi⟩ := List.mem_iff_getElem?.1 hX
      cases hx : hget i hp2 with
      | none => simp only [backO, idx_at hnd2 hi, hx] at hbo; cases hbo
      | some c0 =>
        rw [hO hi hx] at hbo
        have := hst.li.low i c0 trivial hx b hbo
        refine ⟨this.2, this.1, (came hx b hbo).imp id fun ⟨k, d, g1, g2, g3⟩ => ⟨k, d, List.mem_append_left _ g1, hFl k g1, g2, g3⟩⟩
    · obtain ⟨i, hi⟩ := List.mem_iff_getElem?.1 h2
      obtain ⟨j, hj⟩ := List.mem_iff_getElem?.1 h3
      cases hx : hget i hp2 with
      | none => simp only [backO, idx_at hnd2 hi, hx] at hbo; cases hbo
      | some c0 =>
        cases hy : hget j hp2 with
        | none => simp only [backO, idx_at hnd2 hj, hy] at hbo'; cases hbo'
        | some d0 =>
          rw [hO hi hx] at hbo
          rw [hO hj hy] at hbo'
          refine hst.li.dis i j c0 d0 trivial trivial (fun e => hne ?_) hx hy b hbo hbo'
          subst e
          rw [hi] at hj
          injection hj
  · obtain ⟨n, _, h2, _, h3⟩ := from1 h
    exact ⟨n, hwr n h2, hold n h2, h3⟩
theorem brM_s {T : List SV → List (Nat × Chunk R) → Prop} : ∀ {b : Br R} {st st' : St R} {r : List SV × List (Nat × Chunk R)}, brM b st = .ok r st' → Quiet st st' ∧ ((∀ p ∈ st'.ask, p.1 = p.2) → BrOK T b → T r.1 r.2)
  | .leaf r hp, st, st', x, h => by
    obtain ⟨rfl, rfl⟩ := ret_ok.1 h
    exact ⟨Quiet.refl _, fun _ h => h⟩
  | .need b r, st, st', x, h => by
    obtain ⟨_, st1, h1, h2⟩ := bind_ok.1 h
    obtain ⟨q1, k1⟩ := need_ok h1
    obtain ⟨q2, k2⟩ := brM_s (T := T) h2
    exact ⟨q1.trans q2, fun ha hb => k2 ha (hb (k1 fun p hp => ha p (q2.ask p hp)))⟩
  | .ask b t e, st, st', x, h => by
    obtain ⟨o, st1, h1, h2⟩ := bind_ok.1 h
    obtain ⟨q1, k1⟩ := ask_ok h1
    cases o with
    | true =>
      obtain ⟨q2, k2⟩ := brM_s (T := T) h2
      exact ⟨q1.trans q2, fun ha hb => k2 ha (hb.1 (k1 fun p hp => ha p (q2.ask p hp)))⟩
    | false =>
      obtain ⟨q2, k2⟩ := brM_s (T := T) h2
      exact ⟨q1.trans q2, fun ha hb => k2 ha (hb.2 (k1 fun p hp => ha p (q2.ask p hp)))⟩
  | .fail n, st, st', x, h => (fail_ok.1 h).elim
theorem renL_len {l : List Nat} : ∀ {xs ys : List SV}, renL l xs = some ys → ys.length = xs.length
  | [], ys, h => by
    simp only [renL, Option.some.injEq] at h
    subst h
    rfl
  | x :: xs, ys, h => by
    simp only [renL] at h
    split at h <;> cases h
    next a r _ hr => simp [renL_len hr]
/-- What a rule says of a call: from the part of memory that it comes to, by its names. -/
def SubOK (A : RepAt R) (P : Program) (f : FuncId) (spec : List SV → List (Nat × Chunk R) → Br R) : Prop := ∀ (args : List SV) (hp : List (Nat × Chunk R)), BrOK (fun res hp2 => ∃ fn c, P.funcs[f]? = some fn ∧ fn.body = some c ∧ args.length ≤ fn.ntmps ∧
  Tri A P fn.ntmps hp.length (.go c) [] ⟨argsE args, hp, hp.length⟩ (Ends P fn fun l s => l = res ∧ s.hp = hp2)) (spec args hp)
theorem subR_s {ex : List (Nat × Chunk R) → List Nat} {f : FuncId} {spec : List SV → List (Nat × Chunk R) → Br R} (hspec : SubOK A P f spec) {args : List SV} {st st' : St R} {s : SV} (h : subXR ex spec args st = .ok s st') : CallS A P f args st st' s := by
  unfold subXR at h
  rw [fNats_eq] at h
  have hnd : (orderX st.hp 2000 (namesL args ++ ex st.hp) []).Nodup := order_nodup List.nodup_nil
  generalize orderX st.hp 2000 (namesL args ++ ex st.hp) [] = l at h hnd
  split at h
  case h_2 => cases h
  next args' hp1 hargs h1 =>
  obtain ⟨⟨res, hp2⟩, st1, h2, h3⟩ := bind_ok.1 h
  obtain ⟨q, hq⟩ := brM_s (T := fun res hp2 => ∃ fn c, P.funcs[f]? = some fn ∧ fn.body = some c ∧ args'.length ≤ fn.ntmps ∧
    Tri A P fn.ntmps hp1.length (.go c) [] ⟨argsE args', hp1, hp1.length⟩ (Ends P fn fun l s => l = res ∧ s.hp = hp2)) h2
  obtain ⟨hpx, nxx, frx, wrx, akx, ocx⟩ := st1
  simp only [subC] at h3
  split at h3
  case h_2 => cases h3
  next hp' v hb hv hcov =>
  rw [tidyG_eq] at h3
  injection h3 with h3 h4
  subst h3
  obtain ⟨q1, q2, q3, q4, q5⟩ := q
  simp only at q1 q2 q3 q4 q5
  subst q1
  subst q2
  subst q3
  have q : Quiet st ⟨st.hp, st.nx, frx, st.wr, akx, ocx⟩ := ⟨rfl, rfl, rfl, q4, q5⟩
  have hst' : subSt ⟨st.hp, st.nx, frx, st.wr, akx, ocx⟩ l hp' (hp2.length - l.length) = st' := h4
  subst hst'
  refine ⟨q.fn.trans (sub_fn h1 hb), fun B F ρ own w vals si hvals => ?_⟩
  have s1 := si.of_quiet q
  have hlen : hp1.length = l.length := renHp_len h1
  obtain ⟨fn, c, hf, hbody, hle, htri⟩ := hq si.ask (hspec args' hp1)
  have hsub := sub_stand (e := argsE args') s1.li (fun n hn => s1.log n (mem_uni.2 (.inl hn))) hnd s1.base h1
  rw [← hlen] at hsub
  have hv1 : denL (renN l ρ) args' = some vals := denL_ren _ _ _ hargs hvals
  refine (Tri.calls hf hbody hle htri hsub hv1).mono ?_
  rintro x w' ⟨y, ls, s', ρ2, own2, rfl, hy, ⟨rfl, hs2⟩, hst2, hway, hpin⟩
  obtain ⟨e2, hp2', nx2⟩ := s'
  simp only at hs2 hway
  subst hs2
  rw [hlen] at hpin
  have hnd2 := hnd
  have ht := Tr.sub s1 hnd h1 hst2 hway hpin hb (cover_get hcov)
  refine ⟨y, _, _, rfl, den_bak (fun i n hi => ?_) _ _ _ hv hy, Tr.of_quiet q ht⟩
  have hlt : ∀ n ∈ l, n < st.nx := fun n hn => by
    obtain ⟨c, hc⟩ := renHp_has h1 n hn
    exact si.wf.lt hc
  have hnd2 : (l ++ newsL st.nx (hp2'.length - l.length)).Nodup := List.nodup_append.2 ⟨hnd, news_nodup, fun a ha b hb e => by
    subst e
    have := hlt a ha
    have := (mem_news.1 hb).1
    omega⟩
  simp only [backN, idx_at hnd2 hi]
theorem sub_s {f : FuncId} {spec : List SV → List (Nat × Chunk R) → Br R} (hspec : SubOK A P f spec) {args : List SV} {st st' : St R} {s : SV} (h : subX spec args st = .ok s st') : CallS A P f args st st' s := subR_s hspec h
/-- A table of rules. -/
def primS (f : FuncId) (spec : List SV → List (Nat × Chunk R) → Br R) (more : FuncId → List SV → Option (M R SV)) : FuncId → List SV → Option (M R SV) := fun g args => match Nat.beq g f with
  | true => some (subX spec args)
  | false => more g args
theorem primS_ok {f : FuncId} {spec : List SV → List (Nat × Chunk R) → Br R} {more : FuncId → List SV → Option (M R SV)} (hs : SubOK A P f spec) (hm : ∀ f args m, more f args = some m → ∀ st s st', m st = .ok s st' → CallS A P f args st st' s) :
    ∀ g args m, primS f spec more g args = some m → ∀ st s st', m st = .ok s st' → CallS A P g args st st' s := by
  intro g args m h st s st' hx
  unfold primS at h
  split at h
  · next hb =>
    obtain rfl := Nat.eq_of_beq_eq_true hb
    cases h
    exact sub_s hs hx
  · exact hm g args m h st s st' hx
/-- The same for a call that comes to more than its arguments tell. -/
def primSR (ex : List (Nat × Chunk R) → List Nat) (f : FuncId) (spec : List SV → List (Nat × Chunk R) → Br R) (more : FuncId → List SV → Option (M R SV)) : FuncId → List SV → Option (M R SV) := fun g args => match Nat.beq g f with
  | true => some (subXR ex spec args)
  | false => more g args
theorem primSR_ok {ex : List (Nat × Chunk R) → List Nat} {f : FuncId} {spec : List SV → List (Nat × Chunk R) → Br R} {more : FuncId → List SV → Option (M R SV)} (hs : SubOK A P f spec) (hm : ∀ f args m, more f args = some m → ∀ st s st', m st = .ok s st' → CallS A P f args st st' s) :
    ∀ g args m, primSR ex f spec more g args = some m → ∀ st s st', m st = .ok s st' → CallS A P g args st st' s := by
  intro g args m h st s st' hx
  unfold primSR at h
  split at h
  · next hb =>
    obtain rfl := Nat.eq_of_beq_eq_true hb
    cases h
    exact subR_s hs hx
  · exact hm g args m h st s st' hx
end
end Go.Proofs.Ytkndpdmopgmlcaa
end
section
/- hist.Of: the states at its loop's head, and what it keeps. No condition. -/
namespace Go.Proofs.Ytkndpdmopgmlcaa
noncomputable abbrev heF : FuncId := 22
noncomputable abbrev heZ : Nat := slotsOf Try.prog heF
noncomputable def heL : Code × List Fr := loopOf Try.prog heF 0
abbrev heTab (a : HEA) : Chunk Rep := .rep (.tab [.int .i64 a.ST, .int .i64 a.TH, .bool a.ID, .int .i64 a.K, .int .u64 a.KY, .int .u64 a.VL, .int .i64 a.LV, .int .i64 a.AT, .bool a.BG, .bool a.OV, .int .i64 a.ER, .bool a.DN, .int .u64 a.AV] a.len)
def hcCols (cs : List HC) : List Col := [.int .i64 fun i => (cs.getD i hc0).th, .int .i64 fun i => (cs.getD i hc0).at_, .int .i64 fun i => (cs.getD i hc0).k, .int .u64 fun i => (cs.getD i hc0).key, .int .u64 fun i => (cs.getD i hc0).val, .int .i64 fun i => (cs.getD i hc0).lev, .int .i64 fun i => (cs.getD i hc0).F, .int .i64 fun i => (cs.getD i hc0).T, .int .i64 fun i => (cs.getD i hc0).e, .bool fun i => (cs.getD i hc0).d, .int .u64 fun i => (cs.getD i hc0).v]
abbrev heCols (CT CA CK CY CV CL CF CO CE : Nat → Int) (CD : Nat → Bool) (CW : Nat → Int) : List Col := [.int .i64 CT, .int .i64 CA, .int .i64 CK, .int .u64 CY, .int .u64 CV, .int .i64 CL, .int .i64 CF, .int .i64 CO, .int .i64 CE, .bool CD, .int .u64 CW]
def heS (a : HEA) (i : Int) (CT CA CK CY CV CL CF CO CE : Nat → Int) (CD : Nat → Bool) (CW : Nat → Int) (n : Nat) (G : Int → Option Int) (c : Nat) : Sym Rep :=
  ⟨[(4, .ptr 1 0), (10, .tsl 0 a.len), (11, iv a.len), (12, iv i)], [(0, heTab a), (1, .row [.tsl 2 n, .mp 3] 171), (2, .rep (.vec [.int .i64 CT, .int .i64 CA, .int .i64 CK, .int .u64 CY, .int .u64 CV, .int .i64 CL, .int .i64 CF, .int .i64 CO, .int .i64 CE, .bool CD, .int .u64 CW] n 85)), (3, .rep (.imap 169 [] G c))], 4⟩
def heCfg : Stop → List Gen × List Nat
  | .fin .ret _ => ([], [2, 3])
  | _ => ([.map 3], [4, 10, 11, 12])
def heCfg0 : Stop → List Gen × List Nat := fun _ => ([.nilC 1 0 [.int .i64, .int .i64, .int .i64, .int .u64, .int .u64, .int .i64, .int .i64, .int .i64, .int .i64, .bool, .int .u64] 85], [4, 10, 11, 12])
/-- That the rows tell these calls. -/
structure HRow (cs : List HC) (CT CA CK CY CV CL CF CO CE : Nat → Int) (CD : Nat → Bool) (CW : Nat → Int) : Prop where
  th : ∀ j, j < cs.length → CT j = (cs.getD j hc0).th
  at_ : ∀ j, j < cs.length → CA j = (cs.getD j hc0).at_
  k : ∀ j, j < cs.length → CK j = (cs.getD j hc0).k
  key : ∀ j, j < cs.length → CY j = (cs.getD j hc0).key
  val : ∀ j, j < cs.length → CV j = (cs.getD j hc0).val
  lev : ∀ j, j < cs.length → CL j = (cs.getD j hc0).lev
  F : ∀ j, j < cs.length → CF j = (cs.getD j hc0).F
  T : ∀ j, j < cs.length → CO j = (cs.getD j hc0).T
  e : ∀ j, j < cs.length → CE j = (cs.getD j hc0).e
  d : ∀ j, j < cs.length → CD j = (cs.getD j hc0).d
  v : ∀ j, j < cs.length → CW j = (cs.getD j hc0).v
def HEA.ok (a : HEA) : Prop := a.len ≤ 200 ∧ ∀ j, j < a.len → (Lit.int .i64 (a.TH j)).wf = true
def heP (a : HEA) (i : Int) (CT CA CK CY CV CL CF CO CE : Nat → Int) (CD : Nat → Bool) (CW : Nat → Int) (n : Nat) (G : Int → Option Int) (c : Nat) : Prop :=
  0 ≤ i ∧ i ≤ (a.len : Int) ∧ a.ok ∧ n ≤ i.toNat ∧ c ≤ i.toNat ∧ ∃ cs, a.calls i.toNat = some cs ∧ n = cs.length ∧ OnOK G cs ∧ HRow cs CT CA CK CY CV CL CF CO CE CD CW
/-- What comes of it. -/
def HEA.res (a : HEA) : Option (List HC) := a.calls a.len
abbrev heQ (a : HEA) : Ex → Sym Rep → Prop := Ends Try.prog Try.f22 fun l s => match a.res with
  | some cs => l = [.tsl 1 cs.length, iv 0] ∧ s.hp = [(0, heTab a), (1, .rep (.vec (hcCols cs) cs.length 85))]
  | none => l = [.v (.slice none 0 0), iv 4] ∧ s.hp = [(0, heTab a)]

theorem HRow.push {cs : List HC} {CT CA CK CY CV CL CF CO CE : Nat → Int} {CD : Nat → Bool} {CW : Nat → Int} (h : HRow cs CT CA CK CY CV CL CF CO CE CD CW) (c : HC) {n : Nat} (hn : n = cs.length) : HRow (cs ++ [c]) (joinI CT n fun _ => c.th) (joinI CA n fun _ => c.at_) (joinI CK n fun _ => c.k) (joinI CY n fun _ => c.key) (joinI CV n fun _ => c.val) (joinI CL n fun _ => c.lev) (joinI CF n fun _ => c.F) (joinI CO n fun _ => c.T) (joinI CE n fun _ => c.e) (joinI CD n fun _ => c.d) (joinI CW n fun _ => c.v) := by
  subst hn
  constructor
  · intro j hj
    rw [List.length_append, List.length_singleton] at hj
    rcases Nat.lt_or_ge j cs.length with g | g
    · rw [joinI_old g, getD_app_old g, h.th j g]
    · obtain rfl : j = cs.length := by omega
      rw [joinI_new (Nat.le_refl _), getD_app_new]
  · intro j hj
    rw [List.length_append, List.length_singleton] at hj
    rcases Nat.lt_or_ge j cs.length with g | g
    · rw [joinI_old g, getD_app_old g, h.at_ j g]
    · obtain rfl : j = cs.length := by omega
      rw [joinI_new (Nat.le_refl _), getD_app_new]
  · intro j hj
    rw [List.length_append, List.length_singleton] at hj
    rcases Nat.lt_or_ge j cs.length with g | g
    · rw [joinI_old g, getD_app_old g, h.k j g]
    · obtain rfl : j = cs.length := by omega
      rw [joinI_new (Nat.le_refl _), getD_app_new]
  · intro j hj
    rw [List.length_append, List.length_singleton] at hj
    rcases Nat.lt_or_ge j cs.length with g | g
    · rw [joinI_old g, getD_app_old g, h.key j g]
    · obtain rfl : j = cs.length := by omega
      rw [joinI_new (Nat.le_refl _), getD_app_new]
  · intro j hj
    rw [List.length_append, List.length_singleton] at hj
    rcases Nat.lt_or_ge j cs.length with g | g
    · rw [joinI_old g, getD_app_old g, h.val j g]
    · obtain rfl : j = cs.length := by omega
      rw [joinI_new (Nat.le_refl _), getD_app_new]
  · intro j hj
    rw [List.length_append, List.length_singleton] at hj
    rcases Nat.lt_or_ge j cs.length with g | g
    · rw [joinI_old g, getD_app_old g, h.lev j g]
    · obtain rfl : j = cs.length := by omega
      rw [joinI_new (Nat.le_refl _), getD_app_new]
  · intro j hj
    rw [List.length_append, List.length_singleton] at hj
    rcases Nat.lt_or_ge j cs.length with g | g
    · rw [joinI_old g, getD_app_old g, h.F j g]
    · obtain rfl : j = cs.length := by omega
      rw [joinI_new (Nat.le_refl _), getD_app_new]
  · intro j hj
    rw [List.length_append, List.length_singleton] at hj
    rcases Nat.lt_or_ge j cs.length with g | g
    · rw [joinI_old g, getD_app_old g, h.T j g]
    · obtain rfl : j = cs.length := by omega
      rw [joinI_new (Nat.le_refl _), getD_app_new]
  · intro j hj
    rw [List.length_append, List.length_singleton] at hj
    rcases Nat.lt_or_ge j cs.length with g | g
    · rw [joinI_old g, getD_app_old g, h.e j g]
    · obtain rfl : j = cs.length := by omega
      rw [joinI_new (Nat.le_refl _), getD_app_new]
  · intro j hj
    rw [List.length_append, List.length_singleton] at hj
    rcases Nat.lt_or_ge j cs.length with g | g
    · rw [joinI_old g, getD_app_old g, h.d j g]
    · obtain rfl : j = cs.length := by omega
      rw [joinI_new (Nat.le_refl _), getD_app_new]
  · intro j hj
    rw [List.length_append, List.length_singleton] at hj
    rcases Nat.lt_or_ge j cs.length with g | g
    · rw [joinI_old g, getD_app_old g, h.v j g]
    · obtain rfl : j = cs.length := by omega
      rw [joinI_new (Nat.le_refl _), getD_app_new]
theorem HRow.close {cs : List HC} {CT CA CK CY CV CL CF CO CE : Nat → Int} {CD : Nat → Bool} {CW : Nat → Int} (h : HRow cs CT CA CK CY CV CL CF CO CE CD CW) (x : HE) (i : Int) {p : Nat} (hp : p < cs.length) : HRow (cs.set p ((cs.getD p hc0).close x i)) CT CA CK CY CV CL CF (updI CO p i) (updI CE p x.e) (updI CD p x.d) (updI CW p x.v) := by
  constructor
  · intro j hj
    rw [List.length_set] at hj
    rw [getD_set hp]
    by_cases e : j = p
    · subst e
      rw [if_pos rfl, h.th j hj]
      rfl
    · rw [if_neg e, h.th j hj]
  · intro j hj
    rw [List.length_set] at hj
    rw [getD_set hp]
    by_cases e : j = p
    · subst e
      rw [if_pos rfl, h.at_ j hj]
      rfl
    · rw [if_neg e, h.at_ j hj]
  · intro j hj
    rw [List.length_set] at hj
    rw [getD_set hp]
    by_cases e : j = p
    · subst e
      rw [if_pos rfl, h.k j hj]
      rfl
    · rw [if_neg e, h.k j hj]
  · intro j hj
    rw [List.length_set] at hj
    rw [getD_set hp]
    by_cases e : j = p
    · subst e
      rw [if_pos rfl, h.key j hj]
      rfl
    · rw [if_neg e, h.key j hj]
  · intro j hj
    rw [List.length_set] at hj
    rw [getD_set hp]
    by_cases e : j = p
    · subst e
      rw [if_pos rfl, h.val j hj]
      rfl
    · rw [if_neg e, h.val j hj]
  · intro j hj
    rw [List.length_set] at hj
    rw [getD_set hp]
    by_cases e : j = p
    · subst e
      rw [if_pos rfl, h.lev j hj]
      rfl
    · rw [if_neg e, h.lev j hj]
  · intro j hj
    rw [List.length_set] at hj
    rw [getD_set hp]
    by_cases e : j = p
    · subst e
      rw [if_pos rfl, h.F j hj]
      rfl
    · rw [if_neg e, h.F j hj]
  · intro j hj
    rw [List.length_set] at hj
    rw [getD_set hp]
    by_cases e : j = p
    · subst e
      rw [if_pos rfl, updI_same]
      rfl
    · rw [if_neg e, updI_other e, h.T j hj]
  · intro j hj
    rw [List.length_set] at hj
    rw [getD_set hp]
    by_cases e : j = p
    · subst e
      rw [if_pos rfl, updI_same]
      rfl
    · rw [if_neg e, updI_other e, h.e j hj]
  · intro j hj
    rw [List.length_set] at hj
    rw [getD_set hp]
    by_cases e : j = p
    · subst e
      rw [if_pos rfl, updI_same]
      rfl
    · rw [if_neg e, updI_other e, h.d j hj]
  · intro j hj
    rw [List.length_set] at hj
    rw [getD_set hp]
    by_cases e : j = p
    · subst e
      rw [if_pos rfl, updI_same]
      rfl
    · rw [if_neg e, updI_other e, h.v j hj]
theorem OnOK.congr {G G' : Int → Option Int} {cs : List HC} (h : OnOK G cs) (he : ∀ t, (Lit.int .i64 t).wf = true → G' t = G t) : OnOK G' cs := ⟨h.one, fun t ht => (he t ht).trans (h.on t ht)⟩
theorem he_to {a : HEA} {i : Int} {CT CA CK CY CV CL CF CO CE : Nat → Int} {CD : Nat → Bool} {CW : Nat → Int} {n : Nat} {G : Int → Option Int} {c : Nat} (i0 : 0 ≤ i) (h0 : decide (i < (a.len : Int)) = true) (hok : a.ok) {n0 : Nat} (hn : n ≤ n0 + 1) (hn0 : n0 ≤ i.toNat) {c0 : Nat} (hc0 : c ≤ c0 + 1) (hc : c0 ≤ i.toNat) {cs0 cs : List HC} (h1 : a.calls i.toNat = some cs0) (hs : seeC cs0 (a.at i.toNat) i = some cs) (hl : n = cs.length) (hO : OnOK G cs) (hR : HRow cs CT CA CK CY CV CL CF CO CE CD CW) :
    heP a (IntKind.i64.wrap (i + 1)) CT CA CK CY CV CL CF CO CE CD CW n G c := by
  have e0 := of_decide_eq_true h0
  have hL := hok.1
  have hw : IntKind.i64.wrap (i + 1) = i + 1 := wrapI (by omega) (by omega)
  rw [heP, hw]
  have hi : (i + 1).toNat = i.toNat + 1 := by omega
  rw [hi]
  refine ⟨by omega, by omega, hok, by omega, by omega, cs, ?_, hl, hO, hR⟩
  simp only [HEA.calls, h1]
  rw [show ((i.toNat : Nat) : Int) = i by omega]
  exact hs
theorem he_less {a : HEA} {i : Int} {CT CA CK CY CV CL CF CO CE : Nat → Int} {CD : Nat → Bool} {CW : Nat → Int} {n : Nat} {G : Int → Option Int} {c : Nat} (hP : heP a i CT CA CK CY CV CL CF CO CE CD CW n G c) (h0 : decide (i < (a.len : Int)) = true) {r : Nat} (hr : r = a.len - i.toNat) : a.len - (IntKind.i64.wrap (i + 1)).toNat < r := by
  obtain ⟨i0, i1, ⟨hL, _⟩, _⟩ := hP
  have e0 := of_decide_eq_true h0
  rw [wrapI (by omega) (by omega)]
  omega
theorem he_idle {a : HEA} {i : Int} {CT CA CK CY CV CL CF CO CE : Nat → Int} {CD : Nat → Bool} {CW : Nat → Int} {n : Nat} {G : Int → Option Int} {c : Nat} (hP : heP a i CT CA CK CY CV CL CF CO CE CD CW n G c) (h0 : decide (i < (a.len : Int)) = true) (h2 : a.ID i.toNat = true) : heP a (IntKind.i64.wrap (i + 1)) CT CA CK CY CV CL CF CO CE CD CW n G c := by
  obtain ⟨i0, i1, hok, hn, hc, cs, h1, hl, hO, hR⟩ := hP
  exact he_to i0 h0 hok (Nat.le_succ _) hn (Nat.le_succ _) hc h1 (if_pos h2) hl hO hR
theorem he_none {a : HEA} {i : Int} {CT CA CK CY CV CL CF CO CE : Nat → Int} {CD : Nat → Bool} {CW : Nat → Int} {n : Nat} {G : Int → Option Int} {c : Nat} (hP : heP a i CT CA CK CY CV CL CF CO CE CD CW n G c) (h0 : decide (i < (a.len : Int)) = true) (h2 : a.ID i.toNat = false) (h4 : (a.BG i.toNat == (getI [] G (a.TH i.toNat)).isSome) = false) (h5 : a.BG i.toNat = true) {cs : List HC} (hO : OnOK G cs) : lastAt cs (a.TH i.toNat) cs.length = -1 := by
  obtain ⟨i0, i1, hok, _⟩ := hP
  have e0 := of_decide_eq_true h0
  have hw := hok.2 i.toNat (by omega)
  rw [h5] at h4
  have hs := hO.same hw
  have h4' : ((G (a.TH i.toNat)).isSome) = false := by
    cases h : (G (a.TH i.toNat)).isSome with
    | false => rfl
    | true => rw [show getI [] G (a.TH i.toNat) = G (a.TH i.toNat) from rfl, h] at h4; cases h4
  rw [h4'] at hs
  simpa using hs.symm
theorem he_some {a : HEA} {i : Int} {CT CA CK CY CV CL CF CO CE : Nat → Int} {CD : Nat → Bool} {CW : Nat → Int} {n : Nat} {G : Int → Option Int} {c : Nat} (hP : heP a i CT CA CK CY CV CL CF CO CE CD CW n G c) (h0 : decide (i < (a.len : Int)) = true) (h2 : a.ID i.toNat = false) (h4 : (a.BG i.toNat == (getI [] G (a.TH i.toNat)).isSome) = false) (h5 : a.BG i.toNat = false) {cs : List HC} (hO : OnOK G cs) : (getI [] G (a.TH i.toNat)).getD 0 = lastAt cs (a.TH i.toNat) cs.length ∧ lastAt cs (a.TH i.toNat) cs.length ≠ -1 := by
  obtain ⟨i0, i1, hok, _⟩ := hP
  have e0 := of_decide_eq_true h0
  have hw := hok.2 i.toNat (by omega)
  refine hO.val hw ?_
  cases h : (G (a.TH i.toNat)).isSome with
  | true => rfl
  | false => rw [h5, show getI [] G (a.TH i.toNat) = G (a.TH i.toNat) from rfl, h] at h4; cases h4
theorem he_push {a : HEA} {i : Int} {CT CA CK CY CV CL CF CO CE : Nat → Int} {CD : Nat → Bool} {CW : Nat → Int} {n : Nat} {G : Int → Option Int} {c : Nat} (hP : heP a i CT CA CK CY CV CL CF CO CE CD CW n G c) (h0 : decide (i < (a.len : Int)) = true) (h2 : a.ID i.toNat = false) (h4 : (a.BG i.toNat == (getI [] G (a.TH i.toNat)).isSome) = false) (h5 : a.BG i.toNat = true) (h14 : a.OV i.toNat = false) (h15 : (a.ER i.toNat == 0 && (a.DN i.toNat == false && (a.AV i.toNat == 0 && true))) = true) :
    heP a (IntKind.i64.wrap (i + 1)) (joinI CT n fun _ => a.TH i.toNat) (joinI CA n fun _ => a.AT i.toNat) (joinI CK n fun _ => a.K i.toNat) (joinI CY n fun _ => a.KY i.toNat) (joinI CV n fun _ => a.VL i.toNat) (joinI CL n fun _ => a.LV i.toNat) (joinI CF n fun _ => i) (joinI CO n fun _ => -1) (joinI CE n fun _ => 0) (joinI CD n fun _ => false) (joinI CW n fun _ => 0) (n + 1) (getI [(a.TH i.toNat, some (n : Int))] G) (c + 1) := by
  have hN := fun cs hO => he_none (cs := cs) hP h0 h2 h4 h5 hO
  obtain ⟨i0, i1, hok, hn, hc, cs, h1, hl, hO, hR⟩ := hP
  have e0 := of_decide_eq_true h0
  have hw := hok.2 i.toNat (by omega)
  have hno := hN cs hO
  have hnew : (HE.new (a.at i.toNat) i).th = a.TH i.toNat := rfl
  refine he_to (cs := cs ++ [(a.at i.toNat).new i]) i0 h0 hok (Nat.le_refl _) hn (Nat.le_refl _) hc h1 ?_ (by simp [hl]) ?_ (hR.push ((a.at i.toNat).new i) hl)
  · simp only [Bool.and_eq_true, beq_iff_eq, Bool.and_true] at h15
    simp [seeC, HEA.at, h2, hno, h5, h14, noAns, h15, HE.new]
  · exact (hO.push (c := (a.at i.toNat).new i) rfl hw hno).congr fun t ht => by by_cases e : t = a.TH i.toNat <;> simp [getI, HE.new, HEA.at, hl, e]
theorem he_done {a : HEA} {i : Int} {CT CA CK CY CV CL CF CO CE : Nat → Int} {CD : Nat → Bool} {CW : Nat → Int} {n : Nat} {G : Int → Option Int} {c : Nat} (hP : heP a i CT CA CK CY CV CL CF CO CE CD CW n G c) (h0 : decide (i < (a.len : Int)) = true) (h2 : a.ID i.toNat = false) (h4 : (a.BG i.toNat == (getI [] G (a.TH i.toNat)).isSome) = false) (h5 : a.BG i.toNat = true) (h14 : a.OV i.toNat = true) :
    heP a (IntKind.i64.wrap (i + 1)) (joinI CT n fun _ => a.TH i.toNat) (joinI CA n fun _ => a.AT i.toNat) (joinI CK n fun _ => a.K i.toNat) (joinI CY n fun _ => a.KY i.toNat) (joinI CV n fun _ => a.VL i.toNat) (joinI CL n fun _ => a.LV i.toNat) (joinI CF n fun _ => i) (updI (joinI CO n fun _ => -1) n i) (updI (joinI CE n fun _ => 0) n (a.ER i.toNat)) (updI (joinI CD n fun _ => false) n (a.DN i.toNat)) (updI (joinI CW n fun _ => 0) n (a.AV i.toNat)) (n + 1) (getI [(a.TH i.toNat, none), (a.TH i.toNat, some (n : Int))] G) (c + 1) := by
  have hN := fun cs hO => he_none (cs := cs) hP h0 h2 h4 h5 hO
  obtain ⟨i0, i1, hok, hn, hc, cs, h1, hl, hO, hR⟩ := hP
  have e0 := of_decide_eq_true h0
  have hw := hok.2 i.toNat (by omega)
  have hno := hN cs hO
  have hset : (cs ++ [(a.at i.toNat).new i]).set n (((cs ++ [(a.at i.toNat).new i]).getD n hc0).close (a.at i.toNat) i) = cs ++ [((a.at i.toNat).new i).close (a.at i.toNat) i] := by
    rw [hl, getD_app_new]; simp
  have hR2 := (hR.push ((a.at i.toNat).new i) hl).close (a.at i.toNat) i (p := n) (by simp [hl])
  rw [hset] at hR2
  refine he_to (cs := cs ++ [((a.at i.toNat).new i).close (a.at i.toNat) i]) i0 h0 hok (Nat.le_refl _) hn (Nat.le_refl _) hc h1 ?_ (by simp [hl]) ?_ hR2
  · simp [seeC, HEA.at, h2, hno, h5, h14]
  · refine (hO.pushOver (c := ((a.at i.toNat).new i).close (a.at i.toNat) i) (by show i ≠ -1; omega)).congr fun t ht => ?_
    simp only [getI]
    split
    · next e => subst e; rw [hO.on _ ht, hno]; rfl
    · rfl
theorem he_stay {a : HEA} {i : Int} {CT CA CK CY CV CL CF CO CE : Nat → Int} {CD : Nat → Bool} {CW : Nat → Int} {n : Nat} {G : Int → Option Int} {c : Nat} (hP : heP a i CT CA CK CY CV CL CF CO CE CD CW n G c) (h0 : decide (i < (a.len : Int)) = true) (h2 : a.ID i.toNat = false) (h4 : (a.BG i.toNat == (getI [] G (a.TH i.toNat)).isSome) = false) (h5 : a.BG i.toNat = false) {p : Nat} (hp : p = ((getI [] G (a.TH i.toNat)).getD 0).toNat) (h11 : (CK p == a.K i.toNat && (CY p == a.KY i.toNat && (CV p == a.VL i.toNat && (CL p == a.LV i.toNat && true)))) = true) (h12 : (CA p != a.AT i.toNat) = false) (h14 : a.OV i.toNat = false) (h15 : (a.ER i.toNat == 0 && (a.DN i.toNat == false && (a.AV i.toNat == 0 && true))) = true) :
    heP a (IntKind.i64.wrap (i + 1)) CT CA CK CY CV CL CF CO CE CD CW n G c := by
  have hS := fun cs hO => he_some (cs := cs) hP h0 h2 h4 h5 hO
  obtain ⟨i0, i1, hok, hn, hc, cs, h1, hl, hO, hR⟩ := hP
  obtain ⟨s1, s2⟩ := hS cs hO
  obtain ⟨g1, g2, _⟩ := lastAt_lt s2
  rw [s1] at hp
  have hpl : p < cs.length := by omega
  rw [hR.k p hpl, hR.key p hpl, hR.val p hpl, hR.lev p hpl] at h11
  rw [hR.at_ p hpl] at h12
  refine he_to (cs := cs) i0 h0 hok (Nat.le_succ _) hn (Nat.le_succ _) hc h1 ?_ hl hO hR
  simp only [seeC, HEA.at, h2, h5, h14, s2, ← hp, badOp, h11, h12, noAns, h15]
  simp
theorem he_close {a : HEA} {i : Int} {CT CA CK CY CV CL CF CO CE : Nat → Int} {CD : Nat → Bool} {CW : Nat → Int} {n : Nat} {G : Int → Option Int} {c : Nat} (hP : heP a i CT CA CK CY CV CL CF CO CE CD CW n G c) (h0 : decide (i < (a.len : Int)) = true) (h2 : a.ID i.toNat = false) (h4 : (a.BG i.toNat == (getI [] G (a.TH i.toNat)).isSome) = false) (h5 : a.BG i.toNat = false) {p : Nat} (hp : p = ((getI [] G (a.TH i.toNat)).getD 0).toNat) (h11 : (CK p == a.K i.toNat && (CY p == a.KY i.toNat && (CV p == a.VL i.toNat && (CL p == a.LV i.toNat && true)))) = true) (h12 : (CA p != a.AT i.toNat) = false) (h14 : a.OV i.toNat = true) :
    heP a (IntKind.i64.wrap (i + 1)) CT CA CK CY CV CL CF (updI CO p i) (updI CE p (a.ER i.toNat)) (updI CD p (a.DN i.toNat)) (updI CW p (a.AV i.toNat)) n (getI [(a.TH i.toNat, none)] G) c := by
  have hS := fun cs hO => he_some (cs := cs) hP h0 h2 h4 h5 hO
  obtain ⟨i0, i1, hok, hn, hc, cs, h1, hl, hO, hR⟩ := hP
  obtain ⟨s1, s2⟩ := hS cs hO
  obtain ⟨g1, g2, _⟩ := lastAt_lt s2
  rw [s1] at hp
  have hpl : p < cs.length := by omega
  rw [hR.k p hpl, hR.key p hpl, hR.val p hpl, hR.lev p hpl] at h11
  rw [hR.at_ p hpl] at h12
  refine he_to (cs := cs.set p ((cs.getD p hc0).close (a.at i.toNat) i)) i0 h0 hok (Nat.le_succ _) hn (Nat.le_succ _) hc h1 ?_ (by simp [hl]) ?_ (hR.close (a.at i.toNat) i hpl)
  · simp only [seeC, HEA.at, h2, h5, h14, s2, ← hp, badOp, h11, h12]
    simp
  · have := hO.over (x := a.at i.toNat) (i := i) (by omega) s2
    rw [show (a.at i.toNat).th = a.TH i.toNat from rfl, ← hp] at this
    exact this.congr fun t ht => by simp only [getI]
theorem he_wf {a : HEA} {i : Int} {CT CA CK CY CV CL CF CO CE : Nat → Int} {CD : Nat → Bool} {CW : Nat → Int} {n : Nat} {G : Int → Option Int} {c : Nat} (hP : heP a i CT CA CK CY CV CL CF CO CE CD CW n G c) (h0 : decide (i < (a.len : Int)) = true) : (Lit.int (3, IntKind.i64).snd (a.TH i.toNat)).wf = true := by
  have e0 := of_decide_eq_true h0
  have i0 := hP.1
  exact hP.2.2.1.2 i.toNat (by omega)
theorem he_up {a : HEA} {i : Int} {CT CA CK CY CV CL CF CO CE : Nat → Int} {CD : Nat → Bool} {CW : Nat → Int} {n : Nat} {G : Int → Option Int} {c : Nat} (hP : heP a i CT CA CK CY CV CL CF CO CE CD CW n G c) (h0 : decide (i < (a.len : Int)) = true) : ((Lit.int (3, IntKind.i64).snd (a.TH i.toNat)).wf && (Lit.int .i64 (n : Int)).wf && decide (c < maxLen)) = true := by
  have hw := he_wf hP h0
  obtain ⟨i0, i1, ⟨hL, _⟩, hn, hc, _⟩ := hP
  rw [hw]
  have h1 : (IntKind.i64.min ≤ (n : Int)) := Int.le_trans (by decide) (Int.natCast_nonneg n)
  have h2 : (n : Int) ≤ IntKind.i64.max := Int.le_trans (show (n : Int) ≤ 1000 by omega) (by decide)
  simp only [Bool.true_and, Bool.and_eq_true, decide_eq_true_eq, Lit.wf]
  exact ⟨⟨h1, h2⟩, by unfold maxLen; omega⟩
theorem he_app {a : HEA} {i : Int} {CT CA CK CY CV CL CF CO CE : Nat → Int} {CD : Nat → Bool} {CW : Nat → Int} {n : Nat} {G : Int → Option Int} {c : Nat} (hP : heP a i CT CA CK CY CV CL CF CO CE CD CW n G c) : decide (n ≤ n ∧ (n + 1) * 88 ≤ 140737488351232) = true := by
  obtain ⟨i0, i1, ⟨hL, _⟩, hn, hc, _⟩ := hP
  exact decide_eq_true ⟨Nat.le_refl _, by omega⟩
theorem he_idx {n : Nat} : decide (0 ≤ (n : Int) ∧ (n : Int) < ((n + 1 : Nat) : Int) ∧ n + 1 ≤ n + 1) = true := decide_eq_true ⟨Int.natCast_nonneg n, by omega, Nat.le_refl _⟩
theorem he_ops {n : Nat} {CK CY CV CL : Nat → Int} {k y v l : Int} : (joinI CK n (fun _ => k) ((n : Int)).toNat == k && (joinI CY n (fun _ => y) ((n : Int)).toNat == y && (joinI CV n (fun _ => v) ((n : Int)).toNat == v && (joinI CL n (fun _ => l) ((n : Int)).toNat == l && true)))) = true := by
  simp only [Int.toNat_natCast]
  rw [joinI_new (Nat.le_refl _), joinI_new (Nat.le_refl _), joinI_new (Nat.le_refl _), joinI_new (Nat.le_refl _)]
  simp
theorem he_ats {n : Nat} {CA : Nat → Int} {k : Int} : (joinI CA n (fun _ => k) ((n : Int)).toNat != k) = false := by
  simp only [Int.toNat_natCast]
  rw [joinI_new (Nat.le_refl _)]
  simp
theorem he_get {a : HEA} {i : Int} {CT CA CK CY CV CL CF CO CE : Nat → Int} {CD : Nat → Bool} {CW : Nat → Int} {n : Nat} {G : Int → Option Int} {c : Nat} (hP : heP a i CT CA CK CY CV CL CF CO CE CD CW n G c) (h0 : decide (i < (a.len : Int)) = true) (h2 : a.ID i.toNat = false) (h4 : (a.BG i.toNat == (getI [] G (a.TH i.toNat)).isSome) = false) (h5 : a.BG i.toNat = false) : decide (0 ≤ (getI [] G (a.TH i.toNat)).getD 0 ∧ (getI [] G (a.TH i.toNat)).getD 0 < (n : Int) ∧ n ≤ n) = true := by
  have hS := fun cs hO => he_some (cs := cs) hP h0 h2 h4 h5 hO
  obtain ⟨i0, i1, hok, hn, hc, cs, h1, hl, hO, hR⟩ := hP
  obtain ⟨s1, s2⟩ := hS cs hO
  obtain ⟨g1, g2, _⟩ := lastAt_lt s2
  rw [s1]
  exact decide_eq_true ⟨g1, by omega, Nat.le_refl _⟩
theorem HEA.calls_none {a : HEA} {k m : Nat} (h : a.calls k = none) (hm : k ≤ m) : a.calls m = none := by
  induction m with
  | zero => obtain rfl : k = 0 := by omega
            exact h
  | succ m ih =>
    rcases Nat.lt_or_ge m k with g | g
    · obtain rfl : k = m + 1 := by omega
      exact h
    · simp only [HEA.calls, ih g]
theorem he_b {a : HEA} {i : Int} {CT CA CK CY CV CL CF CO CE : Nat → Int} {CD : Nat → Bool} {CW : Nat → Int} {n : Nat} {G : Int → Option Int} {c : Nat} (hP : heP a i CT CA CK CY CV CL CF CO CE CD CW n G c) (h0 : decide (i < (a.len : Int)) = true) (h : ∀ cs, OnOK G cs → n = cs.length → HRow cs CT CA CK CY CV CL CF CO CE CD CW → seeC cs (a.at i.toNat) i = none) : a.res = none := by
  obtain ⟨i0, i1, hok, hn, hc, cs, h1, hl, hO, hR⟩ := hP
  have e0 := of_decide_eq_true h0
  refine HEA.calls_none (k := i.toNat + 1) ?_ (by omega)
  simp only [HEA.calls, h1]
  rw [show ((i.toNat : Nat) : Int) = i by omega]
  exact h cs hO hl hR
theorem he_b1 {a : HEA} {i : Int} {CT CA CK CY CV CL CF CO CE : Nat → Int} {CD : Nat → Bool} {CW : Nat → Int} {n : Nat} {G : Int → Option Int} {c : Nat} (hP : heP a i CT CA CK CY CV CL CF CO CE CD CW n G c) (h0 : decide (i < (a.len : Int)) = true) (h2 : a.ID i.toNat = false) (h4 : (a.BG i.toNat == (getI [] G (a.TH i.toNat)).isSome) = true) : a.res = none := he_b hP h0 fun cs hO hl hR => by
  have hw := he_wf hP h0
  have hs := hO.same hw
  have h4' := eq_of_beq h4
  rw [show (getI [] G (a.TH i.toNat)).isSome = (G (a.TH i.toNat)).isSome from rfl] at h4'
  rw [hs] at h4'
  by_cases e : lastAt cs (a.TH i.toNat) cs.length = -1
  · simp [seeC, HEA.at, h2, e, h4']
  · simp [seeC, HEA.at, h2, e, h4']
theorem he_b2 {a : HEA} {i : Int} {CT CA CK CY CV CL CF CO CE : Nat → Int} {CD : Nat → Bool} {CW : Nat → Int} {n : Nat} {G : Int → Option Int} {c : Nat} (hP : heP a i CT CA CK CY CV CL CF CO CE CD CW n G c) (h0 : decide (i < (a.len : Int)) = true) (h2 : a.ID i.toNat = false) (h4 : (a.BG i.toNat == (getI [] G (a.TH i.toNat)).isSome) = false) (h5 : a.BG i.toNat = true) (h14 : a.OV i.toNat = false) (h15 : (a.ER i.toNat == 0 && (a.DN i.toNat == false && (a.AV i.toNat == 0 && true))) = false) : a.res = none := he_b hP h0 fun cs hO hl hR => by
  have hno := he_none hP h0 h2 h4 h5 hO
  have h15' : noAns (a.ER i.toNat) (a.DN i.toNat) (a.AV i.toNat) = false := h15
  simp [seeC, HEA.at, h2, hno, h5, h14, h15']
theorem he_b3 {a : HEA} {i : Int} {CT CA CK CY CV CL CF CO CE : Nat → Int} {CD : Nat → Bool} {CW : Nat → Int} {n : Nat} {G : Int → Option Int} {c : Nat} (hP : heP a i CT CA CK CY CV CL CF CO CE CD CW n G c) (h0 : decide (i < (a.len : Int)) = true) (h2 : a.ID i.toNat = false) (h4 : (a.BG i.toNat == (getI [] G (a.TH i.toNat)).isSome) = false) (h5 : a.BG i.toNat = false) {p : Nat} (hp : p = ((getI [] G (a.TH i.toNat)).getD 0).toNat) (h11 : (CK p == a.K i.toNat && (CY p == a.KY i.toNat && (CV p == a.VL i.toNat && (CL p == a.LV i.toNat && true)))) = false) : a.res = none := he_b hP h0 fun cs hO hl hR => by
  obtain ⟨s1, s2⟩ := he_some hP h0 h2 h4 h5 hO
  obtain ⟨g1, g2, _⟩ := lastAt_lt s2
  rw [s1] at hp
  have hpl : p < cs.length := by omega
  rw [hR.k p hpl, hR.key p hpl, hR.val p hpl, hR.lev p hpl] at h11
  simp only [seeC, HEA.at, h2, h5, s2, ← hp, badOp, h11]
  simp
theorem he_b4 {a : HEA} {i : Int} {CT CA CK CY CV CL CF CO CE : Nat → Int} {CD : Nat → Bool} {CW : Nat → Int} {n : Nat} {G : Int → Option Int} {c : Nat} (hP : heP a i CT CA CK CY CV CL CF CO CE CD CW n G c) (h0 : decide (i < (a.len : Int)) = true) (h2 : a.ID i.toNat = false) (h4 : (a.BG i.toNat == (getI [] G (a.TH i.toNat)).isSome) = false) (h5 : a.BG i.toNat = false) {p : Nat} (hp : p = ((getI [] G (a.TH i.toNat)).getD 0).toNat) (h11 : (CK p == a.K i.toNat && (CY p == a.KY i.toNat && (CV p == a.VL i.toNat && (CL p == a.LV i.toNat && true)))) = true) (h12 : (CA p != a.AT i.toNat) = true) : a.res = none := he_b hP h0 fun cs hO hl hR => by
  obtain ⟨s1, s2⟩ := he_some hP h0 h2 h4 h5 hO
  obtain ⟨g1, g2, _⟩ := lastAt_lt s2
  rw [s1] at hp
  have hpl : p < cs.length := by omega
  rw [hR.k p hpl, hR.key p hpl, hR.val p hpl, hR.lev p hpl] at h11
  rw [hR.at_ p hpl] at h12
  simp only [seeC, HEA.at, h2, h5, s2, ← hp, badOp, h11, h12]
  simp
theorem he_b5 {a : HEA} {i : Int} {CT CA CK CY CV CL CF CO CE : Nat → Int} {CD : Nat → Bool} {CW : Nat → Int} {n : Nat} {G : Int → Option Int} {c : Nat} (hP : heP a i CT CA CK CY CV CL CF CO CE CD CW n G c) (h0 : decide (i < (a.len : Int)) = true) (h2 : a.ID i.toNat = false) (h4 : (a.BG i.toNat == (getI [] G (a.TH i.toNat)).isSome) = false) (h5 : a.BG i.toNat = false) {p : Nat} (hp : p = ((getI [] G (a.TH i.toNat)).getD 0).toNat) (h11 : (CK p == a.K i.toNat && (CY p == a.KY i.toNat && (CV p == a.VL i.toNat && (CL p == a.LV i.toNat && true)))) = true) (h12 : (CA p != a.AT i.toNat) = false) (h14 : a.OV i.toNat = false) (h15 : (a.ER i.toNat == 0 && (a.DN i.toNat == false && (a.AV i.toNat == 0 && true))) = false) : a.res = none := he_b hP h0 fun cs hO hl hR => by
  obtain ⟨s1, s2⟩ := he_some hP h0 h2 h4 h5 hO
  obtain ⟨g1, g2, _⟩ := lastAt_lt s2
  rw [s1] at hp
  have hpl : p < cs.length := by omega
  rw [hR.k p hpl, hR.key p hpl, hR.val p hpl, hR.lev p hpl] at h11
  rw [hR.at_ p hpl] at h12
  have h15' : noAns (a.ER i.toNat) (a.DN i.toNat) (a.AV i.toNat) = false := h15
  simp only [seeC, HEA.at, h2, h5, s2, ← hp, badOp, h11, h12, h14, h15']
  simp
theorem he_bad {a : HEA} (h : a.res = none) : Tri repAt Try.prog heZ 1 (.out .ret) [] ⟨[(2, .v (.slice none 0 0)), (3, iv 4)], [(0, heTab a)], 1⟩ (heQ a) := by
  refine Tri.fin ⟨.inl rfl, [.v (.slice none 0 0), iv 4], ⟨[(0, heTab a)], 1, [], [], [], []⟩, by kernel_rfl, ?_⟩
  show (match a.res with | some cs => _ | none => _)
  rw [h]
  exact ⟨rfl, rfl⟩
theorem HRow.cols {cs : List HC} {CT CA CK CY CV CL CF CO CE : Nat → Int} {CD : Nat → Bool} {CW : Nat → Int} (h : HRow cs CT CA CK CY CV CL CF CO CE CD CW) (j : Nat) (hj : j < cs.length) : colsF [.int .i64 CT, .int .i64 CA, .int .i64 CK, .int .u64 CY, .int .u64 CV, .int .i64 CL, .int .i64 CF, .int .i64 CO, .int .i64 CE, .bool CD, .int .u64 CW] j = colsF (hcCols cs) j := by
  simp only [colsF, hcCols, Col.at, h.th j hj, h.at_ j hj, h.k j hj, h.key j hj, h.val j hj, h.lev j hj, h.F j hj, h.T j hj, h.e j hj, h.d j hj, h.v j hj]
theorem he_fin {a : HEA} {i : Int} {CT CA CK CY CV CL CF CO CE : Nat → Int} {CD : Nat → Bool} {CW : Nat → Int} {n : Nat} {G : Int → Option Int} {c : Nat} (hP : heP a i CT CA CK CY CV CL CF CO CE CD CW n G c) (h0 : decide (i < (a.len : Int)) = false) : Tri repAt Try.prog heZ 1 (.out .ret) [] ⟨[(2, .tsl 1 n), (3, iv 0)], [(0, heTab a), (1, .rep (.vec [.int .i64 CT, .int .i64 CA, .int .i64 CK, .int .u64 CY, .int .u64 CV, .int .i64 CL, .int .i64 CF, .int .i64 CO, .int .i64 CE, .bool CD, .int .u64 CW] n 85))], 2⟩ (heQ a) := by
  obtain ⟨i0, i1, hok, hn, hc, cs, h1, hl, hO, hR⟩ := hP
  have e0 := of_decide_eq_false h0
  have hi : i.toNat = a.len := by omega
  rw [hi] at h1
  subst hl
  refine Tri.view (vec_view (n := 1) (cs' := hcCols cs) rfl rfl hR.cols) (Tri.fin ⟨.inl rfl, [.tsl 1 cs.length, iv 0], ⟨[(0, heTab a), (1, .rep (.vec (hcCols cs) cs.length 85))], 2, [], [], [], []⟩, by kernel_rfl, ?_⟩)
  show (match a.calls a.len with | some cs => _ | none => _)
  rw [h1]
  exact ⟨rfl, rfl⟩
end Go.Proofs.Ytkndpdmopgmlcaa
end
