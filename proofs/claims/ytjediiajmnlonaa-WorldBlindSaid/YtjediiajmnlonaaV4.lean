/- A known row seen as a row of open number; nil seen as such a row. No condition. -/
import Derived.Test.YtjediiajmnlonaaV3
import Derived.Test.YtjediiajmnlonaaF3
namespace Go.Proofs.Ytjediiajmnlonaa
open Go.RowKit

mutual
/-- Slices of all of block n are seen as a row's. -/
def absS (sl : Bool) (n : Nat) : SV → Option SV
  | .v x => some (.v x)
  | .ptr m o => some (.ptr m o)
  | .sl m o i k => match Nat.beq m n with
    | true => match sl, o, i with
      | true, 0, 0 => some (.tsl m k)
      | _, _, _ => none
    | false => some (.sl m o i k)
  | .slE m => match Nat.beq m n with
    | true => none
    | false => some (.slE m)
  | .tptr m i j => match Nat.beq m n with
    | true => none
    | false => some (.tptr m i j)
  | .tsl m k => match Nat.beq m n with
    | true => none
    | false => some (.tsl m k)
  | .mp m => some (.mp m)
  | .ifc t x => (absS sl n x).map fun y => .ifc t y
  | .agg r => (absL sl n r).map fun r => .agg r
  | .tup r => (absL sl n r).map fun r => .tup r
  | .clo f a b => match absL sl n a, absL sl n b with
    | some a, some b => some (.clo f a b)
    | _, _ => none
def absL (sl : Bool) (n : Nat) : List SV → Option (List SV)
  | [] => some []
  | x :: r => match absS sl n x, absL sl n r with
    | some x, some r => some (x :: r)
    | _, _ => none
end
def absC (sl : Bool) (n : Nat) : Chunk Rep → Option (Chunk Rep)
  | .row l t => (absL sl n l).map fun l => .row l t
  | .tab _ _ _ => none
  | c => some c
def absHp (sl : Bool) (n : Nat) (c0 : Chunk Rep) : List (Nat × Chunk Rep) → Option (List (Nat × Chunk Rep))
  | [] => some []
  | (m, c) :: r => match Nat.beq m n with
    | true => (absHp sl n c0 r).map fun r => (m, c0) :: r
    | false => match absC sl n c, absHp sl n c0 r with
      | some c, some r => some ((m, c) :: r)
      | _, _ => none
def absE (sl : Bool) (n : Nat) : Env → Option Env
  | [] => some []
  | (t, s) :: r => match absS sl n s, absE sl n r with
    | some s, some r => some ((t, s) :: r)
    | _, _ => none
inductive Gen where
  | row (n m : Nat) (ks : List CK)
  | arr (n m : Nat) (ks : List CK)
  | nilE (tmp : Nat) (ks : List CK) (t : TypeId)
  | nilC (n j : Nat) (ks : List CK) (t : TypeId)
  | map (n : Nat)
  | junk (n : Nat)
def setAtE (t : Nat) (s : SV) : Env → Env
  | [] => []
  | (u, x) :: r => match Nat.beq t u with
    | true => (u, s) :: r
    | false => (u, x) :: setAtE t s r
def isNil : SV → Bool
  | .v (.slice none 0 0) => true
  | _ => false
def allInt (kd : IntKind) : List Value → Option (List Int)
  | [] => some []
  | .int kd' z :: r => match eqKd kd kd', allInt kd r with
    | true, some l => some (z :: l)
    | _, _ => none
  | _ :: _ => none
def allBool : List Value → Option (List Bool)
  | [] => some []
  | .bool b :: r => (allBool r).map fun l => b :: l
  | _ :: _ => none
def allStr : List Value → Option (List ByteArray)
  | [] => some []
  | .string b :: r => (allStr r).map fun l => b :: l
  | _ :: _ => none
def colOf : CK → List Value → Option Col
  | .int kd, l => (allInt kd l).map fun zs => .int kd fun i => zs.getD i 0
  | .bool, l => (allBool l).map fun bs => .bool fun i => bs.getD i false
  | .str, l => (allStr l).map fun bs => .str fun i => bs.getD i ByteArray.empty
  | .raw, l => some (.raw fun i => l.getD i undef)
def colVals (l : List Value) (m k j : Nat) : List Value := (List.range m).map fun i => l.getD (i * k + j) undef
def colsOf (l : List Value) (m k : Nat) : Nat → List CK → Option (List Col)
  | _, [] => some []
  | j, c :: r => match colOf c (colVals l m k j), colsOf l m k (j + 1) r with
    | some c, some r => some (c :: r)
    | _, _ => none
def nilCol : CK → Col
  | .int kd => .int kd fun _ => 0
  | .bool => .bool fun _ => false
  | .str => .str fun _ => ByteArray.empty
  | .raw => .raw fun _ => undef
def genX (P : Program) (g : Gen) (s : Sym Rep) : Option (Sym Rep) := match g with
  | .row n m ks => match hget n s.hp with
    | some (.row l t) => match plainL l with
      | some vs => match Nat.beq vs.length (m * ks.length) && Nat.beq (P.cellsOf t) ks.length && vs.all Value.oneCell' && !Nat.beq ks.length 0, colsOf vs m ks.length 0 ks with
        | true, some cs => match absE true n s.e, absHp true n (.rep (.vec cs m t)) s.hp with
          | some e, some hp => some ⟨e, hp, s.nx⟩
          | _, _ => none
        | _, _ => none
      | none => none
    | _ => none
  | .arr n m ks => match hget n s.hp with
    | some (.row l t) => match plainL l with
      | some vs => match Nat.beq vs.length (m * ks.length) && vs.all Value.oneCell' && !Nat.beq ks.length 0, colsOf vs m ks.length 0 ks with
        | true, some cs => match absE false n s.e, absHp false n (.rep (.vec cs m t)) s.hp with
          | some e, some hp => some ⟨e, hp, s.nx⟩
          | _, _ => none
        | _, _ => none
      | none => none
    | _ => none
  | .nilE tmp ks t => match elook tmp s.e with
    | some x => match isNil x with
      | true => some ⟨setAtE tmp (.tsl s.nx 0) s.e, (s.nx, .rep (.vec (ks.map nilCol) 0 t)) :: s.hp, s.nx + 1⟩
      | false => none
    | none => none
  | .nilC n j ks t => match hget n s.hp with
    | some (.row l t0) => match l[j]? with
      | some x => match isNil x with
        | true => some ⟨s.e, (s.nx, .rep (.vec (ks.map nilCol) 0 t)) :: hset n (.row (splice l j [.tsl s.nx 0]) t0) s.hp, s.nx + 1⟩
        | false => none
      | none => none
    | _ => none
  | .map n => match hget n s.hp with
    | some (.rep (.pmap l g c)) => some ⟨s.e, hset n (.rep (.pmap [] (getL l g) c)) s.hp, s.nx⟩
    | _ => none
  | .junk n => match hget n s.hp with
    | some _ => some ⟨s.e, hset n (.rep .junk) s.hp, s.nx⟩
    | none => none
def gensX (P : Program) : List Gen → Sym Rep → Option (Sym Rep)
  | [], s => some s
  | g :: r, s => match genX P g s with
    | some s => gensX P r s
    | none => none
/-- Names anew, seen otherwise, and anew. -/
def normX (P : Program) (gens : List Gen) (pins vars : List Nat) (s : Sym Rep) : Option (Sym Rep) := match canonX pins vars s with
  | some s1 => match gens with
    | [] => some s1
    | gens => match gensX P gens s1 with
      | some s2 => canonX pins vars s2
      | none => none
  | none => none

section
variable {P : Program} {ρ : Names} {n : Nat} {e e1 : Spot} {sl : Bool}
mutual
theorem den_abs (he : ρ n = some e) (hb : e1.b = e.b) (ho : e1.off = e.off) (hc : sl = true → e1.cap = e.cap) (had : sl = true → e1.ad = some ⟨e.b, e.off, none⟩) : ∀ (s s' : SV) (x : Value), absS sl n s = some s' → den ρ s = some x → den (ρ.put n e1) s' = some x
  | .v _, s', x, h, hx => by
    simp only [absS, Option.some.injEq] at h
    subst h
    exact hx
  | .ptr m o, s', x, h, hx => by
    simp only [absS, Option.some.injEq] at h
    subst h
    by_cases hm : m = n
    · subst hm
      simp only [den, Names.put_same, he, Option.map_some, hb, ho] at hx ⊢
      exact hx
    · simpa only [den, Names.put_other hm] using hx
  | .mp m, s', x, h, hx => by
    simp only [absS, Option.some.injEq] at h
    subst h
    by_cases hm : m = n
    · subst hm
      simp only [den, Names.put_same, he, Option.map_some, hb] at hx ⊢
      exact hx
    · simpa only [den, Names.put_other hm] using hx
  | .sl m o i k, s', x, h, hx => by
    simp only [absS] at h
    cases hq : Nat.beq m n with
    | true =>
      rw [hq] at h
      have hm := Nat.eq_of_beq_eq_true hq
      subst hm
      simp only at h
      split at h <;> cases h
      simp only [den, Names.put_same, he, Option.map_some, hc rfl, had rfl, Nat.add_zero, Nat.sub_zero] at hx ⊢
      exact hx
    | false =>
      rw [hq] at h
      injection h with h
      subst h
      simpa only [den, Names.put_other (Nat.ne_of_beq_eq_false hq)] using hx
  | .slE m, s', x, h, hx => by
    simp only [absS] at h
    cases hq : Nat.beq m n with
    | true => rw [hq] at h; cases h
    | false =>
      rw [hq] at h
      injection h with h
      subst h
      simpa only [den, Names.put_other (Nat.ne_of_beq_eq_false hq)] using hx
  | .tptr m i j, s', x, h, hx => by
    simp only [absS] at h
    cases hq : Nat.beq m n with
    | true => rw [hq] at h; cases h
    | false =>
      rw [hq] at h
      injection h with h
      subst h
      simpa only [den, Names.put_other (Nat.ne_of_beq_eq_false hq)] using hx
  | .tsl m k, s', x, h, hx => by
    simp only [absS] at h
    cases hq : Nat.beq m n with
    | true => rw [hq] at h; cases h
    | false =>
      rw [hq] at h
      injection h with h
      subst h
      simpa only [den, Names.put_other (Nat.ne_of_beq_eq_false hq)] using hx
  | .ifc t y, s', x, h, hx => by
    simp only [absS, Option.map_eq_some_iff] at h
    obtain ⟨y', hy, rfl⟩ := h
    simp only [den, Option.map_eq_some_iff] at hx ⊢
    obtain ⟨z, hz, hx⟩ := hx
    exact ⟨z, den_abs he hb ho hc had y y' z hy hz, hx⟩
  | .agg r, s', x, h, hx => by
    simp only [absS, Option.map_eq_some_iff] at h
    obtain ⟨y', hy, rfl⟩ := h
    simp only [den, Option.map_eq_some_iff] at hx ⊢
    obtain ⟨z, hz, hx⟩ := hx
    exact ⟨z, denL_abs he hb ho hc had r y' z hy hz, hx⟩
  | .tup r, s', x, h, hx => by
    simp only [absS, Option.map_eq_some_iff] at h
    obtain ⟨y', hy, rfl⟩ := h
    simp only [den, Option.map_eq_some_iff] at hx ⊢
    obtain ⟨z, hz, hx⟩ := hx
    exact ⟨z, denL_abs he hb ho hc had r y' z hy hz, hx⟩
  | .clo f a b, s', x, h, hx => by
    simp only [absS] at h
    split at h <;> cases h
    next a' b' ha hb' =>
    simp only [den] at hx ⊢
    split at hx <;> try cases hx
    next va vb h1 h2 =>
    rw [denL_abs he hb ho hc had a a' va ha h1, denL_abs he hb ho hc had b b' vb hb' h2]
theorem denL_abs (he : ρ n = some e) (hb : e1.b = e.b) (ho : e1.off = e.off) (hc : sl = true → e1.cap = e.cap) (had : sl = true → e1.ad = some ⟨e.b, e.off, none⟩) : ∀ (s s' : List SV) (x : List Value), absL sl n s = some s' → denL ρ s = some x → denL (ρ.put n e1) s' = some x
  | [], s', x, h, hx => by
    simp only [absL, Option.some.injEq] at h
    subst h
    exact hx
  | y :: r, s', x, h, hx => by
    simp only [absL] at h
    split at h <;> cases h
    next y' r' hy hr =>
    obtain ⟨a, b, h1, h2, rfl⟩ := denL_cons.1 hx
    exact denL_cons.2 ⟨a, b, den_abs he hb ho hc had y y' a hy h1, denL_abs he hb ho hc had r r' b hr h2, rfl⟩
end
theorem absHp_get {c0 : Chunk Rep} : ∀ {hp hp' : List (Nat × Chunk Rep)}, absHp sl n c0 hp = some hp' → ∀ m, (m = n → hget m hp' = (hget m hp).map fun _ => c0) ∧ (m ≠ n → ∀ c', hget m hp' = some c' → ∃ c, hget m hp = some c ∧ absC sl n c = some c') ∧ (hget m hp = none → hget m hp' = none)
  | [], hp', h, m => by
    simp only [absHp, Option.some.injEq] at h
    subst h
    exact ⟨fun _ => rfl, (fun _ c' hc => by cases hc), fun _ => rfl⟩
  | (k, c) :: r, hp', h, m => by
    simp only [absHp] at h
    cases hq : Nat.beq k n with
    | true =>
      rw [hq] at h
      simp only [Option.map_eq_some_iff] at h
      obtain ⟨r', hr, rfl⟩ := h
      have ih := absHp_get hr m
      have hk := Nat.eq_of_beq_eq_true hq
      subst hk
      simp only [hget_cons]
      refine ⟨fun hm => by subst hm; simp, fun hm c' hc' => ?_, fun hn => ?_⟩
      · rw [if_neg hm] at hc' ⊢
        exact ih.2.1 hm c' hc'
      · split at hn
        · cases hn
        · next hm => rw [if_neg hm]; exact ih.2.2 hn
    | false =>
      rw [hq] at h
      simp only at h
      split at h <;> cases h
      next c1 r' hc hr =>
      have ih := absHp_get hr m
      have hk := Nat.ne_of_beq_eq_false hq
      simp only [hget_cons]
      refine ⟨fun hm => ?_, fun hm c' hc' => ?_, fun hn => ?_⟩
      · subst hm
        rw [if_neg (Ne.symm hk), if_neg (Ne.symm hk)]
        exact ih.1 rfl
      · split at hc'
        · next hmk =>
          injection hc' with hc'
          subst hc'
          subst hmk
          exact ⟨c, by simp, hc⟩
        · next hmk =>
          rw [if_neg hmk]
          exact ih.2.1 hm c' hc'
      · split at hn
        · cases hn
        · next hm => rw [if_neg hm]; exact ih.2.2 hn
theorem absE_get : ∀ {en en' : Env}, absE sl n en = some en' → ∀ {t : Nat} {s : SV}, elook t en' = some s → ∃ s0, elook t en = some s0 ∧ absS sl n s0 = some s
  | [], en', h, t, s, hs => by
    simp only [absE, Option.some.injEq] at h
    subst h
    cases hs
  | (u, x) :: r, en', h, t, s, hs => by
    simp only [absE] at h
    split at h <;> cases h
    next x' r' hx hr =>
    rw [elook_cons] at hs ⊢
    split at hs
    · next htu =>
      injection hs with hs
      subst hs
      rw [if_pos htu]
      exact ⟨x, rfl, hx⟩
    · next htu =>
      rw [if_neg htu]
      exact absE_get hr hs

/-- Block n is seen otherwise. -/
theorem abs_view {pin : Nat} {s : Sym Rep} {l : List SV} {t : TypeId} {c0 : Chunk Rep} {en : Env} {hp : List (Nat × Chunk Rep)} (hn : hget n s.hp = some (.row l t)) (hpin : pin ≤ n) (hE : absE sl n s.e = some en) (hH : absHp sl n c0 s.hp = some hp)
    (hview : ∀ B (ρ : Names) own w e, ρ n = some e → CAt repAt P ρ B e own (.row l t) w → ∃ e1 : Spot, e1.b = e.b ∧ e1.off = e.off ∧ (sl = true → e1.cap = e.cap) ∧ (sl = true → e1.ad = some ⟨e.b, e.off, none⟩) ∧ CAt repAt P (ρ.put n e1) B e1 own c0 w) : View repAt P pin s ⟨en, hp, s.nx⟩ := by
  intro B ρ own w hs
  obtain ⟨e, he, hat⟩ := hs.li.at_ n _ trivial hn
  obtain ⟨e1, h1, h2, h3, h4, h5⟩ := hview B ρ (own n) w e he hat
  have hlt : n < s.nx := by
    rcases Nat.lt_or_ge n s.nx with h | h
    · exact h
    · rw [hs.top n h] at hn; cases hn
  have back : ∀ m c', hget m hp = some c' → ∃ c, hget m s.hp = some c := fun m c' hc' => by
    cases hx : hget m s.hp with
    | some c => exact ⟨c, rfl⟩
    | none => rw [(absHp_get hH m).2.2 hx] at hc'; cases hc'
  refine ⟨ρ.put n e1, own, ⟨⟨fun m c' _ hc' => ?_, fun m k c d _ _ hne hc hd => ?_, fun m c _ hc => ?_⟩, fun m hm => ?_, fun m hm => ?_, hs.base⟩, fun a ha u v hu => ?_, fun m c hc b hb => ?_, fun m hm => Names.put_other (by omega)⟩
  · by_cases hm : m = n
    · subst hm
      rw [(absHp_get hH m).1 rfl, hn] at hc'
      injection hc' with hc'
      subst hc'
      exact ⟨e1, Names.put_same, h5⟩
    · obtain ⟨c, hc, hcc⟩ := (absHp_get hH m).2.1 hm c' hc'
      obtain ⟨e2, g1, g2⟩ := hs.li.at_ m c trivial hc
      refine ⟨e2, by rw [Names.put_other hm]; exact g1, ?_⟩
      cases c with
      | row l' t' =>
        simp only [absC, Option.map_eq_some_iff] at hcc
        obtain ⟨l2, q1, rfl⟩ := hcc
        obtain ⟨q2, cs, vs, q3, q4, q5⟩ := g2
        exact ⟨q2, cs, vs, q3, denL_abs he h1 h2 h3 h4 _ _ _ q1 q4, q5⟩
      | tab f len t => cases hcc
      | emp => injection hcc with hcc; subst hcc; exact g2
      | rep r => injection hcc with hcc; subst hcc; exact g2
  · obtain ⟨c1, hc1⟩ := back m c hc
    obtain ⟨d1, hd1⟩ := back k d hd
    exact hs.li.dis m k c1 d1 trivial trivial hne hc1 hd1
  · obtain ⟨c1, hc1⟩ := back m c hc
    exact hs.li.low m c1 trivial hc1
  · exact (absHp_get hH m).2.2 (hs.top m hm)
  · simp only at hm
    rw [Names.put_other (by omega)]
    exact hs.fresh m hm
  · obtain ⟨s0, q1, q2⟩ := absE_get hE hu
    obtain ⟨x, q3, q4⟩ := ha u s0 q1
    exact ⟨x, q3, den_abs he h1 h2 h3 h4 s0 v x q2 q4⟩
  · obtain ⟨c1, hc1⟩ := back m c hc
    exact ⟨m, c1, hc1, hb⟩

theorem nil_of {x : SV} (h : isNil x = true) : x = .v (.slice none 0 0) := by
  unfold isNil at h
  split at h
  · rfl
  · cases h
theorem setAtE_get {t : Nat} {x : SV} : ∀ {en : Env} {u : Nat} {s : SV}, elook u (setAtE t x en) = some s → elook u en = some s ∨ (u = t ∧ s = x)
  | [], u, s, h => .inl h
  | (k, y) :: r, u, s, h => by
    simp only [setAtE] at h
    cases hb : Nat.beq t k with
    | true =>
      rw [hb] at h
      have htk := Nat.eq_of_beq_eq_true hb
      subst htk
      rw [elook_cons] at h ⊢
      split at h
      · next hu => injection h with h; exact .inr ⟨hu, h.symm⟩
      · next hu => rw [if_neg hu]; exact .inl h
    | false =>
      rw [hb] at h
      rw [elook_cons] at h ⊢
      split at h
      · next hu => rw [if_pos hu]; exact .inl h
      · next hu => rw [if_neg hu]; exact setAtE_get h
/-- A name more, for nil. -/
theorem nil_stand {s : Sym Rep} {B : Nat} {cs : List Col} {t : TypeId} {own : Nat → List Nat} {w : World} (hs : Stand repAt P B s ρ own w) : Stand repAt P B ⟨s.e, (s.nx, .rep (.vec cs 0 t)) :: s.hp, s.nx + 1⟩ (ρ.put s.nx ⟨0, 0, 0, cs.length, 0, none⟩) (ownPut own s.nx []) w ∧ ρ.le (ρ.put s.nx ⟨0, 0, 0, cs.length, 0, none⟩) := by
  have hle : ρ.le (ρ.put s.nx ⟨0, 0, 0, cs.length, 0, none⟩) := Names.put_le (hs.fresh _ (Nat.le_refl _))
  have hlt : ∀ m c, hget m s.hp = some c → m ≠ s.nx := fun m c hc e => by rw [e, hs.top _ (Nat.le_refl _)] at hc; cases hc
  refine ⟨⟨⟨fun m c _ hc => ?_, fun m k' c d _ _ hne hc hd b hb => ?_, fun m c _ hc b hb => ?_⟩, fun m hm => ?_, fun m hm => ?_, hs.base⟩, hle⟩
  · simp only [hget_cons] at hc
    split at hc
    · next e =>
      subst e
      injection hc with hc
      subst hc
      refine ⟨_, Names.put_same, ?_⟩
      rw [ownPut_same]
      exact (⟨rfl, rfl, Nat.le_refl _, (fun i hi => by omega), rfl, rfl⟩ : VecAt (colsF cs) 0 t cs.length ⟨0, 0, 0, cs.length, 0, none⟩ [] w)
    · next e =>
      obtain ⟨e2, g1, g2⟩ := hs.li.at_ m c trivial hc
      refine ⟨e2, hle _ _ g1, ?_⟩
      rw [ownPut_other e]
      exact g2.stable hle (ModP.refl (fun _ => False) w) (fun _ _ h => h) (fun _ h => h.elim)
  · simp only [hget_cons] at hc hd
    split at hc
    · next e => subst e; rw [ownPut_same] at hb; cases hb
    · next e =>
      split at hd
      · next e2 => subst e2; rw [ownPut_same]; simp
      · next e2 =>
        rw [ownPut_other e] at hb
        rw [ownPut_other e2]
        exact hs.li.dis m k' c d trivial trivial hne hc hd b hb
  · simp only [hget_cons] at hc
    split at hc
    · next e => subst e; rw [ownPut_same] at hb; cases hb
    · next e =>
      rw [ownPut_other e] at hb
      exact hs.li.low m c trivial hc b hb
  · simp only at hm
    rw [hget_cons, if_neg (by omega)]
    exact hs.top m (by omega)
  · simp only at hm
    rw [Names.put_other (by omega)]
    exact hs.fresh m (by omega)
/-- A piece is seen as something else. -/
theorem swap_view {pin n : Nat} {s : Sym Rep} {c0 c1 : Chunk Rep} (hn : hget n s.hp = some c0) (hc : ∀ B ρ own w e, ρ n = some e → CAt repAt P ρ B e own c0 w → ∃ own', CAt repAt P ρ B e own' c1 w ∧ ∀ x ∈ own', x ∈ own) : View repAt P pin s ⟨s.e, hset n c1 s.hp, s.nx⟩ := by
  intro B ρ own w hs
  have hsame : ∀ m d, hget m (hset n c1 s.hp) = some d → (m = n ∧ d = c1) ∨ (m ≠ n ∧ hget m s.hp = some d) := by
    intro m d hd
    rw [hget_set] at hd
    split at hd
    · next e =>
      rw [hn] at hd
      injection hd with hd
      exact .inl ⟨e, hd.symm⟩
    · next e => exact .inr ⟨e, hd⟩
  have any : ∀ m d, hget m (hset n c1 s.hp) = some d → ∃ d', hget m s.hp = some d' := fun m d hd => by
    rcases hsame m d hd with ⟨rfl, _⟩ | ⟨_, h⟩
    · exact ⟨_, hn⟩
    · exact ⟨_, h⟩
  obtain ⟨e, he, hat⟩ := hs.li.at_ n _ trivial hn
  obtain ⟨own', h1, h2⟩ := hc B ρ (own n) w e he hat
  have sub : ∀ m, ∀ x ∈ ownPut own n own' m, x ∈ own m := fun m x hx => by
    by_cases hm : m = n
    · subst hm
      rw [ownPut_same] at hx
      exact h2 x hx
    · rw [ownPut_other hm] at hx
      exact hx
  refine ⟨ρ, ownPut own n own', ⟨⟨fun m d _ hd => ?_, fun m k' d d' _ _ hne hd hd' b hb hb' => ?_, fun m d _ hd b hb => ?_⟩, fun m hm => ?_, hs.fresh, hs.base⟩, fun _ h => h, fun m d hd b hb => ?_, fun _ _ => rfl⟩
  · rcases hsame m d hd with ⟨rfl, rfl⟩ | ⟨hm, h⟩
    · exact ⟨e, he, by rw [ownPut_same]; exact h1⟩
    · rw [ownPut_other hm]
      exact hs.li.at_ m d trivial h
  · obtain ⟨d1, hd1⟩ := any m d hd
    obtain ⟨d2, hd2⟩ := any k' d' hd'
    exact hs.li.dis m k' d1 d2 trivial trivial hne hd1 hd2 b (sub m b hb) (sub k' b hb')
  · obtain ⟨d1, hd1⟩ := any m d hd
    exact hs.li.low m d1 trivial hd1 b (sub m b hb)
  · cases hq : hget m (hset n c1 s.hp) with
    | none => rfl
    | some d =>
      obtain ⟨d1, hd1⟩ := any m d hq
      rw [hs.top m hm] at hd1
      cases hd1
  · obtain ⟨d1, hd1⟩ := any m d hd
    exact ⟨m, d1, hd1, sub m b hb⟩
/-- A row's elements under another law. -/
theorem vec_view {pin n len : Nat} {t : TypeId} {cs cs' : List Col} {s : Sym Rep} (hn : hget n s.hp = some (.rep (.vec cs len t))) (hl : cs'.length = cs.length) (hf : ∀ i, i < len → colsF cs i = colsF cs' i) : View repAt P pin s ⟨s.e, hset n (.rep (.vec cs' len t)) s.hp, s.nx⟩ :=
  swap_view hn fun B ρ own w e he hat => ⟨own, by
    obtain ⟨h1, h2, h3, h4, h5⟩ := (show VecAt (colsF cs) len t cs.length e own w from hat)
    refine (⟨h1, by rw [hl]; exact h2, h3, fun i hi => by rw [← hf i hi, hl]; exact h4 i hi, ?_⟩ : VecAt (colsF cs') len t cs'.length e own w)
    rw [hl]
    cases ha : e.ad with
    | none => rw [ha] at h5; exact h5
    | some g =>
      rw [ha] at h5
      obtain ⟨g1, g2, cs, g3, g4, g5⟩ := h5
      exact ⟨g1, g2, cs, g3, g4, fun i hi j hj => by rw [← hf i hi]; exact g5 i hi j hj⟩, fun _ h => h⟩
theorem allInt_ok {kd : IntKind} : ∀ {l : List Value} {zs : List Int}, allInt kd l = some zs → l = zs.map (.int kd)
  | [], zs, h => by
    simp only [allInt, Option.some.injEq] at h
    subst h
    rfl
  | v :: r, zs, h => by
    cases v with
    | int kd' z =>
      simp only [allInt] at h
      split at h <;> cases h
      next l hk hl =>
      obtain rfl := eqKd_ok hk
      rw [allInt_ok hl]
      rfl
    | _ => cases h
theorem allBool_ok : ∀ {l : List Value} {bs : List Bool}, allBool l = some bs → l = bs.map .bool
  | [], zs, h => by
    simp only [allBool, Option.some.injEq] at h
    subst h
    rfl
  | v :: r, zs, h => by
    cases v with
    | bool b =>
      simp only [allBool, Option.map_eq_some_iff] at h
      obtain ⟨l, hl, rfl⟩ := h
      rw [allBool_ok hl]
      rfl
    | _ => cases h
theorem allStr_ok : ∀ {l : List Value} {bs : List ByteArray}, allStr l = some bs → l = bs.map .string
  | [], zs, h => by
    simp only [allStr, Option.some.injEq] at h
    subst h
    rfl
  | v :: r, zs, h => by
    cases v with
    | string b =>
      simp only [allStr, Option.map_eq_some_iff] at h
      obtain ⟨l, hl, rfl⟩ := h
      rw [allStr_ok hl]
      rfl
    | _ => cases h
theorem getD_map_lt {α β : Type} {f : α → β} {l : List α} {i : Nat} (hi : i < l.length) (d : α) (d' : β) : (l.map f).getD i d' = f (l.getD i d) := by
  simp [List.getD_eq_getElem?_getD, List.getElem?_map, List.getElem?_eq_getElem hi]
theorem colOf_ok {c : CK} {l : List Value} {r : Col} (h : colOf c l = some r) {i : Nat} (hi : i < l.length) : r.at i = l.getD i undef := by
  cases c with
  | int kd =>
    simp only [colOf, Option.map_eq_some_iff] at h
    obtain ⟨zs, hz, rfl⟩ := h
    rw [allInt_ok hz] at hi ⊢
    rw [List.length_map] at hi
    exact (getD_map_lt hi 0 undef).symm
  | bool =>
    simp only [colOf, Option.map_eq_some_iff] at h
    obtain ⟨zs, hz, rfl⟩ := h
    rw [allBool_ok hz] at hi ⊢
    rw [List.length_map] at hi
    exact (getD_map_lt hi false undef).symm
  | str =>
    simp only [colOf, Option.map_eq_some_iff] at h
    obtain ⟨zs, hz, rfl⟩ := h
    rw [allStr_ok hz] at hi ⊢
    rw [List.length_map] at hi
    exact (getD_map_lt hi ByteArray.empty undef).symm
  | raw =>
    simp only [colOf, Option.some.injEq] at h
    subst h
    rfl
theorem colsOf_ok {l : List Value} {m k : Nat} : ∀ {ks : List CK} {j : Nat} {cs : List Col}, colsOf l m k j ks = some cs → cs.length = ks.length ∧ ∀ i, i < m → colsF cs i = (List.range' j ks.length).map fun j => l.getD (i * k + j) undef
  | [], j, cs, h => by
    injection h with h
    subst h
    exact ⟨rfl, fun i _ => rfl⟩
  | c :: r, j, cs, h => by
    simp only [colsOf] at h
    split at h <;> cases h
    next c1 r1 h1 h2 =>
    obtain ⟨g1, g2⟩ := colsOf_ok h2
    refine ⟨by simp [g1], fun i hi => ?_⟩
    have hlen : i < (colVals l m k j).length := by simp [colVals, hi]
    simp only [colsF, colOf_ok h1 hlen, g2 i hi, List.length_cons, List.range'_succ, List.map_cons]
    congr 1
    simp [colVals, List.getD_eq_getElem?_getD, hi]
theorem colsOf_rows {l : List Value} {m : Nat} {ks : List CK} {cs : List Col} (h : colsOf l m ks.length 0 ks = some cs) (hl : l.length = m * ks.length) {i : Nat} (hi : i < m) : colsF cs i = rowsF ks.length l i := by
  obtain ⟨_, g⟩ := colsOf_ok h
  rw [g i hi]
  have hle : (i + 1) * ks.length ≤ m * ks.length := Nat.mul_le_mul_right _ hi
  rw [Nat.add_mul, Nat.one_mul] at hle
  apply List.ext_getElem?
  intro j
  by_cases hj : j < ks.length
  · rw [rowsF_get hj]
    simp only [List.getElem?_map, List.getElem?_range' hj, Option.map_some, Nat.zero_add, Nat.one_mul]
    rw [List.getD_eq_getElem?_getD, List.getElem?_eq_getElem (by omega)]
    rfl
  · rw [List.getElem?_eq_none (by simp; omega), List.getElem?_eq_none (by simp [rowsF]; omega)]
theorem gen_view {pin : Nat} {g : Gen} {s s' : Sym Rep} (hpin : ∀ n m ks, g = .row n m ks ∨ g = .arr n m ks → pin ≤ n) (hnx : pin ≤ s.nx) (h : genX P g s = some s') : View repAt P pin s s' := by
  unfold genX at h
  split at h
  · next n m ks =>
    split at h <;> try cases h
    next l t hn =>
    split at h <;> try cases h
    next vs hvs =>
    split at h <;> try cases h
    next cs hb hcs =>
    split at h <;> cases h
    next e hp he hhp =>
    simp only [Bool.and_eq_true, Bool.not_eq_true'] at hb
    obtain ⟨⟨⟨hb1, hb2⟩, hb3⟩, hb4⟩ := hb
    have hb1 := Nat.eq_of_beq_eq_true hb1
    have hb2 := Nat.eq_of_beq_eq_true hb2
    have hb3 := List.all_eq_true.1 hb3
    have hb4 := Nat.ne_of_beq_eq_false hb4
    have hlen := (colsOf_ok hcs).1
    refine abs_view hn (hpin n m ks (.inl rfl)) he hhp fun B ρ own w e he hat => ?_
    obtain ⟨h1, ds, us, h2, h3, h4, h5, h6⟩ := hat
    have hus := plainL_den hvs h3
    subst hus
    rw [hb2] at h5 h6
    refine ⟨⟨e.b, e.cap, e.off, ks.length, m, some ⟨e.b, e.off, none⟩⟩, rfl, rfl, fun _ => rfl, fun _ => rfl, ?_⟩
    refine (⟨rfl, hlen.symm, ?_, fun i hi => ?_, rfl, h1, ds, h2, ?_, fun i hi j hj => ?_⟩ : VecAt (colsF cs) m t cs.length ⟨e.b, e.cap, e.off, ks.length, m, some ⟨e.b, e.off, none⟩⟩ own w)
    · rw [hb1] at h5
      exact Nat.le_of_mul_le_mul_right h5 (by omega)
    · rw [colsOf_rows hcs hb1 hi, hlen]
      exact rowsOK hb1 hb3 hi
    · rw [hlen]
      exact h6
    · rw [hlen] at hj ⊢
      have hx : (i + 1) * ks.length ≤ m * ks.length := Nat.mul_le_mul_right _ hi
      rw [Nat.add_mul, Nat.one_mul] at hx
      show ds[e.off + (i * ks.length + j)]? = _
      rw [h4 _ (by omega), colsOf_rows hcs hb1 hi, rowsF_get hj]
  · next n m ks =>
    split at h <;> try cases h
    next l t hn =>
    split at h <;> try cases h
    next vs hvs =>
    split at h <;> try cases h
    next cs hb hcs =>
    split at h <;> cases h
    next e hp he hhp =>
    simp only [Bool.and_eq_true, Bool.not_eq_true'] at hb
    obtain ⟨⟨hb1, hb3⟩, hb4⟩ := hb
    have hb1 := Nat.eq_of_beq_eq_true hb1
    have hb3 := List.all_eq_true.1 hb3
    have hb4 := Nat.ne_of_beq_eq_false hb4
    have hlen := (colsOf_ok hcs).1
    refine abs_view hn (hpin n m ks (.inr rfl)) he hhp fun B ρ own w e he hat => ?_
    obtain ⟨h1, ds, us, h2, h3, h4, h5, h6⟩ := hat
    have hus := plainL_den hvs h3
    subst hus
    refine ⟨⟨e.b, m, e.off, ks.length, m, some ⟨e.b, e.off, none⟩⟩, rfl, rfl, (fun h => by cases h), (fun h => by cases h), ?_⟩
    refine (⟨rfl, hlen.symm, Nat.le_refl _, fun i hi => ?_, rfl, h1, ds, h2, ?_, fun i hi j hj => ?_⟩ : VecAt (colsF cs) m t cs.length ⟨e.b, m, e.off, ks.length, m, some ⟨e.b, e.off, none⟩⟩ own w)
    · rw [colsOf_rows hcs hb1 hi, hlen]
      exact rowsOK hb1 hb3 hi
    · rw [hlen]
      show e.off + m * ks.length ≤ _
      omega
    · rw [hlen] at hj ⊢
      have hx : (i + 1) * ks.length ≤ m * ks.length := Nat.mul_le_mul_right _ hi
      rw [Nat.add_mul, Nat.one_mul] at hx
      show ds[e.off + (i * ks.length + j)]? = _
      rw [h4 _ (by omega), colsOf_rows hcs hb1 hi, rowsF_get hj]
  · next tmp ks t =>
    split at h <;> try cases h
    next x hx =>
    split at h <;> cases h
    next hnil =>
    have hnil := nil_of hnil
    subst hnil
    intro B ρ own w hs
    obtain ⟨h1, hle⟩ := nil_stand (t := t) (cs := ks.map nilCol) hs
    refine ⟨_, _, ⟨h1.li, h1.top, h1.fresh, h1.base⟩, fun a ha u v hu => ?_, fun m c hc b hb => ?_, fun m hm => Names.put_other (by omega)⟩
    · rcases setAtE_get hu with hu | ⟨rfl, rfl⟩
      · obtain ⟨y, q1, q2⟩ := ha u v hu
        exact ⟨y, q1, den_mono hle _ _ q2⟩
      · obtain ⟨y, q1, q2⟩ := ha u _ hx
        refine ⟨y, q1, ?_⟩
        simp only [den, Option.some.injEq, Names.put_same, Option.map_some] at q2 ⊢
        exact q2
    · simp only [hget_cons] at hc
      split at hc
      · next e => subst e; rw [ownPut_same] at hb; cases hb
      · next e => rw [ownPut_other e] at hb; exact ⟨m, c, hc, hb⟩
  · next n j ks t =>
    split at h <;> try cases h
    next l t0 hn =>
    split at h <;> try cases h
    next x hx =>
    split at h <;> cases h
    next hnil =>
    have hnil := nil_of hnil
    subst hnil
    intro B ρ own w hs
    obtain ⟨h1, hle⟩ := nil_stand (t := t) (cs := ks.map nilCol) hs
    have hlt : n ≠ s.nx := fun e => by rw [e, hs.top _ (Nat.le_refl _)] at hn; cases hn
    have hsame : ∀ m c, hget m ((s.nx, (.rep (.vec (ks.map nilCol) 0 t) : Chunk Rep)) :: hset n (.row (splice l j [.tsl s.nx 0]) t0) s.hp) = some c → (m = n ∧ c = .row (splice l j [.tsl s.nx 0]) t0) ∨ (m ≠ n ∧ hget m ((s.nx, (.rep (.vec (ks.map nilCol) 0 t) : Chunk Rep)) :: s.hp) = some c) := by
      intro m c hc
      by_cases hm : m = n
      · subst hm
        rw [hget_cons, if_neg hlt, hget_set, if_pos rfl, hn] at hc
        injection hc with hc
        exact .inl ⟨rfl, hc.symm⟩
      · refine .inr ⟨hm, ?_⟩
        rw [hget_cons] at hc ⊢
        split at hc
        · next e => rw [if_pos e]; exact hc
        · next e =>
          rw [if_neg e]
          rw [hget_set, if_neg hm] at hc
          exact hc
    have hold : hget n ((s.nx, (.rep (.vec (ks.map nilCol) 0 t) : Chunk Rep)) :: s.hp) = some (.row l t0) := by rw [hget_cons, if_neg hlt]; exact hn
    have any : ∀ m c, hget m ((s.nx, (.rep (.vec (ks.map nilCol) 0 t) : Chunk Rep)) :: hset n (.row (splice l j [.tsl s.nx 0]) t0) s.hp) = some c → ∃ d, hget m ((s.nx, (.rep (.vec (ks.map nilCol) 0 t) : Chunk Rep)) :: s.hp) = some d := fun m c hc => by
      rcases hsame m c hc with ⟨rfl, _⟩ | ⟨_, h⟩
      · exact ⟨_, hold⟩
      · exact ⟨_, h⟩
    refine ⟨_, ownPut own s.nx [], ⟨⟨fun m c _ hc => ?_, fun m k' c d _ _ hne hc hd => ?_, fun m c _ hc => ?_⟩, fun m hm => ?_, h1.fresh, h1.base⟩, fun a ha u v hu => ?_, fun m c hc b hb => ?_, fun m hm => Names.put_other (by omega)⟩
    · rcases hsame m c hc with ⟨rfl, rfl⟩ | ⟨hm, hc⟩
      · obtain ⟨e, g1, g2, cs, vs, g3, g4, g5, g6, g7⟩ := h1.li.at_ m _ trivial hold
        refine ⟨e, g1, g2, cs, vs, g3, ?_, g5, g6, g7⟩
        obtain ⟨y, q1, q2⟩ := denL_get g4 hx
        simp only [den, Option.some.injEq] at q1
        subst q1
        have hj := lt_of_some hx
        have hlen := denL_length g4
        have hsp := denL_splice g4 (m := [.tsl s.nx 0]) (us := [.slice none 0 0]) (by simp [denL, den, Names.put_same]) j
        rw [hsp]
        congr 1
        apply List.ext_getElem?
        intro i
        rw [show vs.take j ++ ([Value.slice none 0 0] ++ vs.drop (j + [Value.slice none 0 0].length)) = spliceV vs j [.slice none 0 0] from rfl, spliceV_get (by simp; omega)]
        split
        · rfl
        · split
          · next g8 g9 =>
            simp only [List.length_singleton] at g9
            obtain rfl : i = j := by omega
            simp [q2]
          · rfl
      · exact h1.li.at_ m c trivial hc
    · obtain ⟨c1, hc1⟩ := any m c hc
      obtain ⟨d1, hd1⟩ := any k' d hd
      exact h1.li.dis m k' c1 d1 trivial trivial hne hc1 hd1
    · obtain ⟨c1, hc1⟩ := any m c hc
      exact h1.li.low m c1 trivial hc1
    · cases hq : hget m ((s.nx, (.rep (.vec (ks.map nilCol) 0 t) : Chunk Rep)) :: hset n (.row (splice l j [.tsl s.nx 0]) t0) s.hp) with
      | none => rfl
      | some c =>
        obtain ⟨d, hd⟩ := any m c hq
        rw [h1.top m hm] at hd
        cases hd
    · obtain ⟨y, q1, q2⟩ := ha u v hu
      exact ⟨y, q1, den_mono hle _ _ q2⟩
    · obtain ⟨d, hd⟩ := any m c hc
      rw [hget_cons] at hd
      split at hd
      · next e => subst e; rw [ownPut_same] at hb; cases hb
      · next e => rw [ownPut_other e] at hb; exact ⟨m, d, hd, hb⟩
  · next n =>
    split at h <;> cases h
    next l g c hn =>
    exact swap_view hn fun B ρ own w e he hat => ⟨own, hat, fun _ h => h⟩
  · next n =>
    split at h <;> cases h
    next c0 hn =>
    exact swap_view hn fun B ρ own w e he hat => ⟨[], rfl, fun x hx => by cases hx⟩
theorem gens_view {s' : Sym Rep} : ∀ {gs : List Gen} {s : Sym Rep}, gensX P gs s = some s' → View repAt P 0 s s'
  | [], s, h => by
    simp only [gensX, Option.some.injEq] at h
    subst h
    exact View.refl
  | g :: r, s, h => by
    simp only [gensX] at h
    split at h
    · next s1 h1 => exact (gen_view (pin := 0) (fun _ _ _ _ => Nat.zero_le _) (Nat.zero_le _) h1).trans (gens_view h)
    · cases h
theorem norm_view {gs : List Gen} {vars : List Nat} {s s' : Sym Rep} (h : normX P gs [] vars s = some s') : View repAt P 0 s s' := by
  unfold normX at h
  split at h
  · next s1 h1 =>
    have v1 : View repAt P 0 s s1 := canon_view (pin := 0) h1
    split at h
    · injection h with h
      subst h
      exact v1
    · split at h
      · next s2 h2 => exact (v1.trans (gens_view h2)).trans (canon_view (pin := 0) h)
      · cases h
  · cases h
/-- A path: where it comes to, in names anew and seen otherwise; and its tests. -/
def pathG (P : Program) (lib : Lib Rep) (n sz k j : Nat) (cfg : Stop → List Gen × List Nat) (g : Goer) (fs : List Fr) (s : Sym Rep) (o : List (Option Bool)) : Option (Goer × List Fr × Sym Rep × List (Bool × Bool)) := match stepC P lib n sz k j g fs s.e ⟨s.hp, s.nx, [], [], [], o⟩ with
  | .ok r st => match normX P (cfg r).1 [] (cfg r).2 ⟨r.env, st.hp, st.nx⟩ with
    | some s' => some (r.next.1, r.next.2, s', st.ask)
    | none => none
  | .no _ _ => none
theorem Tri.pathG {lib : Lib Rep} {n sz k j : Nat} {g g' : Goer} {fs fs' : List Fr} {s s' : Sym Rep} {Q : Ex → Sym Rep → Prop} (hm : P.follows .mixedOrders = true) (hl : LibOK repAt P lib) {cfg : Stop → List Gen × List Nat} {o : List (Option Bool)} {asks : List (Bool × Bool)}
    (h : pathG P lib n sz k j cfg g fs s o = some (g', fs', s', asks)) (ha : AllAsk asks) (ht : Tri repAt P sz 0 g' fs' s' Q) : Tri repAt P sz 0 g fs s Q := by
  unfold Proofs.Ytjediiajmnlonaa.pathG at h
  split at h
  · next r st hr =>
    split at h
    · next s1 hs =>
      simp only [Option.some.injEq, Prod.mk.injEq] at h
      obtain ⟨rfl, rfl, rfl, rfl⟩ := h
      exact Tri.run hm hl hr ha.all (Nat.zero_le _) (Tri.view (norm_view hs) ht)
    · cases h
  · cases h
end
end Go.Proofs.Ytjediiajmnlonaa
