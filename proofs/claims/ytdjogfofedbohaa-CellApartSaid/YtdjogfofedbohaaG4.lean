/- CellApart: its runs from point to point. No condition. -/
import Derived.Test.YtdjogfofedbohaaG3
import Derived.Test.YtdjogfofedbohaaChecked
import Derived.Test.YtdjogfofedbohaaG1
section
/- A known row seen as a row of open number; nil seen as such a row. No condition. -/
namespace Go.Proofs.Ytdjogfofedbohaa
open Go.RowKit

mutual
/-- Slices of all of block n are seen as a row's. -/
def absS (sl : Bool) (n : Nat) : SV → Option SV
  | .v x => some (.v x)
  | .ptr m o => some (.ptr m o)
  | .sl m o i k => match Nat.beq m n with
    | true => match sl, o, i with
      | true, 0, 0 => some (.tsl m k)
      | _, _, _ => none
    | false => some (.sl m o i k)
  | .slE m => match Nat.beq m n with
    | true => none
    | false => some (.slE m)
  | .tptr m i j => match Nat.beq m n with
    | true => none
    | false => some (.tptr m i j)
  | .tsl m k => match Nat.beq m n with
    | true => none
    | false => some (.tsl m k)
  | .mp m => some (.mp m)
  | .ifc t x => (absS sl n x).map fun y => .ifc t y
  | .agg r => (absL sl n r).map fun r => .agg r
  | .tup r => (absL sl n r).map fun r => .tup r
  | .clo f a b => match absL sl n a, absL sl n b with
    | some a, some b => some (.clo f a b)
    | _, _ => none
def absL (sl : Bool) (n : Nat) : List SV → Option (List SV)
  | [] => some []
  | x :: r => match absS sl n x, absL sl n r with
    | some x, some r => some (x :: r)
    | _, _ => none
end
def absC (sl : Bool) (n : Nat) : Chunk Rep → Option (Chunk Rep)
  | .row l t => (absL sl n l).map fun l => .row l t
  | .tab _ _ _ => none
  | c => some c
def absHp (sl : Bool) (n : Nat) (c0 : Chunk Rep) : List (Nat × Chunk Rep) → Option (List (Nat × Chunk Rep))
  | [] => some []
  | (m, c) :: r => match Nat.beq m n with
    | true => (absHp sl n c0 r).map fun r => (m, c0) :: r
    | false => match absC sl n c, absHp sl n c0 r with
      | some c, some r => some ((m, c) :: r)
      | _, _ => none
def absE (sl : Bool) (n : Nat) : Env → Option Env
  | [] => some []
  | (t, s) :: r => match absS sl n s, absE sl n r with
    | some s, some r => some ((t, s) :: r)
    | _, _ => none
inductive Gen where
  | row (n m : Nat) (ks : List CK)
  | arr (n m : Nat) (ks : List CK)
  | nilE (tmp : Nat) (ks : List CK) (t : TypeId)
  | nilC (n j : Nat) (ks : List CK) (t : TypeId)
  | map (n : Nat)
  | junk (n : Nat)
def setAtE (t : Nat) (s : SV) : Env → Env
  | [] => []
  | (u, x) :: r => match Nat.beq t u with
    | true => (u, s) :: r
    | false => (u, x) :: setAtE t s r
def isNil : SV → Bool
  | .v (.slice none 0 0) => true
  | _ => false
def allInt (kd : IntKind) : List Value → Option (List Int)
  | [] => some []
  | .int kd' z :: r => match eqKd kd kd', allInt kd r with
    | true, some l => some (z :: l)
    | _, _ => none
  | _ :: _ => none
def allBool : List Value → Option (List Bool)
  | [] => some []
  | .bool b :: r => (allBool r).map fun l => b :: l
  | _ :: _ => none
def allStr : List Value → Option (List ByteArray)
  | [] => some []
  | .string b :: r => (allStr r).map fun l => b :: l
  | _ :: _ => none
def colOf : CK → List Value → Option Col
  | .int kd, l => (allInt kd l).map fun zs => .int kd fun i => zs.getD i 0
  | .bool, l => (allBool l).map fun bs => .bool fun i => bs.getD i false
  | .str, l => (allStr l).map fun bs => .str fun i => bs.getD i ByteArray.empty
  | .raw, l => some (.raw fun i => l.getD i undef)
def colVals (l : List Value) (m k j : Nat) : List Value := (List.range m).map fun i => l.getD (i * k + j) undef
def colsOf (l : List Value) (m k : Nat) : Nat → List CK → Option (List Col)
  | _, [] => some []
  | j, c :: r => match colOf c (colVals l m k j), colsOf l m k (j + 1) r with
    | some c, some r => some (c :: r)
    | _, _ => none
def nilCol : CK → Col
  | .int kd => .int kd fun _ => 0
  | .bool => .bool fun _ => false
  | .str => .str fun _ => ByteArray.empty
  | .raw => .raw fun _ => undef
def genX (P : Program) (g : Gen) (s : Sym Rep) : Option (Sym Rep) := match g with
  | .row n m ks => match hget n s.hp with
    | some (.row l t) => match plainL l with
      | some vs => match Nat.beq vs.length (m * ks.length) && Nat.beq (P.cellsOf t) ks.length && vs.all Value.oneCell' && !Nat.beq ks.length 0, colsOf vs m ks.length 0 ks with
        | true, some cs => match absE true n s.e, absHp true n (.rep (.vec cs m t)) s.hp with
          | some e, some hp => some ⟨e, hp, s.nx⟩
          | _, _ => none
        | _, _ => none
      | none => none
    | _ => none
  | .arr n m ks => match hget n s.hp with
    | some (.row l t) => match plainL l with
      | some vs => match Nat.beq vs.length (m * ks.length) && vs.all Value.oneCell' && !Nat.beq ks.length 0, colsOf vs m ks.length 0 ks with
        | true, some cs => match absE false n s.e, absHp false n (.rep (.vec cs m t)) s.hp with
          | some e, some hp => some ⟨e, hp, s.nx⟩
          | _, _ => none
        | _, _ => none
      | none => none
    | _ => none
  | .nilE tmp ks t => match elook tmp s.e with
    | some x => match isNil x with
      | true => some ⟨setAtE tmp (.tsl s.nx 0) s.e, (s.nx, .rep (.vec (ks.map nilCol) 0 t)) :: s.hp, s.nx + 1⟩
      | false => none
    | none => none
  | .nilC n j ks t => match hget n s.hp with
    | some (.row l t0) => match l[j]? with
      | some x => match isNil x with
        | true => some ⟨s.e, (s.nx, .rep (.vec (ks.map nilCol) 0 t)) :: hset n (.row (splice l j [.tsl s.nx 0]) t0) s.hp, s.nx + 1⟩
        | false => none
      | none => none
    | _ => none
  | .map n => match hget n s.hp with
    | some (.rep (.pmap l g c)) => some ⟨s.e, hset n (.rep (.pmap [] (getL l g) c)) s.hp, s.nx⟩
    | some (.rep (.ucells l g c)) => some ⟨s.e, hset n (.rep (.ucells [] (getL l g) c)) s.hp, s.nx⟩
    | _ => none
  | .junk n => match hget n s.hp with
    | some _ => some ⟨s.e, hset n (.rep .junk) s.hp, s.nx⟩
    | none => none
def gensX (P : Program) : List Gen → Sym Rep → Option (Sym Rep)
  | [], s => some s
  | g :: r, s => match genX P g s with
    | some s => gensX P r s
    | none => none
/-- Names anew, seen otherwise, and anew. -/
def normX (P : Program) (gens : List Gen) (pins vars : List Nat) (s : Sym Rep) : Option (Sym Rep) := match canonX pins vars s with
  | some s1 => match gens with
    | [] => some s1
    | gens => match gensX P gens s1 with
      | some s2 => canonX pins vars s2
      | none => none
  | none => none

section
variable {P : Program} {ρ : Names} {n : Nat} {e e1 : Spot} {sl : Bool}
mutual
theorem den_abs (he : ρ n = some e) (hb : e1.b = e.b) (ho : e1.off = e.off) (hc : sl = true → e1.cap = e.cap) (had : sl = true → e1.ad = some ⟨e.b, e.off, none⟩) : ∀ (s s' : SV) (x : Value), absS sl n s = some s' → den ρ s = some x → den (ρ.put n e1) s' = some x
  | .v _, s', x, h, hx => by
    simp only [absS, Option.some.injEq] at h
    subst h
    exact hx
  | .ptr m o, s', x, h, hx => by
    simp only [absS, Option.some.injEq] at h
    subst h
    by_cases hm : m = n
    · subst hm
      simp only [den, Names.put_same, he, Option.map_some, hb, ho] at hx ⊢
      exact hx
    · simpa only [den, Names.put_other hm] using hx
  | .mp m, s', x, h, hx => by
    simp only [absS, Option.some.injEq] at h
    subst h
    by_cases hm : m = n
    · subst hm
      simp only [den, Names.put_same, he, Option.map_some, hb] at hx ⊢
      exact hx
    · simpa only [den, Names.put_other hm] using hx
  | .sl m o i k, s', x, h, hx => by
    simp only [absS] at h
    cases hq : Nat.beq m n with
    | true =>
      rw [hq] at h
      have hm := Nat.eq_of_beq_eq_true hq
      subst hm
      simp only at h
      split at h <;> cases h
      simp only [den, Names.put_same, he, Option.map_some, hc rfl, had rfl, Nat.add_zero, Nat.sub_zero] at hx ⊢
      exact hx
    | false =>
      rw [hq] at h
      injection h with h
      subst h
      simpa only [den, Names.put_other (Nat.ne_of_beq_eq_false hq)] using hx
  | .slE m, s', x, h, hx => by
    simp only [absS] at h
    cases hq : Nat.beq m n with
    | true => rw [hq] at h; cases h
    | false =>
      rw [hq] at h
      injection h with h
      subst h
      simpa only [den, Names.put_other (Nat.ne_of_beq_eq_false hq)] using hx
  | .tptr m i j, s', x, h, hx => by
    simp only [absS] at h
    cases hq : Nat.beq m n with
    | true => rw [hq] at h; cases h
    | false =>
      rw [hq] at h
      injection h with h
      subst h
      simpa only [den, Names.put_other (Nat.ne_of_beq_eq_false hq)] using hx
  | .tsl m k, s', x, h, hx => by
    simp only [absS] at h
    cases hq : Nat.beq m n with
    | true => rw [hq] at h; cases h
    | false =>
      rw [hq] at h
      injection h with h
      subst h
      simpa only [den, Names.put_other (Nat.ne_of_beq_eq_false hq)] using hx
  | .ifc t y, s', x, h, hx => by
    simp only [absS, Option.map_eq_some_iff] at h
    obtain ⟨y', hy, rfl⟩ := h
    simp only [den, Option.map_eq_some_iff] at hx ⊢
    obtain ⟨z, hz, hx⟩ := hx
    exact ⟨z, den_abs he hb ho hc had y y' z hy hz, hx⟩
  | .agg r, s', x, h, hx => by
    simp only [absS, Option.map_eq_some_iff] at h
    obtain ⟨y', hy, rfl⟩ := h
    simp only [den, Option.map_eq_some_iff] at hx ⊢
    obtain ⟨z, hz, hx⟩ := hx
    exact ⟨z, denL_abs he hb ho hc had r y' z hy hz, hx⟩
  | .tup r, s', x, h, hx => by
    simp only [absS, Option.map_eq_some_iff] at h
    obtain ⟨y', hy, rfl⟩ := h
    simp only [den, Option.map_eq_some_iff] at hx ⊢
    obtain ⟨z, hz, hx⟩ := hx
    exact ⟨z, denL_abs he hb ho hc had r y' z hy hz, hx⟩
  | .clo f a b, s', x, h, hx => by
    simp only [absS] at h
    split at h <;> cases h
    next a' b' ha hb' =>
    simp only [den] at hx ⊢
    split at hx <;> try cases hx
    next va vb h1 h2 =>
    rw [denL_abs he hb ho hc had a a' va ha h1, denL_abs he hb ho hc had b b' vb hb' h2]
theorem denL_abs (he : ρ n = some e) (hb : e1.b = e.b) (ho : e1.off = e.off) (hc : sl = true → e1.cap = e.cap) (had : sl = true → e1.ad = some ⟨e.b, e.off, none⟩) : ∀ (s s' : List SV) (x : List Value), absL sl n s = some s' → denL ρ s = some x → denL (ρ.put n e1) s' = some x
  | [], s', x, h, hx => by
    simp only [absL, Option.some.injEq] at h
    subst h
    exact hx
  | y :: r, s', x, h, hx => by
    simp only [absL] at h
    split at h <;> cases h
    next y' r' hy hr =>
    obtain ⟨a, b, h1, h2, rfl⟩ := denL_cons.1 hx
    exact denL_cons.2 ⟨a, b, den_abs he hb ho hc had y y' a hy h1, denL_abs he hb ho hc had r r' b hr h2, rfl⟩
end
theorem absHp_get {c0 : Chunk Rep} : ∀ {hp hp' : List (Nat × Chunk Rep)}, absHp sl n c0 hp = some hp' → ∀ m, (m = n → hget m hp' = (hget m hp).map fun _ => c0) ∧ (m ≠ n → ∀ c', hget m hp' = some c' → ∃ c, hget m hp = some c ∧ absC sl n c = some c') ∧ (hget m hp = none → hget m hp' = none)
  | [], hp', h, m => by
    simp only [absHp, Option.some.injEq] at h
    subst h
    exact ⟨fun _ => rfl, (fun _ c' hc => by cases hc), fun _ => rfl⟩
  | (k, c) :: r, hp', h, m => by
    simp only [absHp] at h
    cases hq : Nat.beq k n with
    | true =>
      rw [hq] at h
      simp only [Option.map_eq_some_iff] at h
      obtain ⟨r', hr, rfl⟩ := h
      have ih := absHp_get hr m
      have hk := Nat.eq_of_beq_eq_true hq
      subst hk
      simp only [hget_cons]
      refine ⟨fun hm => by subst hm; simp, fun hm c' hc' => ?_, fun hn => ?_⟩
      · rw [if_neg hm] at hc' ⊢
        exact ih.2.1 hm c' hc'
      · split at hn
        · cases hn
        · next hm => rw [if_neg hm]; exact ih.2.2 hn
    | false =>
      rw [hq] at h
      simp only at h
      split at h <;> cases h
      next c1 r' hc hr =>
      have ih := absHp_get hr m
      have hk := Nat.ne_of_beq_eq_false hq
      simp only [hget_cons]
      refine ⟨fun hm => ?_, fun hm c' hc' => ?_, fun hn => ?_⟩
      · subst hm
        rw [if_neg (Ne.symm hk), if_neg (Ne.symm hk)]
        exact ih.1 rfl
      · split at hc'
        · next hmk =>
          injection hc' with hc'
          subst hc'
          subst hmk
          exact ⟨c, by simp, hc⟩
        · next hmk =>
          rw [if_neg hmk]
          exact ih.2.1 hm c' hc'
      · split at hn
        · cases hn
        · next hm => rw [if_neg hm]; exact ih.2.2 hn
theorem absE_get : ∀ {en en' : Env}, absE sl n en = some en' → ∀ {t : Nat} {s : SV}, elook t en' = some s → ∃ s0, elook t en = some s0 ∧ absS sl n s0 = some s
  | [], en', h, t, s, hs => by
    simp only [absE, Option.some.injEq] at h
    subst h
    cases hs
  | (u, x) :: r, en', h, t, s, hs => by
    simp only [absE] at h
    split at h <;> cases h
    next x' r' hx hr =>
    rw [elook_cons] at hs ⊢
    split at hs
    · next htu =>
      injection hs with hs
      subst hs
      rw [if_pos htu]
      exact ⟨x, rfl, hx⟩
    · next htu =>
      rw [if_neg htu]
      exact absE_get hr hs

/-- Block n is seen otherwise. -/
theorem abs_view {pin : Nat} {s : Sym Rep} {l : List SV} {t : TypeId} {c0 : Chunk Rep} {en : Env} {hp : List (Nat × Chunk Rep)} (hn : hget n s.hp = some (.row l t)) (hpin : pin ≤ n) (hE : absE sl n s.e = some en) (hH : absHp sl n c0 s.hp = some hp)
    (hview : ∀ B (ρ : Names) own w e, ρ n = some e → CAt repAt P ρ B e own (.row l t) w → ∃ e1 : Spot, e1.b = e.b ∧ e1.off = e.off ∧ (sl = true → e1.cap = e.cap) ∧ (sl = true → e1.ad = some ⟨e.b, e.off, none⟩) ∧ CAt repAt P (ρ.put n e1) B e1 own c0 w) : View repAt P pin s ⟨en, hp, s.nx⟩ := by
  intro B ρ own w hs
  obtain ⟨e, he, hat⟩ := hs.li.at_ n _ trivial hn
  obtain ⟨e1, h1, h2, h3, h4, h5⟩ := hview B ρ (own n) w e he hat
  have hlt : n < s.nx := by
    rcases Nat.lt_or_ge n s.nx with h | h
    · exact h
    · rw [hs.top n h] at hn; cases hn
  have back : ∀ m c', hget m hp = some c' → ∃ c, hget m s.hp = some c := fun m c' hc' => by
    cases hx : hget m s.hp with
    | some c => exact ⟨c, rfl⟩
    | none => rw [(absHp_get hH m).2.2 hx] at hc'; cases hc'
  refine ⟨ρ.put n e1, own, ⟨⟨fun m c' _ hc' => ?_, fun m k c d _ _ hne hc hd => ?_, fun m c _ hc => ?_⟩, fun m hm => ?_, fun m hm => ?_, hs.base⟩, fun a ha u v hu => ?_, fun m c hc b hb => ?_, fun m hm => Names.put_other (by omega)⟩
  · by_cases hm : m = n
    · subst hm
      rw [(absHp_get hH m).1 rfl, hn] at hc'
      injection hc' with hc'
      subst hc'
      exact ⟨e1, Names.put_same, h5⟩
    · obtain ⟨c, hc, hcc⟩ := (absHp_get hH m).2.1 hm c' hc'
      obtain ⟨e2, g1, g2⟩ := hs.li.at_ m c trivial hc
      refine ⟨e2, by rw [Names.put_other hm]; exact g1, ?_⟩
      cases c with
      | row l' t' =>
        simp only [absC, Option.map_eq_some_iff] at hcc
        obtain ⟨l2, q1, rfl⟩ := hcc
        obtain ⟨q2, cs, vs, q3, q4, q5⟩ := g2
        exact ⟨q2, cs, vs, q3, denL_abs he h1 h2 h3 h4 _ _ _ q1 q4, q5⟩
      | tab f len t => cases hcc
      | emp => injection hcc with hcc; subst hcc; exact g2
      | rep r => injection hcc with hcc; subst hcc; exact g2
  · obtain ⟨c1, hc1⟩ := back m c hc
    obtain ⟨d1, hd1⟩ := back k d hd
    exact hs.li.dis m k c1 d1 trivial trivial hne hc1 hd1
  · obtain ⟨c1, hc1⟩ := back m c hc
    exact hs.li.low m c1 trivial hc1
  · exact (absHp_get hH m).2.2 (hs.top m hm)
  · simp only at hm
    rw [Names.put_other (by omega)]
    exact hs.fresh m hm
  · obtain ⟨s0, q1, q2⟩ := absE_get hE hu
    obtain ⟨x, q3, q4⟩ := ha u s0 q1
    exact ⟨x, q3, den_abs he h1 h2 h3 h4 s0 v x q2 q4⟩
  · obtain ⟨c1, hc1⟩ := back m c hc
    exact ⟨m, c1, hc1, hb⟩

theorem nil_of {x : SV} (h : isNil x = true) : x = .v (.slice none 0 0) := by
  unfold isNil at h
  split at h
  · rfl
  · cases h
theorem setAtE_get {t : Nat} {x : SV} : ∀ {en : Env} {u : Nat} {s : SV}, elook u (setAtE t x en) = some s → elook u en = some s ∨ (u = t ∧ s = x)
  | [], u, s, h => .inl h
  | (k, y) :: r, u, s, h => by
    simp only [setAtE] at h
    cases hb : Nat.beq t k with
    | true =>
      rw [hb] at h
      have htk := Nat.eq_of_beq_eq_true hb
      subst htk
      rw [elook_cons] at h ⊢
      split at h
      · next hu => injection h with h; exact .inr ⟨hu, h.symm⟩
      · next hu => rw [if_neg hu]; exact .inl h
    | false =>
      rw [hb] at h
      rw [elook_cons] at h ⊢
      split at h
      · next hu => rw [if_pos hu]; exact .inl h
      · next hu => rw [if_neg hu]; exact setAtE_get h
/-- A name more, for nil. -/
theorem nil_stand {s : Sym Rep} {B : Nat} {cs : List Col} {t : TypeId} {own : Nat → List Nat} {w : World} (hs : Stand repAt P B s ρ own w) : Stand repAt P B ⟨s.e, (s.nx, .rep (.vec cs 0 t)) :: s.hp, s.nx + 1⟩ (ρ.put s.nx ⟨0, 0, 0, cs.length, 0, none⟩) (ownPut own s.nx []) w ∧ ρ.le (ρ.put s.nx ⟨0, 0, 0, cs.length, 0, none⟩) := by
  have hle : ρ.le (ρ.put s.nx ⟨0, 0, 0, cs.length, 0, none⟩) := Names.put_le (hs.fresh _ (Nat.le_refl _))
  have hlt : ∀ m c, hget m s.hp = some c → m ≠ s.nx := fun m c hc e => by rw [e, hs.top _ (Nat.le_refl _)] at hc; cases hc
  refine ⟨⟨⟨fun m c _ hc => ?_, fun m k' c d _ _ hne hc hd b hb => ?_, fun m c _ hc b hb => ?_⟩, fun m hm => ?_, fun m hm => ?_, hs.base⟩, hle⟩
  · simp only [hget_cons] at hc
    split at hc
    · next e =>
      subst e
      injection hc with hc
      subst hc
      refine ⟨_, Names.put_same, ?_⟩
      rw [ownPut_same]
      exact (⟨rfl, rfl, Nat.le_refl _, (fun i hi => by omega), rfl, rfl⟩ : VecAt (colsF cs) 0 t cs.length ⟨0, 0, 0, cs.length, 0, none⟩ [] w)
    · next e =>
      obtain ⟨e2, g1, g2⟩ := hs.li.at_ m c trivial hc
      refine ⟨e2, hle _ _ g1, ?_⟩
      rw [ownPut_other e]
      exact g2.stable hle (ModP.refl (fun _ => False) w) (fun _ _ h => h) (fun _ h => h.elim)
  · simp only [hget_cons] at hc hd
    split at hc
    · next e => subst e; rw [ownPut_same] at hb; cases hb
    · next e =>
      split at hd
      · next e2 => subst e2; rw [ownPut_same]; simp
      · next e2 =>
        rw [ownPut_other e] at hb
        rw [ownPut_other e2]
        exact hs.li.dis m k' c d trivial trivial hne hc hd b hb
  · simp only [hget_cons] at hc
    split at hc
    · next e => subst e; rw [ownPut_same] at hb; cases hb
    · next e =>
      rw [ownPut_other e] at hb
      exact hs.li.low m c trivial hc b hb
  · simp only at hm
    rw [hget_cons, if_neg (by omega)]
    exact hs.top m (by omega)
  · simp only at hm
    rw [Names.put_other (by omega)]
    exact hs.fresh m (by omega)
/-- A piece is seen as something else. -/
theorem swap_view {pin n : Nat} {s : Sym Rep} {c0 c1 : Chunk Rep} (hn : hget n s.hp = some c0) (hc : ∀ B ρ own w e, ρ n = some e → CAt repAt P ρ B e own c0 w → ∃ own', CAt repAt P ρ B e own' c1 w ∧ ∀ x ∈ own', x ∈ own) : View repAt P pin s ⟨s.e, hset n c1 s.hp, s.nx⟩ := by
  intro B ρ own w hs
  have hsame : ∀ m d, hget m (hset n c1 s.hp) = some d → (m = n ∧ d = c1) ∨ (m ≠ n ∧ hget m s.hp = some d) := by
    intro m d hd
    rw [hget_set] at hd
    split at hd
    · next e =>
      rw [hn] at hd
      injection hd with hd
      exact .inl ⟨e, hd.symm⟩
    · next e => exact .inr ⟨e, hd⟩
  have any : ∀ m d, hget m (hset n c1 s.hp) = some d → ∃ d', hget m s.hp = some d' := fun m d hd => by
    rcases hsame m d hd with ⟨rfl, _⟩ | ⟨_, h⟩
    · exact ⟨_, hn⟩
    · exact ⟨_, h⟩
  obtain ⟨e, he, hat⟩ := hs.li.at_ n _ trivial hn
  obtain ⟨own', h1, h2⟩ := hc B ρ (own n) w e he hat
  have sub : ∀ m, ∀ x ∈ ownPut own n own' m, x ∈ own m := fun m x hx => by
    by_cases hm : m = n
    · subst hm
      rw [ownPut_same] at hx
      exact h2 x hx
    · rw [ownPut_other hm] at hx
      exact hx
  refine ⟨ρ, ownPut own n own', ⟨⟨fun m d _ hd => ?_, fun m k' d d' _ _ hne hd hd' b hb hb' => ?_, fun m d _ hd b hb => ?_⟩, fun m hm => ?_, hs.fresh, hs.base⟩, fun _ h => h, fun m d hd b hb => ?_, fun _ _ => rfl⟩
  · rcases hsame m d hd with ⟨rfl, rfl⟩ | ⟨hm, h⟩
    · exact ⟨e, he, by rw [ownPut_same]; exact h1⟩
    · rw [ownPut_other hm]
      exact hs.li.at_ m d trivial h
  · obtain ⟨d1, hd1⟩ := any m d hd
    obtain ⟨d2, hd2⟩ := any k' d' hd'
    exact hs.li.dis m k' d1 d2 trivial trivial hne hd1 hd2 b (sub m b hb) (sub k' b hb')
  · obtain ⟨d1, hd1⟩ := any m d hd
    exact hs.li.low m d1 trivial hd1 b (sub m b hb)
  · cases hq : hget m (hset n c1 s.hp) with
    | none => rfl
    | some d =>
      obtain ⟨d1, hd1⟩ := any m d hq
      rw [hs.top m hm] at hd1
      cases hd1
  · obtain ⟨d1, hd1⟩ := any m d hd
    exact ⟨m, d1, hd1, sub m b hb⟩
/-- A row's elements under another law. -/
theorem vec_view {pin n len : Nat} {t : TypeId} {cs cs' : List Col} {s : Sym Rep} (hn : hget n s.hp = some (.rep (.vec cs len t))) (hl : cs'.length = cs.length) (hf : ∀ i, i < len → colsF cs i = colsF cs' i) : View repAt P pin s ⟨s.e, hset n (.rep (.vec cs' len t)) s.hp, s.nx⟩ :=
  swap_view hn fun B ρ own w e he hat => ⟨own, by
    obtain ⟨h1, h2, h3, h4, h5⟩ := (show VecAt (colsF cs) len t cs.length e own w from hat)
    refine (⟨h1, by rw [hl]; exact h2, h3, fun i hi => by rw [← hf i hi, hl]; exact h4 i hi, ?_⟩ : VecAt (colsF cs') len t cs'.length e own w)
    rw [hl]
    cases ha : e.ad with
    | none => rw [ha] at h5; exact h5
    | some g =>
      rw [ha] at h5
      obtain ⟨g1, g2, cs, g3, g4, g5⟩ := h5
      exact ⟨g1, g2, cs, g3, g4, fun i hi j hj => by rw [← hf i hi]; exact g5 i hi j hj⟩, fun _ h => h⟩
theorem allInt_ok {kd : IntKind} : ∀ {l : List Value} {zs : List Int}, allInt kd l = some zs → l = zs.map (.int kd)
  | [], zs, h => by
    simp only [allInt, Option.some.injEq] at h
    subst h
    rfl
  | v :: r, zs, h => by
    cases v with
    | int kd' z =>
      simp only [allInt] at h
      split at h <;> cases h
      next l hk hl =>
      obtain rfl := eqKd_ok hk
      rw [allInt_ok hl]
      rfl
    | _ => cases h
theorem allBool_ok : ∀ {l : List Value} {bs : List Bool}, allBool l = some bs → l = bs.map .bool
  | [], zs, h => by
    simp only [allBool, Option.some.injEq] at h
    subst h
    rfl
  | v :: r, zs, h => by
    cases v with
    | bool b =>
      simp only [allBool, Option.map_eq_some_iff] at h
      obtain ⟨l, hl, rfl⟩ := h
      rw [allBool_ok hl]
      rfl
    | _ => cases h
theorem allStr_ok : ∀ {l : List Value} {bs : List ByteArray}, allStr l = some bs → l = bs.map .string
  | [], zs, h => by
    simp only [allStr, Option.some.injEq] at h
    subst h
    rfl
  | v :: r, zs, h => by
    cases v with
    | string b =>
      simp only [allStr, Option.map_eq_some_iff] at h
      obtain ⟨l, hl, rfl⟩ := h
      rw [allStr_ok hl]
      rfl
    | _ => cases h
theorem getD_map_lt {α β : Type} {f : α → β} {l : List α} {i : Nat} (hi : i < l.length) (d : α) (d' : β) : (l.map f).getD i d' = f (l.getD i d) := by
  simp [List.getD_eq_getElem?_getD, List.getElem?_map, List.getElem?_eq_getElem hi]
theorem colOf_ok {c : CK} {l : List Value} {r : Col} (h : colOf c l = some r) {i : Nat} (hi : i < l.length) : r.at i = l.getD i undef := by
  cases c with
  | int kd =>
    simp only [colOf, Option.map_eq_some_iff] at h
    obtain ⟨zs, hz, rfl⟩ := h
    rw [allInt_ok hz] at hi ⊢
    rw [List.length_map] at hi
    exact (getD_map_lt hi 0 undef).symm
  | bool =>
    simp only [colOf, Option.map_eq_some_iff] at h
    obtain ⟨zs, hz, rfl⟩ := h
    rw [allBool_ok hz] at hi ⊢
    rw [List.length_map] at hi
    exact (getD_map_lt hi false undef).symm
  | str =>
    simp only [colOf, Option.map_eq_some_iff] at h
    obtain ⟨zs, hz, rfl⟩ := h
    rw [allStr_ok hz] at hi ⊢
    rw [List.length_map] at hi
    exact (getD_map_lt hi ByteArray.empty undef).symm
  | raw =>
    simp only [colOf, Option.some.injEq] at h
    subst h
    rfl
theorem colsOf_ok {l : List Value} {m k : Nat} : ∀ {ks : List CK} {j : Nat} {cs : List Col}, colsOf l m k j ks = some cs → cs.length = ks.length ∧ ∀ i, i < m → colsF cs i = (List.range' j ks.length).map fun j => l.getD (i * k + j) undef
  | [], j, cs, h => by
    injection h with h
    subst h
    exact ⟨rfl, fun i _ => rfl⟩
  | c :: r, j, cs, h => by
    simp only [colsOf] at h
    split at h <;> cases h
    next c1 r1 h1 h2 =>
    obtain ⟨g1, g2⟩ := colsOf_ok h2
    refine ⟨by simp [g1], fun i hi => ?_⟩
    have hlen : i < (colVals l m k j).length := by simp [colVals, hi]
    simp only [colsF, colOf_ok h1 hlen, g2 i hi, List.length_cons, List.range'_succ, List.map_cons]
    congr 1
    simp [colVals, List.getD_eq_getElem?_getD, hi]
theorem colsOf_rows {l : List Value} {m : Nat} {ks : List CK} {cs : List Col} (h : colsOf l m ks.length 0 ks = some cs) (hl : l.length = m * ks.length) {i : Nat} (hi : i < m) : colsF cs i = rowsF ks.length l i := by
  obtain ⟨_, g⟩ := colsOf_ok h
  rw [g i hi]
  have hle : (i + 1) * ks.length ≤ m * ks.length := Nat.mul_le_mul_right _ hi
  rw [Nat.add_mul, Nat.one_mul] at hle
  apply List.ext_getElem?
  intro j
  by_cases hj : j < ks.length
  · rw [rowsF_get hj]
    simp only [List.getElem?_map, List.getElem?_range' hj, Option.map_some, Nat.zero_add, Nat.one_mul]
    rw [List.getD_eq_getElem?_getD, List.getElem?_eq_getElem (by omega)]
    rfl
  · rw [List.getElem?_eq_none (by simp; omega), List.getElem?_eq_none (by simp [rowsF]; omega)]
theorem gen_view {pin : Nat} {g : Gen} {s s' : Sym Rep} (hpin : ∀ n m ks, g = .row n m ks ∨ g = .arr n m ks → pin ≤ n) (hnx : pin ≤ s.nx) (h : genX P g s = some s') : View repAt P pin s s' := by
  unfold genX at h
  split at h
  · next n m ks =>
    split at h <;> try cases h
    next l t hn =>
    split at h <;> try cases h
    next vs hvs =>
    split at h <;> try cases h
    next cs hb hcs =>
    split at h <;> cases h
    next e hp he hhp =>
    simp only [Bool.and_eq_true, Bool.not_eq_true'] at hb
    obtain ⟨⟨⟨hb1, hb2⟩, hb3⟩, hb4⟩ := hb
    have hb1 := Nat.eq_of_beq_eq_true hb1
    have hb2 := Nat.eq_of_beq_eq_true hb2
    have hb3 := List.all_eq_true.1 hb3
    have hb4 := Nat.ne_of_beq_eq_false hb4
    have hlen := (colsOf_ok hcs).1
    refine abs_view hn (hpin n m ks (.inl rfl)) he hhp fun B ρ own w e he hat => ?_
    obtain ⟨h1, ds, us, h2, h3, h4, h5, h6⟩ := hat
    have hus := plainL_den hvs h3
    subst hus
    rw [hb2] at h5 h6
    refine ⟨⟨e.b, e.cap, e.off, ks.length, m, some ⟨e.b, e.off, none⟩⟩, rfl, rfl, fun _ => rfl, fun _ => rfl, ?_⟩
    refine (⟨rfl, hlen.symm, ?_, fun i hi => ?_, rfl, h1, ds, h2, ?_, fun i hi j hj => ?_⟩ : VecAt (colsF cs) m t cs.length ⟨e.b, e.cap, e.off, ks.length, m, some ⟨e.b, e.off, none⟩⟩ own w)
    · rw [hb1] at h5
      exact Nat.le_of_mul_le_mul_right h5 (by omega)
    · rw [colsOf_rows hcs hb1 hi, hlen]
      exact rowsOK hb1 hb3 hi
    · rw [hlen]
      exact h6
    · rw [hlen] at hj ⊢
      have hx : (i + 1) * ks.length ≤ m * ks.length := Nat.mul_le_mul_right _ hi
      rw [Nat.add_mul, Nat.one_mul] at hx
      show ds[e.off + (i * ks.length + j)]? = _
      rw [h4 _ (by omega), colsOf_rows hcs hb1 hi, rowsF_get hj]
  · next n m ks =>
    split at h <;> try cases h
    next l t hn =>
    split at h <;> try cases h
    next vs hvs =>
    split at h <;> try cases h
    next cs hb hcs =>
    split at h <;> cases h
    next e hp he hhp =>
    simp only [Bool.and_eq_true, Bool.not_eq_true'] at hb
    obtain ⟨⟨hb1, hb3⟩, hb4⟩ := hb
    have hb1 := Nat.eq_of_beq_eq_true hb1
    have hb3 := List.all_eq_true.1 hb3
    have hb4 := Nat.ne_of_beq_eq_false hb4
    have hlen := (colsOf_ok hcs).1
    refine abs_view hn (hpin n m ks (.inr rfl)) he hhp fun B ρ own w e he hat => ?_
    obtain ⟨h1, ds, us, h2, h3, h4, h5, h6⟩ := hat
    have hus := plainL_den hvs h3
    subst hus
    refine ⟨⟨e.b, m, e.off, ks.length, m, some ⟨e.b, e.off, none⟩⟩, rfl, rfl, (fun h => by cases h), (fun h => by cases h), ?_⟩
    refine (⟨rfl, hlen.symm, Nat.le_refl _, fun i hi => ?_, rfl, h1, ds, h2, ?_, fun i hi j hj => ?_⟩ : VecAt (colsF cs) m t cs.length ⟨e.b, m, e.off, ks.length, m, some ⟨e.b, e.off, none⟩⟩ own w)
    · rw [colsOf_rows hcs hb1 hi, hlen]
      exact rowsOK hb1 hb3 hi
    · rw [hlen]
      show e.off + m * ks.length ≤ _
      omega
    · rw [hlen] at hj ⊢
      have hx : (i + 1) * ks.length ≤ m * ks.length := Nat.mul_le_mul_right _ hi
      rw [Nat.add_mul, Nat.one_mul] at hx
      show ds[e.off + (i * ks.length + j)]? = _
      rw [h4 _ (by omega), colsOf_rows hcs hb1 hi, rowsF_get hj]
  · next tmp ks t =>
    split at h <;> try cases h
    next x hx =>
    split at h <;> cases h
    next hnil =>
    have hnil := nil_of hnil
    subst hnil
    intro B ρ own w hs
    obtain ⟨h1, hle⟩ := nil_stand (t := t) (cs := ks.map nilCol) hs
    refine ⟨_, _, ⟨h1.li, h1.top, h1.fresh, h1.base⟩, fun a ha u v hu => ?_, fun m c hc b hb => ?_, fun m hm => Names.put_other (by omega)⟩
    · rcases setAtE_get hu with hu | ⟨rfl, rfl⟩
      · obtain ⟨y, q1, q2⟩ := ha u v hu
        exact ⟨y, q1, den_mono hle _ _ q2⟩
      · obtain ⟨y, q1, q2⟩ := ha u _ hx
        refine ⟨y, q1, ?_⟩
        simp only [den, Option.some.injEq, Names.put_same, Option.map_some] at q2 ⊢
        exact q2
    · simp only [hget_cons] at hc
      split at hc
      · next e => subst e; rw [ownPut_same] at hb; cases hb
      · next e => rw [ownPut_other e] at hb; exact ⟨m, c, hc, hb⟩
  · next n j ks t =>
    split at h <;> try cases h
    next l t0 hn =>
    split at h <;> try cases h
    next x hx =>
    split at h <;> cases h
    next hnil =>
    have hnil := nil_of hnil
    subst hnil
    intro B ρ own w hs
    obtain ⟨h1, hle⟩ := nil_stand (t := t) (cs := ks.map nilCol) hs
    have hlt : n ≠ s.nx := fun e => by rw [e, hs.top _ (Nat.le_refl _)] at hn; cases hn
    have hsame : ∀ m c, hget m ((s.nx, (.rep (.vec (ks.map nilCol) 0 t) : Chunk Rep)) :: hset n (.row (splice l j [.tsl s.nx 0]) t0) s.hp) = some c → (m = n ∧ c = .row (splice l j [.tsl s.nx 0]) t0) ∨ (m ≠ n ∧ hget m ((s.nx, (.rep (.vec (ks.map nilCol) 0 t) : Chunk Rep)) :: s.hp) = some c) := by
      intro m c hc
      by_cases hm : m = n
      · subst hm
        rw [hget_cons, if_neg hlt, hget_set, if_pos rfl, hn] at hc
        injection hc with hc
        exact .inl ⟨rfl, hc.symm⟩
      · refine .inr ⟨hm, ?_⟩
        rw [hget_cons] at hc ⊢
        split at hc
        · next e => rw [if_pos e]; exact hc
        · next e =>
          rw [if_neg e]
          rw [hget_set, if_neg hm] at hc
          exact hc
    have hold : hget n ((s.nx, (.rep (.vec (ks.map nilCol) 0 t) : Chunk Rep)) :: s.hp) = some (.row l t0) := by rw [hget_cons, if_neg hlt]; exact hn
    have any : ∀ m c, hget m ((s.nx, (.rep (.vec (ks.map nilCol) 0 t) : Chunk Rep)) :: hset n (.row (splice l j [.tsl s.nx 0]) t0) s.hp) = some c → ∃ d, hget m ((s.nx, (.rep (.vec (ks.map nilCol) 0 t) : Chunk Rep)) :: s.hp) = some d := fun m c hc => by
      rcases hsame m c hc with ⟨rfl, _⟩ | ⟨_, h⟩
      · exact ⟨_, hold⟩
      · exact ⟨_, h⟩
    refine ⟨_, ownPut own s.nx [], ⟨⟨fun m c _ hc => ?_, fun m k' c d _ _ hne hc hd => ?_, fun m c _ hc => ?_⟩, fun m hm => ?_, h1.fresh, h1.base⟩, fun a ha u v hu => ?_, fun m c hc b hb => ?_, fun m hm => Names.put_other (by omega)⟩
    · rcases hsame m c hc with ⟨rfl, rfl⟩ | ⟨hm, hc⟩
      · obtain ⟨e, g1, g2, cs, vs, g3, g4, g5, g6, g7⟩ := h1.li.at_ m _ trivial hold
        refine ⟨e, g1, g2, cs, vs, g3, ?_, g5, g6, g7⟩
        obtain ⟨y, q1, q2⟩ := denL_get g4 hx
        simp only [den, Option.some.injEq] at q1
        subst q1
        have hj := lt_of_some hx
        have hlen := denL_length g4
        have hsp := denL_splice g4 (m := [.tsl s.nx 0]) (us := [.slice none 0 0]) (by simp [denL, den, Names.put_same]) j
        rw [hsp]
        congr 1
        apply List.ext_getElem?
        intro i
        rw [show vs.take j ++ ([Value.slice none 0 0] ++ vs.drop (j + [Value.slice none 0 0].length)) = spliceV vs j [.slice none 0 0] from rfl, spliceV_get (by simp; omega)]
        split
        · rfl
        · split
          · next g8 g9 =>
            simp only [List.length_singleton] at g9
            obtain rfl : i = j := by omega
            simp [q2]
          · rfl
      · exact h1.li.at_ m c trivial hc
    · obtain ⟨c1, hc1⟩ := any m c hc
      obtain ⟨d1, hd1⟩ := any k' d hd
      exact h1.li.dis m k' c1 d1 trivial trivial hne hc1 hd1
    · obtain ⟨c1, hc1⟩ := any m c hc
      exact h1.li.low m c1 trivial hc1
    · cases hq : hget m ((s.nx, (.rep (.vec (ks.map nilCol) 0 t) : Chunk Rep)) :: hset n (.row (splice l j [.tsl s.nx 0]) t0) s.hp) with
      | none => rfl
      | some c =>
        obtain ⟨d, hd⟩ := any m c hq
        rw [h1.top m hm] at hd
        cases hd
    · obtain ⟨y, q1, q2⟩ := ha u v hu
      exact ⟨y, q1, den_mono hle _ _ q2⟩
    · obtain ⟨d, hd⟩ := any m c hc
      rw [hget_cons] at hd
      split at hd
      · next e => subst e; rw [ownPut_same] at hb; cases hb
      · next e => rw [ownPut_other e] at hb; exact ⟨m, d, hd, hb⟩
  · next n =>
    split at h <;> cases h
    · next l g c hn => exact swap_view hn fun B ρ own w e he hat => ⟨own, hat, fun _ h => h⟩
    · next l g c hn => exact swap_view hn fun B ρ own w e he hat => ⟨own, hat, fun _ h => h⟩
  · next n =>
    split at h <;> cases h
    next c0 hn =>
    exact swap_view hn fun B ρ own w e he hat => ⟨[], rfl, fun x hx => by cases hx⟩
theorem gens_view {s' : Sym Rep} : ∀ {gs : List Gen} {s : Sym Rep}, gensX P gs s = some s' → View repAt P 0 s s'
  | [], s, h => by
    simp only [gensX, Option.some.injEq] at h
    subst h
    exact View.refl
  | g :: r, s, h => by
    simp only [gensX] at h
    split at h
    · next s1 h1 => exact (gen_view (pin := 0) (fun _ _ _ _ => Nat.zero_le _) (Nat.zero_le _) h1).trans (gens_view h)
    · cases h
theorem norm_view {gs : List Gen} {vars : List Nat} {s s' : Sym Rep} (h : normX P gs [] vars s = some s') : View repAt P 0 s s' := by
  unfold normX at h
  split at h
  · next s1 h1 =>
    have v1 : View repAt P 0 s s1 := canon_view (pin := 0) h1
    split at h
    · injection h with h
      subst h
      exact v1
    · split at h
      · next s2 h2 => exact (v1.trans (gens_view h2)).trans (canon_view (pin := 0) h)
      · cases h
  · cases h
/-- A path: where it comes to, in names anew and seen otherwise; and its tests. -/
def pathG (P : Program) (lib : Lib Rep) (n sz k j : Nat) (cfg : Stop → List Gen × List Nat) (g : Goer) (fs : List Fr) (s : Sym Rep) (o : List (Option Bool)) : Option (Goer × List Fr × Sym Rep × List (Bool × Bool)) := match stepC P lib n sz k j g fs s.e ⟨s.hp, s.nx, [], [], [], o⟩ with
  | .ok r st => match normX P (cfg r).1 [] (cfg r).2 ⟨r.env, st.hp, st.nx⟩ with
    | some s' => some (r.next.1, r.next.2, s', st.ask)
    | none => none
  | .no _ _ => none
theorem Tri.pathG {lib : Lib Rep} {n sz k j : Nat} {g g' : Goer} {fs fs' : List Fr} {s s' : Sym Rep} {Q : Ex → Sym Rep → Prop} (hm : P.follows .mixedOrders = true) (hl : LibOK repAt P lib) {cfg : Stop → List Gen × List Nat} {o : List (Option Bool)} {asks : List (Bool × Bool)}
    (h : pathG P lib n sz k j cfg g fs s o = some (g', fs', s', asks)) (ha : AllAsk asks) (ht : Tri repAt P sz 0 g' fs' s' Q) : Tri repAt P sz 0 g fs s Q := by
  unfold Proofs.Ytdjogfofedbohaa.pathG at h
  split at h
  · next r st hr =>
    split at h
    · next s1 hs =>
      simp only [Option.some.injEq, Prod.mk.injEq] at h
      obtain ⟨rfl, rfl, rfl, rfl⟩ := h
      exact Tri.run hm hl hr ha.all (Nat.zero_le _) (Tri.view (norm_view hs) ht)
    · cases h
  · cases h
/-- The same, the first names kept. -/
def pinsB (pin : Nat) : Gen → Bool
  | .row n _ _ => Nat.ble pin n
  | .arr n _ _ => Nat.ble pin n
  | _ => true
def gensP (P : Program) (pin : Nat) : List Gen → Sym Rep → Option (Sym Rep)
  | [], s => some s
  | g :: r, s => match pinsB pin g && Nat.ble pin s.nx, genX P g s with
    | true, some s => gensP P pin r s
    | _, _ => none
theorem gensP_view {pin : Nat} {s' : Sym Rep} : ∀ {gs : List Gen} {s : Sym Rep}, gensP P pin gs s = some s' → View repAt P pin s s'
  | [], s, h => by
    simp only [gensP, Option.some.injEq] at h
    subst h
    exact View.refl
  | g :: r, s, h => by
    simp only [gensP] at h
    split at h
    · next hb h1 =>
      simp only [Bool.and_eq_true] at hb
      refine (gen_view (pin := pin) (fun n m ks hg => ?_) (Nat.le_of_ble_eq_true hb.2) h1).trans (gensP_view h)
      rcases hg with rfl | rfl <;> exact Nat.le_of_ble_eq_true hb.1
    · cases h
def normP (P : Program) (pin : Nat) (gens : List Gen) (vars : List Nat) (s : Sym Rep) : Option (Sym Rep) := match canonX (List.range pin) vars s with
  | some s1 => match gens with
    | [] => some s1
    | gens => match gensP P pin gens s1 with
      | some s2 => canonX (List.range pin) vars s2
      | none => none
  | none => none
theorem normP_view {pin : Nat} {gs : List Gen} {vars : List Nat} {s s' : Sym Rep} (h : normP P pin gs vars s = some s') : View repAt P pin s s' := by
  unfold normP at h
  split at h
  · next s1 h1 =>
    have v1 : View repAt P pin s s1 := canon_view h1
    split at h
    · injection h with h
      subst h
      exact v1
    · split at h
      · next s2 h2 => exact (v1.trans (gensP_view h2)).trans (canon_view h)
      · cases h
  · cases h
def pathP (P : Program) (lib : Lib Rep) (pin n sz k j : Nat) (cfg : Stop → List Gen × List Nat) (g : Goer) (fs : List Fr) (s : Sym Rep) (o : List (Option Bool)) : Option (Goer × List Fr × Sym Rep × List (Bool × Bool)) := match stepC P lib n sz k j g fs s.e ⟨s.hp, s.nx, [], [], [], o⟩ with
  | .ok r st => match normP P pin (cfg r).1 (cfg r).2 ⟨r.env, st.hp, st.nx⟩ with
    | some s' => some (r.next.1, r.next.2, s', st.ask)
    | none => none
  | .no _ _ => none
theorem Tri.pathP {lib : Lib Rep} {pin n sz k j : Nat} {g g' : Goer} {fs fs' : List Fr} {s s' : Sym Rep} {Q : Ex → Sym Rep → Prop} (hm : P.follows .mixedOrders = true) (hl : LibOK repAt P lib) {cfg : Stop → List Gen × List Nat} {o : List (Option Bool)} {asks : List (Bool × Bool)} (hpin : Nat.ble pin s.nx = true)
    (h : pathP P lib pin n sz k j cfg g fs s o = some (g', fs', s', asks)) (ha : AllAsk asks) (ht : Tri repAt P sz pin g' fs' s' Q) : Tri repAt P sz pin g fs s Q := by
  unfold Proofs.Ytdjogfofedbohaa.pathP at h
  split at h
  · next r st hr =>
    split at h
    · next s1 hs =>
      simp only [Option.some.injEq, Prod.mk.injEq] at h
      obtain ⟨rfl, rfl, rfl, rfl⟩ := h
      exact Tri.run hm hl hr ha.all (Nat.le_of_ble_eq_true hpin) (Tri.view (normP_view hs) ht)
    · cases h
  · cases h
end
end Go.Proofs.Ytdjogfofedbohaa
end
section
/- The executor with maps from places to words. No condition. -/
namespace Go.Proofs.Ytdjogfofedbohaa
theorem own_ : ownKnob Try.prog.godebug = none := by kernel_rfl
theorem laid_ : laidOutB Try.prog = true := by kernel_rfl
theorem mixed : Try.prog.follows .mixedOrders = true := by kernel_rfl
noncomputable def extX (ev : Operand → Option SV) (o : Oper) : Option (M Rep SV) := match extM ev o with
  | some m => some m
  | none => extV Try.prog ev o
theorem ext_ok : ∀ ev o m, extX ev o = some m → ∀ st s st', m st = .ok s st' → OpS repAt Try.prog o ev st st' s := by
  intro ev o m hm
  unfold extX at hm
  split at hm
  · next m' h =>
    injection hm with hm
    subst hm
    exact extM_ok ev o m' h
  · exact extV_ok ev o m hm
noncomputable def lib0 : Lib Rep := ⟨fun _ _ => none, extX, some tidyG⟩
theorem lib0_ok : LibOK repAt Try.prog lib0 := ⟨(fun _ _ _ h => by cases h), ext_ok, fun f h st s k => by injection h with h; subst h; exact tidyG_eq st s k⟩
/-- For calls of which all is known. -/
noncomputable def libT : Lib Rep := ⟨fun _ _ => none, extX, some (tidyF fRep)⟩
theorem libT_ok : LibOK repAt Try.prog libT := ⟨(fun _ _ _ h => by cases h), ext_ok, fun f h st s k => by injection h with h; subst h; exact tidyF_eq fRep_eq st s k⟩
noncomputable abbrev runT : FuncId → List SV → M Rep SV := callX Try.prog libT 10000
theorem runT_ok : CallOK repAt Try.prog runT := callX_s mixed libT_ok 10000
noncomputable abbrev run0 : FuncId → List SV → M Rep SV := callX Try.prog lib0 10000
theorem run0_ok : CallOK repAt Try.prog run0 := callX_s mixed lib0_ok 10000
end Go.Proofs.Ytdjogfofedbohaa
end
section
/- maps.Clone and maps.Equal at maps of places, as known calls. -/
namespace Go.Proofs.Ytdjogfofedbohaa
open Go.RowKit


/-- Whether two maps are one, at all places that there are. -/
noncomputable def samePl (f g : Pl → Int) : Bool := @decide (∀ p, PlWf p → f p = g p) (Classical.propDecidable _)
theorem samePl_iff {f g : Pl → Int} : samePl f g = true ↔ ∀ p, PlWf p → f p = g p := by unfold samePl; exact @decide_eq_true_iff _ (Classical.propDecidable _)
def cloneX : List SV → M Rep SV
  | [.mp n] => (getC n).bind fun
    | .rep (.pmap l g c) => (newC (.rep (.pmap l g c))).bind fun k => .ret (.mp k)
    | _ => .fail 330
  | _ => .fail 331
noncomputable def equalX : List SV → M Rep SV
  | [.mp n, .mp m] => (getC n).bind fun
    | .rep (.pmap l g _) => (getC m).bind fun
      | .rep (.pmap l' g' _) => .ret (.v (.bool (samePl (getL l g) (getL l' g'))))
      | _ => .fail 332
    | _ => .fail 333
  | _ => .fail 334
noncomputable def primM (f : FuncId) (args : List SV) : Option (M Rep SV) := match Nat.beq f 65 with
  | true => some (cloneX args)
  | false => match Nat.beq f 67 with
    | true => some (equalX args)
    | false => none
theorem clone_s {args : List SV} {st st' : St Rep} {s : SV} (h : cloneX args st = .ok s st') : CallS repAt Try.prog 65 args st st' s := by
  unfold cloneX at h
  split at h
  · next n =>
    obtain ⟨c, st1, h3, h4⟩ := bind_ok.1 h
    obtain ⟨hc, rfl⟩ := getC_ok.1 h3
    split at h4
    · next l g cnt =>
      obtain ⟨k, st2, h5, h6⟩ := bind_ok.1 h4
      obtain ⟨rfl, rfl⟩ := newC_ok.1 h5
      obtain ⟨rfl, rfl⟩ := ret_ok.1 h6
      have q : Quiet st { st with fr := insN n st.fr } := Quiet.get
      refine ⟨q.fn.trans (Fn.new _ _), fun B F ρ own w vals si hv => ?_⟩
      have s1 := si.of_quiet q
      obtain ⟨e, he, hat⟩ := s1.li.at_ n _ (s1.log n (mem_ins.2 (.inl rfl))) hc
      simp only [denL, den, he, Option.map_some, Option.some.injEq] at hv
      subst hv
      refine (clone_at (CAt_rep.1 hat).2).mono ?_
      rintro ex w' ⟨rfl, hm, hb⟩
      have ht := Tr.new (w' := w') s1 ⟨w.heap.size, 0, 0, 0, 0, none⟩ [w.heap.size] ⟨hb.os, hb.tape, hb.output, hb.size, fun k hk _ => hb.block k hk⟩ (show Rep.At B (.pmap l g cnt) ⟨w.heap.size, 0, 0, 0, 0, none⟩ [w.heap.size] w' from ⟨rfl, hm⟩) (fun b hb' => by
        rw [List.mem_singleton] at hb'
        subst hb'
        exact ⟨Nat.le_refl _, hm.lt⟩)
      exact ⟨_, _, _, rfl, by simp [den, Names.put_same], Tr.of_quiet q ht⟩
    · exact (fail_ok.1 h4).elim
  · exact (fail_ok.1 h).elim
theorem equal_s {args : List SV} {st st' : St Rep} {s : SV} (h : equalX args st = .ok s st') : CallS repAt Try.prog 67 args st st' s := by
  unfold equalX at h
  split at h
  · next n m =>
    obtain ⟨c, st1, h3, h4⟩ := bind_ok.1 h
    obtain ⟨hc, rfl⟩ := getC_ok.1 h3
    split at h4
    · next l g cnt =>
      obtain ⟨c2, st2, h5, h6⟩ := bind_ok.1 h4
      obtain ⟨hc2, rfl⟩ := getC_ok.1 h5
      split at h6
      · next l2 g2 cnt2 =>
        obtain ⟨rfl, rfl⟩ := ret_ok.1 h6
        have q : Quiet st _ := Quiet.get.trans (Quiet.get (n := m) (st := { st with fr := insN n st.fr }))
        refine ⟨q.fn, fun B F ρ own w vals si hv => ?_⟩
        obtain ⟨e, he, hat⟩ := si.li.at_ n _ (si.log n (mem_ins.2 (.inr (mem_ins.2 (.inl rfl))))) hc
        obtain ⟨e2, he2, hat2⟩ := si.li.at_ m _ (si.log m (mem_ins.2 (.inl rfl))) hc2
        simp only [denL, den, he, he2, Option.map_some, Option.some.injEq] at hv
        subst hv
        refine (equal_at (CAt_rep.1 hat).2 (CAt_rep.1 hat2).2).mono ?_
        rintro ex w' ⟨r, rfl, hr, hg⟩
        have ht := Tr.idle (w' := w') (si.of_quiet q) ((Mod.refl [] w).grown hg (fun g h => by cases h))
        refine ⟨_, _, _, rfl, ?_, Tr.of_quiet q ht⟩
        have : r = samePl (getL l g) (getL l2 g2) := Bool.eq_iff_iff.2 (hr.trans samePl_iff.symm)
        rw [this]
        rfl
      · exact (fail_ok.1 h6).elim
    · exact (fail_ok.1 h4).elim
  · exact (fail_ok.1 h).elim
theorem primM_ok : ∀ f args m, primM f args = some m → ∀ st s st', m st = .ok s st' → CallS repAt Try.prog f args st st' s := by
  intro f args m hm st s st' h
  unfold primM at hm
  split at hm
  · next hb =>
    obtain rfl := Nat.eq_of_beq_eq_true hb
    cases hm
    exact clone_s h
  · split at hm
    · next hb =>
      obtain rfl := Nat.eq_of_beq_eq_true hb
      cases hm
      exact equal_s h
    · cases hm
/-- With the calls on maps known. -/
noncomputable def Lib.maps (l : Lib Rep) : Lib Rep := ⟨fun f args => match primM f args with
  | some m => some m
  | none => l.prim f args, l.ext, l.tidy⟩
theorem Lib.maps_ok {l : Lib Rep} (hl : LibOK repAt Try.prog l) : LibOK repAt Try.prog l.maps := by
  refine ⟨fun f args m hm => ?_, hl.ext, hl.tidy⟩
  simp only [Lib.maps] at hm
  split at hm
  · next m' h =>
    injection hm with hm
    subst hm
    exact primM_ok f args m' h
  · exact hl.prim f args m hm
end Go.Proofs.Ytdjogfofedbohaa
end
section
/- cell's Places as a known call. -/
namespace Go.Proofs.Ytdjogfofedbohaa
open Go.RowKit

/-- Rows of places, column by column. -/
def colsPl (L : List Pl) : List Col := [.int .i64 fun i => (L.getD i (0, 0, 0)).1, .int .i64 fun i => (L.getD i (0, 0, 0)).2.1, .int .i64 fun i => (L.getD i (0, 0, 0)).2.2]
theorem colsPl_row (L : List Pl) : colsF (colsPl L) = plRow L := rfl
noncomputable def placesX : List SV → M Rep SV
  | [.ptr n o] => (getC n).bind fun
    | .row l _ => (M.opt 340 l[o]?).bind fun
      | .mp m => (getC m).bind fun
        | .rep (.pmap l g c) => (need 341 (Nat.ble c 1000000)).bind fun _ => (newC (.rep (.vec (colsPl (placesOf (getL l g))) (placesOf (getL l g)).length 34))).bind fun k => .ret (.tsl k (placesOf (getL l g)).length)
        | _ => .fail 342
      | _ => .fail 343
    | _ => .fail 344
  | _ => .fail 345
theorem vec_own_lt {f : Nat → List Value} {len k : Nat} {t : TypeId} {e : Spot} {own : List Nat} {w : World} (h : VecAt f len t k e own w) : ∀ b ∈ own, b < w.heap.size := by
  obtain ⟨_, _, _, _, h5⟩ := h
  intro b hb
  cases ha : e.ad with
  | none => rw [ha] at h5; rw [h5.1] at hb; cases hb
  | some g =>
    rw [ha] at h5
    obtain ⟨_, g2, cs, g3, _⟩ := h5
    rw [g2, List.mem_singleton] at hb
    subst hb
    exact heap_lt g3
theorem places_s {args : List SV} {st st' : St Rep} {s : SV} (h : placesX args st = .ok s st') : CallS repAt Try.prog 20 args st st' s := by
  unfold placesX at h
  split at h
  · next n o =>
    obtain ⟨c, st1, h3, h4⟩ := bind_ok.1 h
    obtain ⟨hc, rfl⟩ := getC_ok.1 h3
    split at h4
    · next l t =>
      obtain ⟨sv, _, h5, h6⟩ := bind_ok.1 h4
      obtain ⟨hsv, rfl⟩ := opt_ok.1 h5
      split at h6
      · next m =>
        obtain ⟨c2, st2, h7, h8⟩ := bind_ok.1 h6
        obtain ⟨hc2, rfl⟩ := getC_ok.1 h7
        split at h8
        · next l2 g cnt =>
          obtain ⟨_, st3, h9, h10⟩ := bind_ok.1 h8
          obtain ⟨q2, hq⟩ := need_ok h9
          obtain ⟨k, st4, h11, h12⟩ := bind_ok.1 h10
          obtain ⟨rfl, rfl⟩ := newC_ok.1 h11
          obtain ⟨rfl, rfl⟩ := ret_ok.1 h12
          have q : Quiet st st3 := (Quiet.get.trans (Quiet.get (n := m) (st := { st with fr := insN n st.fr }))).trans q2
          refine ⟨q.fn.trans (Fn.new _ _), fun B F ρ own w vals si hv => ?_⟩
          have s1 := si.of_quiet q
          have hn : n ∈ st3.fr := q2.fr n (mem_ins.2 (.inr (mem_ins.2 (.inl rfl))))
          have hm : m ∈ st3.fr := q2.fr m (mem_ins.2 (.inl rfl))
          obtain ⟨e, he, hat⟩ := s1.li.at_ n _ (s1.log n hn) (by rw [q.hp]; exact hc)
          obtain ⟨e2, he2, hat2⟩ := s1.li.at_ m _ (s1.log m hm) (by rw [q.hp]; exact hc2)
          simp only [denL, den, he, Option.map_some, Option.some.injEq] at hv
          subst hv
          obtain ⟨_, cs, vs, g1, g2, g3, _⟩ := hat
          obtain ⟨x, g5, g4⟩ := denL_get g2 hsv
          simp only [den, he2, Option.map_some, Option.some.injEq] at g5
          subst g5
          have hcell : w.cell? ⟨e.b, e.off + o, none⟩ = some (.map (some e2.b)) := by
            rw [cell_of_row w e.b _ cs t (0, 0) g1, g3 o (lt_of_some g4)]
            exact g4
          refine (places_at hcell (CAt_rep.1 hat2).2 (Nat.le_of_ble_eq_true (hq s1.ask))).mono ?_
          rintro ex w' ⟨v, rfl, ⟨sp, own0, rfl, hvec, hown⟩, _, hb⟩
          have ht := Tr.new (w' := w') s1 sp own0 ⟨hb.os, hb.tape, hb.output, hb.size, fun k hk _ => hb.block k hk⟩ (show Rep.At B (.vec (colsPl (placesOf (getL l2 g))) (placesOf (getL l2 g)).length 34) sp own0 w' from hvec) (fun b hb' => ⟨hown b hb', vec_own_lt hvec b hb'⟩)
          exact ⟨_, _, _, rfl, by simp [den, Names.put_same], Tr.of_quiet q ht⟩
        · exact (fail_ok.1 h8).elim
      · exact (fail_ok.1 h6).elim
    · exact (fail_ok.1 h4).elim
  · exact (fail_ok.1 h).elim
noncomputable def primP (f : FuncId) (args : List SV) : Option (M Rep SV) := match Nat.beq f 20 with
  | true => match args with
    | [.ptr _ _] => some (placesX args)
    | _ => none
  | false => primM f args
theorem primP_ok : ∀ f args m, primP f args = some m → ∀ st s st', m st = .ok s st' → CallS repAt Try.prog f args st st' s := by
  intro f args m hm st s st' h
  unfold primP at hm
  split at hm
  · next hb =>
    obtain rfl := Nat.eq_of_beq_eq_true hb
    split at hm <;> cases hm
    exact places_s h
  · exact primM_ok f args m hm st s st' h
/-- With the calls on maps known, and Places. -/
noncomputable def Lib.cells (l : Lib Rep) : Lib Rep := ⟨fun f args => match primP f args with
  | some m => some m
  | none => l.prim f args, l.ext, l.tidy⟩
theorem Lib.cells_ok {l : Lib Rep} (hl : LibOK repAt Try.prog l) : LibOK repAt Try.prog l.cells := by
  refine ⟨fun f args m hm => ?_, hl.ext, hl.tidy⟩
  simp only [Lib.cells] at hm
  split at hm
  · next m' h =>
    injection hm with hm
    subst hm
    exact primP_ok f args m' h
  · exact hl.prim f args m hm
end Go.Proofs.Ytdjogfofedbohaa
end
section
/- Rows of numbers as functions. No condition. -/
namespace Go.Proofs.Ytdjogfofedbohaa
theorem updI_same {α : Type} {W : Nat → α} {i : Nat} {v : α} : updI W i v i = v := by simp [updI]
theorem updI_other {α : Type} {W : Nat → α} {i j : Nat} {v : α} (h : j ≠ i) : updI W i v j = W j := by simp [updI, h]
theorem joinI_old {α : Type} {W V : Nat → α} {n i : Nat} (h : i < n) : joinI W n V i = W i := by simp [joinI, h]
theorem joinI_new {α : Type} {W V : Nat → α} {n i : Nat} (h : n ≤ i) : joinI W n V i = V (i - n) := by simp [joinI, Nat.not_lt.2 h]
theorem getL_nil {g : Pl → Int} : getL [] g = g := rfl
theorem getL_same {l : List (Pl × Int)} {g : Pl → Int} {p : Pl} {v : Int} : getL ((p, v) :: l) g p = v := by simp [getL]
theorem getL_other {l : List (Pl × Int)} {g : Pl → Int} {p q : Pl} {v : Int} (h : q ≠ p) : getL ((p, v) :: l) g q = getL l g q := by simp [getL, h]
end Go.Proofs.Ytdjogfofedbohaa
end
section
/- The awake of layer 4 returns true; the executor with it, and with cell's calls, known. No condition. -/
namespace Go.Proofs.Ytdjogfofedbohaa
theorem places_one {f : Pl → Int} {p : Pl} (hp : PlWf p) (h0 : f p ≠ 0) (h : ∀ q, q ≠ p → f q = 0) : placesOf f = [p] := placesOf_eq ⟨by simp, fun q => by
  rw [List.mem_singleton]
  constructor
  · rintro rfl
    exact ⟨hp, h0⟩
  · rintro ⟨_, h2⟩
    by_cases e : q = p
    · exact e
    · exact absurd (h q e) h2⟩
noncomputable def libC0 : Lib Rep := lib0.cells
theorem libC0_ok : LibOK repAt Try.prog libC0 := Lib.cells_ok lib0_ok
theorem awake04_good : Good (fun o => callX Try.prog libC0 10000 10 [] (St.none o)) (fun x => x = .bool true) := by
  have h : placesOf (getL [((1, 0, 0), 1), ((1, 0, 0), IntKind.u64.wrap (getL [((1, 0, 0), 5)] zeroG (1, 0, 0) + 3)), ((1, 0, 0), 5)] zeroG) = [(1, 0, 0)] := places_one (plWfB_iff.1 (by decide)) (by simp [getL]) (fun q hq => by simp [getL, hq, zeroG])
  refine ⟨[], [], .bool (Int.ofNat (placesOf (getL [((1, 0, 0), 1), ((1, 0, 0), IntKind.u64.wrap (getL [((1, 0, 0), 5)] zeroG (1, 0, 0) + 3)), ((1, 0, 0), 5)] zeroG)).length == 1), by kernel_rfl, trivial, ?_⟩
  rw [h]
  rfl
theorem awake04 (w : World) : Calls Try.prog 10 #[] w fun e w' => e = .returned (.bool true) ∧ Mod [] w w' :=
  (good_ans (callX_s mixed libC0_ok 10000) awake04_good w (vals := []) rfl).mono fun e w' ⟨y, hy, he, hm⟩ => ⟨by rw [he, hy], hm⟩
noncomputable def libC : Lib Rep := (lib0.with (Tab.one 10 kTrue)).cells
theorem libC_ok : LibOK repAt Try.prog libC := Lib.cells_ok (Lib.with_ok lib0_ok (TabOK.true awake04))
end Go.Proofs.Ytdjogfofedbohaa
end
section
/- Words and their bits: wrapping, masks, shifts, in numbers. No condition. -/
namespace Go.Proofs.Ytdjogfofedbohaa

theorem wrapU {x : Int} (h0 : 0 ≤ x) (h1 : x < 18446744073709551616) : IntKind.u64.wrap x = x := by
  unfold IntKind.wrap
  simp [IntKind.bits, IntKind.signed]
  omega
theorem wrapI {x : Int} (h0 : -9223372036854775808 ≤ x) (h1 : x < 9223372036854775808) : IntKind.i64.wrap x = x := by
  unfold IntKind.wrap
  simp [IntKind.bits, IntKind.signed]
  omega
theorem wrapU_pos (x : Int) : 0 ≤ IntKind.u64.wrap x ∧ IntKind.u64.wrap x < 18446744073709551616 := by
  unfold IntKind.wrap
  simp [IntKind.bits, IntKind.signed]
  omega
theorem wrapU_mod (x : Int) : IntKind.u64.wrap x = x % 18446744073709551616 := by
  unfold IntKind.wrap
  simp [IntKind.bits, IntKind.signed]
theorem fdiv_nat (a b : Nat) : Int.fdiv (a : Int) (b : Int) = ((a / b : Nat) : Int) := by
  rw [Int.fdiv_eq_ediv_of_nonneg _ (by omega)]
  simp
theorem tdiv_nat (a b : Nat) : Int.tdiv (a : Int) (b : Int) = ((a / b : Nat) : Int) := rfl
theorem tmod_nat (a b : Nat) : Int.tmod (a : Int) (b : Int) = ((a % b : Nat) : Int) := rfl
theorem ofInt_nat (n : Nat) : BitVec.ofInt 64 (n : Int) = BitVec.ofNat 64 n := by simp
/-- A number's low bits. -/
theorem and_mask (a k : Nat) (hk : k ≤ 64) : (BitVec.ofNat 64 a &&& BitVec.ofNat 64 (2 ^ k - 1)).toNat = a % 2 ^ k := by
  rw [BitVec.toNat_and, BitVec.toNat_ofNat, BitVec.toNat_ofNat]
  have hp : 2 ^ k ≤ 2 ^ 64 := Nat.pow_le_pow_right (by omega) hk
  have h0 : 0 < 2 ^ k := Nat.two_pow_pos k
  rw [Nat.mod_eq_of_lt (a := 2 ^ k - 1) (by omega), Nat.and_two_pow_sub_one_eq_mod]
  have : 2 ^ 64 = 2 ^ k * 2 ^ (64 - k) := by rw [← Nat.pow_add]; congr 1; omega
  rw [this, Nat.mod_mul_right_mod]
/-- A word's field, as the program takes it: shifted, and masked. -/
def fieldP (w : Int) (sh k : Int) : Int := IntKind.u64.wrap ↑(BitVec.ofInt IntKind.u64.bits (w.fdiv (2 ^ min (IntKind.u64.wrap sh).toNat IntKind.u64.bits)) &&&
  BitVec.ofInt IntKind.u64.bits (Int.fdiv 18446744073709551615 (2 ^ min (IntKind.u64.wrap (IntKind.i64.wrap k)).toNat IntKind.u64.bits))).toNat
theorem fieldP_eq {w : Int} (h0 : 0 ≤ w) (sh k : Nat) (hsh : sh < 64) (hk : k ≤ 64) : fieldP w sh (64 - k : Nat) = w / 2 ^ sh % 2 ^ k := by
  obtain ⟨n, rfl⟩ := Int.eq_ofNat_of_zero_le h0
  unfold fieldP
  rw [wrapU (x := (sh : Int)) (by omega) (by omega), wrapI (x := ((64 - k : Nat) : Int)) (by omega) (by omega), wrapU (x := ((64 - k : Nat) : Int)) (by omega) (by omega)]
  simp only [Int.toNat_natCast]
  have e1 : min sh IntKind.u64.bits = sh := Nat.min_eq_left (by simp [IntKind.bits]; omega)
  have e2 : min (64 - k) IntKind.u64.bits = 64 - k := Nat.min_eq_left (by simp [IntKind.bits])
  rw [e1, e2]
  have e3 : (n : Int).fdiv (2 ^ sh) = ((n / 2 ^ sh : Nat) : Int) := by
    have := fdiv_nat n (2 ^ sh)
    simpa using this
  have e4 : Int.fdiv 18446744073709551615 (2 ^ (64 - k)) = ((2 ^ k - 1 : Nat) : Int) := by
    have h1 := fdiv_nat 18446744073709551615 (2 ^ (64 - k))
    have h2 : 18446744073709551615 / 2 ^ (64 - k) = 2 ^ k - 1 := by
      have h3 : 2 ^ 64 = 2 ^ k * 2 ^ (64 - k) := by rw [← Nat.pow_add]; congr 1; omega
      have h4 : 0 < 2 ^ (64 - k) := Nat.two_pow_pos _
      have h5 : 0 < 2 ^ k := Nat.two_pow_pos _
      have h6 : 18446744073709551615 = (2 ^ k - 1) * 2 ^ (64 - k) + (2 ^ (64 - k) - 1) := by
        rw [Nat.sub_mul, Nat.one_mul, ← h3]
        have : 2 ^ (64 - k) ≤ 2 ^ 64 := Nat.pow_le_pow_right (by omega) (by omega)
        omega
      rw [h6, Nat.mul_comm, Nat.mul_add_div h4, Nat.div_eq_of_lt (by omega)]
      omega
    rw [← h2]
    simpa using h1
  have e5 : (BitVec.ofInt IntKind.u64.bits ((n / 2 ^ sh : Nat) : Int) &&& BitVec.ofInt IntKind.u64.bits ((2 ^ k - 1 : Nat) : Int)).toNat = n / 2 ^ sh % 2 ^ k := by
    show (BitVec.ofInt 64 _ &&& BitVec.ofInt 64 _).toNat = _
    rw [ofInt_nat, ofInt_nat, and_mask _ k hk]
  rw [e3, e4, e5]
  have h6 : n / 2 ^ sh % 2 ^ k < 2 ^ 64 := Nat.lt_of_lt_of_le (Nat.mod_lt _ (Nat.two_pow_pos _)) (Nat.pow_le_pow_right (by omega) hk)
  rw [wrapU (by omega) (by omega)]
  simp
end Go.Proofs.Ytdjogfofedbohaa
end
section
/- Small words of many laws. No condition. -/
namespace Go.Proofs.Ytdjogfofedbohaa
abbrev iv (z : Int) : SV := .v (.int .i64 z)
abbrev uv (z : Int) : SV := .v (.int .u64 z)
theorem beq_flip (a b : Int) : (a == b) = (b == a) := by
  rw [Bool.eq_iff_iff, beq_iff_eq, beq_iff_eq]
  exact eq_comm
theorem beq_turn (a b : Int) : ((a == b) == (b == a)) = true := by
  rw [beq_iff_eq, Bool.eq_iff_iff, beq_iff_eq, beq_iff_eq]
  exact eq_comm
theorem put_ok {z : Int} {n : Nat} {p : Pl} (hp : plWfB p = true) (h0 : 0 < z) (h1 : z < 18446744073709551616) (hn : n < 9223372036854775807) : (plWfB p && (Lit.int IntKind.u64 z).wf && z != 0 && decide (n < maxLen)) = true := by
  simp only [Bool.and_eq_true, bne_iff_ne, decide_eq_true_eq, hp, true_and]
  refine ⟨⟨?_, by omega⟩, by unfold maxLen; omega⟩
  simp [Lit.wf, IntKind.min, IntKind.max, IntKind.signed, IntKind.bits]
  omega
theorem wb_put {z : Int} {n : Nat} {p : Pl} (hp : plWfB p = true) (hw : (Lit.int .u64 z).wf = true) (h0 : (z == 0) = false) (hn : (n : Int) ≤ 1000) : (plWfB p && (Lit.int IntKind.u64 z).wf && z != 0 && decide (n < maxLen)) = true := by
  simp only [Bool.and_eq_true, bne, h0, decide_eq_true_eq, hp, hw, true_and, Bool.not_false]
  unfold maxLen
  omega
theorem wrap_wf (z : Int) : (Lit.int .u64 (IntKind.u64.wrap z)).wf = true := by
  have h := wrapU_pos z
  simp [Lit.wf, IntKind.min, IntKind.max, IntKind.signed, IntKind.bits]
  omega
theorem two_uncons {α β : Type} {R : α → β → Prop} {l : α} {ls : List α} {c : List β} (h : Two R (l :: ls) c) : ∃ a r, c = a :: r ∧ R l a ∧ Two R ls r := by
  cases h with
  | cons h1 h2 => exact ⟨_, _, rfl, h1, h2⟩
theorem two_nil {α β : Type} {R : α → β → Prop} {c : List β} (h : Two R [] c) : c = [] := by
  cases h
  rfl
end Go.Proofs.Ytdjogfofedbohaa
end
section
/- CellApart: the states at its loop's head. No condition. -/
namespace Go.Proofs.Ytdjogfofedbohaa
noncomputable abbrev cpF : FuncId := 5
noncomputable abbrev cpZ : Nat := slotsOf Try.prog cpF
noncomputable def cpL : Code × List Fr := loopOf Try.prog cpF 0
abbrev cpQ : Ex → Sym Rep → Prop := Ends Try.prog Try.f5 fun l _ => l = [.v (.bool true)]
structure CPA where
  K : Nat → Int
  P0 : Nat → Int
  P1 : Nat → Int
  P2 : Nat → Int
  A : Nat → Int
  B : Nat → Int
  len : Nat
  p0 : Int
  p1 : Int
  p2 : Int
  w : Int
def CPA.cols (a : CPA) : List Col := [.int .i64 a.K, .int .i64 a.P0, .int .i64 a.P1, .int .i64 a.P2, .int .u64 a.A, .int .u64 a.B]
def CPA.ok (a : CPA) : Prop := plWfB (a.p0, a.p1, a.p2) = true ∧ (Lit.int .u64 a.w).wf = true ∧ ∀ j, j < a.len → plWfB (a.P0 j, a.P1 j, a.P2 j) = true ∧ (Lit.int .u64 (a.A j)).wf = true ∧ (Lit.int .u64 (a.B j)).wf = true
def cpS (a : CPA) (i c0 c1 c2 c3 c4 : Int) (G : Pl → Int) (n : Nat) : Sym Rep :=
  ⟨[(4, .ptr 0 0), (7, .ptr 1 0), (0, .tsl 2 a.len), (8, iv i)],
   [(0, .row [iv a.p0, iv a.p1, iv a.p2] 34), (1, .row [.mp 3, iv c0, iv c1, iv c2, iv c3, iv c4] 112), (2, .rep (.tab [.int .i64 a.K, .int .i64 a.P0, .int .i64 a.P1, .int .i64 a.P2, .int .u64 a.A, .int .u64 a.B] a.len)), (3, .rep (.pmap [] G n))], 4⟩
def cpCfg : Stop → List Gen × List Nat
  | .fin .ret _ => ([], [6])
  | _ => ([.map 3], [4, 7, 0, 8])
def cpP (a : CPA) (i _c0 _c1 _c2 _c3 _c4 : Int) (_G : Pl → Int) (n : Nat) : Prop := 0 ≤ i ∧ i ≤ 100 ∧ (n : Int) ≤ 1 + i ∧ a.ok
theorem getL_apart {l : List (Pl × Int)} {G : Pl → Int} {p0 p1 p2 q0 q1 q2 v : Int} (h : (p0 == q0 && (p1 == q1 && (p2 == q2 && true))) = false) : getL (((p0, p1, p2), v) :: l) G (q0, q1, q2) = getL l G (q0, q1, q2) := by
  apply getL_other
  intro e
  simp only [Prod.mk.injEq] at e
  rw [e.1, e.2.1, e.2.2] at h
  simp at h
end Go.Proofs.Ytdjogfofedbohaa
end
section
/- CellApart: its runs from point to point. No condition. -/
namespace Go.Proofs.Ytdjogfofedbohaa
set_option linter.unusedVariables false
set_option linter.unusedSimpArgs false
set_option maxRecDepth 100000
set_option maxHeartbeats 8000000
def cpI (a : CPA) (r : Nat) (s : Sym Rep) : Prop := ∃ (i c0 c1 c2 c3 c4 : Int) (G : Pl → Int) (n : Nat), s = cpS a i c0 c1 c2 c3 c4 G n ∧ cpP a i c0 c1 c2 c3 c4 G n ∧ r = 100 - i.toNat
abbrev cpR (a : CPA) (r : Nat) (x : Ex) (s : Sym Rep) : Prop := match x with
  | .nor => ∃ k', k' < r ∧ cpI a k' s
  | x => Tri repAt Try.prog cpZ 0 (.out x) cpL.2 s cpQ
theorem cp_next (a : CPA) (i c0 c1 c2 c3 c4 : Int) (G : Pl → Int) (n : Nat) {r : Nat} (hP : cpP a i c0 c1 c2 c3 c4 G n) (hk : 100 - i.toNat < r) : Tri repAt Try.prog cpZ 0 (.out .nor) [] (cpS a i c0 c1 c2 c3 c4 G n) (cpR a r) := Tri.fin ⟨_, hk, i, c0, c1, c2, c3, c4, G, n, rfl, hP, rfl⟩

theorem cp_exit (a : CPA) (i c0 c1 c2 c3 c4 : Int) (G : Pl → Int) (n : Nat)   : Tri repAt Try.prog cpZ 0 (.out (.out 0)) cpL.2 (cpS a i c0 c1 c2 c3 c4 G n) (cpQ) := by
  exact Tri.pathG mixed libC_ok (n := 10000) (k := 10000) (j := 0) (cfg := cpCfg) (o := []) (g' := .out .ret) (fs' := []) (s' := ⟨[(6, SV.v (Value.bool true))], [], 0⟩) (asks := []) (by kernel_rfl) trivial (Tri.fin (Ends.one (t := 6) (by kernel_rfl) (.inl rfl) (by first | rfl | (simp; rfl))))
theorem cp_round (a : CPA) (i c0 c1 c2 c3 c4 : Int) (G : Pl → Int) (n : Nat) (hP : cpP a i c0 c1 c2 c3 c4 G n) {r : Nat} (hr : r = 100 - i.toNat) : Tri repAt Try.prog cpZ 0 (.go cpL.1) [] (cpS a i c0 c1 c2 c3 c4 G n) (cpR a r) := by
  rcases Bool.eq_false_or_eq_true (decide (i < (↑a.len : Int))) with h0 | h0
  · rcases Bool.eq_false_or_eq_true (decide (i < 100)) with h1 | h1
    · have h2 : (decide (0 ≤ i ∧ i < (↑a.len : Int) ∧ a.len ≤ a.len)) = true := by (obtain ⟨i0, i1, hn, hp, hw, hA⟩ := hP; first | rfl | (simp only [decide_eq_true_eq, decide_eq_false_iff_not] at *; omega) | (simp; done) | exact hp | exact (hA i.toNat (by simp only [decide_eq_true_eq, decide_eq_false_iff_not] at *; omega)).1 | exact wb_put (hA i.toNat (by simp only [decide_eq_true_eq, decide_eq_false_iff_not] at *; omega)).1 (hA i.toNat (by simp only [decide_eq_true_eq, decide_eq_false_iff_not] at *; omega)).2.1 (by assumption) (by omega) | exact wb_put (hA i.toNat (by simp only [decide_eq_true_eq, decide_eq_false_iff_not] at *; omega)).1 (hA i.toNat (by simp only [decide_eq_true_eq, decide_eq_false_iff_not] at *; omega)).2.2 (by assumption) (by omega) | exact wb_put (hA i.toNat (by simp only [decide_eq_true_eq, decide_eq_false_iff_not] at *; omega)).1 (wrap_wf _) (by assumption) (by omega) | exact samePl_iff.2 (fun _ _ => rfl) | (rw [getL_apart (by assumption)]; simp; done))
      have h3 : (plWfB (a.p0, a.p1, a.p2)) = true := by (obtain ⟨i0, i1, hn, hp, hw, hA⟩ := hP; first | rfl | (simp only [decide_eq_true_eq, decide_eq_false_iff_not] at *; omega) | (simp; done) | exact hp | exact (hA i.toNat (by simp only [decide_eq_true_eq, decide_eq_false_iff_not] at *; omega)).1 | exact wb_put (hA i.toNat (by simp only [decide_eq_true_eq, decide_eq_false_iff_not] at *; omega)).1 (hA i.toNat (by simp only [decide_eq_true_eq, decide_eq_false_iff_not] at *; omega)).2.1 (by assumption) (by omega) | exact wb_put (hA i.toNat (by simp only [decide_eq_true_eq, decide_eq_false_iff_not] at *; omega)).1 (hA i.toNat (by simp only [decide_eq_true_eq, decide_eq_false_iff_not] at *; omega)).2.2 (by assumption) (by omega) | exact wb_put (hA i.toNat (by simp only [decide_eq_true_eq, decide_eq_false_iff_not] at *; omega)).1 (wrap_wf _) (by assumption) (by omega) | exact samePl_iff.2 (fun _ _ => rfl) | (rw [getL_apart (by assumption)]; simp; done))
      rcases Bool.eq_false_or_eq_true (a.K i.toNat == 2) with h4 | h4
      · rcases Bool.eq_false_or_eq_true (a.A i.toNat == 0) with h7 | h7
        · have h8 : (plWfB (a.P0 i.toNat, a.P1 i.toNat, a.P2 i.toNat)) = true := by (obtain ⟨i0, i1, hn, hp, hw, hA⟩ := hP; first | rfl | (simp only [decide_eq_true_eq, decide_eq_false_iff_not] at *; omega) | (simp; done) | exact hp | exact (hA i.toNat (by simp only [decide_eq_true_eq, decide_eq_false_iff_not] at *; omega)).1 | exact wb_put (hA i.toNat (by simp only [decide_eq_true_eq, decide_eq_false_iff_not] at *; omega)).1 (hA i.toNat (by simp only [decide_eq_true_eq, decide_eq_false_iff_not] at *; omega)).2.1 (by assumption) (by omega) | exact wb_put (hA i.toNat (by simp only [decide_eq_true_eq, decide_eq_false_iff_not] at *; omega)).1 (hA i.toNat (by simp only [decide_eq_true_eq, decide_eq_false_iff_not] at *; omega)).2.2 (by assumption) (by omega) | exact wb_put (hA i.toNat (by simp only [decide_eq_true_eq, decide_eq_false_iff_not] at *; omega)).1 (wrap_wf _) (by assumption) (by omega) | exact samePl_iff.2 (fun _ _ => rfl) | (rw [getL_apart (by assumption)]; simp; done))
          rcases Bool.eq_false_or_eq_true (a.P0 i.toNat == a.p0 && (a.P1 i.toNat == a.p1 && (a.P2 i.toNat == a.p2 && true))) with h14 | h14
          · exact Tri.pathG mixed libC_ok (n := 10000) (k := 10000) (j := 0) (cfg := cpCfg) (o := List.replicate 5 (some true) ++ [none] ++ [some true] ++ [none] ++ [some true] ++ [none] ++ [some true, some true] ++ List.replicate 10 (none) ++ List.replicate 5 (some false) ++ [none] ++ [some false]) (g' := .out .nor) (fs' := []) (s' := cpS (a) (IntKind.i64.wrap (i + 1)) (c0) (IntKind.i64.wrap (c1 + 1)) (c2) (c3) (c4) (getL [((a.P0 i.toNat, a.P1 i.toNat, a.P2 i.toNat), 0)] G) (n)) (asks := [(!(a.P0 i.toNat == a.p0 && (a.P1 i.toNat == a.p1 && (a.P2 i.toNat == a.p2 && true))), false), (!(a.P0 i.toNat == a.p0 && (a.P1 i.toNat == a.p1 && (a.P2 i.toNat == a.p2 && true))), false), (!(a.P0 i.toNat == a.p0 && (a.P1 i.toNat == a.p1 && (a.P2 i.toNat == a.p2 && true))), false), (!(a.P0 i.toNat == a.p0 && (a.P1 i.toNat == a.p1 && (a.P2 i.toNat == a.p2 && true))), false), (!(a.P0 i.toNat == a.p0 && (a.P1 i.toNat == a.p1 && (a.P2 i.toNat == a.p2 && true))), false), (!(a.P0 i.toNat == a.p0 && (a.P1 i.toNat == a.p1 && (a.P2 i.toNat == a.p2 && true))), false), ((plWfB (a.P0 i.toNat, a.P1 i.toNat, a.P2 i.toNat)), true), ((a.A i.toNat == 0), true), ((a.K i.toNat == 2), true), ((plWfB (a.p0, a.p1, a.p2)), true), ((decide (0 ≤ i ∧ i < (↑a.len : Int) ∧ a.len ≤ a.len)), true), ((decide (i < 100)), true), ((decide (i < (↑a.len : Int))), true), ((decide (i < (↑a.len : Int))), true), ((decide (i < (↑a.len : Int))), true)]) (by kernel_rfl) ⟨(by rw [h14]; rfl), (by rw [h14]; rfl), (by rw [h14]; rfl), (by rw [h14]; rfl), (by rw [h14]; rfl), (by rw [h14]; rfl), h8, h7, h4, h3, h2, h1, h0, h0, h0, trivial⟩ (cp_next (a) (IntKind.i64.wrap (i + 1)) (c0) (IntKind.i64.wrap (c1 + 1)) (c2) (c3) (c4) (getL [((a.P0 i.toNat, a.P1 i.toNat, a.P2 i.toNat), 0)] G) (n) (by (obtain ⟨i0, i1, hn, hok⟩ := hP; have hlt : i < 100 := of_decide_eq_true h1; have hw : IntKind.i64.wrap (i + 1) = i + 1 := wrapI (by omega) (by omega); unfold cpP; rw [hw]; exact ⟨by omega, by omega, by omega, hok⟩)) (by (obtain ⟨i0, i1, hn, hok⟩ := hP; have hlt : i < 100 := of_decide_eq_true h1; rw [wrapI (by omega) (by omega)]; omega)))
          · have h15 : (getL [((a.P0 i.toNat, a.P1 i.toNat, a.P2 i.toNat), 0)] G (a.p0, a.p1, a.p2) != getL [] G (a.p0, a.p1, a.p2)) = false := by (obtain ⟨i0, i1, hn, hp, hw, hA⟩ := hP; first | rfl | (simp only [decide_eq_true_eq, decide_eq_false_iff_not] at *; omega) | (simp; done) | exact hp | exact (hA i.toNat (by simp only [decide_eq_true_eq, decide_eq_false_iff_not] at *; omega)).1 | exact wb_put (hA i.toNat (by simp only [decide_eq_true_eq, decide_eq_false_iff_not] at *; omega)).1 (hA i.toNat (by simp only [decide_eq_true_eq, decide_eq_false_iff_not] at *; omega)).2.1 (by assumption) (by omega) | exact wb_put (hA i.toNat (by simp only [decide_eq_true_eq, decide_eq_false_iff_not] at *; omega)).1 (hA i.toNat (by simp only [decide_eq_true_eq, decide_eq_false_iff_not] at *; omega)).2.2 (by assumption) (by omega) | exact wb_put (hA i.toNat (by simp only [decide_eq_true_eq, decide_eq_false_iff_not] at *; omega)).1 (wrap_wf _) (by assumption) (by omega) | exact samePl_iff.2 (fun _ _ => rfl) | (rw [getL_apart (by assumption)]; simp; done))
            exact Tri.pathG mixed libC_ok (n := 10000) (k := 10000) (j := 0) (cfg := cpCfg) (o := List.replicate 5 (some true) ++ [none] ++ [some true] ++ [none] ++ [some true] ++ [none] ++ [some true, some true] ++ List.replicate 10 (none) ++ List.replicate 3 (some true) ++ [none] ++ List.replicate 3 (some true) ++ [none] ++ [some true] ++ [none] ++ [some false]) (g' := .out .nor) (fs' := []) (s' := cpS (a) (IntKind.i64.wrap (i + 1)) (c0) (IntKind.i64.wrap (c1 + 1)) (c2) (c3) (c4) (getL [((a.P0 i.toNat, a.P1 i.toNat, a.P2 i.toNat), 0)] G) (n)) (asks := [((getL [((a.P0 i.toNat, a.P1 i.toNat, a.P2 i.toNat), 0)] G (a.p0, a.p1, a.p2) != getL [] G (a.p0, a.p1, a.p2)), false), (!(a.P0 i.toNat == a.p0 && (a.P1 i.toNat == a.p1 && (a.P2 i.toNat == a.p2 && true))), true), (!(a.P0 i.toNat == a.p0 && (a.P1 i.toNat == a.p1 && (a.P2 i.toNat == a.p2 && true))), true), (!(a.P0 i.toNat == a.p0 && (a.P1 i.toNat == a.p1 && (a.P2 i.toNat == a.p2 && true))), true), ((plWfB (a.p0, a.p1, a.p2)), true), (!(a.P0 i.toNat == a.p0 && (a.P1 i.toNat == a.p1 && (a.P2 i.toNat == a.p2 && true))), true), (!(a.P0 i.toNat == a.p0 && (a.P1 i.toNat == a.p1 && (a.P2 i.toNat == a.p2 && true))), true), (!(a.P0 i.toNat == a.p0 && (a.P1 i.toNat == a.p1 && (a.P2 i.toNat == a.p2 && true))), true), ((plWfB (a.P0 i.toNat, a.P1 i.toNat, a.P2 i.toNat)), true), ((a.A i.toNat == 0), true), ((a.K i.toNat == 2), true), ((plWfB (a.p0, a.p1, a.p2)), true), ((decide (0 ≤ i ∧ i < (↑a.len : Int) ∧ a.len ≤ a.len)), true), ((decide (i < 100)), true), ((decide (i < (↑a.len : Int))), true), ((decide (i < (↑a.len : Int))), true), ((decide (i < (↑a.len : Int))), true)]) (by kernel_rfl) ⟨h15, (by rw [h14]; rfl), (by rw [h14]; rfl), (by rw [h14]; rfl), h3, (by rw [h14]; rfl), (by rw [h14]; rfl), (by rw [h14]; rfl), h8, h7, h4, h3, h2, h1, h0, h0, h0, trivial⟩ (cp_next (a) (IntKind.i64.wrap (i + 1)) (c0) (IntKind.i64.wrap (c1 + 1)) (c2) (c3) (c4) (getL [((a.P0 i.toNat, a.P1 i.toNat, a.P2 i.toNat), 0)] G) (n) (by (obtain ⟨i0, i1, hn, hok⟩ := hP; have hlt : i < 100 := of_decide_eq_true h1; have hw : IntKind.i64.wrap (i + 1) = i + 1 := wrapI (by omega) (by omega); unfold cpP; rw [hw]; exact ⟨by omega, by omega, by omega, hok⟩)) (by (obtain ⟨i0, i1, hn, hok⟩ := hP; have hlt : i < 100 := of_decide_eq_true h1; rw [wrapI (by omega) (by omega)]; omega)))
        · have h10 : (plWfB (a.P0 i.toNat, a.P1 i.toNat, a.P2 i.toNat) && (Lit.int IntKind.u64 (a.A i.toNat)).wf && a.A i.toNat != 0 && decide (n < maxLen)) = true := by (obtain ⟨i0, i1, hn, hp, hw, hA⟩ := hP; first | rfl | (simp only [decide_eq_true_eq, decide_eq_false_iff_not] at *; omega) | (simp; done) | exact hp | exact (hA i.toNat (by simp only [decide_eq_true_eq, decide_eq_false_iff_not] at *; omega)).1 | exact wb_put (hA i.toNat (by simp only [decide_eq_true_eq, decide_eq_false_iff_not] at *; omega)).1 (hA i.toNat (by simp only [decide_eq_true_eq, decide_eq_false_iff_not] at *; omega)).2.1 (by assumption) (by omega) | exact wb_put (hA i.toNat (by simp only [decide_eq_true_eq, decide_eq_false_iff_not] at *; omega)).1 (hA i.toNat (by simp only [decide_eq_true_eq, decide_eq_false_iff_not] at *; omega)).2.2 (by assumption) (by omega) | exact wb_put (hA i.toNat (by simp only [decide_eq_true_eq, decide_eq_false_iff_not] at *; omega)).1 (wrap_wf _) (by assumption) (by omega) | exact samePl_iff.2 (fun _ _ => rfl) | (rw [getL_apart (by assumption)]; simp; done))
          rcases Bool.eq_false_or_eq_true (a.P0 i.toNat == a.p0 && (a.P1 i.toNat == a.p1 && (a.P2 i.toNat == a.p2 && true))) with h14 | h14
          · exact Tri.pathG mixed libC_ok (n := 10000) (k := 10000) (j := 0) (cfg := cpCfg) (o := List.replicate 5 (some true) ++ [none] ++ [some true] ++ [none] ++ [some true] ++ [none] ++ [some false] ++ [some true] ++ List.replicate 10 (none) ++ List.replicate 5 (some false) ++ [none] ++ [some false]) (g' := .out .nor) (fs' := []) (s' := cpS (a) (IntKind.i64.wrap (i + 1)) (c0) (IntKind.i64.wrap (c1 + 1)) (c2) (c3) (c4) (getL [((a.P0 i.toNat, a.P1 i.toNat, a.P2 i.toNat), a.A i.toNat)] G) (n + 1)) (asks := [(!(a.P0 i.toNat == a.p0 && (a.P1 i.toNat == a.p1 && (a.P2 i.toNat == a.p2 && true))), false), (!(a.P0 i.toNat == a.p0 && (a.P1 i.toNat == a.p1 && (a.P2 i.toNat == a.p2 && true))), false), (!(a.P0 i.toNat == a.p0 && (a.P1 i.toNat == a.p1 && (a.P2 i.toNat == a.p2 && true))), false), (!(a.P0 i.toNat == a.p0 && (a.P1 i.toNat == a.p1 && (a.P2 i.toNat == a.p2 && true))), false), (!(a.P0 i.toNat == a.p0 && (a.P1 i.toNat == a.p1 && (a.P2 i.toNat == a.p2 && true))), false), (!(a.P0 i.toNat == a.p0 && (a.P1 i.toNat == a.p1 && (a.P2 i.toNat == a.p2 && true))), false), ((plWfB (a.P0 i.toNat, a.P1 i.toNat, a.P2 i.toNat) && (Lit.int IntKind.u64 (a.A i.toNat)).wf && a.A i.toNat != 0 && decide (n < maxLen)), true), ((a.A i.toNat == 0), false), ((a.K i.toNat == 2), true), ((plWfB (a.p0, a.p1, a.p2)), true), ((decide (0 ≤ i ∧ i < (↑a.len : Int) ∧ a.len ≤ a.len)), true), ((decide (i < 100)), true), ((decide (i < (↑a.len : Int))), true), ((decide (i < (↑a.len : Int))), true), ((decide (i < (↑a.len : Int))), true)]) (by kernel_rfl) ⟨(by rw [h14]; rfl), (by rw [h14]; rfl), (by rw [h14]; rfl), (by rw [h14]; rfl), (by rw [h14]; rfl), (by rw [h14]; rfl), h10, h7, h4, h3, h2, h1, h0, h0, h0, trivial⟩ (cp_next (a) (IntKind.i64.wrap (i + 1)) (c0) (IntKind.i64.wrap (c1 + 1)) (c2) (c3) (c4) (getL [((a.P0 i.toNat, a.P1 i.toNat, a.P2 i.toNat), a.A i.toNat)] G) (n + 1) (by (obtain ⟨i0, i1, hn, hok⟩ := hP; have hlt : i < 100 := of_decide_eq_true h1; have hw : IntKind.i64.wrap (i + 1) = i + 1 := wrapI (by omega) (by omega); unfold cpP; rw [hw]; exact ⟨by omega, by omega, by omega, hok⟩)) (by (obtain ⟨i0, i1, hn, hok⟩ := hP; have hlt : i < 100 := of_decide_eq_true h1; rw [wrapI (by omega) (by omega)]; omega)))
          · have h16 : (getL [((a.P0 i.toNat, a.P1 i.toNat, a.P2 i.toNat), a.A i.toNat)] G (a.p0, a.p1, a.p2) != getL [] G (a.p0, a.p1, a.p2)) = false := by (obtain ⟨i0, i1, hn, hp, hw, hA⟩ := hP; first | rfl | (simp only [decide_eq_true_eq, decide_eq_false_iff_not] at *; omega) | (simp; done) | exact hp | exact (hA i.toNat (by simp only [decide_eq_true_eq, decide_eq_false_iff_not] at *; omega)).1 | exact wb_put (hA i.toNat (by simp only [decide_eq_true_eq, decide_eq_false_iff_not] at *; omega)).1 (hA i.toNat (by simp only [decide_eq_true_eq, decide_eq_false_iff_not] at *; omega)).2.1 (by assumption) (by omega) | exact wb_put (hA i.toNat (by simp only [decide_eq_true_eq, decide_eq_false_iff_not] at *; omega)).1 (hA i.toNat (by simp only [decide_eq_true_eq, decide_eq_false_iff_not] at *; omega)).2.2 (by assumption) (by omega) | exact wb_put (hA i.toNat (by simp only [decide_eq_true_eq, decide_eq_false_iff_not] at *; omega)).1 (wrap_wf _) (by assumption) (by omega) | exact samePl_iff.2 (fun _ _ => rfl) | (rw [getL_apart (by assumption)]; simp; done))
            exact Tri.pathG mixed libC_ok (n := 10000) (k := 10000) (j := 0) (cfg := cpCfg) (o := List.replicate 5 (some true) ++ [none] ++ [some true] ++ [none] ++ [some true] ++ [none] ++ [some false] ++ [some true] ++ List.replicate 10 (none) ++ List.replicate 3 (some true) ++ [none] ++ List.replicate 3 (some true) ++ [none] ++ [some true] ++ [none] ++ [some false]) (g' := .out .nor) (fs' := []) (s' := cpS (a) (IntKind.i64.wrap (i + 1)) (c0) (IntKind.i64.wrap (c1 + 1)) (c2) (c3) (c4) (getL [((a.P0 i.toNat, a.P1 i.toNat, a.P2 i.toNat), a.A i.toNat)] G) (n + 1)) (asks := [((getL [((a.P0 i.toNat, a.P1 i.toNat, a.P2 i.toNat), a.A i.toNat)] G (a.p0, a.p1, a.p2) != getL [] G (a.p0, a.p1, a.p2)), false), (!(a.P0 i.toNat == a.p0 && (a.P1 i.toNat == a.p1 && (a.P2 i.toNat == a.p2 && true))), true), (!(a.P0 i.toNat == a.p0 && (a.P1 i.toNat == a.p1 && (a.P2 i.toNat == a.p2 && true))), true), (!(a.P0 i.toNat == a.p0 && (a.P1 i.toNat == a.p1 && (a.P2 i.toNat == a.p2 && true))), true), ((plWfB (a.p0, a.p1, a.p2)), true), (!(a.P0 i.toNat == a.p0 && (a.P1 i.toNat == a.p1 && (a.P2 i.toNat == a.p2 && true))), true), (!(a.P0 i.toNat == a.p0 && (a.P1 i.toNat == a.p1 && (a.P2 i.toNat == a.p2 && true))), true), (!(a.P0 i.toNat == a.p0 && (a.P1 i.toNat == a.p1 && (a.P2 i.toNat == a.p2 && true))), true), ((plWfB (a.P0 i.toNat, a.P1 i.toNat, a.P2 i.toNat) && (Lit.int IntKind.u64 (a.A i.toNat)).wf && a.A i.toNat != 0 && decide (n < maxLen)), true), ((a.A i.toNat == 0), false), ((a.K i.toNat == 2), true), ((plWfB (a.p0, a.p1, a.p2)), true), ((decide (0 ≤ i ∧ i < (↑a.len : Int) ∧ a.len ≤ a.len)), true), ((decide (i < 100)), true), ((decide (i < (↑a.len : Int))), true), ((decide (i < (↑a.len : Int))), true), ((decide (i < (↑a.len : Int))), true)]) (by kernel_rfl) ⟨h16, (by rw [h14]; rfl), (by rw [h14]; rfl), (by rw [h14]; rfl), h3, (by rw [h14]; rfl), (by rw [h14]; rfl), (by rw [h14]; rfl), h10, h7, h4, h3, h2, h1, h0, h0, h0, trivial⟩ (cp_next (a) (IntKind.i64.wrap (i + 1)) (c0) (IntKind.i64.wrap (c1 + 1)) (c2) (c3) (c4) (getL [((a.P0 i.toNat, a.P1 i.toNat, a.P2 i.toNat), a.A i.toNat)] G) (n + 1) (by (obtain ⟨i0, i1, hn, hok⟩ := hP; have hlt : i < 100 := of_decide_eq_true h1; have hw : IntKind.i64.wrap (i + 1) = i + 1 := wrapI (by omega) (by omega); unfold cpP; rw [hw]; exact ⟨by omega, by omega, by omega, hok⟩)) (by (obtain ⟨i0, i1, hn, hok⟩ := hP; have hlt : i < 100 := of_decide_eq_true h1; rw [wrapI (by omega) (by omega)]; omega)))
      · rcases Bool.eq_false_or_eq_true (a.K i.toNat == 3) with h5 | h5
        · have h8 : (plWfB (a.P0 i.toNat, a.P1 i.toNat, a.P2 i.toNat)) = true := by (obtain ⟨i0, i1, hn, hp, hw, hA⟩ := hP; first | rfl | (simp only [decide_eq_true_eq, decide_eq_false_iff_not] at *; omega) | (simp; done) | exact hp | exact (hA i.toNat (by simp only [decide_eq_true_eq, decide_eq_false_iff_not] at *; omega)).1 | exact wb_put (hA i.toNat (by simp only [decide_eq_true_eq, decide_eq_false_iff_not] at *; omega)).1 (hA i.toNat (by simp only [decide_eq_true_eq, decide_eq_false_iff_not] at *; omega)).2.1 (by assumption) (by omega) | exact wb_put (hA i.toNat (by simp only [decide_eq_true_eq, decide_eq_false_iff_not] at *; omega)).1 (hA i.toNat (by simp only [decide_eq_true_eq, decide_eq_false_iff_not] at *; omega)).2.2 (by assumption) (by omega) | exact wb_put (hA i.toNat (by simp only [decide_eq_true_eq, decide_eq_false_iff_not] at *; omega)).1 (wrap_wf _) (by assumption) (by omega) | exact samePl_iff.2 (fun _ _ => rfl) | (rw [getL_apart (by assumption)]; simp; done))
          rcases Bool.eq_false_or_eq_true (getL [] G (a.P0 i.toNat, a.P1 i.toNat, a.P2 i.toNat) != a.A i.toNat) with h9 | h9
          · have h13 : (samePl (getL [] G) (getL [] G)) = true := by (obtain ⟨i0, i1, hn, hp, hw, hA⟩ := hP; first | rfl | (simp only [decide_eq_true_eq, decide_eq_false_iff_not] at *; omega) | (simp; done) | exact hp | exact (hA i.toNat (by simp only [decide_eq_true_eq, decide_eq_false_iff_not] at *; omega)).1 | exact wb_put (hA i.toNat (by simp only [decide_eq_true_eq, decide_eq_false_iff_not] at *; omega)).1 (hA i.toNat (by simp only [decide_eq_true_eq, decide_eq_false_iff_not] at *; omega)).2.1 (by assumption) (by omega) | exact wb_put (hA i.toNat (by simp only [decide_eq_true_eq, decide_eq_false_iff_not] at *; omega)).1 (hA i.toNat (by simp only [decide_eq_true_eq, decide_eq_false_iff_not] at *; omega)).2.2 (by assumption) (by omega) | exact wb_put (hA i.toNat (by simp only [decide_eq_true_eq, decide_eq_false_iff_not] at *; omega)).1 (wrap_wf _) (by assumption) (by omega) | exact samePl_iff.2 (fun _ _ => rfl) | (rw [getL_apart (by assumption)]; simp; done))
            rcases Bool.eq_false_or_eq_true (a.P0 i.toNat == a.p0 && (a.P1 i.toNat == a.p1 && (a.P2 i.toNat == a.p2 && true))) with h14 | h14
            · exact Tri.pathG mixed libC_ok (n := 10000) (k := 10000) (j := 0) (cfg := cpCfg) (o := List.replicate 5 (some true) ++ [none] ++ [some true] ++ [none] ++ [some false] ++ [some true] ++ [none] ++ [some true, some true] ++ List.replicate 9 (none) ++ List.replicate 13 (some false)) (g' := .out .nor) (fs' := []) (s' := cpS (a) (IntKind.i64.wrap (i + 1)) (c0) (c1) (IntKind.i64.wrap (c2 + 1)) (IntKind.i64.wrap (c3 + 1)) (c4) (getL [] G) (n)) (asks := [(!(samePl (getL [] G) (getL [] G)), false), (!(a.P0 i.toNat == a.p0 && (a.P1 i.toNat == a.p1 && (a.P2 i.toNat == a.p2 && true))), false), (!(samePl (getL [] G) (getL [] G)), false), (!(a.P0 i.toNat == a.p0 && (a.P1 i.toNat == a.p1 && (a.P2 i.toNat == a.p2 && true))), false), (!(a.P0 i.toNat == a.p0 && (a.P1 i.toNat == a.p1 && (a.P2 i.toNat == a.p2 && true))), false), (!(a.P0 i.toNat == a.p0 && (a.P1 i.toNat == a.p1 && (a.P2 i.toNat == a.p2 && true))), false), (!(a.P0 i.toNat == a.p0 && (a.P1 i.toNat == a.p1 && (a.P2 i.toNat == a.p2 && true))), false), (!(a.P0 i.toNat == a.p0 && (a.P1 i.toNat == a.p1 && (a.P2 i.toNat == a.p2 && true))), false), (!(samePl (getL [] G) (getL [] G)), false), (!(samePl (getL [] G) (getL [] G)), false), (!(samePl (getL [] G) (getL [] G)), false), (!(samePl (getL [] G) (getL [] G)), false), (!(samePl (getL [] G) (getL [] G)), false), ((getL [] G (a.P0 i.toNat, a.P1 i.toNat, a.P2 i.toNat) != a.A i.toNat), true), ((plWfB (a.P0 i.toNat, a.P1 i.toNat, a.P2 i.toNat)), true), ((a.K i.toNat == 3), true), ((a.K i.toNat == 2), false), ((plWfB (a.p0, a.p1, a.p2)), true), ((decide (0 ≤ i ∧ i < (↑a.len : Int) ∧ a.len ≤ a.len)), true), ((decide (i < 100)), true), ((decide (i < (↑a.len : Int))), true), ((decide (i < (↑a.len : Int))), true), ((decide (i < (↑a.len : Int))), true)]) (by kernel_rfl) ⟨(by rw [h13]; rfl), (by rw [h14]; rfl), (by rw [h13]; rfl), (by rw [h14]; rfl), (by rw [h14]; rfl), (by rw [h14]; rfl), (by rw [h14]; rfl), (by rw [h14]; rfl), (by rw [h13]; rfl), (by rw [h13]; rfl), (by rw [h13]; rfl), (by rw [h13]; rfl), (by rw [h13]; rfl), h9, h8, h5, h4, h3, h2, h1, h0, h0, h0, trivial⟩ (cp_next (a) (IntKind.i64.wrap (i + 1)) (c0) (c1) (IntKind.i64.wrap (c2 + 1)) (IntKind.i64.wrap (c3 + 1)) (c4) (getL [] G) (n) (by (obtain ⟨i0, i1, hn, hok⟩ := hP; have hlt : i < 100 := of_decide_eq_true h1; have hw : IntKind.i64.wrap (i + 1) = i + 1 := wrapI (by omega) (by omega); unfold cpP; rw [hw]; exact ⟨by omega, by omega, by omega, hok⟩)) (by (obtain ⟨i0, i1, hn, hok⟩ := hP; have hlt : i < 100 := of_decide_eq_true h1; rw [wrapI (by omega) (by omega)]; omega)))
            · have h17 : (getL [] G (a.p0, a.p1, a.p2) != getL [] G (a.p0, a.p1, a.p2)) = false := by (obtain ⟨i0, i1, hn, hp, hw, hA⟩ := hP; first | rfl | (simp only [decide_eq_true_eq, decide_eq_false_iff_not] at *; omega) | (simp; done) | exact hp | exact (hA i.toNat (by simp only [decide_eq_true_eq, decide_eq_false_iff_not] at *; omega)).1 | exact wb_put (hA i.toNat (by simp only [decide_eq_true_eq, decide_eq_false_iff_not] at *; omega)).1 (hA i.toNat (by simp only [decide_eq_true_eq, decide_eq_false_iff_not] at *; omega)).2.1 (by assumption) (by omega) | exact wb_put (hA i.toNat (by simp only [decide_eq_true_eq, decide_eq_false_iff_not] at *; omega)).1 (hA i.toNat (by simp only [decide_eq_true_eq, decide_eq_false_iff_not] at *; omega)).2.2 (by assumption) (by omega) | exact wb_put (hA i.toNat (by simp only [decide_eq_true_eq, decide_eq_false_iff_not] at *; omega)).1 (wrap_wf _) (by assumption) (by omega) | exact samePl_iff.2 (fun _ _ => rfl) | (rw [getL_apart (by assumption)]; simp; done))
              exact Tri.pathG mixed libC_ok (n := 10000) (k := 10000) (j := 0) (cfg := cpCfg) (o := List.replicate 5 (some true) ++ [none] ++ [some true] ++ [none] ++ [some false] ++ [some true] ++ [none] ++ [some true, some true] ++ List.replicate 9 (none) ++ List.replicate 5 (some false) ++ List.replicate 3 (some true) ++ [none] ++ List.replicate 3 (some true) ++ [some false] ++ [some true] ++ [some false, some false]) (g' := .out .nor) (fs' := []) (s' := cpS (a) (IntKind.i64.wrap (i + 1)) (c0) (c1) (IntKind.i64.wrap (c2 + 1)) (IntKind.i64.wrap (c3 + 1)) (c4) (getL [] G) (n)) (asks := [((getL [] G (a.p0, a.p1, a.p2) != getL [] G (a.p0, a.p1, a.p2)), false), (!(samePl (getL [] G) (getL [] G)), false), (!(a.P0 i.toNat == a.p0 && (a.P1 i.toNat == a.p1 && (a.P2 i.toNat == a.p2 && true))), true), (!(samePl (getL [] G) (getL [] G)), false), (!(a.P0 i.toNat == a.p0 && (a.P1 i.toNat == a.p1 && (a.P2 i.toNat == a.p2 && true))), true), (!(a.P0 i.toNat == a.p0 && (a.P1 i.toNat == a.p1 && (a.P2 i.toNat == a.p2 && true))), true), ((plWfB (a.p0, a.p1, a.p2)), true), (!(a.P0 i.toNat == a.p0 && (a.P1 i.toNat == a.p1 && (a.P2 i.toNat == a.p2 && true))), true), (!(a.P0 i.toNat == a.p0 && (a.P1 i.toNat == a.p1 && (a.P2 i.toNat == a.p2 && true))), true), (!(a.P0 i.toNat == a.p0 && (a.P1 i.toNat == a.p1 && (a.P2 i.toNat == a.p2 && true))), true), (!(samePl (getL [] G) (getL [] G)), false), (!(samePl (getL [] G) (getL [] G)), false), (!(samePl (getL [] G) (getL [] G)), false), (!(samePl (getL [] G) (getL [] G)), false), (!(samePl (getL [] G) (getL [] G)), false), ((getL [] G (a.P0 i.toNat, a.P1 i.toNat, a.P2 i.toNat) != a.A i.toNat), true), ((plWfB (a.P0 i.toNat, a.P1 i.toNat, a.P2 i.toNat)), true), ((a.K i.toNat == 3), true), ((a.K i.toNat == 2), false), ((plWfB (a.p0, a.p1, a.p2)), true), ((decide (0 ≤ i ∧ i < (↑a.len : Int) ∧ a.len ≤ a.len)), true), ((decide (i < 100)), true), ((decide (i < (↑a.len : Int))), true), ((decide (i < (↑a.len : Int))), true), ((decide (i < (↑a.len : Int))), true)]) (by kernel_rfl) ⟨h17, (by rw [h13]; rfl), (by rw [h14]; rfl), (by rw [h13]; rfl), (by rw [h14]; rfl), (by rw [h14]; rfl), h3, (by rw [h14]; rfl), (by rw [h14]; rfl), (by rw [h14]; rfl), (by rw [h13]; rfl), (by rw [h13]; rfl), (by rw [h13]; rfl), (by rw [h13]; rfl), (by rw [h13]; rfl), h9, h8, h5, h4, h3, h2, h1, h0, h0, h0, trivial⟩ (cp_next (a) (IntKind.i64.wrap (i + 1)) (c0) (c1) (IntKind.i64.wrap (c2 + 1)) (IntKind.i64.wrap (c3 + 1)) (c4) (getL [] G) (n) (by (obtain ⟨i0, i1, hn, hok⟩ := hP; have hlt : i < 100 := of_decide_eq_true h1; have hw : IntKind.i64.wrap (i + 1) = i + 1 := wrapI (by omega) (by omega); unfold cpP; rw [hw]; exact ⟨by omega, by omega, by omega, hok⟩)) (by (obtain ⟨i0, i1, hn, hok⟩ := hP; have hlt : i < 100 := of_decide_eq_true h1; rw [wrapI (by omega) (by omega)]; omega)))
          · rcases Bool.eq_false_or_eq_true (a.B i.toNat == 0) with h12 | h12
            · rcases Bool.eq_false_or_eq_true (a.P0 i.toNat == a.p0 && (a.P1 i.toNat == a.p1 && (a.P2 i.toNat == a.p2 && true))) with h14 | h14
              · exact Tri.pathG mixed libC_ok (n := 10000) (k := 10000) (j := 0) (cfg := cpCfg) (o := List.replicate 5 (some true) ++ [none] ++ [some true] ++ [none] ++ [some false] ++ [some true] ++ [none] ++ [some true] ++ [some false] ++ [some true, some true] ++ List.replicate 10 (none) ++ List.replicate 5 (some false) ++ [none] ++ [some false]) (g' := .out .nor) (fs' := []) (s' := cpS (a) (IntKind.i64.wrap (i + 1)) (c0) (c1) (IntKind.i64.wrap (c2 + 1)) (c3) (c4) (getL [((a.P0 i.toNat, a.P1 i.toNat, a.P2 i.toNat), 0)] G) (n)) (asks := [(!(a.P0 i.toNat == a.p0 && (a.P1 i.toNat == a.p1 && (a.P2 i.toNat == a.p2 && true))), false), (!(a.P0 i.toNat == a.p0 && (a.P1 i.toNat == a.p1 && (a.P2 i.toNat == a.p2 && true))), false), (!(a.P0 i.toNat == a.p0 && (a.P1 i.toNat == a.p1 && (a.P2 i.toNat == a.p2 && true))), false), (!(a.P0 i.toNat == a.p0 && (a.P1 i.toNat == a.p1 && (a.P2 i.toNat == a.p2 && true))), false), (!(a.P0 i.toNat == a.p0 && (a.P1 i.toNat == a.p1 && (a.P2 i.toNat == a.p2 && true))), false), (!(a.P0 i.toNat == a.p0 && (a.P1 i.toNat == a.p1 && (a.P2 i.toNat == a.p2 && true))), false), ((plWfB (a.P0 i.toNat, a.P1 i.toNat, a.P2 i.toNat)), true), ((a.B i.toNat == 0), true), ((getL [] G (a.P0 i.toNat, a.P1 i.toNat, a.P2 i.toNat) != a.A i.toNat), false), ((plWfB (a.P0 i.toNat, a.P1 i.toNat, a.P2 i.toNat)), true), ((a.K i.toNat == 3), true), ((a.K i.toNat == 2), false), ((plWfB (a.p0, a.p1, a.p2)), true), ((decide (0 ≤ i ∧ i < (↑a.len : Int) ∧ a.len ≤ a.len)), true), ((decide (i < 100)), true), ((decide (i < (↑a.len : Int))), true), ((decide (i < (↑a.len : Int))), true), ((decide (i < (↑a.len : Int))), true)]) (by kernel_rfl) ⟨(by rw [h14]; rfl), (by rw [h14]; rfl), (by rw [h14]; rfl), (by rw [h14]; rfl), (by rw [h14]; rfl), (by rw [h14]; rfl), h8, h12, h9, h8, h5, h4, h3, h2, h1, h0, h0, h0, trivial⟩ (cp_next (a) (IntKind.i64.wrap (i + 1)) (c0) (c1) (IntKind.i64.wrap (c2 + 1)) (c3) (c4) (getL [((a.P0 i.toNat, a.P1 i.toNat, a.P2 i.toNat), 0)] G) (n) (by (obtain ⟨i0, i1, hn, hok⟩ := hP; have hlt : i < 100 := of_decide_eq_true h1; have hw : IntKind.i64.wrap (i + 1) = i + 1 := wrapI (by omega) (by omega); unfold cpP; rw [hw]; exact ⟨by omega, by omega, by omega, hok⟩)) (by (obtain ⟨i0, i1, hn, hok⟩ := hP; have hlt : i < 100 := of_decide_eq_true h1; rw [wrapI (by omega) (by omega)]; omega)))
              · have h15 : (getL [((a.P0 i.toNat, a.P1 i.toNat, a.P2 i.toNat), 0)] G (a.p0, a.p1, a.p2) != getL [] G (a.p0, a.p1, a.p2)) = false := by (obtain ⟨i0, i1, hn, hp, hw, hA⟩ := hP; first | rfl | (simp only [decide_eq_true_eq, decide_eq_false_iff_not] at *; omega) | (simp; done) | exact hp | exact (hA i.toNat (by simp only [decide_eq_true_eq, decide_eq_false_iff_not] at *; omega)).1 | exact wb_put (hA i.toNat (by simp only [decide_eq_true_eq, decide_eq_false_iff_not] at *; omega)).1 (hA i.toNat (by simp only [decide_eq_true_eq, decide_eq_false_iff_not] at *; omega)).2.1 (by assumption) (by omega) | exact wb_put (hA i.toNat (by simp only [decide_eq_true_eq, decide_eq_false_iff_not] at *; omega)).1 (hA i.toNat (by simp only [decide_eq_true_eq, decide_eq_false_iff_not] at *; omega)).2.2 (by assumption) (by omega) | exact wb_put (hA i.toNat (by simp only [decide_eq_true_eq, decide_eq_false_iff_not] at *; omega)).1 (wrap_wf _) (by assumption) (by omega) | exact samePl_iff.2 (fun _ _ => rfl) | (rw [getL_apart (by assumption)]; simp; done))
                exact Tri.pathG mixed libC_ok (n := 10000) (k := 10000) (j := 0) (cfg := cpCfg) (o := List.replicate 5 (some true) ++ [none] ++ [some true] ++ [none] ++ [some false] ++ [some true] ++ [none] ++ [some true] ++ [some false] ++ [some true, some true] ++ List.replicate 10 (none) ++ List.replicate 3 (some true) ++ [none] ++ List.replicate 3 (some true) ++ [none] ++ [some true] ++ [none] ++ [some false]) (g' := .out .nor) (fs' := []) (s' := cpS (a) (IntKind.i64.wrap (i + 1)) (c0) (c1) (IntKind.i64.wrap (c2 + 1)) (c3) (c4) (getL [((a.P0 i.toNat, a.P1 i.toNat, a.P2 i.toNat), 0)] G) (n)) (asks := [((getL [((a.P0 i.toNat, a.P1 i.toNat, a.P2 i.toNat), 0)] G (a.p0, a.p1, a.p2) != getL [] G (a.p0, a.p1, a.p2)), false), (!(a.P0 i.toNat == a.p0 && (a.P1 i.toNat == a.p1 && (a.P2 i.toNat == a.p2 && true))), true), (!(a.P0 i.toNat == a.p0 && (a.P1 i.toNat == a.p1 && (a.P2 i.toNat == a.p2 && true))), true), (!(a.P0 i.toNat == a.p0 && (a.P1 i.toNat == a.p1 && (a.P2 i.toNat == a.p2 && true))), true), ((plWfB (a.p0, a.p1, a.p2)), true), (!(a.P0 i.toNat == a.p0 && (a.P1 i.toNat == a.p1 && (a.P2 i.toNat == a.p2 && true))), true), (!(a.P0 i.toNat == a.p0 && (a.P1 i.toNat == a.p1 && (a.P2 i.toNat == a.p2 && true))), true), (!(a.P0 i.toNat == a.p0 && (a.P1 i.toNat == a.p1 && (a.P2 i.toNat == a.p2 && true))), true), ((plWfB (a.P0 i.toNat, a.P1 i.toNat, a.P2 i.toNat)), true), ((a.B i.toNat == 0), true), ((getL [] G (a.P0 i.toNat, a.P1 i.toNat, a.P2 i.toNat) != a.A i.toNat), false), ((plWfB (a.P0 i.toNat, a.P1 i.toNat, a.P2 i.toNat)), true), ((a.K i.toNat == 3), true), ((a.K i.toNat == 2), false), ((plWfB (a.p0, a.p1, a.p2)), true), ((decide (0 ≤ i ∧ i < (↑a.len : Int) ∧ a.len ≤ a.len)), true), ((decide (i < 100)), true), ((decide (i < (↑a.len : Int))), true), ((decide (i < (↑a.len : Int))), true), ((decide (i < (↑a.len : Int))), true)]) (by kernel_rfl) ⟨h15, (by rw [h14]; rfl), (by rw [h14]; rfl), (by rw [h14]; rfl), h3, (by rw [h14]; rfl), (by rw [h14]; rfl), (by rw [h14]; rfl), h8, h12, h9, h8, h5, h4, h3, h2, h1, h0, h0, h0, trivial⟩ (cp_next (a) (IntKind.i64.wrap (i + 1)) (c0) (c1) (IntKind.i64.wrap (c2 + 1)) (c3) (c4) (getL [((a.P0 i.toNat, a.P1 i.toNat, a.P2 i.toNat), 0)] G) (n) (by (obtain ⟨i0, i1, hn, hok⟩ := hP; have hlt : i < 100 := of_decide_eq_true h1; have hw : IntKind.i64.wrap (i + 1) = i + 1 := wrapI (by omega) (by omega); unfold cpP; rw [hw]; exact ⟨by omega, by omega, by omega, hok⟩)) (by (obtain ⟨i0, i1, hn, hok⟩ := hP; have hlt : i < 100 := of_decide_eq_true h1; rw [wrapI (by omega) (by omega)]; omega)))
            · have h19 : (plWfB (a.P0 i.toNat, a.P1 i.toNat, a.P2 i.toNat) && (Lit.int IntKind.u64 (a.B i.toNat)).wf && a.B i.toNat != 0 && decide (n < maxLen)) = true := by (obtain ⟨i0, i1, hn, hp, hw, hA⟩ := hP; first | rfl | (simp only [decide_eq_true_eq, decide_eq_false_iff_not] at *; omega) | (simp; done) | exact hp | exact (hA i.toNat (by simp only [decide_eq_true_eq, decide_eq_false_iff_not] at *; omega)).1 | exact wb_put (hA i.toNat (by simp only [decide_eq_true_eq, decide_eq_false_iff_not] at *; omega)).1 (hA i.toNat (by simp only [decide_eq_true_eq, decide_eq_false_iff_not] at *; omega)).2.1 (by assumption) (by omega) | exact wb_put (hA i.toNat (by simp only [decide_eq_true_eq, decide_eq_false_iff_not] at *; omega)).1 (hA i.toNat (by simp only [decide_eq_true_eq, decide_eq_false_iff_not] at *; omega)).2.2 (by assumption) (by omega) | exact wb_put (hA i.toNat (by simp only [decide_eq_true_eq, decide_eq_false_iff_not] at *; omega)).1 (wrap_wf _) (by assumption) (by omega) | exact samePl_iff.2 (fun _ _ => rfl) | (rw [getL_apart (by assumption)]; simp; done))
              rcases Bool.eq_false_or_eq_true (a.P0 i.toNat == a.p0 && (a.P1 i.toNat == a.p1 && (a.P2 i.toNat == a.p2 && true))) with h14 | h14
              · exact Tri.pathG mixed libC_ok (n := 10000) (k := 10000) (j := 0) (cfg := cpCfg) (o := List.replicate 5 (some true) ++ [none] ++ [some true] ++ [none] ++ [some false] ++ [some true] ++ [none] ++ [some true] ++ [some false, some false] ++ [some true] ++ List.replicate 10 (none) ++ List.replicate 5 (some false) ++ [none] ++ [some false]) (g' := .out .nor) (fs' := []) (s' := cpS (a) (IntKind.i64.wrap (i + 1)) (c0) (c1) (IntKind.i64.wrap (c2 + 1)) (c3) (c4) (getL [((a.P0 i.toNat, a.P1 i.toNat, a.P2 i.toNat), a.B i.toNat)] G) (n + 1)) (asks := [(!(a.P0 i.toNat == a.p0 && (a.P1 i.toNat == a.p1 && (a.P2 i.toNat == a.p2 && true))), false), (!(a.P0 i.toNat == a.p0 && (a.P1 i.toNat == a.p1 && (a.P2 i.toNat == a.p2 && true))), false), (!(a.P0 i.toNat == a.p0 && (a.P1 i.toNat == a.p1 && (a.P2 i.toNat == a.p2 && true))), false), (!(a.P0 i.toNat == a.p0 && (a.P1 i.toNat == a.p1 && (a.P2 i.toNat == a.p2 && true))), false), (!(a.P0 i.toNat == a.p0 && (a.P1 i.toNat == a.p1 && (a.P2 i.toNat == a.p2 && true))), false), (!(a.P0 i.toNat == a.p0 && (a.P1 i.toNat == a.p1 && (a.P2 i.toNat == a.p2 && true))), false), ((plWfB (a.P0 i.toNat, a.P1 i.toNat, a.P2 i.toNat) && (Lit.int IntKind.u64 (a.B i.toNat)).wf && a.B i.toNat != 0 && decide (n < maxLen)), true), ((a.B i.toNat == 0), false), ((getL [] G (a.P0 i.toNat, a.P1 i.toNat, a.P2 i.toNat) != a.A i.toNat), false), ((plWfB (a.P0 i.toNat, a.P1 i.toNat, a.P2 i.toNat)), true), ((a.K i.toNat == 3), true), ((a.K i.toNat == 2), false), ((plWfB (a.p0, a.p1, a.p2)), true), ((decide (0 ≤ i ∧ i < (↑a.len : Int) ∧ a.len ≤ a.len)), true), ((decide (i < 100)), true), ((decide (i < (↑a.len : Int))), true), ((decide (i < (↑a.len : Int))), true), ((decide (i < (↑a.len : Int))), true)]) (by kernel_rfl) ⟨(by rw [h14]; rfl), (by rw [h14]; rfl), (by rw [h14]; rfl), (by rw [h14]; rfl), (by rw [h14]; rfl), (by rw [h14]; rfl), h19, h12, h9, h8, h5, h4, h3, h2, h1, h0, h0, h0, trivial⟩ (cp_next (a) (IntKind.i64.wrap (i + 1)) (c0) (c1) (IntKind.i64.wrap (c2 + 1)) (c3) (c4) (getL [((a.P0 i.toNat, a.P1 i.toNat, a.P2 i.toNat), a.B i.toNat)] G) (n + 1) (by (obtain ⟨i0, i1, hn, hok⟩ := hP; have hlt : i < 100 := of_decide_eq_true h1; have hw : IntKind.i64.wrap (i + 1) = i + 1 := wrapI (by omega) (by omega); unfold cpP; rw [hw]; exact ⟨by omega, by omega, by omega, hok⟩)) (by (obtain ⟨i0, i1, hn, hok⟩ := hP; have hlt : i < 100 := of_decide_eq_true h1; rw [wrapI (by omega) (by omega)]; omega)))
              · have h21 : (getL [((a.P0 i.toNat, a.P1 i.toNat, a.P2 i.toNat), a.B i.toNat)] G (a.p0, a.p1, a.p2) != getL [] G (a.p0, a.p1, a.p2)) = false := by (obtain ⟨i0, i1, hn, hp, hw, hA⟩ := hP; first | rfl | (simp only [decide_eq_true_eq, decide_eq_false_iff_not] at *; omega) | (simp; done) | exact hp | exact (hA i.toNat (by simp only [decide_eq_true_eq, decide_eq_false_iff_not] at *; omega)).1 | exact wb_put (hA i.toNat (by simp only [decide_eq_true_eq, decide_eq_false_iff_not] at *; omega)).1 (hA i.toNat (by simp only [decide_eq_true_eq, decide_eq_false_iff_not] at *; omega)).2.1 (by assumption) (by omega) | exact wb_put (hA i.toNat (by simp only [decide_eq_true_eq, decide_eq_false_iff_not] at *; omega)).1 (hA i.toNat (by simp only [decide_eq_true_eq, decide_eq_false_iff_not] at *; omega)).2.2 (by assumption) (by omega) | exact wb_put (hA i.toNat (by simp only [decide_eq_true_eq, decide_eq_false_iff_not] at *; omega)).1 (wrap_wf _) (by assumption) (by omega) | exact samePl_iff.2 (fun _ _ => rfl) | (rw [getL_apart (by assumption)]; simp; done))
                exact Tri.pathG mixed libC_ok (n := 10000) (k := 10000) (j := 0) (cfg := cpCfg) (o := List.replicate 5 (some true) ++ [none] ++ [some true] ++ [none] ++ [some false] ++ [some true] ++ [none] ++ [some true] ++ [some false, some false] ++ [some true] ++ List.replicate 10 (none) ++ List.replicate 3 (some true) ++ [none] ++ List.replicate 3 (some true) ++ [none] ++ [some true] ++ [none] ++ [some false]) (g' := .out .nor) (fs' := []) (s' := cpS (a) (IntKind.i64.wrap (i + 1)) (c0) (c1) (IntKind.i64.wrap (c2 + 1)) (c3) (c4) (getL [((a.P0 i.toNat, a.P1 i.toNat, a.P2 i.toNat), a.B i.toNat)] G) (n + 1)) (asks := [((getL [((a.P0 i.toNat, a.P1 i.toNat, a.P2 i.toNat), a.B i.toNat)] G (a.p0, a.p1, a.p2) != getL [] G (a.p0, a.p1, a.p2)), false), (!(a.P0 i.toNat == a.p0 && (a.P1 i.toNat == a.p1 && (a.P2 i.toNat == a.p2 && true))), true), (!(a.P0 i.toNat == a.p0 && (a.P1 i.toNat == a.p1 && (a.P2 i.toNat == a.p2 && true))), true), (!(a.P0 i.toNat == a.p0 && (a.P1 i.toNat == a.p1 && (a.P2 i.toNat == a.p2 && true))), true), ((plWfB (a.p0, a.p1, a.p2)), true), (!(a.P0 i.toNat == a.p0 && (a.P1 i.toNat == a.p1 && (a.P2 i.toNat == a.p2 && true))), true), (!(a.P0 i.toNat == a.p0 && (a.P1 i.toNat == a.p1 && (a.P2 i.toNat == a.p2 && true))), true), (!(a.P0 i.toNat == a.p0 && (a.P1 i.toNat == a.p1 && (a.P2 i.toNat == a.p2 && true))), true), ((plWfB (a.P0 i.toNat, a.P1 i.toNat, a.P2 i.toNat) && (Lit.int IntKind.u64 (a.B i.toNat)).wf && a.B i.toNat != 0 && decide (n < maxLen)), true), ((a.B i.toNat == 0), false), ((getL [] G (a.P0 i.toNat, a.P1 i.toNat, a.P2 i.toNat) != a.A i.toNat), false), ((plWfB (a.P0 i.toNat, a.P1 i.toNat, a.P2 i.toNat)), true), ((a.K i.toNat == 3), true), ((a.K i.toNat == 2), false), ((plWfB (a.p0, a.p1, a.p2)), true), ((decide (0 ≤ i ∧ i < (↑a.len : Int) ∧ a.len ≤ a.len)), true), ((decide (i < 100)), true), ((decide (i < (↑a.len : Int))), true), ((decide (i < (↑a.len : Int))), true), ((decide (i < (↑a.len : Int))), true)]) (by kernel_rfl) ⟨h21, (by rw [h14]; rfl), (by rw [h14]; rfl), (by rw [h14]; rfl), h3, (by rw [h14]; rfl), (by rw [h14]; rfl), (by rw [h14]; rfl), h19, h12, h9, h8, h5, h4, h3, h2, h1, h0, h0, h0, trivial⟩ (cp_next (a) (IntKind.i64.wrap (i + 1)) (c0) (c1) (IntKind.i64.wrap (c2 + 1)) (c3) (c4) (getL [((a.P0 i.toNat, a.P1 i.toNat, a.P2 i.toNat), a.B i.toNat)] G) (n + 1) (by (obtain ⟨i0, i1, hn, hok⟩ := hP; have hlt : i < 100 := of_decide_eq_true h1; have hw : IntKind.i64.wrap (i + 1) = i + 1 := wrapI (by omega) (by omega); unfold cpP; rw [hw]; exact ⟨by omega, by omega, by omega, hok⟩)) (by (obtain ⟨i0, i1, hn, hok⟩ := hP; have hlt : i < 100 := of_decide_eq_true h1; rw [wrapI (by omega) (by omega)]; omega)))
        · rcases Bool.eq_false_or_eq_true (a.K i.toNat == 5) with h6 | h6
          · have h8 : (plWfB (a.P0 i.toNat, a.P1 i.toNat, a.P2 i.toNat)) = true := by (obtain ⟨i0, i1, hn, hp, hw, hA⟩ := hP; first | rfl | (simp only [decide_eq_true_eq, decide_eq_false_iff_not] at *; omega) | (simp; done) | exact hp | exact (hA i.toNat (by simp only [decide_eq_true_eq, decide_eq_false_iff_not] at *; omega)).1 | exact wb_put (hA i.toNat (by simp only [decide_eq_true_eq, decide_eq_false_iff_not] at *; omega)).1 (hA i.toNat (by simp only [decide_eq_true_eq, decide_eq_false_iff_not] at *; omega)).2.1 (by assumption) (by omega) | exact wb_put (hA i.toNat (by simp only [decide_eq_true_eq, decide_eq_false_iff_not] at *; omega)).1 (hA i.toNat (by simp only [decide_eq_true_eq, decide_eq_false_iff_not] at *; omega)).2.2 (by assumption) (by omega) | exact wb_put (hA i.toNat (by simp only [decide_eq_true_eq, decide_eq_false_iff_not] at *; omega)).1 (wrap_wf _) (by assumption) (by omega) | exact samePl_iff.2 (fun _ _ => rfl) | (rw [getL_apart (by assumption)]; simp; done))
            rcases Bool.eq_false_or_eq_true (IntKind.u64.wrap (getL [] G (a.P0 i.toNat, a.P1 i.toNat, a.P2 i.toNat) + a.A i.toNat) == 0) with h11 | h11
            · rcases Bool.eq_false_or_eq_true (a.P0 i.toNat == a.p0 && (a.P1 i.toNat == a.p1 && (a.P2 i.toNat == a.p2 && true))) with h14 | h14
              · exact Tri.pathG mixed libC_ok (n := 10000) (k := 10000) (j := 0) (cfg := cpCfg) (o := List.replicate 5 (some true) ++ [none] ++ [some true] ++ [none] ++ [some false, some false] ++ [some true] ++ [none] ++ List.replicate 3 (some true) ++ List.replicate 10 (none) ++ List.replicate 5 (some false) ++ [none] ++ [some false]) (g' := .out .nor) (fs' := []) (s' := cpS (a) (IntKind.i64.wrap (i + 1)) (c0) (c1) (c2) (c3) (IntKind.i64.wrap (c4 + 1)) (getL [((a.P0 i.toNat, a.P1 i.toNat, a.P2 i.toNat), 0)] G) (n)) (asks := [(!(a.P0 i.toNat == a.p0 && (a.P1 i.toNat == a.p1 && (a.P2 i.toNat == a.p2 && true))), false), (!(a.P0 i.toNat == a.p0 && (a.P1 i.toNat == a.p1 && (a.P2 i.toNat == a.p2 && true))), false), (!(a.P0 i.toNat == a.p0 && (a.P1 i.toNat == a.p1 && (a.P2 i.toNat == a.p2 && true))), false), (!(a.P0 i.toNat == a.p0 && (a.P1 i.toNat == a.p1 && (a.P2 i.toNat == a.p2 && true))), false), (!(a.P0 i.toNat == a.p0 && (a.P1 i.toNat == a.p1 && (a.P2 i.toNat == a.p2 && true))), false), (!(a.P0 i.toNat == a.p0 && (a.P1 i.toNat == a.p1 && (a.P2 i.toNat == a.p2 && true))), false), ((plWfB (a.P0 i.toNat, a.P1 i.toNat, a.P2 i.toNat)), true), ((IntKind.u64.wrap (getL [] G (a.P0 i.toNat, a.P1 i.toNat, a.P2 i.toNat) + a.A i.toNat) == 0), true), ((plWfB (a.P0 i.toNat, a.P1 i.toNat, a.P2 i.toNat)), true), ((a.K i.toNat == 5), true), ((a.K i.toNat == 3), false), ((a.K i.toNat == 2), false), ((plWfB (a.p0, a.p1, a.p2)), true), ((decide (0 ≤ i ∧ i < (↑a.len : Int) ∧ a.len ≤ a.len)), true), ((decide (i < 100)), true), ((decide (i < (↑a.len : Int))), true), ((decide (i < (↑a.len : Int))), true), ((decide (i < (↑a.len : Int))), true)]) (by kernel_rfl) ⟨(by rw [h14]; rfl), (by rw [h14]; rfl), (by rw [h14]; rfl), (by rw [h14]; rfl), (by rw [h14]; rfl), (by rw [h14]; rfl), h8, h11, h8, h6, h5, h4, h3, h2, h1, h0, h0, h0, trivial⟩ (cp_next (a) (IntKind.i64.wrap (i + 1)) (c0) (c1) (c2) (c3) (IntKind.i64.wrap (c4 + 1)) (getL [((a.P0 i.toNat, a.P1 i.toNat, a.P2 i.toNat), 0)] G) (n) (by (obtain ⟨i0, i1, hn, hok⟩ := hP; have hlt : i < 100 := of_decide_eq_true h1; have hw : IntKind.i64.wrap (i + 1) = i + 1 := wrapI (by omega) (by omega); unfold cpP; rw [hw]; exact ⟨by omega, by omega, by omega, hok⟩)) (by (obtain ⟨i0, i1, hn, hok⟩ := hP; have hlt : i < 100 := of_decide_eq_true h1; rw [wrapI (by omega) (by omega)]; omega)))
              · have h15 : (getL [((a.P0 i.toNat, a.P1 i.toNat, a.P2 i.toNat), 0)] G (a.p0, a.p1, a.p2) != getL [] G (a.p0, a.p1, a.p2)) = false := by (obtain ⟨i0, i1, hn, hp, hw, hA⟩ := hP; first | rfl | (simp only [decide_eq_true_eq, decide_eq_false_iff_not] at *; omega) | (simp; done) | exact hp | exact (hA i.toNat (by simp only [decide_eq_true_eq, decide_eq_false_iff_not] at *; omega)).1 | exact wb_put (hA i.toNat (by simp only [decide_eq_true_eq, decide_eq_false_iff_not] at *; omega)).1 (hA i.toNat (by simp only [decide_eq_true_eq, decide_eq_false_iff_not] at *; omega)).2.1 (by assumption) (by omega) | exact wb_put (hA i.toNat (by simp only [decide_eq_true_eq, decide_eq_false_iff_not] at *; omega)).1 (hA i.toNat (by simp only [decide_eq_true_eq, decide_eq_false_iff_not] at *; omega)).2.2 (by assumption) (by omega) | exact wb_put (hA i.toNat (by simp only [decide_eq_true_eq, decide_eq_false_iff_not] at *; omega)).1 (wrap_wf _) (by assumption) (by omega) | exact samePl_iff.2 (fun _ _ => rfl) | (rw [getL_apart (by assumption)]; simp; done))
                exact Tri.pathG mixed libC_ok (n := 10000) (k := 10000) (j := 0) (cfg := cpCfg) (o := List.replicate 5 (some true) ++ [none] ++ [some true] ++ [none] ++ [some false, some false] ++ [some true] ++ [none] ++ List.replicate 3 (some true) ++ List.replicate 10 (none) ++ List.replicate 3 (some true) ++ [none] ++ List.replicate 3 (some true) ++ [none] ++ [some true] ++ [none] ++ [some false]) (g' := .out .nor) (fs' := []) (s' := cpS (a) (IntKind.i64.wrap (i + 1)) (c0) (c1) (c2) (c3) (IntKind.i64.wrap (c4 + 1)) (getL [((a.P0 i.toNat, a.P1 i.toNat, a.P2 i.toNat), 0)] G) (n)) (asks := [((getL [((a.P0 i.toNat, a.P1 i.toNat, a.P2 i.toNat), 0)] G (a.p0, a.p1, a.p2) != getL [] G (a.p0, a.p1, a.p2)), false), (!(a.P0 i.toNat == a.p0 && (a.P1 i.toNat == a.p1 && (a.P2 i.toNat == a.p2 && true))), true), (!(a.P0 i.toNat == a.p0 && (a.P1 i.toNat == a.p1 && (a.P2 i.toNat == a.p2 && true))), true), (!(a.P0 i.toNat == a.p0 && (a.P1 i.toNat == a.p1 && (a.P2 i.toNat == a.p2 && true))), true), ((plWfB (a.p0, a.p1, a.p2)), true), (!(a.P0 i.toNat == a.p0 && (a.P1 i.toNat == a.p1 && (a.P2 i.toNat == a.p2 && true))), true), (!(a.P0 i.toNat == a.p0 && (a.P1 i.toNat == a.p1 && (a.P2 i.toNat == a.p2 && true))), true), (!(a.P0 i.toNat == a.p0 && (a.P1 i.toNat == a.p1 && (a.P2 i.toNat == a.p2 && true))), true), ((plWfB (a.P0 i.toNat, a.P1 i.toNat, a.P2 i.toNat)), true), ((IntKind.u64.wrap (getL [] G (a.P0 i.toNat, a.P1 i.toNat, a.P2 i.toNat) + a.A i.toNat) == 0), true), ((plWfB (a.P0 i.toNat, a.P1 i.toNat, a.P2 i.toNat)), true), ((a.K i.toNat == 5), true), ((a.K i.toNat == 3), false), ((a.K i.toNat == 2), false), ((plWfB (a.p0, a.p1, a.p2)), true), ((decide (0 ≤ i ∧ i < (↑a.len : Int) ∧ a.len ≤ a.len)), true), ((decide (i < 100)), true), ((decide (i < (↑a.len : Int))), true), ((decide (i < (↑a.len : Int))), true), ((decide (i < (↑a.len : Int))), true)]) (by kernel_rfl) ⟨h15, (by rw [h14]; rfl), (by rw [h14]; rfl), (by rw [h14]; rfl), h3, (by rw [h14]; rfl), (by rw [h14]; rfl), (by rw [h14]; rfl), h8, h11, h8, h6, h5, h4, h3, h2, h1, h0, h0, h0, trivial⟩ (cp_next (a) (IntKind.i64.wrap (i + 1)) (c0) (c1) (c2) (c3) (IntKind.i64.wrap (c4 + 1)) (getL [((a.P0 i.toNat, a.P1 i.toNat, a.P2 i.toNat), 0)] G) (n) (by (obtain ⟨i0, i1, hn, hok⟩ := hP; have hlt : i < 100 := of_decide_eq_true h1; have hw : IntKind.i64.wrap (i + 1) = i + 1 := wrapI (by omega) (by omega); unfold cpP; rw [hw]; exact ⟨by omega, by omega, by omega, hok⟩)) (by (obtain ⟨i0, i1, hn, hok⟩ := hP; have hlt : i < 100 := of_decide_eq_true h1; rw [wrapI (by omega) (by omega)]; omega)))
            · have h18 : (plWfB (a.P0 i.toNat, a.P1 i.toNat, a.P2 i.toNat) && (Lit.int IntKind.u64 (IntKind.u64.wrap (getL [] G (a.P0 i.toNat, a.P1 i.toNat, a.P2 i.toNat) + a.A i.toNat))).wf && IntKind.u64.wrap (getL [] G (a.P0 i.toNat, a.P1 i.toNat, a.P2 i.toNat) + a.A i.toNat) != 0 && decide (n < maxLen)) = true := by (obtain ⟨i0, i1, hn, hp, hw, hA⟩ := hP; first | rfl | (simp only [decide_eq_true_eq, decide_eq_false_iff_not] at *; omega) | (simp; done) | exact hp | exact (hA i.toNat (by simp only [decide_eq_true_eq, decide_eq_false_iff_not] at *; omega)).1 | exact wb_put (hA i.toNat (by simp only [decide_eq_true_eq, decide_eq_false_iff_not] at *; omega)).1 (hA i.toNat (by simp only [decide_eq_true_eq, decide_eq_false_iff_not] at *; omega)).2.1 (by assumption) (by omega) | exact wb_put (hA i.toNat (by simp only [decide_eq_true_eq, decide_eq_false_iff_not] at *; omega)).1 (hA i.toNat (by simp only [decide_eq_true_eq, decide_eq_false_iff_not] at *; omega)).2.2 (by assumption) (by omega) | exact wb_put (hA i.toNat (by simp only [decide_eq_true_eq, decide_eq_false_iff_not] at *; omega)).1 (wrap_wf _) (by assumption) (by omega) | exact samePl_iff.2 (fun _ _ => rfl) | (rw [getL_apart (by assumption)]; simp; done))
              rcases Bool.eq_false_or_eq_true (a.P0 i.toNat == a.p0 && (a.P1 i.toNat == a.p1 && (a.P2 i.toNat == a.p2 && true))) with h14 | h14
              · exact Tri.pathG mixed libC_ok (n := 10000) (k := 10000) (j := 0) (cfg := cpCfg) (o := List.replicate 5 (some true) ++ [none] ++ [some true] ++ [none] ++ [some false, some false] ++ [some true] ++ [none] ++ [some true] ++ [some false] ++ [some true] ++ List.replicate 10 (none) ++ List.replicate 5 (some false) ++ [none] ++ [some false]) (g' := .out .nor) (fs' := []) (s' := cpS (a) (IntKind.i64.wrap (i + 1)) (c0) (c1) (c2) (c3) (IntKind.i64.wrap (c4 + 1)) (getL [((a.P0 i.toNat, a.P1 i.toNat, a.P2 i.toNat), IntKind.u64.wrap (getL [] G (a.P0 i.toNat, a.P1 i.toNat, a.P2 i.toNat) + a.A i.toNat))] G) (n + 1)) (asks := [(!(a.P0 i.toNat == a.p0 && (a.P1 i.toNat == a.p1 && (a.P2 i.toNat == a.p2 && true))), false), (!(a.P0 i.toNat == a.p0 && (a.P1 i.toNat == a.p1 && (a.P2 i.toNat == a.p2 && true))), false), (!(a.P0 i.toNat == a.p0 && (a.P1 i.toNat == a.p1 && (a.P2 i.toNat == a.p2 && true))), false), (!(a.P0 i.toNat == a.p0 && (a.P1 i.toNat == a.p1 && (a.P2 i.toNat == a.p2 && true))), false), (!(a.P0 i.toNat == a.p0 && (a.P1 i.toNat == a.p1 && (a.P2 i.toNat == a.p2 && true))), false), (!(a.P0 i.toNat == a.p0 && (a.P1 i.toNat == a.p1 && (a.P2 i.toNat == a.p2 && true))), false), ((plWfB (a.P0 i.toNat, a.P1 i.toNat, a.P2 i.toNat) && (Lit.int IntKind.u64 (IntKind.u64.wrap (getL [] G (a.P0 i.toNat, a.P1 i.toNat, a.P2 i.toNat) + a.A i.toNat))).wf && IntKind.u64.wrap (getL [] G (a.P0 i.toNat, a.P1 i.toNat, a.P2 i.toNat) + a.A i.toNat) != 0 && decide (n < maxLen)), true), ((IntKind.u64.wrap (getL [] G (a.P0 i.toNat, a.P1 i.toNat, a.P2 i.toNat) + a.A i.toNat) == 0), false), ((plWfB (a.P0 i.toNat, a.P1 i.toNat, a.P2 i.toNat)), true), ((a.K i.toNat == 5), true), ((a.K i.toNat == 3), false), ((a.K i.toNat == 2), false), ((plWfB (a.p0, a.p1, a.p2)), true), ((decide (0 ≤ i ∧ i < (↑a.len : Int) ∧ a.len ≤ a.len)), true), ((decide (i < 100)), true), ((decide (i < (↑a.len : Int))), true), ((decide (i < (↑a.len : Int))), true), ((decide (i < (↑a.len : Int))), true)]) (by kernel_rfl) ⟨(by rw [h14]; rfl), (by rw [h14]; rfl), (by rw [h14]; rfl), (by rw [h14]; rfl), (by rw [h14]; rfl), (by rw [h14]; rfl), h18, h11, h8, h6, h5, h4, h3, h2, h1, h0, h0, h0, trivial⟩ (cp_next (a) (IntKind.i64.wrap (i + 1)) (c0) (c1) (c2) (c3) (IntKind.i64.wrap (c4 + 1)) (getL [((a.P0 i.toNat, a.P1 i.toNat, a.P2 i.toNat), IntKind.u64.wrap (getL [] G (a.P0 i.toNat, a.P1 i.toNat, a.P2 i.toNat) + a.A i.toNat))] G) (n + 1) (by (obtain ⟨i0, i1, hn, hok⟩ := hP; have hlt : i < 100 := of_decide_eq_true h1; have hw : IntKind.i64.wrap (i + 1) = i + 1 := wrapI (by omega) (by omega); unfold cpP; rw [hw]; exact ⟨by omega, by omega, by omega, hok⟩)) (by (obtain ⟨i0, i1, hn, hok⟩ := hP; have hlt : i < 100 := of_decide_eq_true h1; rw [wrapI (by omega) (by omega)]; omega)))
              · have h20 : (getL [((a.P0 i.toNat, a.P1 i.toNat, a.P2 i.toNat), IntKind.u64.wrap (getL [] G (a.P0 i.toNat, a.P1 i.toNat, a.P2 i.toNat) + a.A i.toNat))] G (a.p0, a.p1, a.p2) != getL [] G (a.p0, a.p1, a.p2)) = false := by (obtain ⟨i0, i1, hn, hp, hw, hA⟩ := hP; first | rfl | (simp only [decide_eq_true_eq, decide_eq_false_iff_not] at *; omega) | (simp; done) | exact hp | exact (hA i.toNat (by simp only [decide_eq_true_eq, decide_eq_false_iff_not] at *; omega)).1 | exact wb_put (hA i.toNat (by simp only [decide_eq_true_eq, decide_eq_false_iff_not] at *; omega)).1 (hA i.toNat (by simp only [decide_eq_true_eq, decide_eq_false_iff_not] at *; omega)).2.1 (by assumption) (by omega) | exact wb_put (hA i.toNat (by simp only [decide_eq_true_eq, decide_eq_false_iff_not] at *; omega)).1 (hA i.toNat (by simp only [decide_eq_true_eq, decide_eq_false_iff_not] at *; omega)).2.2 (by assumption) (by omega) | exact wb_put (hA i.toNat (by simp only [decide_eq_true_eq, decide_eq_false_iff_not] at *; omega)).1 (wrap_wf _) (by assumption) (by omega) | exact samePl_iff.2 (fun _ _ => rfl) | (rw [getL_apart (by assumption)]; simp; done))
                exact Tri.pathG mixed libC_ok (n := 10000) (k := 10000) (j := 0) (cfg := cpCfg) (o := List.replicate 5 (some true) ++ [none] ++ [some true] ++ [none] ++ [some false, some false] ++ [some true] ++ [none] ++ [some true] ++ [some false] ++ [some true] ++ List.replicate 10 (none) ++ List.replicate 3 (some true) ++ [none] ++ List.replicate 3 (some true) ++ [none] ++ [some true] ++ [none] ++ [some false]) (g' := .out .nor) (fs' := []) (s' := cpS (a) (IntKind.i64.wrap (i + 1)) (c0) (c1) (c2) (c3) (IntKind.i64.wrap (c4 + 1)) (getL [((a.P0 i.toNat, a.P1 i.toNat, a.P2 i.toNat), IntKind.u64.wrap (getL [] G (a.P0 i.toNat, a.P1 i.toNat, a.P2 i.toNat) + a.A i.toNat))] G) (n + 1)) (asks := [((getL [((a.P0 i.toNat, a.P1 i.toNat, a.P2 i.toNat), IntKind.u64.wrap (getL [] G (a.P0 i.toNat, a.P1 i.toNat, a.P2 i.toNat) + a.A i.toNat))] G (a.p0, a.p1, a.p2) != getL [] G (a.p0, a.p1, a.p2)), false), (!(a.P0 i.toNat == a.p0 && (a.P1 i.toNat == a.p1 && (a.P2 i.toNat == a.p2 && true))), true), (!(a.P0 i.toNat == a.p0 && (a.P1 i.toNat == a.p1 && (a.P2 i.toNat == a.p2 && true))), true), (!(a.P0 i.toNat == a.p0 && (a.P1 i.toNat == a.p1 && (a.P2 i.toNat == a.p2 && true))), true), ((plWfB (a.p0, a.p1, a.p2)), true), (!(a.P0 i.toNat == a.p0 && (a.P1 i.toNat == a.p1 && (a.P2 i.toNat == a.p2 && true))), true), (!(a.P0 i.toNat == a.p0 && (a.P1 i.toNat == a.p1 && (a.P2 i.toNat == a.p2 && true))), true), (!(a.P0 i.toNat == a.p0 && (a.P1 i.toNat == a.p1 && (a.P2 i.toNat == a.p2 && true))), true), ((plWfB (a.P0 i.toNat, a.P1 i.toNat, a.P2 i.toNat) && (Lit.int IntKind.u64 (IntKind.u64.wrap (getL [] G (a.P0 i.toNat, a.P1 i.toNat, a.P2 i.toNat) + a.A i.toNat))).wf && IntKind.u64.wrap (getL [] G (a.P0 i.toNat, a.P1 i.toNat, a.P2 i.toNat) + a.A i.toNat) != 0 && decide (n < maxLen)), true), ((IntKind.u64.wrap (getL [] G (a.P0 i.toNat, a.P1 i.toNat, a.P2 i.toNat) + a.A i.toNat) == 0), false), ((plWfB (a.P0 i.toNat, a.P1 i.toNat, a.P2 i.toNat)), true), ((a.K i.toNat == 5), true), ((a.K i.toNat == 3), false), ((a.K i.toNat == 2), false), ((plWfB (a.p0, a.p1, a.p2)), true), ((decide (0 ≤ i ∧ i < (↑a.len : Int) ∧ a.len ≤ a.len)), true), ((decide (i < 100)), true), ((decide (i < (↑a.len : Int))), true), ((decide (i < (↑a.len : Int))), true), ((decide (i < (↑a.len : Int))), true)]) (by kernel_rfl) ⟨h20, (by rw [h14]; rfl), (by rw [h14]; rfl), (by rw [h14]; rfl), h3, (by rw [h14]; rfl), (by rw [h14]; rfl), (by rw [h14]; rfl), h18, h11, h8, h6, h5, h4, h3, h2, h1, h0, h0, h0, trivial⟩ (cp_next (a) (IntKind.i64.wrap (i + 1)) (c0) (c1) (c2) (c3) (IntKind.i64.wrap (c4 + 1)) (getL [((a.P0 i.toNat, a.P1 i.toNat, a.P2 i.toNat), IntKind.u64.wrap (getL [] G (a.P0 i.toNat, a.P1 i.toNat, a.P2 i.toNat) + a.A i.toNat))] G) (n + 1) (by (obtain ⟨i0, i1, hn, hok⟩ := hP; have hlt : i < 100 := of_decide_eq_true h1; have hw : IntKind.i64.wrap (i + 1) = i + 1 := wrapI (by omega) (by omega); unfold cpP; rw [hw]; exact ⟨by omega, by omega, by omega, hok⟩)) (by (obtain ⟨i0, i1, hn, hok⟩ := hP; have hlt : i < 100 := of_decide_eq_true h1; rw [wrapI (by omega) (by omega)]; omega)))
          · have h8 : (plWfB (a.P0 i.toNat, a.P1 i.toNat, a.P2 i.toNat)) = true := by (obtain ⟨i0, i1, hn, hp, hw, hA⟩ := hP; first | rfl | (simp only [decide_eq_true_eq, decide_eq_false_iff_not] at *; omega) | (simp; done) | exact hp | exact (hA i.toNat (by simp only [decide_eq_true_eq, decide_eq_false_iff_not] at *; omega)).1 | exact wb_put (hA i.toNat (by simp only [decide_eq_true_eq, decide_eq_false_iff_not] at *; omega)).1 (hA i.toNat (by simp only [decide_eq_true_eq, decide_eq_false_iff_not] at *; omega)).2.1 (by assumption) (by omega) | exact wb_put (hA i.toNat (by simp only [decide_eq_true_eq, decide_eq_false_iff_not] at *; omega)).1 (hA i.toNat (by simp only [decide_eq_true_eq, decide_eq_false_iff_not] at *; omega)).2.2 (by assumption) (by omega) | exact wb_put (hA i.toNat (by simp only [decide_eq_true_eq, decide_eq_false_iff_not] at *; omega)).1 (wrap_wf _) (by assumption) (by omega) | exact samePl_iff.2 (fun _ _ => rfl) | (rw [getL_apart (by assumption)]; simp; done))
            have h13 : (samePl (getL [] G) (getL [] G)) = true := by (obtain ⟨i0, i1, hn, hp, hw, hA⟩ := hP; first | rfl | (simp only [decide_eq_true_eq, decide_eq_false_iff_not] at *; omega) | (simp; done) | exact hp | exact (hA i.toNat (by simp only [decide_eq_true_eq, decide_eq_false_iff_not] at *; omega)).1 | exact wb_put (hA i.toNat (by simp only [decide_eq_true_eq, decide_eq_false_iff_not] at *; omega)).1 (hA i.toNat (by simp only [decide_eq_true_eq, decide_eq_false_iff_not] at *; omega)).2.1 (by assumption) (by omega) | exact wb_put (hA i.toNat (by simp only [decide_eq_true_eq, decide_eq_false_iff_not] at *; omega)).1 (hA i.toNat (by simp only [decide_eq_true_eq, decide_eq_false_iff_not] at *; omega)).2.2 (by assumption) (by omega) | exact wb_put (hA i.toNat (by simp only [decide_eq_true_eq, decide_eq_false_iff_not] at *; omega)).1 (wrap_wf _) (by assumption) (by omega) | exact samePl_iff.2 (fun _ _ => rfl) | (rw [getL_apart (by assumption)]; simp; done))
            rcases Bool.eq_false_or_eq_true (a.P0 i.toNat == a.p0 && (a.P1 i.toNat == a.p1 && (a.P2 i.toNat == a.p2 && true))) with h14 | h14
            · exact Tri.pathG mixed libC_ok (n := 10000) (k := 10000) (j := 0) (cfg := cpCfg) (o := List.replicate 5 (some true) ++ [none] ++ [some true] ++ [none] ++ List.replicate 3 (some false) ++ [none] ++ [some true] ++ List.replicate 9 (none) ++ List.replicate 13 (some false)) (g' := .out .nor) (fs' := []) (s' := cpS (a) (IntKind.i64.wrap (i + 1)) (IntKind.i64.wrap (c0 + 1)) (c1) (c2) (c3) (c4) (getL [] G) (n)) (asks := [(!(samePl (getL [] G) (getL [] G)), false), (!(a.P0 i.toNat == a.p0 && (a.P1 i.toNat == a.p1 && (a.P2 i.toNat == a.p2 && true))), false), (!(samePl (getL [] G) (getL [] G)), false), (!(a.P0 i.toNat == a.p0 && (a.P1 i.toNat == a.p1 && (a.P2 i.toNat == a.p2 && true))), false), (!(a.P0 i.toNat == a.p0 && (a.P1 i.toNat == a.p1 && (a.P2 i.toNat == a.p2 && true))), false), (!(a.P0 i.toNat == a.p0 && (a.P1 i.toNat == a.p1 && (a.P2 i.toNat == a.p2 && true))), false), (!(a.P0 i.toNat == a.p0 && (a.P1 i.toNat == a.p1 && (a.P2 i.toNat == a.p2 && true))), false), (!(a.P0 i.toNat == a.p0 && (a.P1 i.toNat == a.p1 && (a.P2 i.toNat == a.p2 && true))), false), (!(samePl (getL [] G) (getL [] G)), false), (!(samePl (getL [] G) (getL [] G)), false), (!(samePl (getL [] G) (getL [] G)), false), (!(samePl (getL [] G) (getL [] G)), false), (!(samePl (getL [] G) (getL [] G)), false), ((plWfB (a.P0 i.toNat, a.P1 i.toNat, a.P2 i.toNat)), true), ((a.K i.toNat == 5), false), ((a.K i.toNat == 3), false), ((a.K i.toNat == 2), false), ((plWfB (a.p0, a.p1, a.p2)), true), ((decide (0 ≤ i ∧ i < (↑a.len : Int) ∧ a.len ≤ a.len)), true), ((decide (i < 100)), true), ((decide (i < (↑a.len : Int))), true), ((decide (i < (↑a.len : Int))), true), ((decide (i < (↑a.len : Int))), true)]) (by kernel_rfl) ⟨(by rw [h13]; rfl), (by rw [h14]; rfl), (by rw [h13]; rfl), (by rw [h14]; rfl), (by rw [h14]; rfl), (by rw [h14]; rfl), (by rw [h14]; rfl), (by rw [h14]; rfl), (by rw [h13]; rfl), (by rw [h13]; rfl), (by rw [h13]; rfl), (by rw [h13]; rfl), (by rw [h13]; rfl), h8, h6, h5, h4, h3, h2, h1, h0, h0, h0, trivial⟩ (cp_next (a) (IntKind.i64.wrap (i + 1)) (IntKind.i64.wrap (c0 + 1)) (c1) (c2) (c3) (c4) (getL [] G) (n) (by (obtain ⟨i0, i1, hn, hok⟩ := hP; have hlt : i < 100 := of_decide_eq_true h1; have hw : IntKind.i64.wrap (i + 1) = i + 1 := wrapI (by omega) (by omega); unfold cpP; rw [hw]; exact ⟨by omega, by omega, by omega, hok⟩)) (by (obtain ⟨i0, i1, hn, hok⟩ := hP; have hlt : i < 100 := of_decide_eq_true h1; rw [wrapI (by omega) (by omega)]; omega)))
            · have h17 : (getL [] G (a.p0, a.p1, a.p2) != getL [] G (a.p0, a.p1, a.p2)) = false := by (obtain ⟨i0, i1, hn, hp, hw, hA⟩ := hP; first | rfl | (simp only [decide_eq_true_eq, decide_eq_false_iff_not] at *; omega) | (simp; done) | exact hp | exact (hA i.toNat (by simp only [decide_eq_true_eq, decide_eq_false_iff_not] at *; omega)).1 | exact wb_put (hA i.toNat (by simp only [decide_eq_true_eq, decide_eq_false_iff_not] at *; omega)).1 (hA i.toNat (by simp only [decide_eq_true_eq, decide_eq_false_iff_not] at *; omega)).2.1 (by assumption) (by omega) | exact wb_put (hA i.toNat (by simp only [decide_eq_true_eq, decide_eq_false_iff_not] at *; omega)).1 (hA i.toNat (by simp only [decide_eq_true_eq, decide_eq_false_iff_not] at *; omega)).2.2 (by assumption) (by omega) | exact wb_put (hA i.toNat (by simp only [decide_eq_true_eq, decide_eq_false_iff_not] at *; omega)).1 (wrap_wf _) (by assumption) (by omega) | exact samePl_iff.2 (fun _ _ => rfl) | (rw [getL_apart (by assumption)]; simp; done))
              exact Tri.pathG mixed libC_ok (n := 10000) (k := 10000) (j := 0) (cfg := cpCfg) (o := List.replicate 5 (some true) ++ [none] ++ [some true] ++ [none] ++ List.replicate 3 (some false) ++ [none] ++ [some true] ++ List.replicate 9 (none) ++ List.replicate 5 (some false) ++ List.replicate 3 (some true) ++ [none] ++ List.replicate 3 (some true) ++ [some false] ++ [some true] ++ [some false, some false]) (g' := .out .nor) (fs' := []) (s' := cpS (a) (IntKind.i64.wrap (i + 1)) (IntKind.i64.wrap (c0 + 1)) (c1) (c2) (c3) (c4) (getL [] G) (n)) (asks := [((getL [] G (a.p0, a.p1, a.p2) != getL [] G (a.p0, a.p1, a.p2)), false), (!(samePl (getL [] G) (getL [] G)), false), (!(a.P0 i.toNat == a.p0 && (a.P1 i.toNat == a.p1 && (a.P2 i.toNat == a.p2 && true))), true), (!(samePl (getL [] G) (getL [] G)), false), (!(a.P0 i.toNat == a.p0 && (a.P1 i.toNat == a.p1 && (a.P2 i.toNat == a.p2 && true))), true), (!(a.P0 i.toNat == a.p0 && (a.P1 i.toNat == a.p1 && (a.P2 i.toNat == a.p2 && true))), true), ((plWfB (a.p0, a.p1, a.p2)), true), (!(a.P0 i.toNat == a.p0 && (a.P1 i.toNat == a.p1 && (a.P2 i.toNat == a.p2 && true))), true), (!(a.P0 i.toNat == a.p0 && (a.P1 i.toNat == a.p1 && (a.P2 i.toNat == a.p2 && true))), true), (!(a.P0 i.toNat == a.p0 && (a.P1 i.toNat == a.p1 && (a.P2 i.toNat == a.p2 && true))), true), (!(samePl (getL [] G) (getL [] G)), false), (!(samePl (getL [] G) (getL [] G)), false), (!(samePl (getL [] G) (getL [] G)), false), (!(samePl (getL [] G) (getL [] G)), false), (!(samePl (getL [] G) (getL [] G)), false), ((plWfB (a.P0 i.toNat, a.P1 i.toNat, a.P2 i.toNat)), true), ((a.K i.toNat == 5), false), ((a.K i.toNat == 3), false), ((a.K i.toNat == 2), false), ((plWfB (a.p0, a.p1, a.p2)), true), ((decide (0 ≤ i ∧ i < (↑a.len : Int) ∧ a.len ≤ a.len)), true), ((decide (i < 100)), true), ((decide (i < (↑a.len : Int))), true), ((decide (i < (↑a.len : Int))), true), ((decide (i < (↑a.len : Int))), true)]) (by kernel_rfl) ⟨h17, (by rw [h13]; rfl), (by rw [h14]; rfl), (by rw [h13]; rfl), (by rw [h14]; rfl), (by rw [h14]; rfl), h3, (by rw [h14]; rfl), (by rw [h14]; rfl), (by rw [h14]; rfl), (by rw [h13]; rfl), (by rw [h13]; rfl), (by rw [h13]; rfl), (by rw [h13]; rfl), (by rw [h13]; rfl), h8, h6, h5, h4, h3, h2, h1, h0, h0, h0, trivial⟩ (cp_next (a) (IntKind.i64.wrap (i + 1)) (IntKind.i64.wrap (c0 + 1)) (c1) (c2) (c3) (c4) (getL [] G) (n) (by (obtain ⟨i0, i1, hn, hok⟩ := hP; have hlt : i < 100 := of_decide_eq_true h1; have hw : IntKind.i64.wrap (i + 1) = i + 1 := wrapI (by omega) (by omega); unfold cpP; rw [hw]; exact ⟨by omega, by omega, by omega, hok⟩)) (by (obtain ⟨i0, i1, hn, hok⟩ := hP; have hlt : i < 100 := of_decide_eq_true h1; rw [wrapI (by omega) (by omega)]; omega)))
    · exact Tri.pathG mixed libC_ok (n := 10000) (k := 10000) (j := 0) (cfg := cpCfg) (o := List.replicate 3 (some true) ++ [some false]) (g' := .out (.out 0)) (fs' := []) (s' := cpS (a) (i) (c0) (c1) (c2) (c3) (c4) (getL [] G) (n)) (asks := [((decide (i < 100)), false), ((decide (i < (↑a.len : Int))), true), ((decide (i < (↑a.len : Int))), true), ((decide (i < (↑a.len : Int))), true)]) (by kernel_rfl) ⟨h1, h0, h0, h0, trivial⟩ (Tri.fin (cp_exit (a) (i) (c0) (c1) (c2) (c3) (c4) (getL [] G) (n)))
  · exact Tri.pathG mixed libC_ok (n := 10000) (k := 10000) (j := 0) (cfg := cpCfg) (o := List.replicate 3 (some false)) (g' := .out (.out 0)) (fs' := []) (s' := cpS (a) (i) (c0) (c1) (c2) (c3) (c4) (getL [] G) (n)) (asks := [((decide (i < (↑a.len : Int))), false), ((decide (i < (↑a.len : Int))), false), ((decide (i < (↑a.len : Int))), false)]) (by kernel_rfl) ⟨h0, h0, h0, trivial⟩ (Tri.fin (cp_exit (a) (i) (c0) (c1) (c2) (c3) (c4) (getL [] G) (n)))
theorem cp_loop (a : CPA) (i c0 c1 c2 c3 c4 : Int) (G : Pl → Int) (n : Nat) (hP : cpP a i c0 c1 c2 c3 c4 G n) : Tri repAt Try.prog cpZ 0 (.go (.loop cpL.1)) cpL.2 (cpS a i c0 c1 c2 c3 c4 G n) cpQ := by
  refine Tri.loop (I := cpI a) (fun k s h => ?_) ⟨_, _, _, _, _, _, _, _, rfl, hP, rfl⟩
  obtain ⟨i, c0, c1, c2, c3, c4, G, n, rfl, hP, hk⟩ := h
  exact cp_round a i c0 c1 c2 c3 c4 G n hP hk
theorem cp_start (a : CPA) (ha : a.ok)  : Tri repAt Try.prog cpZ 0 (.go (bodyOf Try.prog cpF)) [] (⟨argsE [.tsl 0 a.len, .agg [iv a.p0, iv a.p1, iv a.p2], uv a.w], [(0, .rep (.tab a.cols a.len))], 1⟩) (cpQ) := by
  rcases Bool.eq_false_or_eq_true (a.w == 0) with h0 | h0
  · have h1 : (plWfB (a.p0, a.p1, a.p2)) = true := by (obtain ⟨hp, hw, hA⟩ := ha; first | rfl | exact hp | exact wb_put hp hw (by assumption) (by decide))
    exact Tri.pathG mixed libC_ok (n := 10000) (k := 10000) (j := 0) (cfg := cpCfg) (o := [none, none] ++ [some true, some true]) (g' := .go (.loop cpL.1)) (fs' := cpL.2) (s' := cpS (a) (Int.ofNat 0) (Int.ofNat 0) (IntKind.i64.wrap (0 + 1)) (Int.ofNat 0) (Int.ofNat 0) (Int.ofNat 0) (getL [((a.p0, a.p1, a.p2), 0)] zeroG) (0)) (asks := [((plWfB (a.p0, a.p1, a.p2)), true), ((a.w == 0), true)]) (by kernel_rfl) ⟨h1, h0, trivial⟩ (cp_loop (a) (Int.ofNat 0) (Int.ofNat 0) (IntKind.i64.wrap (0 + 1)) (Int.ofNat 0) (Int.ofNat 0) (Int.ofNat 0) (getL [((a.p0, a.p1, a.p2), 0)] zeroG) (0) ⟨by decide, by decide, by decide, ha⟩)
  · have h2 : (plWfB (a.p0, a.p1, a.p2) && (Lit.int IntKind.u64 a.w).wf && a.w != 0 && decide (0 < maxLen)) = true := by (obtain ⟨hp, hw, hA⟩ := ha; first | rfl | exact hp | exact wb_put hp hw (by assumption) (by decide))
    exact Tri.pathG mixed libC_ok (n := 10000) (k := 10000) (j := 0) (cfg := cpCfg) (o := [none, none] ++ [some false] ++ [some true]) (g' := .go (.loop cpL.1)) (fs' := cpL.2) (s' := cpS (a) (Int.ofNat 0) (Int.ofNat 0) (IntKind.i64.wrap (0 + 1)) (Int.ofNat 0) (Int.ofNat 0) (Int.ofNat 0) (getL [((a.p0, a.p1, a.p2), a.w)] zeroG) (1)) (asks := [((plWfB (a.p0, a.p1, a.p2) && (Lit.int IntKind.u64 a.w).wf && a.w != 0 && decide (0 < maxLen)), true), ((a.w == 0), false)]) (by kernel_rfl) ⟨h2, h0, trivial⟩ (cp_loop (a) (Int.ofNat 0) (Int.ofNat 0) (IntKind.i64.wrap (0 + 1)) (Int.ofNat 0) (Int.ofNat 0) (Int.ofNat 0) (getL [((a.p0, a.p1, a.p2), a.w)] zeroG) (1) ⟨by decide, by decide, by decide, ha⟩)
end Go.Proofs.Ytdjogfofedbohaa
end
