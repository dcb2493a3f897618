/- A region whose order is open: the machine, in whatever order, comes where the walk in the text's order comes. No condition. -/
import Derived.Test.YtjediiajmnlonaaEH
namespace Go.Proofs.Ytjediiajmnlonaa

section
variable {R : Type} {A : RepAt R} {P : Program}

theorem touches_iff {s t : St R} {ops : Array Oper} {o : Oper} {n : Nat} : touches (logOf s t ops o) n = true ↔ n ∈ t.wr ∨ newN s t n := by
  simp only [touches, logOf, Bool.or_eq_true, memN_iff, Bool.and_eq_true, newN]
  simp [Nat.blt_eq, Nat.ble_eq]

/-- What is known of the operations of one region. -/
structure Ctx (A : RepAt R) (P : Program) (call : Hk R) (ops : Array Oper) (sz n : Nat) (E : Nat → Env) (S T : Nat → St R) (V : Nat → SV) (L : Nat → Log) : Prop where
  cok : HkOK A P call
  size : ops.size = n
  link : ∀ i o, ops[i]? = some o → Link P call ops sz i o (S i) (T i) (S (i + 1)) (E i) (E (i + 1)) (V i) (L i)
  wf : Wf (S 0)
  ord : ∀ i j, i < j → j < n → clash (L i) (L j) = true → ∀ D, Closed ops.toList D → D j = true → D i = true

variable {call : Hk R} {ops : Array Oper} {sz n : Nat} {E : Nat → Env} {S T : Nat → St R} {V : Nat → SV} {L : Nat → Log}

theorem Ctx.op (c : Ctx A P call ops sz n E S T V L) {i : Nat} (hi : i < n) : ∃ o, ops[i]? = some o := ⟨ops[i]'(by rw [c.size]; exact hi), Array.getElem?_eq_getElem _⟩
theorem Ctx.fnB (c : Ctx A P call ops sz n E S T V L) {i : Nat} (hi : i < n) : Fn (S i).bare (T i) := by
  obtain ⟨o, ho⟩ := c.op hi
  exact ((c.link i o ho).fn c.cok).1
theorem Ctx.fn1 (c : Ctx A P call ops sz n E S T V L) {i : Nat} (hi : i < n) : Fn (S i) (S (i + 1)) := by
  obtain ⟨o, ho⟩ := c.op hi
  exact ((c.link i o ho).fn c.cok).2
theorem Ctx.fn (c : Ctx A P call ops sz n E S T V L) {i : Nat} : ∀ {j}, i ≤ j → j ≤ n → Fn (S i) (S j)
  | 0, h, _ => by
    obtain rfl : i = 0 := by omega
    exact Fn.refl _
  | j + 1, h, hj => by
    by_cases e : i = j + 1
    · subst e; exact Fn.refl _
    · exact (c.fn (j := j) (by omega) (by omega)).trans (c.fn1 (by omega))
theorem Ctx.wfS (c : Ctx A P call ops sz n E S T V L) {i : Nat} (hi : i ≤ n) : Wf (S i) := (c.fn (Nat.zero_le i) hi).wf c.wf
theorem Ctx.wfT (c : Ctx A P call ops sz n E S T V L) {i : Nat} (hi : i < n) : Wf (T i) := (c.fnB hi).wf (bare_wf (c.wfS (Nat.le_of_lt hi)))
theorem join_hp {t s : St R} : (t.join s).hp = t.hp ∧ (t.join s).nx = t.nx ∧ (t.join s).fr = uniN t.fr s.fr ∧ (t.join s).wr = uniN t.wr s.wr ∧ (t.join s).ask = t.ask := ⟨rfl, rfl, rfl, rfl, rfl⟩
theorem Ctx.next (c : Ctx A P call ops sz n E S T V L) {i : Nat} (hi : i < n) : (S (i + 1)).hp = (T i).hp ∧ (S (i + 1)).nx = (T i).nx ∧ (S (i + 1)).fr = uniN (T i).fr (S i).fr ∧ (S (i + 1)).wr = uniN (T i).wr (S i).wr ∧ (S (i + 1)).ask = (T i).ask := by
  obtain ⟨o, ho⟩ := c.op hi
  rw [(c.link i o ho).st]
  exact join_hp

def nw (S T : Nat → St R) (i m : Nat) : Prop := newN (S i) (T i) m
def tch (L : Nat → Log) (m i : Nat) : Bool := touches (L i) m
theorem Ctx.tch_iff (c : Ctx A P call ops sz n E S T V L) {i m : Nat} (hi : i < n) : tch L m i = true ↔ m ∈ (T i).wr ∨ nw S T i m := by
  obtain ⟨o, ho⟩ := c.op hi
  unfold tch nw
  rw [(c.link i o ho).log]
  exact touches_iff
theorem Ctx.new_disj (c : Ctx A P call ops sz n E S T V L) {i j m : Nat} (hi : i < n) (hj : j < n) (h1 : nw S T i m) (h2 : nw S T j m) : i = j := by
  have key : ∀ {a b : Nat}, a < b → b < n → nw S T a m → nw S T b m → False := by
    intro a b hab hb h1 h2
    have := (c.fn (i := a + 1) (j := b) hab (Nat.le_of_lt hb)).nx
    rw [(c.next (by omega)).2.1] at this
    unfold nw newN at h1 h2
    omega
  rcases Nat.lt_trichotomy i j with h | h | h
  · exact (key h hj h1 h2).elim
  · exact h
  · exact (key h hi h2 h1).elim
/-- The text's memory, step by step. -/
theorem Ctx.hpStep (c : Ctx A P call ops sz n E S T V L) (m : Nat) {k : Nat} (hk : k < n) : hget m (S (k + 1)).hp = if tch L m k = true then hget m (T k).hp else hget m (S k).hp := by
  rw [(c.next hk).1]
  split
  · rfl
  · next h =>
    rw [c.tch_iff hk, not_or] at h
    rcases Nat.lt_or_ge m (S k).nx with hl | hl
    · exact (c.fnB hk).hp m h.1 hl
    · have : (T k).nx ≤ m := by
        have := h.2
        unfold nw newN at this
        omega
      rw [(c.wfT hk).top m this, (c.wfS (Nat.le_of_lt hk)).top m hl]
def hitO : Option Tmp → Nat → Bool
  | some d, t => Nat.beq d t
  | none, _ => false
theorem hitO_iff {o : Option Tmp} {t : Nat} : hitO o t = true ↔ o = some t := by
  cases o with
  | none => simp [hitO]
  | some d =>
    simp only [hitO, Option.some.injEq]
    exact ⟨Nat.eq_of_beq_eq_true, fun h => by subst h; simp⟩
def hits (L : Nat → Log) (t i : Nat) : Bool := hitO (L i).dst t
theorem Ctx.envStep (c : Ctx A P call ops sz n E S T V L) (t : Nat) {k : Nat} (hk : k < n) : elook t (E (k + 1)) = if hits L t k = true then some (V k) else elook t (E k) := by
  obtain ⟨o, ho⟩ := c.op hk
  have hl := c.link k o ho
  have hd : (L k).dst = o.dst := by rw [hl.log]; rfl
  rw [hl.env]
  by_cases hh : hits L t k = true
  · rw [if_pos hh]
    have := hitO_iff.1 hh
    rw [hd] at this
    rw [this]
    simp [putX, elook_cons]
  · rw [if_neg hh]
    have hne : o.dst ≠ some t := fun e => hh (hitO_iff.2 (hd.trans e))
    cases ho2 : o.dst with
    | none => rfl
    | some d =>
      rw [putX, elook_cons, if_neg (fun e => hne (by rw [ho2, e]))]

theorem any_of {l : List Nat} {f : Nat → Bool} {m : Nat} (h : m ∈ l) (hf : f m = true) : l.any f = true := List.any_eq_true.2 ⟨m, h, hf⟩
theorem Ctx.clash_fr (c : Ctx A P call ops sz n E S T V L) {i j m : Nat} (hi : i < n) (hj : j < n) (hm : m ∈ (T i).fr) (ht : tch L m j = true) : clash (L i) (L j) = true ∧ clash (L j) (L i) = true := by
  obtain ⟨o, ho⟩ := c.op hi
  obtain ⟨p, hp⟩ := c.op hj
  have e : (L i).fr = (T i).fr := by rw [(c.link i o ho).log]; rfl
  have h : (L i).fr.any (touches (L j)) = true := any_of (by rw [e]; exact hm) ht
  unfold clash
  rw [h]
  simp
theorem Ctx.clash_tt (c : Ctx A P call ops sz n E S T V L) {i j m : Nat} (hi : i < n) (hj : j < n) (hne : i ≠ j) (h1 : tch L m i = true) (h2 : tch L m j = true) : clash (L i) (L j) = true := by
  rcases (c.tch_iff hi).1 h1 with h3 | h3
  · exact (c.clash_fr hi hj ((c.wfT hi).wr m h3).1 h2).1
  · rcases (c.tch_iff hj).1 h2 with h4 | h4
    · exact (c.clash_fr hj hi ((c.wfT hj).wr m h4).1 h1).2
    · exact absurd (c.new_disj hi hj h3 h4) hne

/-- How things stand when those of D have been carried out. -/
structure RI (A : RepAt R) (P : Program) (B : Nat) (F WR : Nat → Prop) (sz n : Nat) (E : Nat → Env) (S T : Nat → St R) (V : Nat → SV) (L : Nat → Log) (ρ0 : Names) (own0 : Nat → List Nat) (w0 : World) (a0 : Act) (D : Nat → Bool) (ρ : Names) (own : Nat → List Nat) (a : Act) (w : World) : Prop where
  le : ρ0.le ρ
  out : ∀ m, (∀ i, i < n → D i = true → ¬ nw S T i m) → ρ m = ρ0 m
  same : ∀ m, (∀ i, i < n → D i = true → tch L m i = false) → own m = own0 m
  pool : ∀ m i, i < n → D i = true → tch L m i = true → ∀ b ∈ own m, w0.heap.size ≤ b ∨ ∃ k, WR k ∧ k < (S 0).nx ∧ b ∈ own0 k
  li : LI A P B ρ own (mkL (S n).nx fun m => view (hget m (S 0).hp) (fun i => hget m (T i).hp) (fun j => D j && tch L m j) n) (fun m => F m ∨ ∃ i, i < n ∧ D i = true ∧ nw S T i m) w
  mod : ModP (fun b => ∃ k, WR k ∧ k < (S 0).nx ∧ b ∈ own0 k) w0 w
  env : ∀ t s, view (elook t (E 0)) (fun i => some (V i)) (fun j => D j && hits L t j) n = some s → ∃ x, a.tmps[t]? = some x ∧ den ρ s = some x
  size : a.tmps.size = sz
  defers : a.defers = a0.defers

variable {B : Nat} {F WR : Nat → Prop} {ρ0 ρ : Names} {own0 own : Nat → List Nat} {w0 w : World} {a0 a : Act} {D : Nat → Bool}

/-- One more of those that are ready. -/
theorem RI.step (c : Ctx A P call ops sz n E S T V L) (h : RI A P B F WR sz n E S T V L ρ0 own0 w0 a0 D ρ own a w) (hB : B ≤ w0.heap.size) (hfr : ∀ m, (S 0).nx ≤ m → m < (S n).nx → ρ0 m = none) (hF : ∀ m ∈ (S n).fr, F m) (hWR : ∀ m ∈ (S n).wr, WR m) (hask : ∀ p ∈ (S n).ask, p.1 = p.2)
    {i : Nat} (hi : i < n) (hD : D i = false) (hcl : Closed ops.toList D) (hready : ∀ o, ops[i]? = some o → ∀ e ∈ o.after, Region.binds .any e = true → D e.on = true) {D' : Nat → Bool} (hD' : ∀ j, D' j = (D j || j == i))
    {Q : Exit → Act → World → Prop} {K : Act → World → Prop} (hK : ∀ ρ' own' a' w', RI A P B F WR sz n E S T V L ρ0 own0 w0 a0 D' ρ' own' a' w' → K a' w') : wpOp P ops Q i K a w := by
  obtain ⟨o, ho⟩ := c.op hi
  have hln := c.link i o ho
  -- order
  have hclD : Closed ops.toList D' := fun j p hp hj e he hb => by
    rw [hD'] at hj ⊢
    by_cases e2 : j = i
    · subst e2
      have : p = o := by
        have h1 : ops[j]? = some p := by simpa using hp
        rw [ho] at h1
        injection h1 with h1
        exact h1.symm
      subst this
      rw [hready p ho e he hb]
      rfl
    · have : (j == i) = false := by simpa using e2
      rw [this, Bool.or_false] at hj
      rw [hcl j p hp hj e he hb]
      rfl
  have before : ∀ j, j < i → clash (L j) (L i) = true → D j = true := fun j hj hc => by
    have := c.ord j i hj hi hc D' hclD (by rw [hD']; simp)
    rw [hD'] at this
    have e : (j == i) = false := by simp; omega
    rwa [e, Bool.or_false] at this
  have behind : ∀ j, i < j → j < n → clash (L i) (L j) = true → D j = false := fun j hj hjn hc => by
    cases hDj : D j with
    | false => rfl
    | true =>
      have := c.ord i j hj hjn hc D hcl hDj
      rw [hD] at this
      cases this
  have hN : ∀ {m : Nat} {x : Chunk R} {k : Nat}, k < n → hget m (T k).hp = some x → m < (S n).nx := fun {m x k} hk hx => by
    have h1 := (c.wfT hk).lt hx
    have h2 := (c.fn (i := k + 1) (j := n) (by omega) (Nat.le_refl _)).nx
    rw [(c.next hk).2.1] at h2
    omega
  have hN0 : ∀ {m : Nat} {x : Chunk R} {k : Nat}, k ≤ n → hget m (S k).hp = some x → m < (S n).nx := fun {m x k} hk hx => by
    have h1 := (c.wfS hk).lt hx
    have h2 := (c.fn (i := k) (j := n) hk (Nat.le_refl _)).nx
    omega
  -- what the operation looks at stands as in the text
  have atFr : ∀ m ∈ (T i).fr, view (hget m (S 0).hp) (fun i => hget m (T i).hp) (fun j => D j && tch L m j) n = hget m (S i).hp := fun m hm =>
    view_at (X := fun k => hget m (S k).hp) rfl (fun k hk => c.hpStep m hk) (Nat.le_of_lt hi) (fun j hj ht => before j hj (c.clash_fr hi (by omega) hm ht).2) (fun j h1 h2 ht => by
      by_cases e : j = i
      · rw [e]; exact hD
      · exact behind j (by omega) h2 (c.clash_fr hi h2 hm ht).1)
  have atLk : ∀ t ∈ o.looksAt ops, view (elook t (E 0)) (fun i => some (V i)) (fun j => D j && hits L t j) n = elook t (E i) := fun t ht =>
    view_at (X := fun k => elook t (E k)) rfl (fun k hk => c.envStep t hk) (Nat.le_of_lt hi) (fun j hj hh => before j hj (by
      have hd := hitO_iff.1 hh
      have hl : memN t (L i).looks = true := by rw [hln.log]; exact memN_iff.2 ht
      unfold clash
      simp [hd, hl])) (fun j h1 h2 hh => by
      by_cases e : j = i
      · rw [e]; exact hD
      · refine behind j (by omega) h2 ?_
        have hd := hitO_iff.1 hh
        have hl : memN t (L i).looks = true := by rw [hln.log]; exact memN_iff.2 ht
        unfold clash
        simp [hd, hl])
  obtain ⟨hfn, hs⟩ := one_s c.cok hln.run
  have hTn : ∀ m, m ∈ (T i).fr → m ∈ (S n).fr := fun m hm => (c.fn (i := i + 1) (j := n) hi (Nat.le_refl _)).fr m (by rw [(c.next hi).2.2.1]; exact mem_uni.2 (.inl hm))
  have hTw : ∀ m, m ∈ (T i).wr → m ∈ (S n).wr := fun m hm => (c.fn (i := i + 1) (j := n) hi (Nat.le_refl _)).wr m (by rw [(c.next hi).2.2.2.1]; exact mem_uni.2 (.inl hm))
  obtain ⟨G, hG⟩ : ∃ G : Nat → Prop, G = fun m => (F m ∨ ∃ j, j < n ∧ D j = true ∧ nw S T j m) ∧ hget m (S i).hp = hget m (mkL (S n).nx fun m => view (hget m (S 0).hp) (fun i => hget m (T i).hp) (fun j => D j && tch L m j) n) := ⟨_, rfl⟩
  have hGfr : ∀ m ∈ (T i).fr, G m := fun m hm => by
    rw [hG]
    refine ⟨.inl (hF m (hTn m hm)), ?_⟩
    rw [hget_mkL]
    split
    · exact (atFr m hm).symm
    · next hlt =>
      cases hx : hget m (S i).hp with
      | none => rfl
      | some x => exact absurd (hN0 (Nat.le_of_lt hi) hx) hlt
  have sit : Sit A P B G (S i).bare (T i) ρ own w := by
    refine ⟨hGfr, bare_wf (c.wfS (Nat.le_of_lt hi)), fun m hm => ?_, ?_, fun p hp => ?_, Nat.le_trans hB h.mod.size⟩
    · rw [h.out m (fun j hj hDj hx => by
        have := c.new_disj hj hi hx hm
        rw [this, hD] at hDj
        cases hDj)]
      have h1 := (c.fn (i := 0) (j := i) (Nat.zero_le _) (Nat.le_of_lt hi)).nx
      have h2 := (c.fn (i := i + 1) (j := n) hi (Nat.le_refl _)).nx
      rw [(c.next hi).2.1] at h2
      have h3 := hm.1
      have h4 := hm.2
      change (S i).nx ≤ m at h3
      exact hfr m (by omega) (by omega)
    · refine ⟨fun m x hm hx => ?_, fun m k x y hm hk hne hx hy => ?_, fun m x hm hx => ?_⟩
      · rw [hG] at hm
        change hget m (S i).hp = some x at hx
        rw [hm.2] at hx
        exact h.li.at_ m x hm.1 hx
      · rw [hG] at hm hk
        change hget m (S i).hp = some x at hx
        change hget k (S i).hp = some y at hy
        rw [hm.2] at hx
        rw [hk.2] at hy
        exact h.li.dis m k x y hm.1 hk.1 hne hx hy
      · rw [hG] at hm
        change hget m (S i).hp = some x at hx
        rw [hm.2] at hx
        exact h.li.low m x hm.1 hx
    · have := (c.fn (i := i + 1) (j := n) hi (Nat.le_refl _)).ask
      rw [(c.next hi).2.2.2.2] at this
      exact hask p (this p hp)
  have hlook : ∀ d s, evR (o.looksAt ops) (E i) (.tmp d) = some s → ∃ x, a.tmps[d]? = some x ∧ den ρ s = some x := by
    intro d s hd
    simp only [evR] at hd
    split at hd
    · next hm =>
      refine h.env d s ?_
      rw [atLk d (memN_iff.1 hm)]
      exact hd
    · cases hd
  have hev : Ev ρ (evR (o.looksAt ops) (E i)) a := by
    intro x s hx
    cases x with
    | tmp t =>
      obtain ⟨y, h1, h2⟩ := hlook t s hx
      rw [h2]
      simp only [Act.eval, Array.getD_eq_getD_getElem?, h1]
      rfl
    | const v =>
      simp only [evR, evX, Option.some.injEq] at hx
      subst hx
      rfl
    | func f =>
      simp only [evR, evX, Option.some.injEq] at hx
      subst hx
      rfl
    | global g => cases hx
  unfold wpOp
  rw [ho]
  refine hs B G ρ own w a sit hev hlook K Q (fun x ρ' own' w' ht hx => hK ρ' own' (a.put o.dst x) w' ?_)
  have tchi : ∀ m, tch L m i = true ↔ m ∈ (T i).wr ∨ nw S T i m := fun m => c.tch_iff hi
  have hwT := c.wfT hi
  have vset : ∀ m, view (hget m (S 0).hp) (fun i => hget m (T i).hp) (fun j => D' j && tch L m j) n = if tch L m i = true then hget m (T i).hp else view (hget m (S 0).hp) (fun i => hget m (T i).hp) (fun j => D j && tch L m j) n := fun m =>
    view_set hi hD' (fun hti j h1 h2 htj => behind j h1 h2 (c.clash_tt hi h2 (by omega) hti htj))
  -- written names were there
  have alive : ∀ m ∈ (T i).wr, ¬ nw S T i m → ∃ x, hget m (S i).hp = some x := fun m hm hnn => by
    rcases hfn.al m hm with h1 | h1 | h1
    · cases h1
    · exact absurd ⟨h1, (hwT.wr m hm).2⟩ hnn
    · exact h1
  have notnew : ∀ m ∈ (T i).wr, ¬ nw S T i m → ∀ x, hget m (S i).hp = some x → (F m ∨ ∃ j, j < n ∧ D j = true ∧ nw S T j m) ∧ hget m (mkL (S n).nx fun m => view (hget m (S 0).hp) (fun i => hget m (T i).hp) (fun j => D j && tch L m j) n) = some x := fun m hm _ x hx => by
    have := hGfr m (hwT.wr m hm).1
    rw [hG] at this
    exact ⟨this.1, this.2.symm.trans hx⟩
  -- a written block was known, or is new
  have back : ∀ m ∈ (T i).wr, ¬ nw S T i m → ∀ b ∈ own m, w0.heap.size ≤ b ∨ ∃ k, WR k ∧ k < (S 0).nx ∧ b ∈ own0 k := by
    intro m hm hnn b hb
    by_cases hex : ∃ j, j < n ∧ D j = true ∧ tch L m j = true
    · obtain ⟨j, hj, hDj, htj⟩ := hex
      exact h.pool m j hj hDj htj b hb
    · rw [h.same m (fun j hj hDj => by
        cases ht : tch L m j with
        | false => rfl
        | true => exact absurd ⟨j, hj, hDj, ht⟩ hex)] at hb
      refine .inr ⟨m, hWR m (hTw m hm), ?_, hb⟩
      obtain ⟨x, hx⟩ := alive m hm hnn
      rcases Nat.lt_or_ge m (S 0).nx with hlt | hge
      · exact hlt
      · exfalso
        have hv := (notnew m hm hnn x hx).2
        rw [hget_mkL] at hv
        split at hv
        · have hnone : view (hget m (S 0).hp) (fun i => hget m (T i).hp) (fun j => D j && tch L m j) n = hget m (S 0).hp := by
            rw [view_above (i := 0) (Nat.zero_le _) (fun j _ hj => by
              cases hDj : D j with
              | false => rfl
              | true =>
                cases ht : tch L m j with
                | false => rfl
                | true => exact absurd ⟨j, hj, hDj, ht⟩ hex)]
            rfl
          rw [hnone, c.wf.top m hge] at hv
          cases hv
        · cases hv
  refine ⟨h.le.trans ht.le, fun m hm => ?_, fun m hm => ?_, fun m j hj hDj htj b hb => ?_, ?_, ?_, fun t s hts => ?_, by rw [put_size]; exact h.size, by rw [put_defers]; exact h.defers⟩
  · rw [ht.out m (hm i hi (by rw [hD']; simp))]
    exact h.out m (fun j hj hDj => hm j hj (by rw [hD', hDj]; rfl))
  · have hti := hm i hi (by rw [hD']; simp)
    have hti' : ¬ (m ∈ (T i).wr ∨ nw S T i m) := by rw [← tchi, hti]; simp
    rw [not_or] at hti'
    rw [ht.same m hti'.2 hti'.1]
    exact h.same m (fun j hj hDj => hm j hj (by rw [hD', hDj]; rfl))
  · by_cases hti : m ∈ (T i).wr ∨ nw S T i m
    · rcases ht.pool m hti.symm b hb with h1 | ⟨k, h1, h2, h3⟩
      · exact .inl (Nat.le_trans h.mod.size h1)
      · exact back k h1 h2 b h3
    · rw [not_or] at hti
      rw [ht.same m hti.2 hti.1] at hb
      have hji : j ≠ i := fun e => by
        subst e
        exact ((tchi m).1 htj).elim hti.1 hti.2
      have : (j == i) = false := by simpa using hji
      rw [hD', this, Bool.or_false] at hDj
      exact h.pool m j hj hDj htj b hb
  · -- the memory
    refine h.li.step (X := fun m => m ∈ (T i).wr ∨ nw S T i m) ht.mod ht.le (fun b hb => ?_) (fun m x hm hX hx => ?_) (fun m x _ hX hx => ?_) (fun m x _ hX hx b hb => ?_) (fun m k x y _ _ h1 h2 hne hx hy => ?_)
    · obtain ⟨m, h1, h2, h3⟩ := hb
      obtain ⟨x, hx⟩ := alive m h1 h2
      obtain ⟨h4, h5⟩ := notnew m h1 h2 x hx
      exact ⟨m, x, .inl h1, h4, h5, h3⟩
    · rw [not_or] at hX
      have hti : tch L m i = false := by
        cases ht : tch L m i with
        | false => rfl
        | true => exact (((tchi m).1 ht).elim hX.1 hX.2).elim
      rw [hget_mkL] at hx
      split at hx
      · next hlt =>
        rw [vset m, hti] at hx
        simp only [Bool.false_eq_true, if_false] at hx
        refine ⟨?_, by rw [hget_mkL, if_pos hlt]; exact hx, ht.same m hX.2 hX.1⟩
        rcases hm with h1 | ⟨j, hj, hDj, hnj⟩
        · exact .inl h1
        · rw [hD'] at hDj
          by_cases e : j = i
          · subst e; exact absurd hnj hX.2
          · have : (j == i) = false := by simpa using e
            rw [this, Bool.or_false] at hDj
            exact .inr ⟨j, hj, hDj, hnj⟩
      · cases hx
    · rw [hget_mkL] at hx
      split at hx
      · rw [vset m, if_pos ((tchi m).2 hX)] at hx
        refine ht.li.at_ m x ?_ hx
        rcases hX with h1 | h1
        · exact .inl (hGfr m (hwT.wr m h1).1)
        · exact .inr h1
      · cases hx
    · rw [hget_mkL] at hx
      split at hx
      · rw [vset m, if_pos ((tchi m).2 hX)] at hx
        have hlow := ht.li.low m x (by
          rcases hX with h1 | h1
          · exact .inl (hGfr m (hwT.wr m h1).1)
          · exact .inr h1) hx b hb
        refine ⟨hlow.2, hlow.1, ?_⟩
        rcases ht.pool m hX.symm b hb with h1 | ⟨k, h1, h2, h3⟩
        · exact .inl h1
        · obtain ⟨y, hy⟩ := alive k h1 h2
          obtain ⟨h4, h5⟩ := notnew k h1 h2 y hy
          exact .inr ⟨k, y, .inl h1, h4, h5, h3⟩
      · cases hx
    · rw [hget_mkL] at hx hy
      split at hx <;> try cases hx
      split at hy <;> try cases hy
      rw [vset m, if_pos ((tchi m).2 h1)] at hx
      rw [vset k, if_pos ((tchi k).2 h2)] at hy
      have inF : ∀ {z}, (z ∈ (T i).wr ∨ nw S T i z) → G z ∨ newN (S i).bare (T i) z := fun {z} hz => by
        rcases hz with h1 | h1
        · exact .inl (hGfr z (hwT.wr z h1).1)
        · exact .inr h1
      exact ht.li.dis m k x y (inF h1) (inF h2) hne hx hy
  · refine h.mod.trans ht.mod (fun b hb ⟨m, h1, h2, h3⟩ => ?_)
    exact (back m h1 h2 b h3).resolve_left (by omega)
  · rw [view_set hi hD' (fun hti j h1 h2 htj => behind j h1 h2 (by
      have hd := hitO_iff.1 hti
      have hd2 := hitO_iff.1 htj
      unfold clash
      simp [hd, hd2]))] at hts
    rw [put_tmps]
    have hdst : (L i).dst = o.dst := by rw [hln.log]; rfl
    split at hts
    · next hh =>
      simp only [Option.some.injEq] at hts
      subst hts
      have hd := hitO_iff.1 hh
      rw [hdst] at hd
      refine ⟨x, ?_, hx⟩
      rw [hd]
      simp [h.size, hln.dst t hd]
    · next hh =>
      obtain ⟨y, h1, h2⟩ := h.env t s hts
      refine ⟨y, ?_, den_mono ht.le _ _ h2⟩
      cases hd : o.dst with
      | none => exact h1
      | some d =>
        have : t ≠ d := fun e => hh (hitO_iff.2 (by rw [hdst, hd, e]))
        simp only [this, if_false]
        exact h1
end
end Go.Proofs.Ytjediiajmnlonaa
