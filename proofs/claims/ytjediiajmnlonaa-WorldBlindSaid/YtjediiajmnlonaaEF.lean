/- A region in the order of its text. No condition. -/
import Derived.Test.YtjediiajmnlonaaEE
import Derived.Tactics
namespace Go.Proofs.Ytjediiajmnlonaa

def EnvR (ρ : Names) (e : Env) (a : Act) : Prop := ∀ t s, elook t e = some s → ∃ x, a.tmps[t]? = some x ∧ den ρ s = some x

section
variable {R : Type} {A : RepAt R} {P : Program} {st st' : St R} {ρ ρ' : Names} {e : Env} {a : Act}
theorem EnvR.mono (h : EnvR ρ e a) (hle : ρ.le ρ') : EnvR ρ' e a := fun t s hs => by
  obtain ⟨x, h1, h2⟩ := h t s hs
  exact ⟨x, h1, den_mono hle _ _ h2⟩
theorem EnvR.ev (h : EnvR ρ e a) : Ev ρ (evX e) a := by
  intro x s hx
  cases x with
  | tmp t =>
    obtain ⟨y, h1, h2⟩ := h t s hx
    rw [h2]
    simp only [Act.eval, Array.getD_eq_getD_getElem?, h1]
    rfl
  | const c =>
    simp only [evX, Option.some.injEq] at hx
    subst hx
    rfl
  | func f =>
    simp only [evX, Option.some.injEq] at hx
    subst hx
    rfl
  | global g => cases hx
theorem elook_cons {t k : Nat} {s : SV} : elook t ((k, s) :: e) = if t = k then some s else elook t e := by
  simp only [elook]
  by_cases hm : t = k
  · subst hm; simp
  · have := beq_no hm
    simp [this, hm]
theorem put_size {d : Option Tmp} {x : Value} : (a.put d x).tmps.size = a.tmps.size := by cases d <;> simp [Act.put]
theorem put_defers {d : Option Tmp} {x : Value} : (a.put d x).defers = a.defers := by cases d <;> simp [Act.put]
theorem put_tmps {d : Option Tmp} {x : Value} (t : Nat) : (a.put d x).tmps[t]? = match d with
    | some k => if t = k then (if k < a.tmps.size then some x else none) else a.tmps[t]?
    | none => a.tmps[t]? := by
  cases d with
  | none => rfl
  | some k =>
    simp only [Act.put, Array.getElem?_setIfInBounds]
    by_cases h : t = k
    · subst h; simp
    · rw [if_neg (fun e => h e.symm), if_neg h]
theorem EnvR.put (h : EnvR ρ e a) {d : Option Tmp} {s : SV} {x : Value} (hx : den ρ s = some x) (hd : ∀ k, d = some k → k < a.tmps.size) : EnvR ρ (putX d s e) (a.put d x) := by
  intro t r ht
  cases d with
  | none => exact h t r ht
  | some k =>
    simp only [putX, elook_cons] at ht
    rw [put_tmps]
    by_cases hk : t = k
    · subst hk
      simp only [if_true, Option.some.injEq] at ht
      subst ht
      exact ⟨x, by simp [hd t rfl], hx⟩
    · simp only [hk, if_false] at ht ⊢
      exact h t r ht

/-- An operation behind its guard. -/
theorem one_s {call : Hk R} (hcall : HkOK A P call) {ops : Array Oper} {o : Oper} {ev : Operand → Option SV} {s : SV} (h : oneX P call ops o ev st = .ok s st') : Fn st st' ∧ ∀ B F ρ own w a, Sit A P B F st st' ρ own w → Ev ρ ev a →
    (∀ d, ∀ s, ev (.tmp d) = some s → ∃ x, a.tmps[d]? = some x ∧ den ρ s = some x) → ∀ (K : Act → World → Prop) (Q : Exit → Act → World → Prop), (∀ x ρ' own' w', Tr A P B F st st' ρ own w ρ' own' w' → den ρ' s = some x → K (a.put o.dst x) w') →
    if Region.wanted o (yielded ops a.tmps) then o.wp P a w K Q ∨ (o.asks P a w ∧ LetsOut Q) else K (a.put o.dst undef) w := by
  unfold oneX at h
  cases hg : o.guard with
  | none =>
    rw [hg] at h
    obtain ⟨hf, hs⟩ := op_s hcall h
    refine ⟨hf, fun B F ρ own w a si hev _ K Q hk => ?_⟩
    have : Region.wanted o (yielded ops a.tmps) = true := by simp [Region.wanted, hg]
    rw [if_pos this]
    exact .inl (hs B F ρ own w a si hev K Q hk)
  | some jw =>
    obtain ⟨j, want⟩ := jw
    rw [hg] at h
    simp only at h
    cases hd : (ops[j]?).bind (·.dst) with
    | none => rw [hd] at h; exact (fail_ok.1 h).elim
    | some d =>
      rw [hd] at h
      simp only at h
      obtain ⟨b, _, h5, h6⟩ := bind_ok.1 h
      obtain ⟨hv, rfl⟩ := opt_ok.1 h5
      simp only [Option.bind_eq_some_iff] at hv
      obtain ⟨sv, hv, hsv⟩ := hv
      have hsv : sv = .v (.bool b) := by
        unfold boolOf at hsv
        split at hsv <;> simp_all
      subst hsv
      obtain ⟨r, st1, h1, h2⟩ := bind_ok.1 h6
      obtain ⟨q, hq⟩ := ask_ok h1
      have hy : ∀ {ρ : Names} {a : Act}, (∀ d, ∀ s, ev (.tmp d) = some s → ∃ x, a.tmps[d]? = some x ∧ den ρ s = some x) → Region.wanted o (yielded ops a.tmps) = (b == want) := by
        intro ρ a hl
        obtain ⟨x, h3, h4⟩ := hl d _ hv
        simp only [den, Option.some.injEq] at h4
        subst h4
        simp only [Region.wanted, hg, yielded, hd, Option.bind_some, h3]
        cases b <;> cases want <;> rfl
      cases hrw : (r == want) with
      | true =>
        rw [hrw] at h2
        obtain ⟨hf, hs⟩ := op_s hcall h2
        refine ⟨q.fn.trans hf, fun B F ρ own w a si hev hl K Q hk => ?_⟩
        have hb := hq (fun p hp => si.ask p (hf.ask p hp))
        rw [hy hl, hb, hrw, if_pos rfl]
        exact .inl (hs B F ρ own w a (si.of_quiet q) hev K Q (fun x ρ' own' w' ht hx => hk x ρ' own' w' (Tr.of_quiet q ht) hx))
      | false =>
        rw [hrw] at h2
        obtain ⟨rfl, rfl⟩ := ret_ok.1 h2
        refine ⟨q.fn, fun B F ρ own w a si hev hl K Q hk => ?_⟩
        have hb := hq si.ask
        rw [hy hl, hb, hrw]
        simp only [Bool.false_eq_true, if_false]
        exact hk undef ρ own w (si.quiet q) rfl

theorem seq_s {call : Hk R} (hcall : HkOK A P call) {ops : Array Oper} {sz : Nat} : ∀ {l : List Oper} {e e' : Env} {st st' : St R}, seqX P call ops sz l e st = .ok e' st' → Fn st st' ∧ ∀ B F ρ own w a, Sit A P B F st st' ρ own w → EnvR ρ e a → a.tmps.size = sz →
    ∀ (Q : Exit → Act → World → Prop), (∀ a' ρ' own' w', Tr A P B F st st' ρ own w ρ' own' w' → EnvR ρ' e' a' → a'.tmps.size = sz → a'.defers = a.defers → Q .normal a' w') → wpList P ops Q l a w
  | [], e, e', st, st', h => by
    obtain ⟨rfl, rfl⟩ := ret_ok.1 h
    exact ⟨Fn.refl _, fun B F ρ own w a si he hz Q hk => hk a ρ own w (si.quiet (Quiet.refl _)) he hz rfl⟩
  | o :: l, e, e', st, st', h => by
    obtain ⟨_, _, h1, h2⟩ := bind_ok.1 h
    obtain ⟨hd, rfl⟩ := want_ok.1 h1
    obtain ⟨s, st1, h3, h4⟩ := bind_ok.1 h2
    obtain ⟨f1, hs1⟩ := one_s hcall h3
    obtain ⟨f2, hs2⟩ := seq_s hcall h4
    refine ⟨f1.trans f2, fun B F ρ own w a si he hz Q hk => ?_⟩
    unfold wpList
    refine hs1 B F ρ own w a (si.head f1 f2) he.ev (fun d s hs => he d s hs) _ Q (fun x ρ1 own1 w1 ht hx => ?_)
    refine hs2 B _ ρ1 own1 w1 (a.put o.dst x) (si.next f1 f2 ht) ((he.mono ht.le).put hx (fun k hk => ?_)) (by rw [put_size, hz]) Q (fun a' ρ' own' w' ht' he' hz' hd' => hk a' ρ' own' w' (ht.trans ht' f1 f2 (f1.wf si.wf)) he' hz' (by rw [hd', put_defers]))
    rw [hk] at hd
    rw [hz]
    simpa [Nat.blt_eq] using hd
end
end Go.Proofs.Ytjediiajmnlonaa
