/- The executor is right: what it says of a call, the machine does. Condition: the program follows the looser reading of Go's order. -/
import Derived.Test.YtjediiajmnlonaaEJ
import Derived.LoopN
namespace Go.Proofs.Ytjediiajmnlonaa

def Ex.exit : Ex → Exit
  | .nor => .normal
  | .ret => .ret
  | .out id => .exit id

section
variable {R : Type} {A : RepAt R} {P : Program} {st st1 st' : St R} {B : Nat} {F : Nat → Prop} {ρ ρ' : Names} {own own' : Nat → List Nat} {w w' : World}

def CodeS (A : RepAt R) (P : Program) (sz : Nat) (G : (Exit → Act → World → Prop) → Act → World → Prop) (e : Env) (st st' : St R) (r : Ex × Env) : Prop := Fn st st' ∧ ∀ B F ρ own w a, Sit A P B F st st' ρ own w → EnvR ρ e a → a.tmps.size = sz →
  ∀ (Q : Exit → Act → World → Prop), (∀ a' ρ' own' w', Tr A P B F st st' ρ own w ρ' own' w' → EnvR ρ' r.2 a' → a'.tmps.size = sz → a'.defers = a.defers → Q r.1.exit a' w') → G Q a w
def RunOK (A : RepAt R) (P : Program) (run : Nat → Code → Env → M R (Ex × Env)) : Prop := ∀ sz c e st r st', run sz c e st = .ok r st' → CodeS A P sz (fun Q a w => c.wp P Q a w) e st st' r

theorem region_plain {id : Nat} {ops : Array Oper} {Q : Exit → Act → World → Prop} {a : Act} (h : wpList P ops Q ops.toList a w) : (Code.region id ops false).wp P Q a w := by
  refine wp_region ?_
  have e := wpOps_eq_wpList (P := P) (ops := ops) (Q := Q) ops.toList 0 (fun j => by simp)
  rw [show List.range' 0 ops.toList.length = List.range ops.size by simp [List.range_eq_range']] at e
  rw [e]
  exact h

theorem CodeS.seq {sz : Nat} {e e1 e' : Env} {x y : Code} {ex : Ex} (h1 : CodeS A P sz (fun Q a w => x.wp P Q a w) e st st1 (.nor, e1)) (h2 : CodeS A P sz (fun Q a w => y.wp P Q a w) e1 st1 st' (ex, e')) :
    CodeS A P sz (fun Q a w => (Code.seq x y).wp P Q a w) e st st' (ex, e') := by
  refine ⟨h1.1.trans h2.1, fun B F ρ own w a si he hz Q hk => wp_seq ?_⟩
  refine h1.2 B F ρ own w a (si.head h1.1 h2.1) he hz _ (fun a1 ρ1 own1 w1 t1 he1 hz1 hd1 => ?_)
  exact h2.2 B _ ρ1 own1 w1 a1 (si.next h1.1 h2.1 t1) he1 hz1 Q (fun a' ρ' own' w' t2 he2 hz2 hd2 => hk a' ρ' own' w' (t1.trans t2 h1.1 h2.1 (h1.1.wf si.wf)) he2 hz2 (hd2.trans hd1))

theorem code_s (hm : P.follows .mixedOrders = true) {call : Hk R} (hcall : HkOK A P call) {run : Nat → Code → Env → M R (Ex × Env)} (hrun : RunOK A P run) {sz : Nat} {c : Code} {e : Env} {r : Ex × Env} (hnl : ∀ c', c ≠ .loop c') (h : codeF P call run sz c e st = .ok r st') :
    CodeS A P sz (fun Q a w => c.wp P Q a w) e st st' r := by
  unfold codeF at h
  split at h
  · obtain ⟨rfl, rfl⟩ := ret_ok.1 h
    exact ⟨Fn.refl _, fun B F ρ own w a si he hz Q hk => wp_skip (hk a ρ own w (si.quiet (Quiet.refl _)) he hz rfl)⟩
  · obtain ⟨e1, st1, h1, h2⟩ := bind_ok.1 h
    obtain ⟨rfl, rfl⟩ := ret_ok.1 h2
    obtain ⟨hf, hs⟩ := seq_s hcall h1
    exact ⟨hf, fun B F ρ own w a si he hz Q hk => region_plain (hs B F ρ own w a si he hz Q hk)⟩
  · obtain ⟨⟨e1, ls⟩, st1, h1, h2⟩ := bind_ok.1 h
    obtain ⟨_, _, h3, h4⟩ := bind_ok.1 h2
    obtain ⟨ho, rfl⟩ := want_ok.1 h3
    obtain ⟨rfl, rfl⟩ := ret_ok.1 h4
    obtain ⟨hf, hs⟩ := draw_s hm hcall h1 ho
    exact ⟨hf, fun B F ρ own w a si he hz Q hk => hs B F ρ own w a si he hz Q hk⟩
  · next x y =>
    obtain ⟨⟨ex, e1⟩, st1, h1, h2⟩ := bind_ok.1 h
    have g1 := hrun _ _ _ _ _ _ h1
    cases ex with
    | nor =>
      obtain ⟨ex2, e2⟩ := r
      exact g1.seq (hrun _ _ _ _ _ _ h2)
    | ret =>
      obtain ⟨rfl, rfl⟩ := ret_ok.1 h2
      exact ⟨g1.1, fun B F ρ own w a si he hz Q hk => wp_seq (g1.2 B F ρ own w a si he hz _ hk)⟩
    | out id =>
      obtain ⟨rfl, rfl⟩ := ret_ok.1 h2
      exact ⟨g1.1, fun B F ρ own w a si he hz Q hk => wp_seq (g1.2 B F ρ own w a si he hz _ hk)⟩
  · next c x y =>
    obtain ⟨s, _, h1, h2⟩ := bind_ok.1 h
    obtain ⟨hs, rfl⟩ := opt_ok.1 h1
    split at h2
    · next t =>
      obtain ⟨b, st1, h3, h4⟩ := bind_ok.1 h2
      obtain ⟨q, hq⟩ := ask_ok h3
      have key : ∀ {z : Code}, (if t = true then x else y) = z ∨ True → run sz z e st1 = .ok r st' → ((∀ p ∈ st'.ask, p.1 = p.2) → (if t = true then x else y) = z) → CodeS A P sz (fun Q a w => (Code.cond c x y).wp P Q a w) e st st' r := by
        intro z _ hz hsel
        have g := hrun _ _ _ _ _ _ hz
        refine ⟨q.fn.trans g.1, fun B F ρ own w a si he hsz Q hk => ?_⟩
        have ev := he.ev _ _ hs
        simp only [den, Option.some.injEq] at ev
        refine wp_cond ev.symm ?_
        rw [hsel si.ask]
        exact g.2 B F ρ own w a (si.of_quiet q) he hsz Q (fun a' ρ' own' w' t' => hk a' ρ' own' w' (Tr.of_quiet q t'))
      cases b with
      | true =>
        refine key (.inr trivial) h4 (fun ha => ?_)
        rw [hq (fun p hp => ha p ((hrun _ _ _ _ _ _ h4).1.ask p hp)), if_pos rfl]
      | false =>
        refine key (.inr trivial) h4 (fun ha => ?_)
        rw [hq (fun p hp => ha p ((hrun _ _ _ _ _ _ h4).1.ask p hp))]
        rfl
    · exact (fail_ok.1 h2).elim
  · next id c =>
    obtain ⟨⟨ex, e1⟩, st1, h1, h2⟩ := bind_ok.1 h
    have g1 := hrun _ _ _ _ _ _ h1
    cases ex with
    | nor =>
      obtain ⟨rfl, rfl⟩ := ret_ok.1 h2
      exact ⟨g1.1, fun B F ρ own w a si he hz Q hk => wp_block (g1.2 B F ρ own w a si he hz _ hk)⟩
    | ret =>
      obtain ⟨rfl, rfl⟩ := ret_ok.1 h2
      exact ⟨g1.1, fun B F ρ own w a si he hz Q hk => wp_block (g1.2 B F ρ own w a si he hz _ hk)⟩
    | out id' =>
      simp only at h2
      cases hb : Nat.beq id' id with
      | true =>
        rw [hb] at h2
        obtain ⟨rfl, rfl⟩ := ret_ok.1 h2
        have hid := Nat.eq_of_beq_eq_true hb
        refine ⟨g1.1, fun B F ρ own w a si he hz Q hk => wp_block (g1.2 B F ρ own w a si he hz _ (fun a' ρ' own' w' t' he' hz' hd' => ?_))⟩
        simp only [Ex.exit, Exit.inBlock, hid, if_true]
        exact hk a' ρ' own' w' t' he' hz' hd'
      | false =>
        rw [hb] at h2
        obtain ⟨rfl, rfl⟩ := ret_ok.1 h2
        have hid := Nat.ne_of_beq_eq_false hb
        refine ⟨g1.1, fun B F ρ own w a si he hz Q hk => wp_block (g1.2 B F ρ own w a si he hz _ (fun a' ρ' own' w' t' he' hz' hd' => ?_))⟩
        simp only [Ex.exit, Exit.inBlock, hid, if_false]
        exact hk a' ρ' own' w' t' he' hz' hd'
  · next c => exact absurd rfl (hnl c)
  · obtain ⟨rfl, rfl⟩ := ret_ok.1 h
    exact ⟨Fn.refl _, fun B F ρ own w a si he hz Q hk => wp_exit (hk a ρ own w (si.quiet (Quiet.refl _)) he hz rfl)⟩
  · obtain ⟨rfl, rfl⟩ := ret_ok.1 h
    exact ⟨Fn.refl _, fun B F ρ own w a si he hz Q hk => wp_ret (hk a ρ own w (si.quiet (Quiet.refl _)) he hz rfl)⟩
  · exact (fail_ok.1 h).elim

theorem look_prune : ∀ {e : Env} {m t : Nat} {s : SV}, elook t (pruneE m e) = some s → Nat.testBit m t = true ∧ elook t e = some s
  | [], m, t, s, h => by simp [pruneE, elook] at h
  | (k, s0) :: r, m, t, s, h => by
    rw [pruneE] at h
    cases hb : Nat.testBit m k with
    | true =>
      simp only [hb, elook_cons] at h ⊢
      by_cases hk : t = k
      · subst hk
        exact ⟨hb, by simpa using h⟩
      · rw [if_neg hk] at h ⊢
        have ih := look_prune h
        have hx : Nat.testBit (m ^^^ 2 ^ k) t = true := ih.1
        rw [Nat.testBit_xor, Nat.testBit_two_pow_of_ne (Ne.symm hk)] at hx
        exact ⟨by simpa using hx, ih.2⟩
    | false =>
      simp only [hb] at h
      have ih := look_prune h
      rw [elook_cons, if_neg (fun hk => by rw [hk, hb] at ih; cases ih.1)]
      exact ih

theorem loop_s {run : Nat → Code → Env → M R (Ex × Env)} (hrun : RunOK A P run) {n sz : Nat} {c : Code} {e : Env} {r : Ex × Env} {call : Hk R} (hloop : ∀ e st r st', run sz (.loop c) e st = .ok r st' → CodeS A P sz (fun Q a w => Code.rounds P c Q n a w) e st st' r)
    (h : codeF P call run sz (.loop c) e st = .ok r st') : CodeS A P sz (fun Q a w => Code.rounds P c Q (n + 1) a w) e st st' r := by
  simp only [codeF] at h
  obtain ⟨⟨ex, e1⟩, st1, h1, h2⟩ := bind_ok.1 h
  have g1 := hrun _ _ _ _ _ _ h1
  cases ex with
  | nor =>
    have g2 := hloop _ _ _ _ h2
    refine ⟨g1.1.trans g2.1, fun B F ρ own w a si he hz Q hk => ?_⟩
    show Code.rounds P c Q (n + 1) a w
    rw [rounds_succ]
    refine g1.2 B F ρ own w a (si.head g1.1 g2.1) he hz _ (fun a1 ρ1 own1 w1 t1 he1 hz1 hd1 => ?_)
    exact g2.2 B _ ρ1 own1 w1 a1 (si.next g1.1 g2.1 t1) (fun t s hl => he1 t s (look_prune hl).2) hz1 Q (fun a' ρ' own' w' t2 he2 hz2 hd2 => hk a' ρ' own' w' (t1.trans t2 g1.1 g2.1 (g1.1.wf si.wf)) he2 hz2 (hd2.trans hd1))
  | ret =>
    obtain ⟨rfl, rfl⟩ := ret_ok.1 h2
    refine ⟨g1.1, fun B F ρ own w a si he hz Q hk => ?_⟩
    show Code.rounds P c Q (n + 1) a w
    rw [rounds_succ]
    exact g1.2 B F ρ own w a si he hz _ hk
  | out id =>
    obtain ⟨rfl, rfl⟩ := ret_ok.1 h2
    refine ⟨g1.1, fun B F ρ own w a si he hz Q hk => ?_⟩
    show Code.rounds P c Q (n + 1) a w
    rw [rounds_succ]
    exact g1.2 B F ρ own w a si he hz _ hk

def resOp (tmps : Array Value) : ResultVar → Sem Value
  | .tmp t => pure (tmps.getD t undef)
  | .cell b t => do loadVar t (← asAddr (tmps.getD b undef))
theorem res_s {sz : Nat} {e : Env} : ∀ {l : List ResultVar} {ss : List SV} {st st' : St R}, resX P e l st = .ok ss st' → Quiet st st' ∧ ∀ B F ρ own w a, LI A P B ρ own st.hp F w → (∀ n ∈ st'.fr, F n) → EnvR ρ e a → a.tmps.size = sz →
    ∃ vs, denL ρ ss = some vs ∧ (l.mapM (resOp a.tmps)).run P w = .ok vs w
  | [], ss, st, st', h => by
    obtain ⟨rfl, rfl⟩ := ret_ok.1 h
    exact ⟨Quiet.refl _, fun B F ρ own w a _ _ _ _ => ⟨[], rfl, rfl⟩⟩
  | .tmp t :: l, ss, st, st', h => by
    obtain ⟨s, _, h1, h2⟩ := bind_ok.1 h
    obtain ⟨hs, rfl⟩ := opt_ok.1 h1
    obtain ⟨r, st1, h3, h4⟩ := bind_ok.1 h2
    obtain ⟨rfl, rfl⟩ := ret_ok.1 h4
    obtain ⟨q, g⟩ := res_s (sz := sz) h3
    refine ⟨q, fun B F ρ own w a hli hF he hz => ?_⟩
    obtain ⟨vs, g1, g2⟩ := g B F ρ own w a hli hF he hz
    obtain ⟨x, g3, g4⟩ := he t s hs
    refine ⟨x :: vs, denL_cons.2 ⟨_, _, g4, g1, rfl⟩, ?_⟩
    have e : a.tmps.getD t undef = x := by simp [Array.getD_eq_getD_getElem?, g3]
    have e2 : (resOp a.tmps (.tmp t)).run P w = .ok x w := by
      simp only [resOp, e]
      rfl
    rw [List.mapM_cons, Sem.run_bind, e2]
    simp only [Result.andThen_ok, Sem.run_bind, g2, Sem.run_pure]
  | .cell b t :: l, ss, st, st', h => by
    obtain ⟨x, _, h1, h2⟩ := bind_ok.1 h
    obtain ⟨hx, rfl⟩ := opt_ok.1 h1
    obtain ⟨s, st1, h3, h4⟩ := bind_ok.1 h2
    obtain ⟨r, st2, h5, h6⟩ := bind_ok.1 h4
    obtain ⟨rfl, rfl⟩ := ret_ok.1 h6
    have q1 := loadX_quiet h3
    obtain ⟨q, g⟩ := res_s (sz := sz) h5
    refine ⟨q1.trans q, fun B F ρ own w a hli hF he hz => ?_⟩
    obtain ⟨vs, g1, g2⟩ := g B F ρ own w a (by rw [q1.hp]; exact hli) hF he hz
    obtain ⟨y, g3, g4⟩ := he b x hx
    obtain ⟨v, g5, g6⟩ := loadX_run h3 hli (fun n hn => hF n (q.fr n hn)) g4
    refine ⟨v :: vs, denL_cons.2 ⟨_, _, g5, g1, rfl⟩, ?_⟩
    have e : a.tmps.getD b undef = y := by simp [Array.getD_eq_getD_getElem?, g3]
    obtain ⟨ad, rfl⟩ : ∃ ad, y = .pointer (some ad) := by
      cases y with
      | pointer p =>
        cases p with
        | some ad => exact ⟨ad, rfl⟩
        | none => simp [Instr.loadAt, Instr.sureAddr, stuck, Result.andThen] at g6
      | _ => simp [Instr.loadAt, Instr.sureAddr, stuck, Result.andThen] at g6
    simp only [Instr.loadAt, Instr.sureAddr, Sem.run_bind, Sem.run_pure, Result.andThen_ok] at g6
    have e2 : (resOp a.tmps (.cell b t)).run P w = .ok v w := by
      simp only [resOp, e, asAddr, Sem.run_bind, Sem.run_pure, Result.andThen_ok]
      exact g6
    rw [List.mapM_cons, Sem.run_bind, e2]
    simp only [Result.andThen_ok, Sem.run_bind, g2, Sem.run_pure]

theorem keepX_get {lo : Nat} {keep : List Nat} {n : Nat} : ∀ {hp : List (Nat × Chunk R)}, hget n (keepX lo keep hp) = if Nat.blt n lo || memN n keep then hget n hp else none
  | [] => by simp [keepX, hget]
  | (m, c) :: hp => by
    simp only [keepX]
    cases h : (Nat.blt m lo || memN m keep) with
    | true =>
      simp only [hget_cons, keepX_get (hp := hp)]
      by_cases e : n = m
      · subst e; simp [h]
      · simp [e]
    | false =>
      simp only [hget_cons, keepX_get (hp := hp)]
      by_cases e : n = m
      · subst e; simp [h]
      · simp [e]
theorem mem_cutN {lo n : Nat} {base l : List Nat} : n ∈ cutN lo base l ↔ n ∈ l ∧ (n < lo ∨ n ∈ base) := by
  unfold cutN
  rw [List.mem_filter, Bool.or_eq_true, memN_iff]
  simp [Nat.blt_eq]
/-- What was swept away. -/
structure Swept (st st1 st' : St R) : Prop where
  nx : st'.nx = st1.nx
  fr : ∀ n ∈ st'.fr, n ∈ st1.fr
  wr : ∀ n ∈ st'.wr, n ∈ st1.wr
  wrb : ∀ n ∈ st'.wr, st'.fr = st1.fr ∨ n < st.nx ∨ n ∈ st.wr
  frk : ∀ n ∈ st1.fr, n < st.nx ∨ n ∈ st.fr → n ∈ st'.fr
  wrk : ∀ n ∈ st1.wr, n < st.nx ∨ n ∈ st.wr → n ∈ st'.wr
  ask : st'.ask = st1.ask
  low : ∀ n, n < st.nx → hget n st'.hp = hget n st1.hp
  hp : ∀ n c, hget n st'.hp = some c → hget n st1.hp = some c
theorem sweep_s (s : SV) : Swept st st1 (sweepSt st s st1) := by
  obtain ⟨hp, nx, fr, wr, ak, oc⟩ := st1
  obtain ⟨hp0, lo, fr0, wr0, ak0, oc0⟩ := st
  simp only [sweepSt]
  split
  · exact ⟨rfl, fun _ h => h, fun _ h => h, fun _ _ => .inl rfl, fun _ h _ => h, fun _ h _ => h, rfl, fun _ _ => rfl, fun _ _ h => h⟩
  · refine ⟨rfl, fun n hn => (mem_cutN.1 hn).1, fun n hn => (mem_cutN.1 hn).1, fun n hn => .inr (mem_cutN.1 hn).2, fun n hn hl => mem_cutN.2 ⟨hn, hl⟩, fun n hn hl => mem_cutN.2 ⟨hn, hl⟩, rfl, fun n hn => ?_, fun n c hc => ?_⟩
    · rw [keepX_get]
      have : Nat.blt n lo = true := by simpa [Nat.blt_eq] using hn
      simp [this]
    · rw [keepX_get] at hc
      split at hc
      · exact hc
      · cases hc
theorem sweepX_ok {tidy : Option (Tidy R)} (ht : ∀ f, tidy = some f → ∀ st s k, f st s k = k st s) {s s' : SV} (h : sweepX tidy st s st1 = .ok s' st') : s' = s ∧ st' = sweepSt st s st1 := by
  unfold sweepX at h
  cases tidy with
  | none =>
    injection h with h1 h2
    exact ⟨h1.symm, h2.symm⟩
  | some f =>
    simp only [ht f rfl] at h
    injection h with h1 h2
    exact ⟨h1.symm, h2.symm⟩
theorem Fn.sweep (h : Fn st st1) (k : Swept st st1 st') : Fn st st' := by
  refine ⟨by rw [k.nx]; exact h.nx, fun n hn => k.frk n (h.fr n hn) (.inr hn), fun n hn => k.wrk n (h.wr n hn) (.inr hn), fun p hp => by rw [k.ask]; exact h.ask p hp, fun n hn hl => (k.low n hl).trans (h.hp n (fun hw => hn (k.wrk n hw (.inl hl))) hl), fun hw => ?_, fun n hn => h.al n (k.wr n hn)⟩
  have h1 := h.wf hw
  refine ⟨fun n hn => ?_, fun n hn => ?_⟩
  · have h2 := h1.wr n (k.wr n hn)
    refine ⟨?_, by rw [k.nx]; exact h2.2⟩
    rcases k.wrb n hn with h3 | h3 | h3
    · rw [h3]; exact h2.1
    · exact k.frk n h2.1 (.inl h3)
    · exact k.frk n h2.1 (.inr (hw.wr n h3).1)
  · cases hx : hget n st'.hp with
    | none => rfl
    | some c =>
      have h7 := k.hp n c hx
      rw [h1.top n (k.nx ▸ hn)] at h7
      cases h7
theorem Tr.sweep (t : Tr A P B F st st1 ρ own w ρ' own' w') (k : Swept st st1 st') (hw : Wf st1) : Tr A P B F st st' ρ own w ρ' own' w' := by
  have hn : ∀ n, newN st st' n ↔ newN st st1 n := fun n => by unfold newN; rw [k.nx]
  have keep : ∀ m, m ∈ st1.wr → ¬ newN st st1 m → m ∈ st'.wr := fun m hm hnn => k.wrk m hm (.inl (by
    have := (hw.wr m hm).2
    unfold newN at hnn
    omega))
  refine ⟨t.le, fun n hx => t.out n (fun h => hx ((hn n).2 h)), fun n hx hw' => t.same n (fun h => hx ((hn n).2 h)) (fun h => hw' (keep n h (fun h => hx ((hn n).2 h)))), fun n hx b hb => ?_, ?_, t.mod.mono fun b _ ⟨m, g1, g2, g3⟩ => ⟨m, keep m g1 g2, fun h => g2 ((hn m).1 h), g3⟩⟩
  · rcases t.pool n (hx.imp (hn n).1 (k.wr n)) b hb with g | ⟨m, g1, g2, g3⟩
    · exact .inl g
    · exact .inr ⟨m, keep m g1 g2, fun h => g2 ((hn m).1 h), g3⟩
  · exact ⟨fun n c hx hc => t.li.at_ n c (hx.imp_right (hn n).1) (k.hp n c hc), fun n m c d hx hy hne hc hd => t.li.dis n m c d (hx.imp_right (hn n).1) (hy.imp_right (hn m).1) hne (k.hp n c hc) (k.hp m d hd),
      fun n c hx hc => t.li.low n c (hx.imp_right (hn n).1) (k.hp n c hc)⟩

theorem elook_zip : ∀ {args : List SV} {k t : Nat} {s : SV}, elook t ((args.zipIdx k).map fun p => (p.2, p.1)) = some s → k ≤ t ∧ args[t - k]? = some s
  | [], k, t, s, h => by simp [elook] at h
  | x :: args, k, t, s, h => by
    rw [List.zipIdx_cons, List.map_cons, elook_cons] at h
    split at h
    · next e =>
      subst e
      simp only [Option.some.injEq] at h
      subst h
      simp
    · obtain ⟨h1, h2⟩ := elook_zip h
      refine ⟨by omega, ?_⟩
      rw [show t - k = (t - (k + 1)) + 1 by omega, List.getElem?_cons_succ]
      exact h2

structure LibOK (A : RepAt R) (P : Program) (lib : Lib R) : Prop where
  prim : ∀ f args m, lib.prim f args = some m → ∀ st s st', m st = .ok s st' → CallS A P f args st st' s
  ext : ∀ ev o m, lib.ext ev o = some m → ∀ st s st', m st = .ok s st' → OpS A P o ev st st' s
  tidy : ∀ f, lib.tidy = some f → ∀ st s k, f st s k = k st s
theorem call_s {lib : Lib R} (hp : LibOK A P lib) {run : Nat → Code → Env → M R (Ex × Env)} (hrun : RunOK A P run) : CallOK A P (callF P lib run) := by
  intro f args st s st' h
  unfold callF at h
  cases hpf : lib.prim f args with
  | some p =>
    rw [hpf] at h
    exact hp.prim f args p hpf st s st' h
  | none =>
    rw [hpf] at h
    simp only at h
    cases hf : P.funcs[f]? with
    | none => rw [hf] at h; exact (fail_ok.1 h).elim
    | some fn =>
      rw [hf] at h
      simp only at h
      cases hb : fn.body with
      | none => rw [hb] at h; exact (fail_ok.1 h).elim
      | some c =>
        rw [hb] at h
        obtain ⟨lo, st0, h1, h2⟩ := bind_ok.1 h
        simp only [stNow, Res.ok.injEq] at h1
        obtain ⟨rfl, rfl⟩ := h1
        obtain ⟨_, _, h3, h4⟩ := bind_ok.1 h2
        obtain ⟨hle, rfl⟩ := want_ok.1 h3
        have hle := Nat.le_of_ble_eq_true hle
        obtain ⟨⟨ex, e1⟩, st1, h5, h6⟩ := bind_ok.1 h4
        have g := hrun _ _ _ _ _ _ h5
        have key : ∀ (st2 : St R) (l : List SV), resX P e1 fn.results.toList st1 = .ok l st2 → sweepX lib.tidy st (oneOf l) st2 = .ok s st' → (ex = .nor ∨ ex = .ret) → CallS A P f args st st' s := by
          intro st2 l h7 h8 hex
          obtain ⟨rfl, rfl⟩ := sweepX_ok hp.tidy h8
          obtain ⟨q, hres⟩ := res_s (A := A) (sz := fn.ntmps) h7
          have f2 := g.1.trans q.fn
          have hs' := sweep_s (st := st) (st1 := st2) (oneOf l)
          refine ⟨f2.sweep hs', fun B F ρ own w vals si hd => ?_⟩
          have hlen := denL_length hd
          have hlog : ∀ n, n ∈ st2.fr → F n ∨ st.nx ≤ n := fun n hn => by
            rcases Nat.lt_or_ge n st.nx with hl | hl
            · exact .inl (si.log n (hs'.frk n hn (.inl hl)))
            · exact .inr hl
          have hup : ∀ n c, st.nx ≤ n → hget n st.hp = some c → False := fun n c hn hc => by
            rw [si.wf.top n hn] at hc
            cases hc
          have si1 : Sit A P B (fun n => F n ∨ st.nx ≤ n) st st1 ρ own w := ⟨fun n hn => hlog n (q.fr n hn), si.wf, fun n hn => si.fresh n ⟨hn.1, by rw [hs'.nx, q.nx]; exact hn.2⟩,
            ⟨fun n c hn hc => si.li.at_ n c (hn.resolve_right (fun h => hup n c h hc)) hc, fun n m c d hn hm hne hc hd => si.li.dis n m c d (hn.resolve_right (fun h => hup n c h hc)) (hm.resolve_right (fun h => hup m d h hd)) hne hc hd, fun n c hn hc => si.li.low n c (hn.resolve_right (fun h => hup n c h hc)) hc⟩,
            fun p hp => si.ask p (by rw [hs'.ask]; exact q.ask p hp), si.base⟩
          refine calls_of_wp hf hb ?_
          refine g.2 B _ ρ own w _ si1 (fun t s hts => ?_) (by simp; omega) _ (fun a' ρ' own' w' t he hz hdf => ?_)
          · obtain ⟨_, h9⟩ := elook_zip hts
            rw [Nat.sub_zero] at h9
            obtain ⟨x, g1, g2⟩ := denL_get hd h9
            refine ⟨x, ?_, g1⟩
            rw [Array.getElem?_append_left (by rw [List.size_toArray]; exact lt_of_some g2), List.getElem?_toArray]
            exact g2
          · obtain ⟨vs, g1, g2⟩ := hres B _ ρ' own' w' a' t.li (fun n hn => .inl (hlog n hn)) he hz
            have hr : (results fn a'.tmps).run P w' = .ok (if h : vs.length = 1 then vs[0] else .tuple vs.toArray) w' := by
              have e : results fn a'.tmps = (do
                  let vs ← fn.results.mapM (resOp a'.tmps)
                  pure (if h : vs.size = 1 then vs[0] else .tuple vs)) := rfl
              rw [e, Array.mapM_eq_mapM_toList]
              simp only [Sem.run_bind, Sem.run_map, g2, Result.andThen_ok, Sem.run_pure]
              congr 1
            have ht2 : Tr A P B F st st2 ρ own w ρ' own' w' := by
              refine ⟨t.le, fun n hn => t.out n (fun h => hn (by unfold newN at h ⊢; rw [q.nx]; exact h)), fun n hn hw => t.same n (fun h => hn (by unfold newN at h ⊢; rw [q.nx]; exact h)) (by rw [← q.wr]; exact hw), fun n hn b hb => ?_, ?_, ?_⟩
              · rcases t.pool n (hn.imp (fun h => by unfold newN at h ⊢; rw [← q.nx]; exact h) (fun h => by rw [← q.wr]; exact h)) b hb with g | ⟨m, g1, g2, g3⟩
                · exact .inl g
                · exact .inr ⟨m, by rw [q.wr]; exact g1, fun h => g2 (by unfold newN at h ⊢; rw [← q.nx]; exact h), g3⟩
              · rw [q.hp]
                exact t.li.sub fun n hn => hn.imp .inl fun h => by unfold newN at h ⊢; rw [← q.nx]; exact h
              · exact t.mod.mono fun b _ ⟨m, g1, g2, g3⟩ => ⟨m, by rw [q.wr]; exact g1, fun h => g2 (by unfold newN at h ⊢; rw [← q.nx]; exact h), g3⟩
            have hone : den ρ' (oneOf l) = some (if h : vs.length = 1 then vs[0] else .tuple vs.toArray) := by
              have hl := denL_length g1
              cases l with
              | nil =>
                simp only [denL, Option.some.injEq] at g1
                subst g1
                rfl
              | cons x l =>
                obtain ⟨y, ys, g3, g4, rfl⟩ := denL_cons.1 g1
                cases l with
                | nil =>
                  simp only [denL, Option.some.injEq] at g4
                  subst g4
                  simpa [oneOf] using g3
                | cons z l =>
                  simp only [List.length_cons] at hl
                  rw [dif_neg (by simp only [List.length_cons]; omega)]
                  simp only [oneOf, den, g1, Option.map_some]
            have hpost : ∃ v, (results fn a'.tmps).run P w' = .ok v w' ∧ ∃ x ρ' own', Ending.returned v = .returned x ∧ den ρ' (oneOf l) = some x ∧ Tr A P B F st _ ρ own w ρ' own' w' := ⟨_, hr, _, ρ', own', rfl, hone, ht2.sweep hs' (f2.wf si.wf)⟩
            rcases hex with rfl | rfl
            · exact ⟨hdf, hpost⟩
            · exact ⟨hdf, hpost⟩
        simp only at h6
        cases ex with
        | out id => exact (fail_ok.1 h6).elim
        | nor =>
          obtain ⟨l, st2, h7, h8⟩ := bind_ok.1 h6
          exact key st2 l h7 h8 (.inl rfl)
        | ret =>
          obtain ⟨l, st2, h7, h8⟩ := bind_ok.1 h6
          exact key st2 l h7 h8 (.inr rfl)

theorem run_s (hm : P.follows .mixedOrders = true) {lib : Lib R} (hp : LibOK A P lib) : ∀ n, RunOK A P (runX P lib n) ∧ ∀ sz c e st r st', runX P lib n sz (.loop c) e st = .ok r st' → CodeS A P sz (fun Q a w => Code.rounds P c Q n a w) e st st' r
  | 0 => ⟨fun _ _ _ _ _ _ h => (fail_ok.1 h).elim, fun _ _ _ _ _ _ h => (fail_ok.1 h).elim⟩
  | n + 1 => by
    obtain ⟨h1, h2⟩ := run_s hm hp n
    have hc := call_s hp h1
    have hl : ∀ sz c e st r st', runX P lib (n + 1) sz (.loop c) e st = .ok r st' → CodeS A P sz (fun Q a w => Code.rounds P c Q (n + 1) a w) e st st' r := fun sz c e st r st' h => loop_s h1 (fun e st r st' => h2 sz c e st r st') h
    refine ⟨fun sz c e st r st' h => ?_, hl⟩
    by_cases hnl : ∃ c', c = .loop c'
    · obtain ⟨c', rfl⟩ := hnl
      obtain ⟨hf, hs⟩ := hl sz c' e st r st' h
      exact ⟨hf, fun B F ρ own w a si he hz Q hk => wp_loop_rounds (n + 1) (hs B F ρ own w a si he hz Q hk)⟩
    · exact code_s hm ⟨hc, hp.ext⟩ h1 (fun c' e => hnl ⟨c', e⟩) h

/-- WHAT THE EXECUTOR SAYS OF A CALL, THE MACHINE DOES. -/
theorem callX_s (hm : P.follows .mixedOrders = true) {lib : Lib R} (hp : LibOK A P lib) (n : Nat) : CallOK A P (callX P lib n) := call_s hp (run_s hm hp n).1
end
end Go.Proofs.Ytjediiajmnlonaa
