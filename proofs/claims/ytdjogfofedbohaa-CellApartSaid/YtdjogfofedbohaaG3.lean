/- Paths of a body, and a call by its body's rule. Condition: the program follows the looser reading of Go's order. -/
import Derived.Test.YtdjogfofedbohaaG2
import Derived.LoopN
import Derived.Test.YtdjogfofedbohaaG1
import Derived.RangeFuncBound
import Derived.Shelf.AbstractIn
import Derived.Shelf.SlMaps.Clone
section
/- The executor is right: what it says of a call, the machine does. Condition: the program follows the looser reading of Go's order. -/
namespace Go.Proofs.Ytdjogfofedbohaa

def Ex.exit : Ex → Exit
  | .nor => .normal
  | .ret => .ret
  | .out id => .exit id

section
variable {R : Type} {A : RepAt R} {P : Program} {st st1 st' : St R} {B : Nat} {F : Nat → Prop} {ρ ρ' : Names} {own own' : Nat → List Nat} {w w' : World}

def CodeS (A : RepAt R) (P : Program) (sz : Nat) (G : (Exit → Act → World → Prop) → Act → World → Prop) (e : Env) (st st' : St R) (r : Ex × Env) : Prop := Fn st st' ∧ ∀ B F ρ own w a, Sit A P B F st st' ρ own w → EnvR ρ e a → a.tmps.size = sz →
  ∀ (Q : Exit → Act → World → Prop), (∀ a' ρ' own' w', Tr A P B F st st' ρ own w ρ' own' w' → EnvR ρ' r.2 a' → a'.tmps.size = sz → a'.defers = a.defers → Q r.1.exit a' w') → G Q a w
def RunOK (A : RepAt R) (P : Program) (run : Nat → Code → Env → M R (Ex × Env)) : Prop := ∀ sz c e st r st', run sz c e st = .ok r st' → CodeS A P sz (fun Q a w => c.wp P Q a w) e st st' r

theorem region_plain {id : Nat} {ops : Array Oper} {Q : Exit → Act → World → Prop} {a : Act} (h : wpList P ops Q ops.toList a w) : (Code.region id ops false).wp P Q a w := by
  refine wp_region ?_
  have e := wpOps_eq_wpList (P := P) (ops := ops) (Q := Q) ops.toList 0 (fun j => by simp)
  rw [show List.range' 0 ops.toList.length = List.range ops.size by simp [List.range_eq_range']] at e
  rw [e]
  exact h

theorem CodeS.seq {sz : Nat} {e e1 e' : Env} {x y : Code} {ex : Ex} (h1 : CodeS A P sz (fun Q a w => x.wp P Q a w) e st st1 (.nor, e1)) (h2 : CodeS A P sz (fun Q a w => y.wp P Q a w) e1 st1 st' (ex, e')) :
    CodeS A P sz (fun Q a w => (Code.seq x y).wp P Q a w) e st st' (ex, e') := by
  refine ⟨h1.1.trans h2.1, fun B F ρ own w a si he hz Q hk => wp_seq ?_⟩
  refine h1.2 B F ρ own w a (si.head h1.1 h2.1) he hz _ (fun a1 ρ1 own1 w1 t1 he1 hz1 hd1 => ?_)
  exact h2.2 B _ ρ1 own1 w1 a1 (si.next h1.1 h2.1 t1) he1 hz1 Q (fun a' ρ' own' w' t2 he2 hz2 hd2 => hk a' ρ' own' w' (t1.trans t2 h1.1 h2.1 (h1.1.wf si.wf)) he2 hz2 (hd2.trans hd1))

theorem code_s (hm : P.follows .mixedOrders = true) {call : Hk R} (hcall : HkOK A P call) {run : Nat → Code → Env → M R (Ex × Env)} (hrun : RunOK A P run) {sz : Nat} {c : Code} {e : Env} {r : Ex × Env} (hnl : ∀ c', c ≠ .loop c') (h : codeF P call run sz c e st = .ok r st') :
    CodeS A P sz (fun Q a w => c.wp P Q a w) e st st' r := by
  unfold codeF at h
  split at h
  · obtain ⟨rfl, rfl⟩ := ret_ok.1 h
    exact ⟨Fn.refl _, fun B F ρ own w a si he hz Q hk => wp_skip (hk a ρ own w (si.quiet (Quiet.refl _)) he hz rfl)⟩
  · obtain ⟨e1, st1, h1, h2⟩ := bind_ok.1 h
    obtain ⟨rfl, rfl⟩ := ret_ok.1 h2
    obtain ⟨hf, hs⟩ := seq_s hcall h1
    exact ⟨hf, fun B F ρ own w a si he hz Q hk => region_plain (hs B F ρ own w a si he hz Q hk)⟩
  · obtain ⟨⟨e1, ls⟩, st1, h1, h2⟩ := bind_ok.1 h
    obtain ⟨_, _, h3, h4⟩ := bind_ok.1 h2
    obtain ⟨ho, rfl⟩ := want_ok.1 h3
    obtain ⟨rfl, rfl⟩ := ret_ok.1 h4
    obtain ⟨hf, hs⟩ := draw_s hm hcall h1 ho
    exact ⟨hf, fun B F ρ own w a si he hz Q hk => hs B F ρ own w a si he hz Q hk⟩
  · next x y =>
    obtain ⟨⟨ex, e1⟩, st1, h1, h2⟩ := bind_ok.1 h
    have g1 := hrun _ _ _ _ _ _ h1
    cases ex with
    | nor =>
      obtain ⟨ex2, e2⟩ := r
      exact g1.seq (hrun _ _ _ _ _ _ h2)
    | ret =>
      obtain ⟨rfl, rfl⟩ := ret_ok.1 h2
      exact ⟨g1.1, fun B F ρ own w a si he hz Q hk => wp_seq (g1.2 B F ρ own w a si he hz _ hk)⟩
    | out id =>
      obtain ⟨rfl, rfl⟩ := ret_ok.1 h2
      exact ⟨g1.1, fun B F ρ own w a si he hz Q hk => wp_seq (g1.2 B F ρ own w a si he hz _ hk)⟩
  · next c x y =>
    obtain ⟨s, _, h1, h2⟩ := bind_ok.1 h
    obtain ⟨hs, rfl⟩ := opt_ok.1 h1
    split at h2
    · next t =>
      obtain ⟨b, st1, h3, h4⟩ := bind_ok.1 h2
      obtain ⟨q, hq⟩ := ask_ok h3
      have key : ∀ {z : Code}, (if t = true then x else y) = z ∨ True → run sz z e st1 = .ok r st' → ((∀ p ∈ st'.ask, p.1 = p.2) → (if t = true then x else y) = z) → CodeS A P sz (fun Q a w => (Code.cond c x y).wp P Q a w) e st st' r := by
        intro z _ hz hsel
        have g := hrun _ _ _ _ _ _ hz
        refine ⟨q.fn.trans g.1, fun B F ρ own w a si he hsz Q hk => ?_⟩
        have ev := he.ev _ _ hs
        simp only [den, Option.some.injEq] at ev
        refine wp_cond ev.symm ?_
        rw [hsel si.ask]
        exact g.2 B F ρ own w a (si.of_quiet q) he hsz Q (fun a' ρ' own' w' t' => hk a' ρ' own' w' (Tr.of_quiet q t'))
      cases b with
      | true =>
        refine key (.inr trivial) h4 (fun ha => ?_)
        rw [hq (fun p hp => ha p ((hrun _ _ _ _ _ _ h4).1.ask p hp)), if_pos rfl]
      | false =>
        refine key (.inr trivial) h4 (fun ha => ?_)
        rw [hq (fun p hp => ha p ((hrun _ _ _ _ _ _ h4).1.ask p hp))]
        rfl
    · exact (fail_ok.1 h2).elim
  · next id c =>
    obtain ⟨⟨ex, e1⟩, st1, h1, h2⟩ := bind_ok.1 h
    have g1 := hrun _ _ _ _ _ _ h1
    cases ex with
    | nor =>
      obtain ⟨rfl, rfl⟩ := ret_ok.1 h2
      exact ⟨g1.1, fun B F ρ own w a si he hz Q hk => wp_block (g1.2 B F ρ own w a si he hz _ hk)⟩
    | ret =>
      obtain ⟨rfl, rfl⟩ := ret_ok.1 h2
      exact ⟨g1.1, fun B F ρ own w a si he hz Q hk => wp_block (g1.2 B F ρ own w a si he hz _ hk)⟩
    | out id' =>
      simp only at h2
      cases hb : Nat.beq id' id with
      | true =>
        rw [hb] at h2
        obtain ⟨rfl, rfl⟩ := ret_ok.1 h2
        have hid := Nat.eq_of_beq_eq_true hb
        refine ⟨g1.1, fun B F ρ own w a si he hz Q hk => wp_block (g1.2 B F ρ own w a si he hz _ (fun a' ρ' own' w' t' he' hz' hd' => ?_))⟩
        simp only [Ex.exit, Exit.inBlock, hid, if_true]
        exact hk a' ρ' own' w' t' he' hz' hd'
      | false =>
        rw [hb] at h2
        obtain ⟨rfl, rfl⟩ := ret_ok.1 h2
        have hid := Nat.ne_of_beq_eq_false hb
        refine ⟨g1.1, fun B F ρ own w a si he hz Q hk => wp_block (g1.2 B F ρ own w a si he hz _ (fun a' ρ' own' w' t' he' hz' hd' => ?_))⟩
        simp only [Ex.exit, Exit.inBlock, hid, if_false]
        exact hk a' ρ' own' w' t' he' hz' hd'
  · next c => exact absurd rfl (hnl c)
  · obtain ⟨rfl, rfl⟩ := ret_ok.1 h
    exact ⟨Fn.refl _, fun B F ρ own w a si he hz Q hk => wp_exit (hk a ρ own w (si.quiet (Quiet.refl _)) he hz rfl)⟩
  · obtain ⟨rfl, rfl⟩ := ret_ok.1 h
    exact ⟨Fn.refl _, fun B F ρ own w a si he hz Q hk => wp_ret (hk a ρ own w (si.quiet (Quiet.refl _)) he hz rfl)⟩
  · exact (fail_ok.1 h).elim

theorem look_prune : ∀ {e : Env} {m t : Nat} {s : SV}, elook t (pruneE m e) = some s → Nat.testBit m t = true ∧ elook t e = some s
  | [], m, t, s, h => by simp [pruneE, elook] at h
  | (k, s0) :: r, m, t, s, h => by
    rw [pruneE] at h
    cases hb : Nat.testBit m k with
    | true =>
      simp only [hb, elook_cons] at h ⊢
      by_cases hk : t = k
      · subst hk
        exact ⟨hb, by simpa using h⟩
      · rw [if_neg hk] at h ⊢
        have ih := look_prune h
        have hx : Nat.testBit (m ^^^ 2 ^ k) t = true := ih.1
        rw [Nat.testBit_xor, Nat.testBit_two_pow_of_ne (Ne.symm hk)] at hx
        exact ⟨by simpa using hx, ih.2⟩
    | false =>
      simp only [hb] at h
      have ih := look_prune h
      rw [elook_cons, if_neg (fun hk => by rw [hk, hb] at ih; cases ih.1)]
      exact ih

theorem loop_s {run : Nat → Code → Env → M R (Ex × Env)} (hrun : RunOK A P run) {n sz : Nat} {c : Code} {e : Env} {r : Ex × Env} {call : Hk R} (hloop : ∀ e st r st', run sz (.loop c) e st = .ok r st' → CodeS A P sz (fun Q a w => Code.rounds P c Q n a w) e st st' r)
    (h : codeF P call run sz (.loop c) e st = .ok r st') : CodeS A P sz (fun Q a w => Code.rounds P c Q (n + 1) a w) e st st' r := by
  simp only [codeF] at h
  obtain ⟨⟨ex, e1⟩, st1, h1, h2⟩ := bind_ok.1 h
  have g1 := hrun _ _ _ _ _ _ h1
  cases ex with
  | nor =>
    have g2 := hloop _ _ _ _ h2
    refine ⟨g1.1.trans g2.1, fun B F ρ own w a si he hz Q hk => ?_⟩
    show Code.rounds P c Q (n + 1) a w
    rw [rounds_succ]
    refine g1.2 B F ρ own w a (si.head g1.1 g2.1) he hz _ (fun a1 ρ1 own1 w1 t1 he1 hz1 hd1 => ?_)
    exact g2.2 B _ ρ1 own1 w1 a1 (si.next g1.1 g2.1 t1) (fun t s hl => he1 t s (look_prune hl).2) hz1 Q (fun a' ρ' own' w' t2 he2 hz2 hd2 => hk a' ρ' own' w' (t1.trans t2 g1.1 g2.1 (g1.1.wf si.wf)) he2 hz2 (hd2.trans hd1))
  | ret =>
    obtain ⟨rfl, rfl⟩ := ret_ok.1 h2
    refine ⟨g1.1, fun B F ρ own w a si he hz Q hk => ?_⟩
    show Code.rounds P c Q (n + 1) a w
    rw [rounds_succ]
    exact g1.2 B F ρ own w a si he hz _ hk
  | out id =>
    obtain ⟨rfl, rfl⟩ := ret_ok.1 h2
    refine ⟨g1.1, fun B F ρ own w a si he hz Q hk => ?_⟩
    show Code.rounds P c Q (n + 1) a w
    rw [rounds_succ]
    exact g1.2 B F ρ own w a si he hz _ hk

def resOp (tmps : Array Value) : ResultVar → Sem Value
  | .tmp t => pure (tmps.getD t undef)
  | .cell b t => do loadVar t (← asAddr (tmps.getD b undef))
theorem res_s {sz : Nat} {e : Env} : ∀ {l : List ResultVar} {ss : List SV} {st st' : St R}, resX P e l st = .ok ss st' → Quiet st st' ∧ ∀ B F ρ own w a, LI A P B ρ own st.hp F w → (∀ n ∈ st'.fr, F n) → EnvR ρ e a → a.tmps.size = sz →
    ∃ vs, denL ρ ss = some vs ∧ (l.mapM (resOp a.tmps)).run P w = .ok vs w
  | [], ss, st, st', h => by
    obtain ⟨rfl, rfl⟩ := ret_ok.1 h
    exact ⟨Quiet.refl _, fun B F ρ own w a _ _ _ _ => ⟨[], rfl, rfl⟩⟩
  | .tmp t :: l, ss, st, st', h => by
    obtain ⟨s, _, h1, h2⟩ := bind_ok.1 h
    obtain ⟨hs, rfl⟩ := opt_ok.1 h1
    obtain ⟨r, st1, h3, h4⟩ := bind_ok.1 h2
    obtain ⟨rfl, rfl⟩ := ret_ok.1 h4
    obtain ⟨q, g⟩ := res_s (sz := sz) h3
    refine ⟨q, fun B F ρ own w a hli hF he hz => ?_⟩
    obtain ⟨vs, g1, g2⟩ := g B F ρ own w a hli hF he hz
    obtain ⟨x, g3, g4⟩ := he t s hs
    refine ⟨x :: vs, denL_cons.2 ⟨_, _, g4, g1, rfl⟩, ?_⟩
    have e : a.tmps.getD t undef = x := by simp [Array.getD_eq_getD_getElem?, g3]
    have e2 : (resOp a.tmps (.tmp t)).run P w = .ok x w := by
      simp only [resOp, e]
      rfl
    rw [List.mapM_cons, Sem.run_bind, e2]
    simp only [Result.andThen_ok, Sem.run_bind, g2, Sem.run_pure]
  | .cell b t :: l, ss, st, st', h => by
    obtain ⟨x, _, h1, h2⟩ := bind_ok.1 h
    obtain ⟨hx, rfl⟩ := opt_ok.1 h1
    obtain ⟨s, st1, h3, h4⟩ := bind_ok.1 h2
    obtain ⟨r, st2, h5, h6⟩ := bind_ok.1 h4
    obtain ⟨rfl, rfl⟩ := ret_ok.1 h6
    have q1 := loadX_quiet h3
    obtain ⟨q, g⟩ := res_s (sz := sz) h5
    refine ⟨q1.trans q, fun B F ρ own w a hli hF he hz => ?_⟩
    obtain ⟨vs, g1, g2⟩ := g B F ρ own w a (by rw [q1.hp]; exact hli) hF he hz
    obtain ⟨y, g3, g4⟩ := he b x hx
    obtain ⟨v, g5, g6⟩ := loadX_run h3 hli (fun n hn => hF n (q.fr n hn)) g4
    refine ⟨v :: vs, denL_cons.2 ⟨_, _, g5, g1, rfl⟩, ?_⟩
    have e : a.tmps.getD b undef = y := by simp [Array.getD_eq_getD_getElem?, g3]
    obtain ⟨ad, rfl⟩ : ∃ ad, y = .pointer (some ad) := by
      cases y with
      | pointer p =>
        cases p with
        | some ad => exact ⟨ad, rfl⟩
        | none => simp [Instr.loadAt, Instr.sureAddr, stuck, Result.andThen] at g6
      | _ => simp [Instr.loadAt, Instr.sureAddr, stuck, Result.andThen] at g6
    simp only [Instr.loadAt, Instr.sureAddr, Sem.run_bind, Sem.run_pure, Result.andThen_ok] at g6
    have e2 : (resOp a.tmps (.cell b t)).run P w = .ok v w := by
      simp only [resOp, e, asAddr, Sem.run_bind, Sem.run_pure, Result.andThen_ok]
      exact g6
    rw [List.mapM_cons, Sem.run_bind, e2]
    simp only [Result.andThen_ok, Sem.run_bind, g2, Sem.run_pure]

theorem keepX_get {lo : Nat} {keep : List Nat} {n : Nat} : ∀ {hp : List (Nat × Chunk R)}, hget n (keepX lo keep hp) = if Nat.blt n lo || memN n keep then hget n hp else none
  | [] => by simp [keepX, hget]
  | (m, c) :: hp => by
    simp only [keepX]
    cases h : (Nat.blt m lo || memN m keep) with
    | true =>
      simp only [hget_cons, keepX_get (hp := hp)]
      by_cases e : n = m
      · subst e; simp [h]
      · simp [e]
    | false =>
      simp only [hget_cons, keepX_get (hp := hp)]
      by_cases e : n = m
      · subst e; simp [h]
      · simp [e]
theorem mem_cutN {lo n : Nat} {base l : List Nat} : n ∈ cutN lo base l ↔ n ∈ l ∧ (n < lo ∨ n ∈ base) := by
  unfold cutN
  rw [List.mem_filter, Bool.or_eq_true, memN_iff]
  simp [Nat.blt_eq]
/-- What was swept away. -/
structure Swept (st st1 st' : St R) : Prop where
  nx : st'.nx = st1.nx
  fr : ∀ n ∈ st'.fr, n ∈ st1.fr
  wr : ∀ n ∈ st'.wr, n ∈ st1.wr
  wrb : ∀ n ∈ st'.wr, st'.fr = st1.fr ∨ n < st.nx ∨ n ∈ st.wr
  frk : ∀ n ∈ st1.fr, n < st.nx ∨ n ∈ st.fr → n ∈ st'.fr
  wrk : ∀ n ∈ st1.wr, n < st.nx ∨ n ∈ st.wr → n ∈ st'.wr
  ask : st'.ask = st1.ask
  low : ∀ n, n < st.nx → hget n st'.hp = hget n st1.hp
  hp : ∀ n c, hget n st'.hp = some c → hget n st1.hp = some c
theorem sweep_s (s : SV) : Swept st st1 (sweepSt st s st1) := by
  obtain ⟨hp, nx, fr, wr, ak, oc⟩ := st1
  obtain ⟨hp0, lo, fr0, wr0, ak0, oc0⟩ := st
  simp only [sweepSt]
  split
  · exact ⟨rfl, fun _ h => h, fun _ h => h, fun _ _ => .inl rfl, fun _ h _ => h, fun _ h _ => h, rfl, fun _ _ => rfl, fun _ _ h => h⟩
  · refine ⟨rfl, fun n hn => (mem_cutN.1 hn).1, fun n hn => (mem_cutN.1 hn).1, fun n hn => .inr (mem_cutN.1 hn).2, fun n hn hl => mem_cutN.2 ⟨hn, hl⟩, fun n hn hl => mem_cutN.2 ⟨hn, hl⟩, rfl, fun n hn => ?_, fun n c hc => ?_⟩
    · rw [keepX_get]
      have : Nat.blt n lo = true := by simpa [Nat.blt_eq] using hn
      simp [this]
    · rw [keepX_get] at hc
      split at hc
      · exact hc
      · cases hc
theorem sweepX_ok {tidy : Option (Tidy R)} (ht : ∀ f, tidy = some f → ∀ st s k, f st s k = k st s) {s s' : SV} (h : sweepX tidy st s st1 = .ok s' st') : s' = s ∧ st' = sweepSt st s st1 := by
  unfold sweepX at h
  cases tidy with
  | none =>
    injection h with h1 h2
    exact ⟨h1.symm, h2.symm⟩
  | some f =>
    simp only [ht f rfl] at h
    injection h with h1 h2
    exact ⟨h1.symm, h2.symm⟩
theorem Fn.sweep (h : Fn st st1) (k : Swept st st1 st') : Fn st st' := by
  refine ⟨by rw [k.nx]; exact h.nx, fun n hn => k.frk n (h.fr n hn) (.inr hn), fun n hn => k.wrk n (h.wr n hn) (.inr hn), fun p hp => by rw [k.ask]; exact h.ask p hp, fun n hn hl => (k.low n hl).trans (h.hp n (fun hw => hn (k.wrk n hw (.inl hl))) hl), fun hw => ?_, fun n hn => h.al n (k.wr n hn)⟩
  have h1 := h.wf hw
  refine ⟨fun n hn => ?_, fun n hn => ?_⟩
  · have h2 := h1.wr n (k.wr n hn)
    refine ⟨?_, by rw [k.nx]; exact h2.2⟩
    rcases k.wrb n hn with h3 | h3 | h3
    · rw [h3]; exact h2.1
    · exact k.frk n h2.1 (.inl h3)
    · exact k.frk n h2.1 (.inr (hw.wr n h3).1)
  · cases hx : hget n st'.hp with
    | none => rfl
    | some c =>
      have h7 := k.hp n c hx
      rw [h1.top n (k.nx ▸ hn)] at h7
      cases h7
theorem Tr.sweep (t : Tr A P B F st st1 ρ own w ρ' own' w') (k : Swept st st1 st') (hw : Wf st1) : Tr A P B F st st' ρ own w ρ' own' w' := by
  have hn : ∀ n, newN st st' n ↔ newN st st1 n := fun n => by unfold newN; rw [k.nx]
  have keep : ∀ m, m ∈ st1.wr → ¬ newN st st1 m → m ∈ st'.wr := fun m hm hnn => k.wrk m hm (.inl (by
    have := (hw.wr m hm).2
    unfold newN at hnn
    omega))
  refine ⟨t.le, fun n hx => t.out n (fun h => hx ((hn n).2 h)), fun n hx hw' => t.same n (fun h => hx ((hn n).2 h)) (fun h => hw' (keep n h (fun h => hx ((hn n).2 h)))), fun n hx b hb => ?_, ?_, t.mod.mono fun b _ ⟨m, g1, g2, g3⟩ => ⟨m, keep m g1 g2, fun h => g2 ((hn m).1 h), g3⟩⟩
  · rcases t.pool n (hx.imp (hn n).1 (k.wr n)) b hb with g | ⟨m, g1, g2, g3⟩
    · exact .inl g
    · exact .inr ⟨m, keep m g1 g2, fun h => g2 ((hn m).1 h), g3⟩
  · exact ⟨fun n c hx hc => t.li.at_ n c (hx.imp_right (hn n).1) (k.hp n c hc), fun n m c d hx hy hne hc hd => t.li.dis n m c d (hx.imp_right (hn n).1) (hy.imp_right (hn m).1) hne (k.hp n c hc) (k.hp m d hd),
      fun n c hx hc => t.li.low n c (hx.imp_right (hn n).1) (k.hp n c hc)⟩

theorem elook_zip : ∀ {args : List SV} {k t : Nat} {s : SV}, elook t ((args.zipIdx k).map fun p => (p.2, p.1)) = some s → k ≤ t ∧ args[t - k]? = some s
  | [], k, t, s, h => by simp [elook] at h
  | x :: args, k, t, s, h => by
    rw [List.zipIdx_cons, List.map_cons, elook_cons] at h
    split at h
    · next e =>
      subst e
      simp only [Option.some.injEq] at h
      subst h
      simp
    · obtain ⟨h1, h2⟩ := elook_zip h
      refine ⟨by omega, ?_⟩
      rw [show t - k = (t - (k + 1)) + 1 by omega, List.getElem?_cons_succ]
      exact h2

structure LibOK (A : RepAt R) (P : Program) (lib : Lib R) : Prop where
  prim : ∀ f args m, lib.prim f args = some m → ∀ st s st', m st = .ok s st' → CallS A P f args st st' s
  ext : ∀ ev o m, lib.ext ev o = some m → ∀ st s st', m st = .ok s st' → OpS A P o ev st st' s
  tidy : ∀ f, lib.tidy = some f → ∀ st s k, f st s k = k st s
theorem call_s {lib : Lib R} (hp : LibOK A P lib) {run : Nat → Code → Env → M R (Ex × Env)} (hrun : RunOK A P run) : CallOK A P (callF P lib run) := by
  intro f args st s st' h
  unfold callF at h
  cases hpf : lib.prim f args with
  | some p =>
    rw [hpf] at h
    exact hp.prim f args p hpf st s st' h
  | none =>
    rw [hpf] at h
    simp only at h
    cases hf : P.funcs[f]? with
    | none => rw [hf] at h; exact (fail_ok.1 h).elim
    | some fn =>
      rw [hf] at h
      simp only at h
      cases hb : fn.body with
      | none => rw [hb] at h; exact (fail_ok.1 h).elim
      | some c =>
        rw [hb] at h
        obtain ⟨lo, st0, h1, h2⟩ := bind_ok.1 h
        simp only [stNow, Res.ok.injEq] at h1
        obtain ⟨rfl, rfl⟩ := h1
        obtain ⟨_, _, h3, h4⟩ := bind_ok.1 h2
        obtain ⟨hle, rfl⟩ := want_ok.1 h3
        have hle := Nat.le_of_ble_eq_true hle
        obtain ⟨⟨ex, e1⟩, st1, h5, h6⟩ := bind_ok.1 h4
        have g := hrun _ _ _ _ _ _ h5
        have key : ∀ (st2 : St R) (l : List SV), resX P e1 fn.results.toList st1 = .ok l st2 → sweepX lib.tidy st (oneOf l) st2 = .ok s st' → (ex = .nor ∨ ex = .ret) → CallS A P f args st st' s := by
          intro st2 l h7 h8 hex
          obtain ⟨rfl, rfl⟩ := sweepX_ok hp.tidy h8
          obtain ⟨q, hres⟩ := res_s (A := A) (sz := fn.ntmps) h7
          have f2 := g.1.trans q.fn
          have hs' := sweep_s (st := st) (st1 := st2) (oneOf l)
          refine ⟨f2.sweep hs', fun B F ρ own w vals si hd => ?_⟩
          have hlen := denL_length hd
          have hlog : ∀ n, n ∈ st2.fr → F n ∨ st.nx ≤ n := fun n hn => by
            rcases Nat.lt_or_ge n st.nx with hl | hl
            · exact .inl (si.log n (hs'.frk n hn (.inl hl)))
            · exact .inr hl
          have hup : ∀ n c, st.nx ≤ n → hget n st.hp = some c → False := fun n c hn hc => by
            rw [si.wf.top n hn] at hc
            cases hc
          have si1 : Sit A P B (fun n => F n ∨ st.nx ≤ n) st st1 ρ own w := ⟨fun n hn => hlog n (q.fr n hn), si.wf, fun n hn => si.fresh n ⟨hn.1, by rw [hs'.nx, q.nx]; exact hn.2⟩,
            ⟨fun n c hn hc => si.li.at_ n c (hn.resolve_right (fun h => hup n c h hc)) hc, fun n m c d hn hm hne hc hd => si.li.dis n m c d (hn.resolve_right (fun h => hup n c h hc)) (hm.resolve_right (fun h => hup m d h hd)) hne hc hd, fun n c hn hc => si.li.low n c (hn.resolve_right (fun h => hup n c h hc)) hc⟩,
            fun p hp => si.ask p (by rw [hs'.ask]; exact q.ask p hp), si.base⟩
          refine calls_of_wp hf hb ?_
          refine g.2 B _ ρ own w _ si1 (fun t s hts => ?_) (by simp; omega) _ (fun a' ρ' own' w' t he hz hdf => ?_)
          · obtain ⟨_, h9⟩ := elook_zip hts
            rw [Nat.sub_zero] at h9
            obtain ⟨x, g1, g2⟩ := denL_get hd h9
            refine ⟨x, ?_, g1⟩
            rw [Array.getElem?_append_left (by rw [List.size_toArray]; exact lt_of_some g2), List.getElem?_toArray]
            exact g2
          · obtain ⟨vs, g1, g2⟩ := hres B _ ρ' own' w' a' t.li (fun n hn => .inl (hlog n hn)) he hz
            have hr : (results fn a'.tmps).run P w' = .ok (if h : vs.length = 1 then vs[0] else .tuple vs.toArray) w' := by
              have e : results fn a'.tmps = (do
                  let vs ← fn.results.mapM (resOp a'.tmps)
                  pure (if h : vs.size = 1 then vs[0] else .tuple vs)) := rfl
              rw [e, Array.mapM_eq_mapM_toList]
              simp only [Sem.run_bind, Sem.run_map, g2, Result.andThen_ok, Sem.run_pure]
              congr 1
            have ht2 : Tr A P B F st st2 ρ own w ρ' own' w' := by
              refine ⟨t.le, fun n hn => t.out n (fun h => hn (by unfold newN at h ⊢; rw [q.nx]; exact h)), fun n hn hw => t.same n (fun h => hn (by unfold newN at h ⊢; rw [q.nx]; exact h)) (by rw [← q.wr]; exact hw), fun n hn b hb => ?_, ?_, ?_⟩
              · rcases t.pool n (hn.imp (fun h => by unfold newN at h ⊢; rw [← q.nx]; exact h) (fun h => by rw [← q.wr]; exact h)) b hb with g | ⟨m, g1, g2, g3⟩
                · exact .inl g
                · exact .inr ⟨m, by rw [q.wr]; exact g1, fun h => g2 (by unfold newN at h ⊢; rw [← q.nx]; exact h), g3⟩
              · rw [q.hp]
                exact t.li.sub fun n hn => hn.imp .inl fun h => by unfold newN at h ⊢; rw [← q.nx]; exact h
              · exact t.mod.mono fun b _ ⟨m, g1, g2, g3⟩ => ⟨m, by rw [q.wr]; exact g1, fun h => g2 (by unfold newN at h ⊢; rw [← q.nx]; exact h), g3⟩
            have hone : den ρ' (oneOf l) = some (if h : vs.length = 1 then vs[0] else .tuple vs.toArray) := by
              have hl := denL_length g1
              cases l with
              | nil =>
                simp only [denL, Option.some.injEq] at g1
                subst g1
                rfl
              | cons x l =>
                obtain ⟨y, ys, g3, g4, rfl⟩ := denL_cons.1 g1
                cases l with
                | nil =>
                  simp only [denL, Option.some.injEq] at g4
                  subst g4
                  simpa [oneOf] using g3
                | cons z l =>
                  simp only [List.length_cons] at hl
                  rw [dif_neg (by simp only [List.length_cons]; omega)]
                  simp only [oneOf, den, g1, Option.map_some]
            have hpost : ∃ v, (results fn a'.tmps).run P w' = .ok v w' ∧ ∃ x ρ' own', Ending.returned v = .returned x ∧ den ρ' (oneOf l) = some x ∧ Tr A P B F st _ ρ own w ρ' own' w' := ⟨_, hr, _, ρ', own', rfl, hone, ht2.sweep hs' (f2.wf si.wf)⟩
            rcases hex with rfl | rfl
            · exact ⟨hdf, hpost⟩
            · exact ⟨hdf, hpost⟩
        simp only at h6
        cases ex with
        | out id => exact (fail_ok.1 h6).elim
        | nor =>
          obtain ⟨l, st2, h7, h8⟩ := bind_ok.1 h6
          exact key st2 l h7 h8 (.inl rfl)
        | ret =>
          obtain ⟨l, st2, h7, h8⟩ := bind_ok.1 h6
          exact key st2 l h7 h8 (.inr rfl)

theorem run_s (hm : P.follows .mixedOrders = true) {lib : Lib R} (hp : LibOK A P lib) : ∀ n, RunOK A P (runX P lib n) ∧ ∀ sz c e st r st', runX P lib n sz (.loop c) e st = .ok r st' → CodeS A P sz (fun Q a w => Code.rounds P c Q n a w) e st st' r
  | 0 => ⟨fun _ _ _ _ _ _ h => (fail_ok.1 h).elim, fun _ _ _ _ _ _ h => (fail_ok.1 h).elim⟩
  | n + 1 => by
    obtain ⟨h1, h2⟩ := run_s hm hp n
    have hc := call_s hp h1
    have hl : ∀ sz c e st r st', runX P lib (n + 1) sz (.loop c) e st = .ok r st' → CodeS A P sz (fun Q a w => Code.rounds P c Q (n + 1) a w) e st st' r := fun sz c e st r st' h => loop_s h1 (fun e st r st' => h2 sz c e st r st') h
    refine ⟨fun sz c e st r st' h => ?_, hl⟩
    by_cases hnl : ∃ c', c = .loop c'
    · obtain ⟨c', rfl⟩ := hnl
      obtain ⟨hf, hs⟩ := hl sz c' e st r st' h
      exact ⟨hf, fun B F ρ own w a si he hz Q hk => wp_loop_rounds (n + 1) (hs B F ρ own w a si he hz Q hk)⟩
    · exact code_s hm ⟨hc, hp.ext⟩ h1 (fun c' e => hnl ⟨c', e⟩) h

/-- WHAT THE EXECUTOR SAYS OF A CALL, THE MACHINE DOES. -/
theorem callX_s (hm : P.follows .mixedOrders = true) {lib : Lib R} (hp : LibOK A P lib) (n : Nat) : CallOK A P (callX P lib n) := call_s hp (run_s hm hp n).1
end
end Go.Proofs.Ytdjogfofedbohaa
end
section
/- The executor at a call out of nothing: what it answers, the machine answers, and nothing that was there has changed. Condition: the program follows the looser reading of Go's order. -/
namespace Go.Proofs.Ytdjogfofedbohaa

section
variable {R : Type} {A : RepAt R} {P : Program}
def St.none (o : List (Option Bool)) : St R := ⟨[], 0, [], [], [], o⟩
def noNames : Names := fun _ => .none
theorem closed_s {call : FuncId → List SV → M R SV} (hc : CallOK A P call) {f : FuncId} {args : List SV} {o : List (Option Bool)} {s : SV} {st : St R} (h : call f args (St.none o) = .ok s st) (hask : ∀ p ∈ st.ask, p.1 = p.2) (w : World) {vals : List Value} (hv : denL noNames args = some vals) :
    Calls P f vals.toArray w fun e w' => ∃ x ρ, e = .returned x ∧ den ρ s = some x ∧ Mod [] w w' := by
  obtain ⟨hf, hs⟩ := hc _ _ _ _ _ h
  have hwf : Wf (St.none o : St R) := ⟨(fun n hn => by cases hn), fun _ _ => rfl⟩
  refine (hs w.heap.size (fun n => n ∈ st.fr) noNames (fun _ => []) w vals ⟨fun n h => h, hwf, fun _ _ => rfl, ⟨(fun n c _ hc => by cases hc), (fun n m c d _ _ _ hc => by cases hc), fun n c _ hc => by cases hc⟩, hask, Nat.le_refl _⟩ hv).mono fun e w' ⟨x, ρ', own', he, hx, ht⟩ => ⟨x, ρ', he, hx, ht.mod.mod fun b _ ⟨m, hm, hn, _⟩ => ?_⟩
  exact absurd ⟨Nat.zero_le _, ((hf.wf hwf).wr m hm).2⟩ hn

def AllAsk : List (Bool × Bool) → Prop
  | [] => True
  | p :: l => p.1 = p.2 ∧ AllAsk l
theorem AllAsk.all : ∀ {l : List (Bool × Bool)}, AllAsk l → ∀ p ∈ l, p.1 = p.2
  | [], _, p, h => by cases h
  | q :: l, ⟨h1, h2⟩, p, h => by
    rcases List.mem_cons.1 h with rfl | h
    · exact h1
    · exact AllAsk.all h2 p h
/-- What came of it, and on what tests. -/
def outcome (r : Res R SV) : Option SV × List (Bool × Bool) := match r with
  | .ok s st => (some s, st.ask)
  | .no e l => (some (.slE e), l)
/-- What is answered, and on what tests. -/
def answer (r : Res R SV) : Option (SV × List (Bool × Bool)) := match r with
  | .ok s st => some (s, st.ask)
  | .no _ _ => .none
theorem answer_of {r : Res R SV} {s : SV} {l : List (Bool × Bool)} (h : answer r = some (s, l)) : ∃ st, r = .ok s st ∧ st.ask = l := by
  unfold answer at h
  split at h
  · simp only [Option.some.injEq, Prod.mk.injEq] at h
    obtain ⟨rfl, rfl⟩ := h
    exact ⟨_, rfl, rfl⟩
  · cases h
theorem closed_ans {call : FuncId → List SV → M R SV} (hc : CallOK A P call) {f : FuncId} {args : List SV} {o : List (Option Bool)} {x : Value} {l : List (Bool × Bool)} (h : answer (call f args (St.none o)) = some (.v x, l)) (hl : ∀ p ∈ l, p.1 = p.2) (w : World) {vals : List Value} (hv : denL noNames args = some vals) :
    Calls P f vals.toArray w fun e w' => e = .returned x ∧ Mod [] w w' := by
  obtain ⟨st, hs, ha⟩ := answer_of h
  refine (closed_s hc hs (fun p hp => hl p (ha ▸ hp)) w hv).mono fun e w' ⟨y, ρ, he, hx, hm⟩ => ?_
  simp only [den, Option.some.injEq] at hx
  subst hx
  exact ⟨he, hm⟩

/-- By some oracle the answer is such a one. -/
def Good (r : List (Option Bool) → Res R SV) (Q : Value → Prop) : Prop := ∃ o l x, answer (r o) = some (.v x, l) ∧ AllAsk l ∧ Q x
theorem good_ans {call : FuncId → List SV → M R SV} (hc : CallOK A P call) {f : FuncId} {args : List SV} {Q : Value → Prop} (h : Good (fun o => call f args (St.none o)) Q) (w : World) {vals : List Value} (hv : denL noNames args = some vals) :
    Calls P f vals.toArray w fun e w' => ∃ x, Q x ∧ e = .returned x ∧ Mod [] w w' := by
  obtain ⟨o, l, x, h1, h2, h3⟩ := h
  exact (closed_ans hc h1 h2.all w hv).mono fun e w' ⟨he, hm⟩ => ⟨x, h3, he, hm⟩
/-- The answer true, without a test that was not decided. -/
def okTrue (r : Res R SV) : Bool := match r with
  | .ok (.v (.bool true)) ⟨_, _, _, _, [], _⟩ => true
  | _ => false
theorem okTrue_of {r : Res R SV} (h : okTrue r = true) : ∃ st, r = .ok (.v (.bool true)) st ∧ st.ask = [] := by
  unfold okTrue at h
  split at h
  · exact ⟨_, rfl, rfl⟩
  · cases h
theorem closed_true' {call : FuncId → List SV → M R SV} (hc : CallOK A P call) {f : FuncId} {args : List SV} (h : okTrue (call f args (St.none [])) = true) (w : World) {vals : List Value} (hv : denL noNames args = some vals) : Calls P f vals.toArray w fun e w' => e = .returned (.bool true) ∧ Mod [] w w' := by
  obtain ⟨st, hs, ha⟩ := okTrue_of h
  refine (closed_s hc hs (fun p hp => by rw [ha] at hp; cases hp) w hv).mono fun e w' ⟨x, ρ, he, hx, hm⟩ => ?_
  simp only [den, Option.some.injEq] at hx
  subst hx
  exact ⟨he, hm⟩
theorem closed_true {call : FuncId → List SV → M R SV} (hc : CallOK A P call) {f : FuncId} (h : okTrue (call f [] (St.none [])) = true) (w : World) : Calls P f #[] w fun e w' => e = .returned (.bool true) ∧ Mod [] w w' := by
  obtain ⟨st, hs, ha⟩ := okTrue_of h
  refine (closed_s hc hs (fun p hp => by rw [ha] at hp; cases hp) w (vals := []) rfl).mono fun e w' ⟨x, ρ, he, hx, hm⟩ => ?_
  simp only [den, Option.some.injEq] at hx
  subst hx
  exact ⟨he, hm⟩
end
end Go.Proofs.Ytdjogfofedbohaa
end
section
/- Calls that are known by themselves and leave what is there alone. No condition. -/
namespace Go.Proofs.Ytdjogfofedbohaa

section
variable {R : Type} {A : RepAt R} {P : Program}
theorem Tr.idle {B : Nat} {F : Nat → Prop} {st : St R} {ρ : Names} {own : Nat → List Nat} {w w' : World} (si : Sit A P B F st st ρ own w) (hm : Mod [] w w') : Tr A P B F st st ρ own w ρ own w' := by
  have hmP : ModP (fun _ => False) w w' := (ModP.of_mod hm).mono (fun _ _ h => by cases h)
  have hn : ∀ n, ¬ newN st st n := fun n h => by unfold newN at h; omega
  refine ⟨Names.le.refl _, fun _ _ => rfl, fun _ _ _ => rfl, fun n h b hb => .inr ⟨n, h.resolve_left (hn n), hn n, hb⟩, ?_, hmP.mono (fun _ _ h => h.elim)⟩
  refine (LI.step (X := fun _ => False) si.li hmP (Names.le.refl _) (fun _ h => h.elim) (fun n c h _ hc => ⟨h.resolve_right (hn n), hc, rfl⟩) (fun _ _ _ h => h.elim) (fun _ _ _ h => h.elim) (fun _ _ _ _ _ _ h => h.elim))

/-- A table of calls whose answers are known. -/
abbrev Tab := FuncId → List SV → Option SV
def TabOK (P : Program) (g : Tab) : Prop := ∀ f args s, g f args = some s → ∀ (ρ : Names) vals (w : World), denL ρ args = some vals → Calls P f vals.toArray w fun e w' => ∃ x, e = .returned x ∧ den ρ s = some x ∧ Mod [] w w'
def Lib.with (l : Lib R) (g : Tab) : Lib R := ⟨fun f args => match g f args with
  | some s => some (.ret s)
  | .none => l.prim f args, l.ext, l.tidy⟩
theorem Lib.with_ok {l : Lib R} {g : Tab} (hl : LibOK A P l) (hg : TabOK P g) : LibOK A P (l.with g) := by
  refine ⟨fun f args m hm st s st' h => ?_, hl.ext, hl.tidy⟩
  simp only [Lib.with] at hm
  split at hm
  · next s0 hs =>
    injection hm with hm
    subst hm
    obtain ⟨rfl, rfl⟩ := ret_ok.1 h
    exact ⟨Fn.refl _, fun B F ρ own w vals si hv => (hg _ _ _ hs ρ vals w hv).mono fun e w' ⟨x, h1, h2, h3⟩ => ⟨x, ρ, own, h1, h2, Tr.idle si h3⟩⟩
  · exact hl.prim f args m hm st s st' h
/-- One call's answer. -/
def Tab.one (f : FuncId) (k : List SV → Option SV) : Tab := fun g args => match Nat.beq g f with
  | true => k args
  | false => .none
def Tab.or (a b : Tab) : Tab := fun f args => match a f args with
  | some s => some s
  | .none => b f args
theorem TabOK.or {a b : Tab} (ha : TabOK P a) (hb : TabOK P b) : TabOK P (a.or b) := fun f args s h => by
  simp only [Tab.or] at h
  split at h
  · next s0 hs =>
    injection h with h
    subst h
    exact ha f args _ hs
  · exact hb f args s h
theorem TabOK.one {f : FuncId} {k : List SV → Option SV} (h : ∀ args s, k args = some s → ∀ (ρ : Names) vals (w : World), denL ρ args = some vals → Calls P f vals.toArray w fun e w' => ∃ x, e = .returned x ∧ den ρ s = some x ∧ Mod [] w w') : TabOK P (Tab.one f k) := fun g args s hs => by
  simp only [Tab.one] at hs
  split at hs
  · next hb =>
    obtain rfl := Nat.eq_of_beq_eq_true hb
    exact h args s hs
  · cases hs
/-- A call without arguments that answers true. -/
def kTrue : List SV → Option SV
  | [] => some (.v (.bool true))
  | _ => .none
theorem TabOK.true {f : FuncId} (h : ∀ w, Calls P f #[] w fun e w' => e = .returned (.bool true) ∧ Mod [] w w') : TabOK P (Tab.one f kTrue) := TabOK.one fun args s hs ρ vals w hv => by
  unfold kTrue at hs
  split at hs <;> cases hs
  simp only [denL, Option.some.injEq] at hv
  subst hv
  exact (h w).mono fun e w' ⟨he, hm⟩ => ⟨_, he, rfl, hm⟩
/-- Two ints in, a value out. -/
def kI2 (g : Int → Int → Value) : List SV → Option SV
  | [.v (.int .i64 a), .v (.int .i64 b)] => some (.v (g a b))
  | _ => .none
theorem TabOK.i2 {f : FuncId} {g : Int → Int → Value} (h : ∀ a b w, Calls P f #[.int .i64 a, .int .i64 b] w fun e w' => e = .returned (g a b) ∧ Mod [] w w') : TabOK P (Tab.one f (kI2 g)) := TabOK.one fun args s hs ρ vals w hv => by
  unfold kI2 at hs
  split at hs <;> cases hs
  simp only [denL, den, Option.some.injEq] at hv
  subst hv
  exact (h _ _ w).mono fun e w' ⟨he, hm⟩ => ⟨_, he, rfl, hm⟩
/-- A word in, a value out. -/
def kU1 (g : Int → Value) : List SV → Option SV
  | [.v (.int .u64 a)] => some (.v (g a))
  | _ => .none
theorem TabOK.u1 {f : FuncId} {g : Int → Value} (h : ∀ a w, Calls P f #[.int .u64 a] w fun e w' => e = .returned (g a) ∧ Mod [] w w') : TabOK P (Tab.one f (kU1 g)) := TabOK.one fun args s hs ρ vals w hv => by
  unfold kU1 at hs
  split at hs <;> cases hs
  simp only [denL, den, Option.some.injEq] at hv
  subst hv
  exact (h _ w).mono fun e w' ⟨he, hm⟩ => ⟨_, he, rfl, hm⟩
end
end Go.Proofs.Ytdjogfofedbohaa
end
section
/- Rows of elements of open number, in memory: what it means, a store into one, and elements behind all. No condition. -/
namespace Go.Proofs.Ytdjogfofedbohaa
open Go.RowKit

/-- An element's cells. -/
def RowOK (k : Nat) (r : List Value) : Prop := r.length = k ∧ ∀ v ∈ r, v.oneCell' = true
/-- A row of len elements of k cells each. -/
def VecAt (f : Nat → List Value) (len : Nat) (t : TypeId) (k : Nat) (e : Spot) (own : List Nat) (w : World) : Prop :=
  e.len = len ∧ e.sz = k ∧ len ≤ e.cap ∧ (∀ i, i < len → RowOK k (f i)) ∧ match e.ad with
  | none => own = [] ∧ e.cap = 0
  | some g => g = ⟨e.b, e.off, none⟩ ∧ own = [e.b] ∧ ∃ cs, w.heap[e.b]? = some (.cells cs t (0, 0)) ∧ e.off + e.cap * k ≤ cs.size ∧ ∀ i, i < len → ∀ j, j < k → cs[e.off + (i * k + j)]? = (f i)[j]?
/-- The same of an argument's, that nobody writes. -/
def TabAt (B : Nat) (f : Nat → List Value) (len : Nat) (k : Nat) (e : Spot) (own : List Nat) (w : World) : Prop :=
  own = [] ∧ e.len = len ∧ e.sz = k ∧ (0 < len → e.ad = some ⟨e.b, e.off, none⟩ ∧ e.b < B ∧ e.b < w.heap.size) ∧ ∀ i, i < len → RowOK k (f i) ∧ ∀ j, j < k → w.cell? ⟨e.b, e.off + i * k + j, none⟩ = (f i)[j]?

section
variable {f : Nat → List Value} {len k B : Nat} {t : TypeId} {e : Spot} {own : List Nat} {w w' : World} {P : Program}
theorem VecAt.modP {T : Nat → Prop} (h : VecAt f len t k e own w) (hm : ModP T w w') (hT : ∀ x ∈ own, ¬ T x) : VecAt f len t k e own w' := by
  obtain ⟨h1, h2, h3, h4, h5⟩ := h
  refine ⟨h1, h2, h3, h4, ?_⟩
  cases ha : e.ad with
  | none => rw [ha] at h5; exact h5
  | some g =>
    rw [ha] at h5
    obtain ⟨g1, g2, cs, g3, g4⟩ := h5
    refine ⟨g1, g2, cs, ?_, g4⟩
    rw [hm.block e.b (heap_lt g3) (hT _ (by rw [g2]; simp))]
    exact g3
theorem TabAt.modP {T : Nat → Prop} (h : TabAt B f len k e own w) (hm : ModP T w w') (hB : ∀ x, T x → B ≤ x) : TabAt B f len k e own w' := by
  obtain ⟨h1, h2, h3, h4, h5⟩ := h
  refine ⟨h1, h2, h3, fun hl => ?_, fun i hi => ?_⟩
  · obtain ⟨g1, g2, g3⟩ := h4 hl
    exact ⟨g1, g2, Nat.lt_of_lt_of_le g3 hm.size⟩
  · obtain ⟨g1, g2, g3⟩ := h4 (by omega)
    obtain ⟨g4, g5⟩ := h5 i hi
    refine ⟨g4, fun j hj => ?_⟩
    rw [← g5 j hj]
    exact World.cell?_of_block (w := w) (hm.block e.b g3 (fun ht => by have := hB _ ht; omega))

theorem VecAt.cell (h : VecAt f len t k e own w) {i j : Nat} (hi : i < len) {v : Value} (hv : (f i)[j]? = some v) : w.cell? ⟨e.b, e.off + i * k + j, none⟩ = some v := by
  obtain ⟨h1, h2, h3, h4, h5⟩ := h
  have hj := lt_of_some hv
  rw [(h4 i hi).1] at hj
  cases ha : e.ad with
  | none => rw [ha] at h5; have := h5.2; omega
  | some g =>
    rw [ha] at h5
    obtain ⟨g1, g2, cs, g3, g4, g5⟩ := h5
    rw [cell_of_row w e.b _ cs t (0, 0) g3, Nat.add_assoc, g5 i hi j hj]
    exact hv
theorem TabAt.cell (h : TabAt B f len k e own w) {i j : Nat} (hi : i < len) {v : Value} (hv : (f i)[j]? = some v) : w.cell? ⟨e.b, e.off + i * k + j, none⟩ = some v := by
  obtain ⟨_, _, _, _, h5⟩ := h
  obtain ⟨g4, g5⟩ := h5 i hi
  have hj := lt_of_some hv
  rw [g5 j (by rw [← g4.1]; omega)]
  exact hv

def spliceV (l : List Value) (off : Nat) (cs : List Value) : List Value := l.take off ++ (cs ++ l.drop (off + cs.length))
theorem spliceV_length {l cs : List Value} {off : Nat} (h : off + cs.length ≤ l.length) : (spliceV l off cs).length = l.length := splice_length h
theorem spliceV_get {l cs : List Value} {off : Nat} (h : off + cs.length ≤ l.length) (i : Nat) : (spliceV l off cs)[i]? = if i < off then l[i]? else if i < off + cs.length then cs[i - off]? else l[i]? := splice_get h i

/-- An element's cells are written. -/
theorem VecAt.write (h : VecAt f len t k e own w) {i j : Nat} (hi : i < len) {us : List Value} (hj : j + us.length ≤ k) (h1 : ∀ v ∈ us, v.oneCell' = true) :
    ∃ w', (storeCells ⟨e.b, e.off + i * k + j, none⟩ us).run P w = .ok () w' ∧ ModP (fun b => b ∈ own) w w' ∧ VecAt (fun m => if m = i then spliceV (f i) j us else f m) len t k e own w' := by
  obtain ⟨g1, g2, g3, g4, h5⟩ := h
  cases ha : e.ad with
  | none => rw [ha] at h5; have := h5.2; omega
  | some g =>
    rw [ha] at h5
    obtain ⟨a1, a2, cs, a3, a4, a5⟩ := h5
    have hik : i * k + k ≤ e.cap * k := by
      have : (i + 1) * k ≤ e.cap * k := Nat.mul_le_mul_right _ (by omega)
      rw [Nat.add_mul, Nat.one_mul] at this
      exact this
    have hst := run_storeCells_at (P := P) e.b (e.off + i * k + j) t us 0 cs w a3 (by simp only [Nat.add_zero]; omega) h1
    simp only [Nat.add_zero] at hst
    refine ⟨_, hst, ⟨rfl, rfl, rfl, by simp, fun q hq hn => ?_⟩, g1, g2, g3, fun m hm => ?_, ?_⟩
    · exact setRow_other w e.b q _ (fun hke => hn (by rw [a2, hke]; simp))
    · by_cases hmi : m = i
      · subst hmi
        simp only [if_true]
        refine ⟨by rw [spliceV_length (by rw [(g4 m hm).1]; omega), (g4 m hm).1], fun v hv => ?_⟩
        simp only [spliceV, List.mem_append] at hv
        rcases hv with hv | hv | hv
        · exact (g4 m hm).2 v (List.mem_of_mem_take hv)
        · exact h1 v hv
        · exact (g4 m hm).2 v (List.mem_of_mem_drop hv)
      · simp only [hmi, if_false]
        exact g4 m hm
    · rw [ha]
      refine ⟨a1, a2, _, setRow_heap w e.b cs _ t (0, 0) a3, ?_, fun m hm c hc => ?_⟩
      · rw [List.size_toArray, List.append_assoc, splice_length (by simp; omega)]
        simpa using a4
      · rw [List.getElem?_toArray, List.append_assoc, splice_get (by simp; omega)]
        by_cases hmi : m = i
        · subst hmi
          simp only [if_true]
          rw [spliceV_get (by rw [(g4 m hm).1]; omega)]
          by_cases q1 : c < j
          · rw [if_pos (by omega), if_pos q1, Array.getElem?_toList]
            exact a5 m hm c hc
          · rw [if_neg (by omega), if_neg q1]
            by_cases q2 : c < j + us.length
            · rw [if_pos (by omega), if_pos q2]
              congr 1
              omega
            · rw [if_neg (by omega), if_neg q2, Array.getElem?_toList]
              exact a5 m hm c hc
        · simp only [hmi, if_false]
          have hsep : m * k + c < i * k ∨ i * k + k ≤ m * k + c := by
            rcases Nat.lt_or_gt_of_ne hmi with hl | hl
            · have : (m + 1) * k ≤ i * k := Nat.mul_le_mul_right _ hl
              rw [Nat.add_mul, Nat.one_mul] at this
              omega
            · have : (i + 1) * k ≤ m * k := Nat.mul_le_mul_right _ hl
              rw [Nat.add_mul, Nat.one_mul] at this
              omega
          rcases hsep with hl | hl
          · rw [if_pos (by omega), Array.getElem?_toList]
            exact a5 m hm c hc
          · rw [if_neg (by omega), if_neg (by omega), Array.getElem?_toList]
            exact a5 m hm c hc

/-- The elements behind len are others. -/
def joinF (f : Nat → List Value) (len : Nat) (g : Nat → List Value) : Nat → List Value := fun i => if i < len then f i else g (i - len)
/-- Cells stand as elements. -/
def rowsF (k : Nat) (l : List Value) : Nat → List Value := fun i => (l.drop (i * k)).take k
theorem rowsF_length {k : Nat} {l : List Value} {m i : Nat} (hl : l.length = m * k) (hi : i < m) : (rowsF k l i).length = k := by
  have : (i + 1) * k ≤ m * k := Nat.mul_le_mul_right _ hi
  rw [Nat.add_mul, Nat.one_mul] at this
  simp [rowsF]
  omega
theorem rowsF_get {k : Nat} {l : List Value} {i j : Nat} (hj : j < k) : (rowsF k l i)[j]? = l[i * k + j]? := by
  simp [rowsF, hj]

/-- There is room behind the first elements: cells are written there. -/
theorem VecAt.extend {len0 : Nat} (h : VecAt f len0 t k e own w) (hlen : len ≤ len0) {m : Nat} (hroom : len + m ≤ e.cap) (hm0 : 0 < m) {g : Nat → List Value} (hg : ∀ i, i < m → RowOK k (g i)) {us : List Value} (hus : us.length = m * k)
    (hug : ∀ i, i < m → ∀ j, j < k → us[i * k + j]? = (g i)[j]?) (h1 : ∀ v ∈ us, v.oneCell' = true) :
    ∃ w', e.ad = some ⟨e.b, e.off, none⟩ ∧ (storeCells ⟨e.b, e.off + len * k, none⟩ us).run P w = .ok () w' ∧ ModP (fun b => b ∈ own) w w' ∧ VecAt (joinF f len g) (len + m) t k ⟨e.b, e.cap, e.off, k, len + m, e.ad⟩ own w' := by
  obtain ⟨g1, g2, g3, g4, h5⟩ := h
  cases ha : e.ad with
  | none => rw [ha] at h5; have := h5.2; omega
  | some ad =>
    rw [ha] at h5
    obtain ⟨a1, a2, cs, a3, a4, a5⟩ := h5
    have hik : (len + m) * k ≤ e.cap * k := Nat.mul_le_mul_right _ hroom
    rw [Nat.add_mul] at hik
    have hst := run_storeCells_at (P := P) e.b (e.off + len * k) t us 0 cs w a3 (by simp only [Nat.add_zero]; omega) h1
    simp only [Nat.add_zero] at hst
    refine ⟨_, by rw [a1], hst, ⟨rfl, rfl, rfl, by simp, fun q hq hn => ?_⟩, rfl, rfl, hroom, fun i hi => ?_, a1, a2, _, setRow_heap w e.b cs _ t (0, 0) a3, ?_, fun i hi c hc => ?_⟩
    · exact setRow_other w e.b q _ (fun hke => hn (by rw [a2, hke]; simp))
    · unfold joinF
      by_cases hil : i < len
      · rw [if_pos hil]; exact g4 i (by omega)
      · rw [if_neg hil]; exact hg _ (by omega)
    · rw [List.size_toArray, List.append_assoc, splice_length (by simp; omega)]
      simpa using a4
    · change (List.toArray _)[e.off + (i * k + c)]? = _
      rw [List.getElem?_toArray, List.append_assoc, splice_get (by simp; omega)]
      unfold joinF
      by_cases hil : i < len
      · have : (i + 1) * k ≤ len * k := Nat.mul_le_mul_right _ hil
        rw [Nat.add_mul, Nat.one_mul] at this
        rw [if_pos (by omega), if_pos hil, Array.getElem?_toList]
        exact a5 i (by omega) c hc
      · have h6 : len * k ≤ i * k := Nat.mul_le_mul_right _ (by omega)
        have h7 : (i - len + 1) * k ≤ m * k := Nat.mul_le_mul_right _ (by omega)
        have h8 : i * k = len * k + (i - len) * k := by
          rw [← Nat.add_mul]
          congr 1
          omega
        rw [Nat.add_mul, Nat.one_mul] at h7
        rw [if_neg (by omega), if_pos (by omega), if_neg hil, ← hug (i - len) (by omega) c hc]
        congr 1
        omega
/-- The elements' cells, one behind the other. -/
def flatF (f : Nat → List Value) : Nat → List Value
  | 0 => []
  | n + 1 => flatF f n ++ f n
theorem flatF_length {f : Nat → List Value} {k : Nat} : ∀ {n : Nat}, (∀ i, i < n → (f i).length = k) → (flatF f n).length = n * k
  | 0, _ => by simp [flatF]
  | n + 1, h => by
    rw [flatF, List.length_append, flatF_length (fun i hi => h i (by omega)), h n (by omega), Nat.add_mul, Nat.one_mul]
theorem flatF_get {f : Nat → List Value} {k : Nat} : ∀ {n : Nat}, (∀ i, i < n → (f i).length = k) → ∀ {i j : Nat}, i < n → j < k → (flatF f n)[i * k + j]? = (f i)[j]?
  | 0, _, i, _, hi, _ => by omega
  | n + 1, h, i, j, hi, hj => by
    have hl := flatF_length (n := n) (fun i hi => h i (by omega))
    rw [flatF, List.getElem?_append]
    by_cases hin : i < n
    · have : (i + 1) * k ≤ n * k := Nat.mul_le_mul_right _ hin
      rw [Nat.add_mul, Nat.one_mul] at this
      rw [if_pos (by omega)]
      exact flatF_get (fun i hi => h i (by omega)) hin hj
    · obtain rfl : i = n := by omega
      rw [if_neg (by omega), hl]
      congr 1
      omega
theorem flatF_mem {f : Nat → List Value} {v : Value} : ∀ {n : Nat}, v ∈ flatF f n → ∃ i, i < n ∧ v ∈ f i
  | 0, h => by cases h
  | n + 1, h => by
    rw [flatF, List.mem_append] at h
    rcases h with h | h
    · obtain ⟨i, hi, hv⟩ := flatF_mem h
      exact ⟨i, by omega, hv⟩
    · exact ⟨n, by omega, h⟩
theorem VecAt.flat (h : VecAt f len t k e own w) {n : Nat} (hn : n ≤ len) {g : Addr} (hg : e.ad = some g) : ∀ j u, (flatF f n)[j]? = some u → w.cell? (g.add j) = some u := by
  intro j u hu
  have hl := flatF_length (n := n) (fun i hi => (h.2.2.2.1 i (by omega)).1)
  have hj := lt_of_some hu
  rw [hl] at hj
  obtain ⟨h1, h2, h3, h4, h5⟩ := h
  rw [hg] at h5
  obtain ⟨g1, g2, cs, g3, g4, g5⟩ := h5
  have hk : 0 < k := by
    rcases Nat.eq_zero_or_pos k with h | h
    · subst h; simp at hj
    · exact h
  have hq : j / k < n := (Nat.div_lt_iff_lt_mul hk).2 hj
  have e1 : j = j / k * k + j % k := by rw [Nat.mul_comm]; exact (Nat.div_add_mod j k).symm
  have hr := Nat.mod_lt j hk
  rw [g1, add_at, cell_of_row w e.b _ cs t (0, 0) g3]
  rw [e1] at hu ⊢
  rw [flatF_get (fun i hi => (h4 i (by omega)).1) hq hr] at hu
  rw [g5 _ (by omega) _ hr]
  exact hu
theorem TabAt.flat (h : TabAt B f len k e own w) {n : Nat} (hn : n ≤ len) {g : Addr} (hg : e.ad = some g) : ∀ j u, (flatF f n)[j]? = some u → w.cell? (g.add j) = some u := by
  intro j u hu
  obtain ⟨h1, h2, h3, h4, h5⟩ := h
  have hl := flatF_length (n := n) (fun i hi => (h5 i (by omega)).1.1)
  have hj := lt_of_some hu
  rw [hl] at hj
  have hk : 0 < k := by
    rcases Nat.eq_zero_or_pos k with h | h
    · subst h; simp at hj
    · exact h
  have hq : j / k < n := (Nat.div_lt_iff_lt_mul hk).2 hj
  have e1 : j = j / k * k + j % k := by rw [Nat.mul_comm]; exact (Nat.div_add_mod j k).symm
  have hr := Nat.mod_lt j hk
  have h6 := (h4 (Nat.lt_of_lt_of_le (Nat.zero_lt_of_lt hq) hn)).1
  rw [hg] at h6
  injection h6 with h6
  subst h6
  rw [add_at]
  rw [e1] at hu ⊢
  rw [flatF_get (fun i hi => (h5 i (by omega)).1.1) hq hr] at hu
  rw [← Nat.add_assoc, (h5 _ (by omega)).2 _ hr]
  exact hu
theorem rowsOK {k m : Nat} {l : List Value} (hl : l.length = m * k) (h1 : ∀ v ∈ l, v.oneCell' = true) {i : Nat} (hi : i < m) : RowOK k (rowsF k l i) :=
  ⟨rowsF_length hl hi, fun v hv => h1 v (List.mem_of_mem_drop (List.mem_of_mem_take hv))⟩
end
end Go.Proofs.Ytdjogfofedbohaa
end
section
/- The places of a map, rising: the one list that there is; a row of places behind the sort. No condition. -/
namespace Go.Proofs.Ytdjogfofedbohaa
open Go.Shelf Go.RowKit Go.Lib Go.Sort Go.Maps

def ltPl (x y : Pl) : Prop := x.1 < y.1 ∨ x.1 = y.1 ∧ (x.2.1 < y.2.1 ∨ x.2.1 = y.2.1 ∧ x.2.2 < y.2.2)
instance (x y : Pl) : Decidable (ltPl x y) := by unfold ltPl; infer_instance
theorem or3_lt (a b c : Int) : or3 a b c < 0 ↔ a < 0 ∨ a = 0 ∧ (b < 0 ∨ b = 0 ∧ c < 0) := by
  unfold or3
  by_cases ha : a = 0
  · by_cases hb : b = 0
    · rw [if_neg (by omega), if_neg (by omega)]; omega
    · rw [if_neg (by omega), if_pos hb]; omega
  · rw [if_pos ha]; omega
theorem ltOf_cmp (x y : Pl) : ltOf cmpPl x y = decide (ltPl x y) := by
  have key : ∀ a b : Int, (a < b ∧ compareInt a b = -1) ∨ (a = b ∧ compareInt a b = 0) ∨ (b < a ∧ compareInt a b = 1) := fun a b => by
    unfold compareInt
    rcases Int.lt_trichotomy a b with h | h | h
    · exact .inl ⟨h, by simp [h]⟩
    · exact .inr (.inl ⟨h, by simp [h]⟩)
    · exact .inr (.inr ⟨h, by rw [if_neg (by omega), if_pos h]⟩)
  unfold ltOf cmpPl
  rw [Bool.eq_iff_iff, decide_eq_true_iff, decide_eq_true_iff]
  unfold ltPl
  rw [or3_lt]
  have k1 := key x.1 y.1
  have k2 := key x.2.1 y.2.1
  have k3 := key x.2.2 y.2.2
  generalize compareInt x.1 y.1 = A at *
  generalize compareInt x.2.1 y.2.1 = B at *
  generalize compareInt x.2.2 y.2.2 = C at *
  constructor
  · intro h; omega
  · intro h; omega
theorem ltPl_trans {x y z : Pl} (h : ltPl x y) (k : ltPl y z) : ltPl x z := by unfold ltPl at *; omega
theorem ltPl_irrefl (x : Pl) : ¬ ltPl x x := by unfold ltPl; omega
theorem ltPl_total {x y : Pl} (h : ¬ ltPl x y) (k : ¬ ltPl y x) : x = y := by
  obtain ⟨a, b, c⟩ := x
  obtain ⟨d, e, f⟩ := y
  unfold ltPl at *
  simp only [Prod.mk.injEq]
  simp only at h k
  omega
theorem swoPl : SWO (ltOf cmpPl) where
  irrefl x := by rw [ltOf_cmp]; simpa using ltPl_irrefl x
  trans x y z h1 h2 := by rw [ltOf_cmp] at *; simp only [decide_eq_true_eq] at *; exact ltPl_trans h1 h2
  ntrans x y z h1 h2 := by rw [ltOf_cmp] at *; simp only [decide_eq_false_iff_not] at *; unfold ltPl at *; omega
theorem partPl (x y : Pl) (h : ltOf cmpPl x y = false) (k : ltOf cmpPl y x = false) : x = y := by
  rw [ltOf_cmp] at *
  simp only [decide_eq_false_iff_not] at *
  exact ltPl_total h k
/-- L is the places of f, rising. -/
def IsPlaces (f : Pl → Int) (L : List Pl) : Prop := L.Pairwise ltPl ∧ ∀ p, p ∈ L ↔ PlWf p ∧ f p ≠ 0
theorem rising_unique : ∀ {l m : List Pl}, l.Pairwise ltPl → m.Pairwise ltPl → (∀ p, p ∈ l ↔ p ∈ m) → l = m
  | [], [], _, _, _ => rfl
  | [], b :: m, _, _, h => by have := (h b).2 (by simp); cases this
  | a :: l, [], _, _, h => by have := (h a).1 (by simp); cases this
  | a :: l, b :: m, h1, h2, h => by
    obtain ⟨ha, hl⟩ := List.pairwise_cons.1 h1
    obtain ⟨hb, hm⟩ := List.pairwise_cons.1 h2
    have e : a = b := by
      rcases List.mem_cons.1 ((h a).1 (by simp)) with e | e
      · exact e
      · rcases List.mem_cons.1 ((h b).2 (by simp)) with k | k
        · exact k.symm
        · exact absurd (ltPl_trans (ha b k) (hb a e)) (ltPl_irrefl a)
    subst e
    rw [rising_unique hl hm fun p => ?_]
    constructor
    · intro hp
      rcases List.mem_cons.1 ((h p).1 (by simp [hp])) with e | e
      · subst e; exact absurd (ha p hp) (ltPl_irrefl p)
      · exact e
    · intro hp
      rcases List.mem_cons.1 ((h p).2 (by simp [hp])) with e | e
      · subst e; exact absurd (hb p hp) (ltPl_irrefl p)
      · exact e
open Classical in
noncomputable def placesOf (f : Pl → Int) : List Pl := if h : ∃ L, IsPlaces f L then h.choose else []
theorem placesOf_eq {f : Pl → Int} {L : List Pl} (h : IsPlaces f L) : placesOf f = L := by
  unfold placesOf
  have hx : ∃ L, IsPlaces f L := ⟨L, h⟩
  rw [dif_pos hx]
  have k := hx.choose_spec
  exact rising_unique k.1 h.1 fun p => by rw [k.2, h.2]
theorem isPlaces_sorted {f : Pl → Int} {ss : List Pl} (hn : ss.Nodup) (hm : ∀ p, p ∈ ss ↔ PlWf p ∧ f p ≠ 0) : IsPlaces f (ss.mergeSort fun x y => !(ltOf cmpPl) y x) := by
  constructor
  · have hp := List.pairwise_mergeSort (le := fun x y => !(ltOf cmpPl) y x) (fun a b c h1 h2 => by
      simp only [Bool.not_eq_true'] at *
      exact swoPl.ntrans _ _ _ h2 h1) (fun a b => by
      cases h1 : ltOf cmpPl b a <;> cases h2 : ltOf cmpPl a b <;> simp
      have := swoPl.trans _ _ _ h1 h2
      rw [swoPl.irrefl] at this
      cases this) ss
    have hd : (ss.mergeSort fun x y => !(ltOf cmpPl) y x).Pairwise (· ≠ ·) := (List.mergeSort_perm ss _).nodup_iff.2 hn
    refine (hp.and hd).imp fun {a b} h => ?_
    obtain ⟨h1, h2⟩ := h
    simp only [Bool.not_eq_true'] at h1
    cases h3 : ltOf cmpPl a b with
    | true => rw [ltOf_cmp] at h3; simpa using h3
    | false => exact absurd (partPl _ _ h3 h1) h2
  · intro p
    rw [(List.mergeSort_perm ss _).mem_iff, hm]

/-- A row of places as a slice's. -/
def plRow (L : List Pl) : Nat → List Value := fun i => kvs (L.getD i (0, 0, 0))
theorem kvs_flat (ss : List Pl) : ∀ (i j : Nat), i < ss.length → j < 3 → (ss.flatMap kvs)[i * 3 + j]? = (kvs (ss.getD i (0, 0, 0)))[j]? := by
  induction ss with
  | nil => intro i j hi; cases hi
  | cons a r ih =>
    intro i j hi hj
    rw [List.flatMap_cons]
    cases i with
    | zero => rw [List.getElem?_append_left (by simp; omega)]; simp
    | succ i =>
      rw [List.getElem?_append_right (by simp; omega)]
      have := ih i j (by simpa using hi) hj
      simp only [List.length_cons, List.length_nil] at *
      rw [show (i + 1) * 3 + j - (0 + 1 + 1 + 1) = i * 3 + j by omega, this]
      simp
theorem kvs_get (p : Pl) : ∀ (j : Nat), j < 3 → some (kvs p)[j]! = (kvs p)[j]?
  | 0, _ => rfl
  | 1, _ => rfl
  | 2, _ => rfl
  | n + 3, h => by omega
theorem row_ok (p : Pl) : RowOK 3 (kvs p) := ⟨rfl, kvs_one p⟩
theorem vec_of_owns {w : World} {base n : Nat} {v : Value} {ss : List Pl} (h : w.ownsRow base 34 3 v n (ss.flatMap kvs)) (hn : n = ss.length) : ∃ (sp : Spot) (own : List Nat), v = .slice sp.ad n sp.cap ∧ VecAt (plRow ss) n 34 3 sp own w ∧ ∀ b ∈ own, base ≤ b := by
  subst hn
  obtain ⟨h0, h⟩ := h
  rcases h with ⟨rfl, hz⟩ | ⟨g, cap, cur, rfl, hb, hg, h1, h2, h3, h4⟩
  · refine ⟨⟨0, 0, 0, 3, ss.length, none⟩, [], by rw [hz], ⟨rfl, rfl, by simp [hz], fun i hi => row_ok _, rfl, rfl⟩, by simp⟩
  · refine ⟨⟨g, cap, 0, 3, ss.length, some ⟨g, 0, none⟩⟩, [g], rfl, ⟨rfl, rfl, h1, fun i hi => row_ok _, rfl, rfl, cur, hg, by simp [h3], fun i hi j hj => ?_⟩, by simpa using hb⟩
    have hlt : i * 3 + j < ss.length * 3 := by omega
    have e := kvs_flat ss i j hi hj
    rw [← h4, List.getElem?_take_of_lt hlt] at e
    simp only [Nat.zero_add]
    rw [← Array.getElem?_toList, e]
    rfl
theorem holdsK_of_block {w : World} {g : Nat} {cur : Array Value} {e : TypeId} {ss : List Pl} (hb : w.heap[g]? = some (.cells cur e (0, 0))) (ht : cur.toList.take (ss.length * 3) = ss.flatMap kvs) : HoldsK kvs 3 w g 0 ss.toArray := by
  intro t ht'
  rw [size_flatK] at ht'
  simp only [List.size_toArray] at ht'
  rw [get_flatK _ _ _ _ (by simpa using ht')]
  refine ⟨?_, by simp [World.frozen?, hb]⟩
  have h1 : (cur.toList.take (ss.length * 3))[t]? = (ss.flatMap kvs)[t]? := by rw [ht]
  rw [List.getElem?_take_of_lt ht'] at h1
  have hq : t / 3 < ss.length := by omega
  have e := kvs_flat ss (t / 3) (t % 3) hq (by omega)
  rw [show t / 3 * 3 + t % 3 = t by omega] at e
  simp only [World.cell?, hb, Nat.zero_add]
  simp only [Option.isSome_none, Bool.false_eq_true, if_false]
  rw [← Array.getElem?_toList, h1, e]
  have e2 : ss.toArray[t / 3]! = ss.getD (t / 3) (0, 0, 0) := by simp [hq, List.getD]
  rw [e2, ← kvs_get _ _ (by omega : t % 3 < 3)]
  rfl
theorem heap_sortedK {w : World} {g n : Nat} {os : Array Obj} {cur : Array Value} {e : TypeId} {fr : Nat × Nat} (d : Array Pl) (hb : w.heap[g]? = some (.cells cur e fr)) : (sortWorldK kvs 3 w g 0 n d os).heap[g]? = some (.cells (putCells id 0 (flatK kvs 3 d) cur) e fr) := by
  have hg : g < w.heap.size := (Array.getElem?_eq_some_iff.1 hb).1
  unfold sortWorldK putRowK
  rw [heap_grow_old _ _ (by simpa using hg)]
  simp [putRow, mapBlock, Sort.ahead, Array.getElem?_modify, hb, onCells]
theorem grownBy_sortedK {w : World} {g n : Nat} {os : Array Obj} (d : Array Pl) : w.grownBy (sortWorldK kvs 3 w g 0 n d os) (some g) := by
  unfold sortWorldK putRowK
  refine ⟨rfl, rfl, rfl, by simp, fun k hk hne => ?_⟩
  rw [heap_grow_old _ _ (by simpa using hk)]
  have : g ≠ k := fun e => hne (by rw [e])
  simp [putRow, mapBlock, Sort.ahead, Array.getElem?_modify, this]
theorem vec_sorted {w : World} {g n cap m : Nat} {os : Array Obj} {cur : Array Value} (ts : List Pl) (hl : ts.length = m) (hb : w.heap[g]? = some (.cells cur 34 (0, 0))) (h1 : m ≤ cap) (h3 : cur.size = cap * 3) :
    VecAt (plRow ts) m 34 3 ⟨g, cap, 0, 3, m, some ⟨g, 0, none⟩⟩ [g] (sortWorldK kvs 3 w g 0 n ts.toArray os) := by
  refine ⟨rfl, rfl, h1, fun i hi => row_ok _, rfl, rfl, _, heap_sortedK _ hb, by simp [putCells, h3], fun i hi j hj => ?_⟩
  subst hl
  have hlt : i * 3 + j < ts.length * 3 := by omega
  have hlt2 : i * 3 + j < cur.size := by omega
  simp only [Nat.zero_add, putCells, Array.getElem?_mapIdx, size_flatK, List.size_toArray, Nat.zero_le, true_and, hlt, if_true, Nat.sub_zero, id, Array.getElem?_eq_getElem hlt2, Option.map_some]
  rw [get_flatK _ _ _ _ (by simpa using hlt), show (i * 3 + j) / 3 = i by omega, show (i * 3 + j) % 3 = j by omega]
  have e2 : ts.toArray[i]! = ts.getD i (0, 0, 0) := by simp [hi, List.getD]
  rw [e2, kvs_get _ _ hj]
  rfl
end Go.Proofs.Ytdjogfofedbohaa
end
section
/- slices.SortedFunc at places, and cell's Places: a new row of the places whose word is not 0, rising. Condition: the map is small. -/
namespace Go.Proofs.Ytdjogfofedbohaa
open Go.Shelf Go.RowKit Go.Lib Go.Sort Go.Maps

/-- A new row of places. -/
def NewRow (base : Nat) (v : Value) (L : List Pl) (w : World) : Prop := ∃ (sp : Spot) (own : List Nat), v = .slice sp.ad L.length sp.cap ∧ VecAt (plRow L) L.length 34 3 sp own w ∧ ∀ b ∈ own, base ≤ b
abbrev sortPl (ss : List Pl) : List Pl := ss.mergeSort fun x y => !(ltOf cmpPl) y x
theorem sort_calls (blk cap : Nat) (ss : List Pl) (W : World) (hH : HoldsK kvs 3 W blk 0 ss.toArray) (hblk : blk < W.heap.size) (hsz : ss.length < 4611686018427387904) :
    Calls Try.prog 92 #[.slice (some ⟨blk, 0, none⟩) ss.length cap, .func (.func 70) #[] #[]] W fun e w' => e = .returned (.tuple #[]) ∧ ∃ n os, w' = sortWorldK kvs 3 W blk 0 n (sortPl ss).toArray os :=
  AnyQ.slices_SortFunc_total sortP_laid 3 Try.isAgg34 Try.sizeOf34 kvs (fun _ => rfl) kvs_one cmpPl swoPl 70 #[] blk 0 cap ss.toArray W (enters_of Try.func70 (by kernel_rfl) rfl) (place_lays _ _ _ _) hH hblk (by simpa using hsz) partPl
theorem sort_none (p : Option Addr) (cap : Nat) (W : World) :
    Calls Try.prog 92 #[.slice p 0 cap, .func (.func 70) #[] #[]] W fun e w' => e = .returned (.tuple #[]) ∧ w' = W :=
  AnyF.slices_SortFunc_none (P := Try.prog) (ρ := sortP_ren) { sortP_laid with } p cap _ W
set_option maxRecDepth 100000 in
set_option maxHeartbeats 2000000 in
theorem sorted_in (n : Nat) (hn : 4 ≤ n) (g : Nat) (lb : Array Value) (eg : ∀ args w, (callFunc g args).run Try.prog w = .ok (.enter g args) w)
    (S : List Pl → Prop) (N : Nat) (hN : N ≤ maxLen) (hNb : N * 24 ≤ 140737488355328) (w : World) (hseq : SeqGives Fence.wide (n - 1 - 1 - 1) Try.prog g lb kv S N w) :
    CallsIn Fence.wide n Try.prog 68 #[.func (.func g) #[] lb, .func (.func 70) #[] #[]] w fun e w' => ∃ (v : Value) (ss : List Pl), e = .returned v ∧ S ss ∧ NewRow w.heap.size v (sortPl ss) w' ∧ Below w.heap.size w w' := by
  have h1 : 1 ≤ n := by omega
  have h8 : Fence.wide.fn 91 := trivial
  have h9 : Fence.wide.fn 92 := trivial
  have e8 : ∀ args w, (callFunc 91 args).run Try.prog w = .ok (.enter 91 args) w := enters_of Try.func91 (by kernel_rfl) rfl
  have e9 : ∀ args w, (callFunc 92 args).run Try.prog w = .ok (.enter 92 args) w := enters_of Try.func92 (by kernel_rfl) rfl
  have cC := collect_in Fence.wide (n - 1) trivial trivial rfl (by omega) g lb trivial eg _ N hN hNb w hseq.bounded
  refine callsIn_of_wp Try.func68 rfl trivial ?_ rfl
  simp only [Try.ntmps68, List.size_toArray, List.length_cons, List.length_nil, Nat.reduceAdd, Nat.reduceSub, Array.replicate_succ, Array.replicate_zero, List.push_toArray, List.append_toArray, List.nil_append, List.cons_append]
  gi_wp2_with (gi_at_fn 91; refine cC.mono ?_; rintro e W ⟨v, ss, rfl, ⟨hS, hlen⟩, hrow, hnil, hb⟩)
  rcases hrow.2 with ⟨rfl, hz⟩ | ⟨gb, cap, cur, rfl, hbase, hgb, r1, r2, r3, r4⟩
  · have hss : ss = [] := List.eq_nil_of_length_eq_zero hz
    subst hss
    gi_wp2_with (gi_at_fn 92; refine (callsIn_wide.2 (sort_none none 0 W)).mono ?_; rintro e w' ⟨rfl, rfl⟩)
    go_ret
    obtain ⟨sp, own, h1, h2, h3⟩ := vec_of_owns hrow rfl
    refine ⟨_, [], rfl, hS, ?_, hb⟩
    simp only [sortPl, List.mergeSort_nil]
    exact ⟨sp, own, h1, h2, h3⟩
  · have hH : HoldsK kvs 3 W gb 0 ss.toArray := holdsK_of_block hgb r4
    have hgl : gb < W.heap.size := (Array.getElem?_eq_some_iff.1 hgb).1
    have hsz : ss.length < 4611686018427387904 := by omega
    have cS := sort_calls gb cap ss W hH hgl hsz
    have hlm : (sortPl ss).length = ss.length := List.length_mergeSort ss
    gi_wp2_with (gi_at_fn 92; refine (callsIn_wide.2 cS).mono ?_; rintro e w' ⟨rfl, nn, os, rfl⟩)
    go_ret
    refine ⟨_, ss, rfl, hS, ⟨_, _, ?_, vec_sorted (sortPl ss) rfl hgb (by omega) r3, by simpa using hbase⟩, hb.grown (grownBy_sortedK _) hb.size (fun j hj => by cases hj; exact hbase)⟩
    rw [hlm]
    rfl
set_option maxRecDepth 100000 in
set_option maxHeartbeats 2000000 in
theorem places_at {w : World} {c o b n : Nat} {f : Pl → Int} (h0 : w.cell? ⟨c, o, none⟩ = some (.map (some b))) (hm : MapAt w b f n) (hn : n ≤ 1000000) :
    Calls Try.prog 20 #[.pointer (some ⟨c, o, none⟩)] w fun e w' => ∃ v, e = .returned v ∧ NewRow w.heap.size v (placesOf f) w' ∧ IsPlaces f (placesOf f) ∧ Below w.heap.size w w' := by
  obtain ⟨D, hown, hat, hhas⟩ := hm
  have hbl := hown.lt
  have hsz := hown.size_le
  have hseq : SeqGives Fence.wide 5 Try.prog 93 #[.pointer (some ⟨w.heap.size, 0, none⟩)] kv (fun ss => ss.Nodup ∧ (∀ x ∈ ss, PlWf x) ∧ ∀ x, PlWf x → (x ∈ ss ↔ has D (litP x) = true)) (Maps.size D) (w.alloc (.cells #[.map (some b)] 110)) :=
    keys_gives Fence.wide _ trivial rfl (by omega) w.heap.size b n D _ (by simp) (by simp) (by
      obtain ⟨es, clock, hb, Ft, hs, hD⟩ := hown
      exact ⟨es, clock, (Below.heap_alloc _ _ b hbl).trans hb, Ft, hs, hD⟩)
  have cK : ∀ mb W, CallsIn Fence.wide 8 Try.prog 69 #[.map mb] W fun e w' => e = .returned (.func (.func 93) #[] #[.pointer (some ⟨W.heap.size, 0, none⟩)]) ∧ w' = W.alloc (.cells #[.map mb] 110) := fun mb W => keys_in Fence.wide 8 trivial rfl mb W
  have cS := sorted_in 8 (by omega) 93 #[.pointer (some ⟨w.heap.size, 0, none⟩)] (enters_of Try.func93 (by kernel_rfl) rfl) _ _ (by unfold maxLen; omega) (by omega) _ hseq
  have hfK : Fence.wide.fn 69 := trivial
  have hfS : Fence.wide.fn 68 := trivial
  have eK := enters_of Try.func69 (by kernel_rfl) rfl
  have eS := enters_of Try.func68 (by kernel_rfl) rfl
  refine (callsIn_wide (n := 9)).1 ?_
  refine callsIn_of_wp Try.func20 rfl trivial ?_ rfl
  simp only [Try.ntmps20, List.size_toArray, List.length_cons, List.length_nil, Nat.reduceAdd, Nat.reduceSub, Array.replicate_succ, Array.replicate_zero, List.push_toArray, List.append_toArray, List.nil_append, List.cons_append]
  gi_wp2
  refine (cK _ _).mono ?_
  rintro e w' ⟨rfl, rfl⟩
  gi_wp2
  refine cS.mono ?_
  rintro e w' ⟨v, ss, rfl, ⟨hS1, hS2, hS3⟩, hrow, hb⟩
  gi_wp2
  go_ret
  have hip : IsPlaces f (sortPl ss) := isPlaces_sorted hS1 fun p => by
    constructor
    · intro hp
      refine ⟨hS2 p hp, ?_⟩
      have h1 := (hS3 p (hS2 p hp)).1 hp
      rw [hhas p (hS2 p hp)] at h1
      simpa using h1
    · rintro ⟨h1, h2⟩
      exact (hS3 p h1).2 (by rw [hhas p h1]; simpa using h2)
  rw [placesOf_eq hip]
  obtain ⟨sp, own, g1, g2, g3⟩ := hrow
  exact ⟨_, rfl, ⟨sp, own, g1, g2, fun b hb => by have := g3 b hb; simp at this; omega⟩, hip, ((Below.refl _ w).alloc (Nat.le_refl _) _).trans (hb.mono (by simp))⟩
end Go.Proofs.Ytdjogfofedbohaa
end
section
/- maps.Clone at maps of places: the shelf's contract, laid at this program. -/
namespace Go.Proofs.Ytdjogfofedbohaa
open Go.Shelf Go.RowKit

def clone_ren : Go.Shelf.Ren := ⟨fun | 5 => 65 | 7 => 90 | n => n, fun | 23 => 110 | 25 => 34 | 3 => 35 | 4 => 4 | 20 => 20 | n => n, fun n => n⟩
theorem clone_laid : SlLaysW.n5 Try.prog clone_ren := {
  mixed := by kernel_rfl
  f5 := ⟨Try.f65.name, by decide, Try.func65.trans (congrArg some (by kernel_rfl))⟩
  f7 := Try.func90.trans (congrArg some (by kernel_rfl))
  t4 := Try.underlying4
  a4 := Try.isAgg4
  z4 := Try.sizeOf4
  v4 := Try.zeroValue4
  t20 := Try.underlying20
  a20 := Try.isAgg20
  z20 := Try.sizeOf20
  v20 := Try.zeroValue20
  t23 := Try.underlying110
  a23 := Try.isAgg110
  z23 := Try.sizeOf110
  v23 := Try.zeroValue110 }

theorem clone_at {w : World} {b n : Nat} {f : Pl → Int} (m : MapAt w b f n) :
    Calls Try.prog 65 #[.map (some b)] w fun e w' => e = .returned (.map (some w.heap.size)) ∧ MapAt w' w.heap.size f n ∧ Below w.heap.size w w' := by
  obtain ⟨D, o, a, h⟩ := m
  refine (AnyW.maps_Clone_owns clone_laid 34 (plainElem Try.prog 35) b n D w o).mono ?_
  rintro e w' ⟨rfl, h1, _, h2⟩
  exact ⟨rfl, ⟨D, h1, a, h⟩, h2⟩
end Go.Proofs.Ytdjogfofedbohaa
end
section
/- Maps from places to words, for the executor. No condition. -/
namespace Go.Proofs.Ytdjogfofedbohaa
open Go.RowKit

abbrev tMap : TypeId := 110
/-- A kind of cells; a column of a row of elements. -/
inductive CK where
  | int (kd : IntKind)
  | bool
  | str
  | raw
inductive Col where
  | int (kd : IntKind) (W : Nat → Int)
  | bool (W : Nat → Bool)
  | str (W : Nat → ByteArray)
  | raw (W : Nat → Value)
def Col.at : Col → Nat → Value
  | .int kd W, i => .int kd (W i)
  | .bool W, i => .bool (W i)
  | .str W, i => .string (W i)
  | .raw W, i => W i
def colsF : List Col → Nat → List Value
  | [], _ => []
  | c :: r, i => c.at i :: colsF r i
inductive Rep where
  | pmap (l : List (Pl × Int)) (g : Pl → Int) (n : Nat)
  | vec (cs : List Col) (len : Nat) (t : TypeId)
  | tab (cs : List Col) (len : Nat)
  | ucells (l : List (Pl × Int)) (g : Pl → Int) (n : Nat)
  | junk
/-- What a row of stores comes to, the last one first, over what was there. -/
def getL : List (Pl × Int) → (Pl → Int) → Pl → Int
  | [], g, q => g q
  | (p, v) :: r, g, q => if q = p then v else getL r g q
def zeroG : Pl → Int := fun _ => 0
abbrev tRC : TypeId := 29
abbrev tOne : TypeId := 116
def oneCols (A0 A1 A2 W : Nat → Int) : List Col := [.int .i64 A0, .int .i64 A1, .int .i64 A2, .int .u64 W]
/-- Rows of places and words, each place once, are the words f. -/
structure URel (A0 A1 A2 W : Nat → Int) (len : Nat) (f : Pl → Int) : Prop where
  wf : ∀ k, k < len → PlWf (A0 k, A1 k, A2 k)
  val : ∀ k, k < len → f (A0 k, A1 k, A2 k) = W k
  off : ∀ p, (∀ k, k < len → (A0 k, A1 k, A2 k) ≠ p) → f p = 0
  one : ∀ j k, j < len → k < len → (A0 j, A1 j, A2 j) = (A0 k, A1 k, A2 k) → j = k
/-- The document's Cells: words in a row, of at most n places. -/
def UAt (f : Pl → Int) (n : Nat) (e : Spot) (own : List Nat) (w : World) : Prop :=
  ∃ (A0 A1 A2 W : Nat → Int) (len : Nat) (sp : Spot) (own1 : List Nat), own = e.b :: own1 ∧ e.b ∉ own1 ∧
    (∃ cs : Array Value, w.heap[e.b]? = some (.cells cs tRC (0, 0)) ∧ cs[e.off]? = some (.slice sp.ad len sp.cap) ∧ 1 ≤ e.cap * Try.prog.cellsOf tRC ∧ e.off + e.cap * Try.prog.cellsOf tRC ≤ cs.size) ∧
    VecAt (colsF (oneCols A0 A1 A2 W)) len tOne 4 sp own1 w ∧ URel A0 A1 A2 W len f ∧ len ≤ n
theorem UAt.modP {T : Nat → Prop} {w w' : World} {f : Pl → Int} {n : Nat} {e : Spot} {own : List Nat} (h : UAt f n e own w) (hm : ModP T w w') (hT : ∀ x ∈ own, ¬ T x) : UAt f n e own w' := by
  obtain ⟨A0, A1, A2, W, len, sp, own1, h1, h2, ⟨cs, h3, h4⟩, h5, h6⟩ := h
  refine ⟨A0, A1, A2, W, len, sp, own1, h1, h2, ⟨cs, ?_, h4⟩, h5.modP hm fun x hx => hT x (by rw [h1]; simp [hx]), h6⟩
  rw [hm.block e.b (heap_lt h3) (hT _ (by rw [h1]; simp))]
  exact h3
def Rep.At (B : Nat) : Rep → Spot → List Nat → World → Prop
  | .pmap l g n, e, own, w => own = [e.b] ∧ MapAt w e.b (getL l g) n
  | .vec cs len t, e, own, w => VecAt (colsF cs) len t cs.length e own w
  | .tab cs len, e, own, w => TabAt B (colsF cs) len cs.length e own w
  | .ucells l g n, e, own, w => UAt (getL l g) n e own w
  | .junk, _, own, _ => own = []

theorem MapAt.lt {w : World} {b n : Nat} {f : Pl → Int} (h : MapAt w b f n) : b < w.heap.size := by
  obtain ⟨D, ⟨es, cl, h1, _⟩, _⟩ := h
  exact heap_lt h1
theorem MapAt.modP {T : Nat → Prop} {w w' : World} {b n : Nat} {f : Pl → Int} (h : MapAt w b f n) (hm : ModP T w w') (hb : ¬ T b) : MapAt w' b f n := by
  obtain ⟨D, ⟨es, cl, h1, h2⟩, h3⟩ := h
  exact ⟨D, ⟨es, cl, by rw [hm.block b (heap_lt h1) hb]; exact h1, h2⟩, h3⟩
def repAt : RepAt Rep where
  At := Rep.At
  stable {B r e own T w w'} h hm hT hB := by
    cases r with
    | pmap l g n => exact ⟨h.1, h.2.modP hm (hT e.b (by rw [h.1]; simp))⟩
    | vec cs len t => exact VecAt.modP h hm hT
    | tab cs len => exact TabAt.modP h hm hB
    | ucells l g n => exact UAt.modP h hm hT
    | junk => exact h

/-- A map's numbers reckoned out. -/
def fPl {β : Type} (p : Pl) (k : Pl → β) : β := fInt p.1 fun a => fInt p.2.1 fun b => fInt p.2.2 fun c => k (a, b, c)
def fPls {β : Type} : List (Pl × Int) → (List (Pl × Int) → β) → β
  | [], k => k []
  | (p, v) :: l, k => fPl p fun p => fInt v fun v => fPls l fun l => k ((p, v) :: l)
def fRep {β : Type} (r : Rep) (k : Rep → β) : β := match r with
  | .pmap f g n => fPls f fun f => fNat n fun n => k (.pmap f g n)
  | r => k r
theorem fRep_eq {β : Type} (r : Rep) (k : Rep → β) : fRep r k = k r := by
  have hp : ∀ (l : List (Pl × Int)) (k : List (Pl × Int) → β), fPls l k = k l := fun l => by
    induction l with
    | nil => exact fun _ => rfl
    | cons p l ih =>
      intro k
      obtain ⟨p, v⟩ := p
      simp [fPls, fPl, fInt_eq, ih]
  cases r with
  | pmap f g n => simp [fRep, hp, fNat_eq]
  | _ => rfl
def plOf : SV → Option Pl
  | .agg [.v (.int .i64 a), .v (.int .i64 b), .v (.int .i64 c)] => some (a, b, c)
  | .v (.agg ⟨[.int .i64 a, .int .i64 b, .int .i64 c]⟩) => some (a, b, c)
  | _ => none
def plWfB (p : Pl) : Bool := (Lit.int .i64 p.1).wf && (Lit.int .i64 p.2.1).wf && (Lit.int .i64 p.2.2).wf
theorem plWfB_iff {p : Pl} : plWfB p = true ↔ PlWf p := by
  simp [plWfB, PlWf, and_assoc]
theorem plOf_den {ρ : Names} {s : SV} {p : Pl} {x : Value} (h : plOf s = some p) (hx : den ρ s = some x) : x = kagg p := by
  unfold plOf at h
  split at h
  · injection h with h
    subst h
    simp only [den, denL, Option.map_some, Option.some.injEq] at hx
    exact hx.symm
  · injection h with h
    subst h
    simp only [den, Option.some.injEq] at hx
    exact hx.symm
  · cases h

def mapGet (m k : Option SV) : M Rep SV := (M.opt 300 m).bind fun
  | .mp n => (getC n).bind fun
    | .rep (.pmap f g _) => (M.opt 301 (k.bind plOf)).bind fun p => (need 302 (plWfB p)).bind fun _ => .ret (.v (.int .u64 (getL f g p)))
    | _ => .fail 303
  | _ => .fail 304
def wordOf : SV → Option Int
  | .v (.int .u64 x) => some x
  | _ => none
def mapPut (m k v : Option SV) : M Rep SV := (M.opt 310 m).bind fun
  | .mp n => (getC n).bind fun
    | .rep (.pmap f g c) => (M.opt 311 (k.bind plOf)).bind fun p => (M.opt 312 (v.bind wordOf)).bind fun x => (need 313 (plWfB p && (Lit.int .u64 x).wf && x != 0 && decide (c < maxLen))).bind fun _ =>
      (setC n (.rep (.pmap ((p, x) :: f) g (c + 1)))).bind fun _ => .ret undefX
    | _ => .fail 314
  | _ => .fail 315
def mapDel (m k : Option SV) : M Rep SV := (M.opt 320 m).bind fun
  | .mp n => (getC n).bind fun
    | .rep (.pmap f g c) => (M.opt 321 (k.bind plOf)).bind fun p => (need 322 (plWfB p)).bind fun _ =>
      (setC n (.rep (.pmap ((p, 0) :: f) g c))).bind fun _ => .ret (.tup [])
    | _ => .fail 323
  | _ => .fail 324
def extM (ev : Operand → Option SV) (o : Oper) : Option (M Rep SV) := match o.op with
  | .makeMap t none => match Nat.beq t tMap with
    | true => some ((newC (.rep (.pmap [] zeroG 0))).bind fun n => .ret (.mp n))
    | false => none
  | .lookup t m k false => match Nat.beq t tMap with
    | true => some (mapGet (ev m) (ev k))
    | false => none
  | .mapUpdate t m k v => match Nat.beq t tMap with
    | true => some (mapPut (ev m) (ev k) (ev v))
    | false => none
  | .call ⟨.builtin .delete, ⟨[m, k]⟩, ⟨[t, kt]⟩⟩ => match Nat.beq t tMap && Nat.beq kt 34 with
    | true => some (mapDel (ev m) (ev k))
    | false => none
  | _ => none

section
variable {st st' : St Rep} {o : Oper} {ev : Operand → Option SV} {s : SV}
theorem CAt_rep {ρ : Names} {B : Nat} {e : Spot} {own : List Nat} {r : Rep} {w : World} : CAt repAt Try.prog ρ B e own (.rep r) w ↔ r.At B e own w := Iff.rfl
set_option maxRecDepth 100000 in
theorem extM_ok : ∀ ev o m, extM ev o = some m → ∀ st s st', m st = .ok s st' → OpS repAt Try.prog o ev st st' s := by
  intro ev o m hm st s st' h
  obtain ⟨dst, op, ty, pos, aft, gu⟩ := o
  unfold extM at hm
  split at hm
  · -- makeMap
    next t he =>
    simp only at he
    subst he
    split at hm <;> cases hm
    next ht =>
    have ht := Nat.eq_of_beq_eq_true ht
    subst ht
    obtain ⟨n, st1, h1, h2⟩ := bind_ok.1 h
    obtain ⟨rfl, rfl⟩ := newC_ok.1 h1
    obtain ⟨rfl, rfl⟩ := ret_ok.1 h2
    refine ⟨Fn.new _ _, fun B F ρ own w a si hev K Q hk => ?_⟩
    have ht := Tr.new (w' := w.alloc (.map #[] 0)) si ⟨w.heap.size, 0, 0, 0, 0, none⟩ [w.heap.size] (alloc_mod w _) (show Rep.At B (.pmap [] zeroG 0) ⟨w.heap.size, 0, 0, 0, 0, none⟩ [w.heap.size] _ from ⟨rfl, MapAt.new w⟩) (fun b hb => by
      rw [List.mem_singleton] at hb
      subst hb
      simp)
    refine wp_val (x := .map (some w.heap.size)) ?_ (hk _ _ _ _ ht (by simp [den, Names.put_same]))
    simp only [execOp, Option.map_none, Sem.run_bind, run_makeMap]
    rfl
  · -- lookup
    next t m k he =>
    simp only at he
    subst he
    split at hm <;> cases hm
    next ht =>
    have ht := Nat.eq_of_beq_eq_true ht
    subst ht
    obtain ⟨sm, _, h1, h2⟩ := bind_ok.1 h
    obtain ⟨hsm, rfl⟩ := opt_ok.1 h1
    split at h2
    · next n =>
      obtain ⟨c, st1, h3, h4⟩ := bind_ok.1 h2
      obtain ⟨hc, rfl⟩ := getC_ok.1 h3
      split at h4
      · next f g cnt =>
        obtain ⟨p, _, h5, h6⟩ := bind_ok.1 h4
        obtain ⟨hp, rfl⟩ := opt_ok.1 h5
        simp only [Option.bind_eq_some_iff] at hp
        obtain ⟨sk, hsk, hp⟩ := hp
        obtain ⟨_, st2, h7, h8⟩ := bind_ok.1 h6
        obtain ⟨q2, hq⟩ := need_ok h7
        obtain ⟨rfl, rfl⟩ := ret_ok.1 h8
        have q := Quiet.get.trans q2
        refine ⟨q.fn, fun B F ρ own w a si hev K Q hk => ?_⟩
        obtain ⟨e, he, hat⟩ := si.li.at_ n _ (si.log n (q2.fr n (mem_ins.2 (.inl rfl)))) hc
        have e1 := hev _ _ hsm
        simp only [den, he, Option.map_some, Option.some.injEq] at e1
        have e2 := plOf_den hp (hev _ _ hsk)
        refine wp_val (vrun ?_) (hk _ ρ own w (si.quiet q) rfl)
        rw [← e1, e2]
        exact (CAt_rep.1 hat).2.lookup (plWfB_iff.1 (hq si.ask)) Try.underlying110
      · exact (fail_ok.1 h4).elim
    · exact (fail_ok.1 h2).elim
  · -- update
    next t m k v he =>
    simp only at he
    subst he
    split at hm <;> cases hm
    next ht =>
    have ht := Nat.eq_of_beq_eq_true ht
    subst ht
    obtain ⟨sm, _, h1, h2⟩ := bind_ok.1 h
    obtain ⟨hsm, rfl⟩ := opt_ok.1 h1
    split at h2
    · next n =>
      obtain ⟨c, st1, h3, h4⟩ := bind_ok.1 h2
      obtain ⟨hc, rfl⟩ := getC_ok.1 h3
      split at h4
      · next f g cnt =>
        obtain ⟨p, _, h5, h6⟩ := bind_ok.1 h4
        obtain ⟨hp, rfl⟩ := opt_ok.1 h5
        simp only [Option.bind_eq_some_iff] at hp
        obtain ⟨sk, hsk, hp⟩ := hp
        obtain ⟨x, _, h7, h8⟩ := bind_ok.1 h6
        obtain ⟨hx, rfl⟩ := opt_ok.1 h7
        simp only [Option.bind_eq_some_iff] at hx
        obtain ⟨sv, hsv, hx⟩ := hx
        obtain ⟨_, st2, h9, h10⟩ := bind_ok.1 h8
        obtain ⟨q2, hq⟩ := need_ok h9
        obtain ⟨_, st3, h11, h12⟩ := bind_ok.1 h10
        obtain ⟨_, rfl⟩ := setC_ok.1 h11
        obtain ⟨rfl, rfl⟩ := ret_ok.1 h12
        have q := Quiet.get.trans q2
        have hc2 : hget n st2.hp = some (.rep (.pmap f g cnt)) := by rw [q.hp]; exact hc
        refine ⟨q.fn.trans (Fn.set st2 n (.rep (.pmap ((p, x) :: f) g (cnt + 1))) _ hc2), fun B F ρ own w a si hev K Q hk => ?_⟩
        have s1 := si.of_quiet q
        have hn := hq si.ask
        simp only [Bool.and_eq_true, bne_iff_ne, ne_eq, decide_eq_true_eq] at hn
        obtain ⟨⟨⟨n1, n2⟩, n3⟩, n4⟩ := hn
        obtain ⟨e, he, hat⟩ := s1.li.at_ n _ (s1.log n (mem_ins.2 (.inl rfl))) hc2
        have e1 := hev _ _ hsm
        simp only [den, he, Option.map_some, Option.some.injEq] at e1
        have e2 := plOf_den hp (hev _ _ hsk)
        have e3 : a.eval v = .int .u64 x := by
          have := hev _ _ hsv
          unfold wordOf at hx
          split at hx <;> cases hx
          simp only [den, Option.some.injEq] at this
          exact this.symm
        obtain ⟨ho, hmap⟩ := CAt_rep.1 hat
        obtain ⟨w', hr, hm', hmod⟩ := hmap.store n4 (plWfB_iff.1 n1) n2 n3 Try.underlying110
        have ht := Tr.set s1 hc2 he (own n) ((ModP.of_mod hmod).mono (fun b _ hb => by rw [ho]; exact hb)) (show Rep.At B (.pmap ((p, x) :: f) g (cnt + 1)) e (own n) w' from ⟨ho, hm'⟩) (fun b hb => .inl hb)
        refine wp_unit ?_ (hk undef _ _ _ (Tr.of_quiet q ht) rfl)
        simp only [execOp, ← e1, e2, e3, Sem.run_bind, hr, Result.andThen_ok]
        rfl
      · exact (fail_ok.1 h4).elim
    · exact (fail_ok.1 h2).elim
  · -- delete
    next m k t kt he =>
    simp only at he
    subst he
    split at hm <;> cases hm
    next ht =>
    simp only [Bool.and_eq_true] at ht
    have ht1 := Nat.eq_of_beq_eq_true ht.1
    have ht2 := Nat.eq_of_beq_eq_true ht.2
    subst ht1
    subst ht2
    obtain ⟨sm, _, h1, h2⟩ := bind_ok.1 h
    obtain ⟨hsm, rfl⟩ := opt_ok.1 h1
    split at h2
    · next n =>
      obtain ⟨c, st1, h3, h4⟩ := bind_ok.1 h2
      obtain ⟨hc, rfl⟩ := getC_ok.1 h3
      split at h4
      · next f g cnt =>
        obtain ⟨p, _, h5, h6⟩ := bind_ok.1 h4
        obtain ⟨hp, rfl⟩ := opt_ok.1 h5
        simp only [Option.bind_eq_some_iff] at hp
        obtain ⟨sk, hsk, hp⟩ := hp
        obtain ⟨_, st2, h9, h10⟩ := bind_ok.1 h6
        obtain ⟨q2, hq⟩ := need_ok h9
        obtain ⟨_, st3, h11, h12⟩ := bind_ok.1 h10
        obtain ⟨_, rfl⟩ := setC_ok.1 h11
        obtain ⟨rfl, rfl⟩ := ret_ok.1 h12
        have q := Quiet.get.trans q2
        have hc2 : hget n st2.hp = some (.rep (.pmap f g cnt)) := by rw [q.hp]; exact hc
        refine ⟨q.fn.trans (Fn.set st2 n (.rep (.pmap ((p, 0) :: f) g cnt)) _ hc2), fun B F ρ own w a si hev K Q hk => ?_⟩
        have s1 := si.of_quiet q
        obtain ⟨e, he, hat⟩ := s1.li.at_ n _ (s1.log n (mem_ins.2 (.inl rfl))) hc2
        have e1 := hev _ _ hsm
        simp only [den, he, Option.map_some, Option.some.injEq] at e1
        have e2 := plOf_den hp (hev _ _ hsk)
        obtain ⟨ho, hmap⟩ := CAt_rep.1 hat
        obtain ⟨w', hr, hm', hmod⟩ := hmap.drop (plWfB_iff.1 (hq si.ask)) Try.underlying110 ty
        have ht := Tr.set s1 hc2 he (own n) ((ModP.of_mod hmod).mono (fun b _ hb => by rw [ho]; exact hb)) (show Rep.At B (.pmap ((p, 0) :: f) g cnt) e (own n) w' from ⟨ho, hm'⟩) (fun b hb => .inl hb)
        refine wp_val (x := .tuple #[]) ?_ (hk _ _ _ _ (Tr.of_quiet q ht) rfl)
        have hargs : (#[m, k].map a.eval : Array Value) = #[.map (some e.b), kagg p] := by
          have : (#[m, k] : Array Operand).map a.eval = #[a.eval m, a.eval k] := by simp
          rw [this, ← e1, e2]
        simp only [execOp, resolve, Sem.run_bind, Sem.run_pure, Result.andThen_ok, invoke, builtin]
        rw [show (⟨[m, k]⟩ : Array Operand).map a.eval = #[.map (some e.b), kagg p] from hargs, hr]
        rfl
      · exact (fail_ok.1 h4).elim
    · exact (fail_ok.1 h2).elim
  · cases hm
end
end Go.Proofs.Ytdjogfofedbohaa
end
section
/- What the executor does at rows of open number: an element's place, load, store, append; and that the machine does it. No condition. -/
namespace Go.Proofs.Ytdjogfofedbohaa
open Go.RowKit

def plainL : List SV → Option (List Value)
  | [] => some []
  | .v x :: r => (plainL r).map fun l => x :: l
  | _ :: _ => none
theorem plainL_den {ρ : Names} : ∀ {l : List SV} {vs us : List Value}, plainL l = some vs → denL ρ l = some us → us = vs
  | [], vs, us, h, hd => by
    simp only [plainL, denL, Option.some.injEq] at h hd
    rw [← h, ← hd]
  | .v x :: r, vs, us, h, hd => by
    simp only [plainL, Option.map_eq_some_iff] at h
    obtain ⟨l, h1, rfl⟩ := h
    obtain ⟨a, b, h2, h3, rfl⟩ := denL_cons.1 hd
    simp only [den, Option.some.injEq] at h2
    rw [plainL_den h1 h3, h2]
  | .ptr .. :: _, _, _, h, _ | .sl .. :: _, _, _, h, _ | .slE .. :: _, _, _, h, _ | .tptr .. :: _, _, _, h, _ | .tsl .. :: _, _, _, h, _ | .mp .. :: _, _, _, h, _ | .ifc .. :: _, _, _, h, _ | .agg .. :: _, _, _, h, _ | .tup .. :: _, _, _, h, _ | .clo .. :: _, _, _, h, _ => by cases h

def updI {α : Type} (W : Nat → α) (i : Nat) (v : α) : Nat → α := fun m => if m = i then v else W m
def joinI {α : Type} (W : Nat → α) (len : Nat) (V : Nat → α) : Nat → α := fun i => if i < len then W i else V (i - len)
def eqKd (a b : IntKind) : Bool := match decide (a = b) with
  | true => true
  | false => false
/-- Cells of element i are others. -/
def updC : Col → Nat → Value → Option Col
  | .int kd W, i, .int kd' z => match eqKd kd kd' with
    | true => some (.int kd (updI W i z))
    | false => none
  | .bool W, i, .bool b => some (.bool (updI W i b))
  | .str W, i, .string b => some (.str (updI W i b))
  | .raw W, i, x => some (.raw (updI W i x))
  | _, _, _ => none
def updCs : List Col → Nat → Nat → List Value → Option (List Col)
  | cs, _, 0, [] => some cs
  | c :: cs, i, 0, v :: vs => match updC c i v, updCs cs i 0 vs with
    | some c, some cs => some (c :: cs)
    | _, _ => none
  | c :: cs, i, j + 1, vs => match updCs cs i j vs with
    | some cs => some (c :: cs)
    | none => none
  | [], _, _, _ => none
def joinC : Col → Nat → Col → Option Col
  | .int kd W, n, .int kd' V => match eqKd kd kd' with
    | true => some (.int kd (joinI W n V))
    | false => none
  | .bool W, n, .bool V => some (.bool (joinI W n V))
  | .str W, n, .str V => some (.str (joinI W n V))
  | .raw W, n, V => some (.raw (joinI W n V.at))
  | _, _, _ => none
def joinCs : List Col → Nat → List Col → Option (List Col)
  | [], _, [] => some []
  | c :: cs, n, d :: ds => match joinC c n d, joinCs cs n ds with
    | some c, some cs => some (c :: cs)
    | _, _ => none
  | _, _, _ => none
def constC : Value → Col
  | .int kd z => .int kd fun _ => z
  | .bool b => .bool fun _ => b
  | .string b => .str fun _ => b
  | x => .raw fun _ => x

section
variable (P : Program)
def vecIdx (n len : Nat) (elem : TypeId) (i : Int) : M Rep SV := (getC n).bind fun
  | .rep (.vec cs len' _) => (want 330 (match szT P elem with | some k' => Nat.beq k' cs.length | none => false)).bind fun _ => (need 331 (decide (0 ≤ i ∧ i < (len : Int) ∧ len ≤ len'))).bind fun _ => .ret (.tptr n i.toNat 0)
  | .rep (.tab cs len') => (want 332 (match szT P elem with | some k' => Nat.beq k' cs.length | none => false)).bind fun _ => (need 333 (decide (0 ≤ i ∧ i < (len : Int) ∧ len ≤ len'))).bind fun _ => .ret (.tptr n i.toNat 0)
  | _ => .fail 334
def arrIdx (t : TypeId) (n : Nat) (kd : IntKind) (i : Int) (alen : Nat) (elem : TypeId) : M Rep SV := (getC n).bind fun
  | .rep (.vec cs len' _) => (want 335 (match szT P elem with | some k' => Nat.beq k' cs.length | none => false)).bind fun _ => (need 336 (decide (0 ≤ i ∧ i < (alen : Int) ∧ alen ≤ len'))).bind fun _ => .ret (.tptr n i.toNat 0)
  | _ => idxX P t (.ptr n 0) (.v (.int kd i))
def vecLoad (t : TypeId) (n i j : Nat) : M Rep SV := (getC n).bind fun
  | .rep (.vec cs _ _) => .opt 337 (partX P t ((colsF cs i).map .v) j)
  | .rep (.tab cs _) => .opt 338 (partX P t ((colsF cs i).map .v) j)
  | _ => .fail 339
def vecStore (t : TypeId) (n i j : Nat) (v : SV) : M Rep SV := (M.opt 340 (plainL v.cells)).bind fun vs => (M.opt 341 (szT P t)).bind fun kk => (getC n).bind fun
  | .rep (.vec cs len t') => (want 342 (Nat.beq vs.length kk && vs.all Value.oneCell')).bind fun _ => (M.opt 344 (updCs cs i j vs)).bind fun cs' =>
    (setC n (.rep (.vec cs' len t'))).bind fun _ => .ret undefX
  | _ => .fail 343
/-- The elements to be appended. -/
def vecSrc (k : Nat) : SV → M Rep (Nat × List Col)
  | .tsl n m => (getC n).bind fun
    | .rep (.vec cs len' _) => (want 344 (Nat.beq k cs.length)).bind fun _ => (need 345 (decide (m ≤ len'))).bind fun _ => .ret (m, cs)
    | .rep (.tab cs len') => (want 346 (Nat.beq k cs.length)).bind fun _ => (need 347 (decide (m ≤ len'))).bind fun _ => .ret (m, cs)
    | _ => .fail 348
  | x => (srcX k x).bind fun r => (M.opt 349 (plainL r.2)).bind fun vs => (want 361 (Nat.beq r.1 1 && vs.all Value.oneCell')).bind fun _ => .ret (1, vs.map constC)
def vecAppend (t tx : TypeId) (s x : SV) : M Rep SV := match P.underlying t with
  | some (.slice elem) => (M.opt 350 (P.info? elem)).bind fun i => (want 351 (!Nat.beq i.size 0 && !Nat.beq i.bytes 0 && zeroFits i && isSliceT P (some tx))).bind fun _ => (vecSrc i.size x).bind fun r => match s with
    | .tsl n len => (getC n).bind fun
      | .rep (.vec cs len' t') => (want 352 (Nat.beq t' elem && Nat.beq cs.length i.size)).bind fun _ => (need 353 (decide (len ≤ len' ∧ (len + r.1) * i.bytes ≤ 140737488351232))).bind fun _ => (M.opt 362 (joinCs cs len r.2)).bind fun cs' => (delC n).bind fun _ =>
        (newC (.rep (.vec cs' (len + r.1) elem))).bind fun n' => .ret (.tsl n' (len + r.1))
      | _ => .fail 354
    | .sl n 0 0 0 => (getC n).bind fun
      | .row [] t' => (want 355 (Nat.beq t' elem && Nat.beq r.2.length i.size)).bind fun _ => (need 356 (decide (r.1 * i.bytes ≤ 140737488351232))).bind fun _ => (delC n).bind fun _ =>
        (newC (.rep (.vec r.2 r.1 elem))).bind fun n' => .ret (.tsl n' r.1)
      | _ => .fail 357
    | .v (.slice none 0 0) => (want 363 (Nat.beq r.2.length i.size)).bind fun _ => (need 358 (decide (r.1 * i.bytes ≤ 140737488351232))).bind fun _ => (newC (.rep (.vec r.2 r.1 elem))).bind fun n' => .ret (.tsl n' r.1)
    | _ => .fail 359
  | _ => .fail 360
/-- A number among the first k, found out one by one. -/
def pickN : Nat → Nat → Int → M Rep Nat
  | 0, _, _ => .fail 370
  | k + 1, c, z => (askB (decide (z = (c : Int)))).bind fun
    | true => .ret c
    | false => pickN k (c + 1) z
def concIdx (n off len k : Nat) (z : Int) : M Rep SV := (pickN len 0 z).bind fun c => .ret (.ptr n (off + c * k))
def isPtrT (t : TypeId) : Bool := match P.underlying t with
  | some (.pointer _) => true
  | _ => false
def isTsl : SV → Bool
  | .tsl _ _ => true
  | _ => false
def extV (ev : Operand → Option SV) (o : Oper) : Option (M Rep SV) := match o.op with
  | .indexAddr t x i => match ev x, ev i with
    | some (.tsl n len), some (.v (.int _ z)) => match P.underlying t with
      | some (.slice elem) => some (vecIdx P n len elem z)
      | _ => none
    | some (.ptr n 0), some (.v (.int kd z)) => match P.underlying t with
      | some (.array alen elem) => some (arrIdx P t n kd z alen elem)
      | _ => none
    | some (.sl n off _ len), some (.v (.int _ z)) => match P.underlying t with
      | some (.slice elem) => match isPtrT P elem, szT P elem with
        | true, some k => some (concIdx n off len k z)
        | _, _ => none
      | _ => none
    | _, _ => none
  | .load t x => match ev x with
    | some (.tptr n i j) => some (vecLoad P t n i j)
    | _ => none
  | .store t x y => match ev x with
    | some (.tptr n i j) => match ev y with
      | some v => some (vecStore P t n i j v)
      | none => none
    | _ => none
  | .call ⟨.builtin .append, ⟨[s, x]⟩, ⟨[t, tx]⟩⟩ => match ev s, ev x with
    | some a, some b => match isTsl a || isTsl b with
      | true => some (vecAppend P t tx a b)
      | false => none
    | _, _ => none
  | _ => none
end

section
variable {P : Program} {st st1 st' : St Rep} {B : Nat} {F : Nat → Prop} {ρ ρ' : Names} {own own' : Nat → List Nat} {w w' : World}
theorem szB {elem : TypeId} {k : Nat} (h : (match szT P elem with | some k' => Nat.beq k' k | none => false) = true) : szT P elem = some k := by
  split at h
  · next k' hk => rw [hk, Nat.eq_of_beq_eq_true h]
  · cases h
theorem vkey {n len len' k : Nat} {t elem : TypeId} {z : Int} {e : Spot} (he : ρ n = some e) (hl : e.len = len') (hk : e.sz = k) (had : 0 < len' → e.ad = some ⟨e.b, e.off, none⟩) (hsz : szT P elem = some k) (hz : 0 ≤ z ∧ z < (len : Int) ∧ len ≤ len') (hu : P.underlying t = some (.slice elem)) (a : Value) (kd : IntKind) (ha : den ρ (.tsl n len) = some a) :
    ∃ y, (Instr.indexAt t a (.int kd z)).run P w = .ok y w ∧ den ρ (.tptr n z.toNat 0) = some y := by
  obtain ⟨g1, g2, g3⟩ := hz
  simp only [den, he, Option.map_some, Option.some.injEq] at ha
  subst ha
  refine ⟨.pointer (some ⟨e.b, e.off + z.toNat * e.sz, none⟩), ?_, ?_⟩
  · simp only [Instr.indexAt, asIntOf, Sem.run_bind, Sem.run_pure, Result.andThen_ok, run_underlying hu w, g1, g2, and_self, if_true, szT_run hsz w, had (by omega), add_at, hk]
  · have : z.toNat < e.len := by omega
    simp [den, he, this]
theorem vecIdx_s {n len : Nat} {t elem : TypeId} {z : Int} {s : SV} (hu : P.underlying t = some (.slice elem)) (h : vecIdx P n len elem z st = .ok s st') : Quiet st st' ∧ ∀ B F ρ own w a kd, Sit repAt P B F st st' ρ own w → den ρ (.tsl n len) = some a →
    ∃ y, (Instr.indexAt t a (.int kd z)).run P w = .ok y w ∧ den ρ s = some y := by
  unfold vecIdx at h
  obtain ⟨c, st1, h1, h2⟩ := bind_ok.1 h
  obtain ⟨hc, rfl⟩ := getC_ok.1 h1
  split at h2
  · next cs len' t' =>
    obtain ⟨_, _, h3, h4⟩ := bind_ok.1 h2
    obtain ⟨hsz, rfl⟩ := want_ok.1 h3
    obtain ⟨_, st2, h5, h6⟩ := bind_ok.1 h4
    obtain ⟨q, hq⟩ := need_ok h5
    obtain ⟨rfl, rfl⟩ := ret_ok.1 h6
    refine ⟨Quiet.get.trans q, fun B F ρ own w a kd s ha => ?_⟩
    obtain ⟨e, he, hat⟩ := s.li.at_ n _ (s.log n (q.fr n (mem_ins.2 (.inl rfl)))) hc
    have hv : VecAt (colsF cs) len' t' cs.length e (own n) w := hat
    refine vkey he hv.1 hv.2.1 (fun hl => ?_) (szB hsz) (of_decide_eq_true (hq s.ask)) hu a kd ha
    obtain ⟨_, _, h3, _, h5⟩ := hv
    cases hx : e.ad with
    | none => rw [hx] at h5; have := h5.2; omega
    | some g => rw [hx] at h5; rw [h5.1]
  · next cs len' =>
    obtain ⟨_, _, h3, h4⟩ := bind_ok.1 h2
    obtain ⟨hsz, rfl⟩ := want_ok.1 h3
    obtain ⟨_, st2, h5, h6⟩ := bind_ok.1 h4
    obtain ⟨q, hq⟩ := need_ok h5
    obtain ⟨rfl, rfl⟩ := ret_ok.1 h6
    refine ⟨Quiet.get.trans q, fun B F ρ own w a kd s ha => ?_⟩
    obtain ⟨e, he, hat⟩ := s.li.at_ n _ (s.log n (q.fr n (mem_ins.2 (.inl rfl)))) hc
    have hv : TabAt B (colsF cs) len' cs.length e (own n) w := hat
    exact vkey he hv.2.1 hv.2.2.1 (fun hl => (hv.2.2.2.1 hl).1) (szB hsz) (of_decide_eq_true (hq s.ask)) hu a kd ha
  · exact (fail_ok.1 h2).elim
theorem arrIdx_s {n alen : Nat} {t elem : TypeId} {kd : IntKind} {z : Int} {s : SV} (hu : P.underlying t = some (.array alen elem)) (h : arrIdx P t n kd z alen elem st = .ok s st') : Quiet st st' ∧ ∀ B F ρ own w a, Sit repAt P B F st st' ρ own w → den ρ (.ptr n 0) = some a →
    ∃ y, (Instr.indexAt t a (.int kd z)).run P w = .ok y w ∧ den ρ s = some y := by
  unfold arrIdx at h
  obtain ⟨c, st1, h1, h2⟩ := bind_ok.1 h
  obtain ⟨hc, rfl⟩ := getC_ok.1 h1
  split at h2
  · next cs len' t' =>
    obtain ⟨_, _, h3, h4⟩ := bind_ok.1 h2
    obtain ⟨hsz, rfl⟩ := want_ok.1 h3
    obtain ⟨_, st2, h5, h6⟩ := bind_ok.1 h4
    obtain ⟨q, hq⟩ := need_ok h5
    obtain ⟨rfl, rfl⟩ := ret_ok.1 h6
    refine ⟨Quiet.get.trans q, fun B F ρ own w a s ha => ?_⟩
    obtain ⟨e, he, hat⟩ := s.li.at_ n _ (s.log n (q.fr n (mem_ins.2 (.inl rfl)))) hc
    have hv : VecAt (colsF cs) len' t' cs.length e (own n) w := hat
    obtain ⟨g1, g2, g3⟩ := of_decide_eq_true (hq s.ask)
    simp only [den, he, Option.map_some, Option.some.injEq, Nat.add_zero] at ha
    subst ha
    refine ⟨.pointer (some ⟨e.b, e.off + z.toNat * e.sz, none⟩), ?_, ?_⟩
    · simp only [Instr.indexAt, asIntOf, Sem.run_bind, Sem.run_pure, Result.andThen_ok, run_underlying hu w, Instr.sureAddr, g1, g2, and_self, if_true, szT_run (szB hsz) w, add_at, hv.2.1]
    · have : z.toNat < e.len := by rw [hv.1]; omega
      simp [den, he, this]
  · obtain ⟨q, hs⟩ := idx_s (A := repAt) h2
    exact ⟨Quiet.get.trans q, fun B F ρ own w a s ha => hs B F ρ own w a (.int kd z) (s.of_quiet Quiet.get) ha rfl⟩
theorem pickN_s : ∀ {k c : Nat} {z : Int} {r : Nat} {st st' : St Rep}, pickN k c z st = .ok r st' → Quiet st st' ∧ ((∀ p ∈ st'.ask, p.1 = p.2) → z = (r : Int) ∧ c ≤ r ∧ r < c + k)
  | 0, _, _, _, _, _, h => (fail_ok.1 h).elim
  | k + 1, c, z, r, st, st', h => by
    obtain ⟨b, st1, h1, h2⟩ := bind_ok.1 h
    obtain ⟨q, hq⟩ := ask_ok h1
    cases b with
    | true =>
      obtain ⟨rfl, rfl⟩ := ret_ok.1 h2
      exact ⟨q, fun ha => ⟨of_decide_eq_true (hq ha), Nat.le_refl _, by omega⟩⟩
    | false =>
      obtain ⟨q2, h3⟩ := pickN_s h2
      exact ⟨q.trans q2, fun ha => by obtain ⟨g1, g2, g3⟩ := h3 ha; exact ⟨g1, by omega, by omega⟩⟩
theorem concIdx_s {n off idx len k : Nat} {t elem : TypeId} {kd : IntKind} {z : Int} {s : SV} (hu : P.underlying t = some (.slice elem)) (hk : szT P elem = some k) (h : concIdx n off len k z st = .ok s st') : Quiet st st' ∧ ∀ B F ρ own w a, Sit repAt P B F st st' ρ own w → den ρ (.sl n off idx len) = some a →
    ∃ y, (Instr.indexAt t a (.int kd z)).run P w = .ok y w ∧ den ρ s = some y := by
  unfold concIdx at h
  obtain ⟨c, st1, h1, h2⟩ := bind_ok.1 h
  obtain ⟨q, hq⟩ := pickN_s h1
  obtain ⟨rfl, rfl⟩ := ret_ok.1 h2
  refine ⟨q, fun B F ρ own w a s ha => ?_⟩
  obtain ⟨rfl, _, g3⟩ := hq s.ask
  simp only [den, Option.map_eq_some_iff] at ha
  obtain ⟨e, he, rfl⟩ := ha
  refine ⟨.pointer (some ⟨e.b, e.off + off + c * k, none⟩), ?_, by simp [den, he, Nat.add_assoc]⟩
  have g4 : (0 : Int) ≤ (c : Int) ∧ (c : Int) < (len : Int) := by omega
  simp only [Instr.indexAt, asIntOf, Sem.run_bind, Sem.run_pure, Result.andThen_ok, run_underlying hu w, g4, and_self, if_true, szT_run hk w, add_at, Int.toNat_natCast]
theorem vecLoad_s {t : TypeId} {n i j : Nat} {s : SV} (h : vecLoad P t n i j st = .ok s st') : Quiet st st' ∧ ∀ B F ρ own w v, Sit repAt P B F st st' ρ own w → den ρ (.tptr n i j) = some v → ∃ y, den ρ s = some y ∧ (Instr.loadAt t v).run P w = .ok y w := by
  unfold vecLoad at h
  obtain ⟨c, st1, h1, h2⟩ := bind_ok.1 h
  obtain ⟨hc, rfl⟩ := getC_ok.1 h1
  split at h2
  · next cs len t' =>
    obtain ⟨hp, rfl⟩ := opt_ok.1 h2
    refine ⟨Quiet.get, fun B F ρ own w v s hx => ?_⟩
    obtain ⟨e, he, hat⟩ := s.li.at_ n _ (s.log n (mem_ins.2 (.inl rfl))) hc
    have hv : VecAt (colsF cs) len t' cs.length e (own n) w := hat
    simp only [den, he] at hx
    split at hx
    · next hlt =>
      simp only [Option.some.injEq] at hx
      subst hx
      refine load_part hp (denL_vs _) fun m u hu => ?_
      rw [Nat.add_assoc, hv.2.1]
      exact hv.cell (by rw [← hv.1]; exact hlt) hu
    · cases hx
  · next cs len =>
    obtain ⟨hp, rfl⟩ := opt_ok.1 h2
    refine ⟨Quiet.get, fun B F ρ own w v s hx => ?_⟩
    obtain ⟨e, he, hat⟩ := s.li.at_ n _ (s.log n (mem_ins.2 (.inl rfl))) hc
    have hv : TabAt B (colsF cs) len cs.length e (own n) w := hat
    simp only [den, he] at hx
    split at hx
    · next hlt =>
      simp only [Option.some.injEq] at hx
      subst hx
      refine load_part hp (denL_vs _) fun m u hu => ?_
      rw [Nat.add_assoc, hv.2.2.1]
      exact hv.cell (by rw [← hv.2.1]; exact hlt) hu
    · cases hx
  · exact (fail_ok.1 h2).elim
theorem eqKd_ok {a b : IntKind} (h : eqKd a b = true) : a = b := by
  unfold eqKd at h
  split at h
  · next hb => exact of_decide_eq_true hb
  · cases h
theorem updC_ok {c c' : Col} {i : Nat} {v : Value} (h : updC c i v = some c') (m : Nat) : c'.at m = if m = i then v else c.at m := by
  unfold updC at h
  split at h
  · split at h <;> cases h
    next hk =>
    obtain rfl := eqKd_ok hk
    simp only [Col.at, updI]
    split <;> rfl
  · injection h with h
    subst h
    simp only [Col.at, updI]
    split <;> rfl
  · injection h with h
    subst h
    simp only [Col.at, updI]
    split <;> rfl
  · injection h with h
    subst h
    simp only [Col.at, updI]
  · cases h
theorem colsF_length : ∀ {cs : List Col} {i : Nat}, (colsF cs i).length = cs.length
  | [], _ => rfl
  | _ :: r, i => by simp [colsF, colsF_length (cs := r)]
theorem updCs_ok : ∀ {cs cs' : List Col} {i j : Nat} {vs : List Value}, updCs cs i j vs = some cs' → j + vs.length ≤ cs.length ∧ cs'.length = cs.length ∧ ∀ m, colsF cs' m = if m = i then spliceV (colsF cs i) j vs else colsF cs m
  | cs, cs', i, 0, [], h => by
    have e : updCs cs i 0 [] = some cs := by cases cs <;> rfl
    rw [e] at h
    injection h with h
    subst h
    refine ⟨by simp, rfl, fun m => ?_⟩
    split
    · next e => subst e; simp [spliceV]
    · rfl
  | c :: cs, cs', i, 0, v :: vs, h => by
    simp only [updCs] at h
    split at h <;> cases h
    next c1 r h1 h2 =>
    obtain ⟨g1, g2, g3⟩ := updCs_ok h2
    refine ⟨by simp only [List.length_cons]; omega, by simp [g2], fun m => ?_⟩
    simp only [colsF, updC_ok h1 m, g3 m]
    split
    · simp [spliceV]
    · rfl
  | c :: cs, cs', i, j + 1, vs, h => by
    have e : updCs (c :: cs) i (j + 1) vs = (match updCs cs i j vs with | some cs => some (c :: cs) | none => none) := by cases vs <;> rfl
    rw [e] at h
    split at h <;> cases h
    next r h2 =>
    obtain ⟨g1, g2, g3⟩ := updCs_ok h2
    refine ⟨by simp only [List.length_cons]; omega, by simp [g2], fun m => ?_⟩
    simp only [colsF, g3 m]
    split
    · next e => subst e; simp [spliceV, Nat.add_right_comm]
    · rfl
  | [], cs', i, 0, v :: vs, h => by cases h
  | [], cs', i, j + 1, vs, h => by cases vs <;> cases h
theorem vecStore_s {t : TypeId} {n i j : Nat} {v s : SV} (h : vecStore P t n i j v st = .ok s st') : s = undefX ∧ Fn st st' ∧ ∀ B F ρ own w a b, Sit repAt P B F st st' ρ own w → den ρ (.tptr n i j) = some a → den ρ v = some b →
    ∃ ρ' own' w', (Instr.storeAt t a b).run P w = .ok () w' ∧ Tr repAt P B F st st' ρ own w ρ' own' w' := by
  unfold vecStore at h
  obtain ⟨vs, _, h1, h2⟩ := bind_ok.1 h
  obtain ⟨hvs, rfl⟩ := opt_ok.1 h1
  obtain ⟨kk, _, h3, h4⟩ := bind_ok.1 h2
  obtain ⟨hk, rfl⟩ := opt_ok.1 h3
  obtain ⟨c, st1, h5, h6⟩ := bind_ok.1 h4
  obtain ⟨hc, rfl⟩ := getC_ok.1 h5
  split at h6
  · next cs len t' =>
    obtain ⟨_, _, h7, h8⟩ := bind_ok.1 h6
    obtain ⟨hw, rfl⟩ := want_ok.1 h7
    obtain ⟨cs', _, h11, h8⟩ := bind_ok.1 h8
    obtain ⟨hcs, rfl⟩ := opt_ok.1 h11
    obtain ⟨_, st2, h9, h10⟩ := bind_ok.1 h8
    obtain ⟨_, rfl⟩ := setC_ok.1 h9
    obtain ⟨rfl, rfl⟩ := ret_ok.1 h10
    simp only [Bool.and_eq_true] at hw
    obtain ⟨hw1, hw3⟩ := hw
    have hw1 := Nat.eq_of_beq_eq_true hw1
    have hw3 := List.all_eq_true.1 hw3
    obtain ⟨hu1, hu2, hu3⟩ := updCs_ok hcs
    have q : Quiet st { st with fr := insN n st.fr } := Quiet.get
    refine ⟨rfl, q.fn.trans (Fn.set _ n _ _ hc), fun B F ρ own w a b s ha hb => ?_⟩
    have s1 := s.of_quiet q
    have hcv := den_cells hb
    have hpl := plainL_den hvs hcv
    obtain ⟨e, he, hat⟩ := s1.li.at_ n _ (s1.log n (mem_ins.2 (.inl rfl))) hc
    have hv : VecAt (colsF cs) len t' cs.length e (own n) w := hat
    simp only [den, he] at ha
    split at ha
    · next hlt =>
      simp only [Option.some.injEq] at ha
      subst ha
      obtain ⟨w', hr, hm, hat'⟩ := hv.write (P := P) (i := i) (j := j) (us := vs) (by rw [← hv.1]; exact hlt) hu1 hw3
      have hat2 : VecAt (colsF cs') len t' cs'.length e (own n) w' := by
        rw [hu2, show colsF cs' = fun m => if m = i then spliceV (colsF cs i) j vs else colsF cs m from funext hu3]
        exact hat'
      refine ⟨_, _, w', ?_, Tr.of_quiet q (Tr.set s1 hc he (own n) hm (show CAt repAt P ρ B e (own n) (.rep (.vec cs' len t')) w' from hat2) (fun b hb => .inl hb))⟩
      simp only [Instr.storeAt, Instr.sureAddr, storeVar, Sem.run_bind, Sem.run_pure, Result.andThen_ok, szT_run hk w, Sem.run_ite]
      rw [if_neg (by rw [← Array.length_toList, hpl]; omega), hpl, hv.2.1]
      exact hr
    · cases ha
  · exact (fail_ok.1 h6).elim
end
end Go.Proofs.Ytdjogfofedbohaa
end
section
/- What the executor says of append at rows of open number, the machine does. No condition. -/
namespace Go.Proofs.Ytdjogfofedbohaa
open Go.RowKit

theorem flatF_congr {f g : Nat → List Value} : ∀ {n : Nat}, (∀ i, i < n → f i = g i) → flatF f n = flatF g n
  | 0, _ => rfl
  | n + 1, h => by rw [flatF, flatF, flatF_congr (fun i hi => h i (by omega)), h n (by omega)]
theorem flatF_join {f g : Nat → List Value} {len : Nat} : ∀ m, flatF (joinF f len g) (len + m) = flatF f len ++ flatF g m
  | 0 => by
    rw [Nat.add_zero, flatF, List.append_nil]
    exact flatF_congr fun i hi => by simp [joinF, hi]
  | m + 1 => by
    rw [← Nat.add_assoc, flatF, flatF_join m, flatF, List.append_assoc]
    rw [joinF, if_neg (by omega), Nat.add_sub_cancel_left]
theorem flatF_rows {k : Nat} {l : List Value} : ∀ n, flatF (rowsF k l) n = l.take (n * k)
  | 0 => by simp [flatF]
  | n + 1 => by rw [flatF, flatF_rows n, rowsF, Nat.add_mul, Nat.one_mul, List.take_add]

theorem joinC_ok {c d r : Col} {n : Nat} (h : joinC c n d = some r) (i : Nat) : r.at i = if i < n then c.at i else d.at (i - n) := by
  unfold joinC at h
  split at h
  · split at h <;> cases h
    next hk =>
    obtain rfl := eqKd_ok hk
    simp only [Col.at, joinI]
    split <;> rfl
  · injection h with h
    subst h
    simp only [Col.at, joinI]
    split <;> rfl
  · injection h with h
    subst h
    simp only [Col.at, joinI]
    split <;> rfl
  · injection h with h
    subst h
    simp only [Col.at, joinI]
  · cases h
theorem joinCs_ok : ∀ {cs ds r : List Col} {n : Nat}, joinCs cs n ds = some r → r.length = cs.length ∧ ds.length = cs.length ∧ colsF r = joinF (colsF cs) n (colsF ds)
  | [], [], r, n, h => by
    injection h with h
    subst h
    exact ⟨rfl, rfl, by funext i; simp [joinF, colsF]⟩
  | c :: cs, d :: ds, r, n, h => by
    simp only [joinCs] at h
    split at h <;> cases h
    next c1 r1 h1 h2 =>
    obtain ⟨g1, g2, g3⟩ := joinCs_ok h2
    refine ⟨by simp [g1], by simp [g2], ?_⟩
    funext i
    simp only [colsF, g3, joinC_ok h1, joinF]
    split <;> rfl
  | [], _ :: _, _, _, h => by cases h
  | _ :: _, [], _, _, h => by cases h
theorem constC_at (v : Value) (i : Nat) : (constC v).at i = v := by
  unfold constC
  split <;> rfl
theorem constCs : ∀ (vs : List Value) (i : Nat), colsF (vs.map constC) i = vs
  | [], _ => rfl
  | v :: vs, i => by simp [colsF, constC_at, constCs vs]

section
variable {P : Program} {st st1 st' : St Rep} {B : Nat} {F : Nat → Prop} {ρ ρ' : Names} {own own' : Nat → List Nat} {w w' : World}
def SrcR (k : Nat) (g : Nat → List Value) (m : Nat) (a : Value) (w : World) : Prop := ∃ ad c, a = .slice ad m c ∧ (∀ i, i < m → RowOK k (g i)) ∧ (∀ a', ad = some a' → ∀ j u, (flatF g m)[j]? = some u → w.cell? (a'.add j) = some u) ∧ (ad = none → m = 0)
theorem vecSrc_s {k : Nat} {x : SV} {m : Nat} {g : List Col} (h : vecSrc k x st = .ok (m, g) st') : Quiet st st' ∧ ∀ B F ρ own w a, Sit repAt P B F st st' ρ own w → den ρ x = some a → SrcR k (colsF g) m a w := by
  unfold vecSrc at h
  split at h
  · next n m0 =>
    obtain ⟨c, st1, h1, h2⟩ := bind_ok.1 h
    obtain ⟨hc, rfl⟩ := getC_ok.1 h1
    split at h2
    · next cs len' t' =>
      obtain ⟨_, _, h3, h4⟩ := bind_ok.1 h2
      obtain ⟨hk, rfl⟩ := want_ok.1 h3
      obtain ⟨_, st2, h5, h6⟩ := bind_ok.1 h4
      obtain ⟨q, hq⟩ := need_ok h5
      obtain ⟨e, rfl⟩ := ret_ok.1 h6
      injection e with e1 e2
      subst e1
      subst e2
      have hk := Nat.eq_of_beq_eq_true hk
      subst hk
      refine ⟨Quiet.get.trans q, fun B F ρ own w a s ha => ?_⟩
      obtain ⟨e, he, hat⟩ := s.li.at_ n _ (s.log n (q.fr n (mem_ins.2 (.inl rfl)))) hc
      have hv : VecAt (colsF cs) len' t' cs.length e (own n) w := hat
      have hle := of_decide_eq_true (hq s.ask)
      simp only [den, he, Option.map_some, Option.some.injEq] at ha
      refine ⟨e.ad, e.cap, ha.symm, fun i hi => hv.2.2.2.1 i (by omega), fun a' ha' => hv.flat hle ha', fun hn => ?_⟩
      obtain ⟨_, _, g3, _, g5⟩ := hv
      rw [hn] at g5
      have := g5.2
      omega
    · next cs len' =>
      obtain ⟨_, _, h3, h4⟩ := bind_ok.1 h2
      obtain ⟨hk, rfl⟩ := want_ok.1 h3
      obtain ⟨_, st2, h5, h6⟩ := bind_ok.1 h4
      obtain ⟨q, hq⟩ := need_ok h5
      obtain ⟨e, rfl⟩ := ret_ok.1 h6
      injection e with e1 e2
      subst e1
      subst e2
      have hk := Nat.eq_of_beq_eq_true hk
      subst hk
      refine ⟨Quiet.get.trans q, fun B F ρ own w a s ha => ?_⟩
      obtain ⟨e, he, hat⟩ := s.li.at_ n _ (s.log n (q.fr n (mem_ins.2 (.inl rfl)))) hc
      have hv : TabAt B (colsF cs) len' cs.length e (own n) w := hat
      have hle := of_decide_eq_true (hq s.ask)
      simp only [den, he, Option.map_some, Option.some.injEq] at ha
      refine ⟨e.ad, e.cap, ha.symm, fun i hi => (hv.2.2.2.2 i (by omega)).1, fun a' ha' => hv.flat hle ha', fun hn => ?_⟩
      obtain ⟨_, _, _, g4, _⟩ := hv
      rcases Nat.eq_zero_or_pos m0 with h | h
      · exact h
      · have := (g4 (by omega)).1
        rw [hn] at this
        cases this
    · exact (fail_ok.1 h2).elim
  · next x _ =>
    obtain ⟨⟨m', cs⟩, st1, h1, h2⟩ := bind_ok.1 h
    obtain ⟨q1, hsrc⟩ := src_s (A := repAt) (P := P) h1
    obtain ⟨vs, _, h3, h4⟩ := bind_ok.1 h2
    obtain ⟨hvs, rfl⟩ := opt_ok.1 h3
    obtain ⟨_, _, h5, h6⟩ := bind_ok.1 h4
    obtain ⟨hone, rfl⟩ := want_ok.1 h5
    obtain ⟨e, rfl⟩ := ret_ok.1 h6
    simp only [Bool.and_eq_true] at hone
    have hm1 := Nat.eq_of_beq_eq_true hone.1
    have hone1 := List.all_eq_true.1 hone.2
    injection e with e1 e2
    subst e1
    change m' = 1 at hm1
    subst hm1
    refine ⟨q1, fun B F ρ own w a s ha => ?_⟩
    obtain ⟨ad, c, news, rfl, g1, g2, g3, g4⟩ := hsrc B F ρ own w a s.li s.log ha
    have hpl := plainL_den hvs g1
    subst hpl
    subst e2
    refine ⟨ad, c, rfl, fun i hi => by rw [constCs]; exact ⟨by rw [g2, Nat.one_mul], hone1⟩, fun a' ha' j u hu => ?_, g4⟩
    simp only [flatF, constCs, List.nil_append] at hu
    exact g3 a' ha' j u hu

theorem SrcR.src {k m : Nat} {g : Nat → List Value} {a : Value} {tx e : TypeId} (h : SrcR k g m a w) (hk : P.underlying tx = some (.slice e)) : Src P k tx a m (flatF g m) w := by
  obtain ⟨ad, c, rfl, h1, h2, h3⟩ := h
  exact src_of hk (flatF_length fun i hi => (h1 i hi).1) h2 h3 (fun v hv => by
    obtain ⟨i, hi, hv⟩ := flatF_mem hv
    exact (h1 i hi).2 v hv)

/-- The elements fill a new block. -/
theorem VecAt.fresh {f : Nat → List Value} {n k cap b : Nat} {t : TypeId} {cs : Array Value} (hb : w.heap[b]? = some (.cells cs t (0, 0))) (hr : ∀ i, i < n → RowOK k (f i)) (hc : ∀ j, j < n * k → cs[j]? = (flatF f n)[j]?) (hn : n ≤ cap) (hcap : cap * k ≤ cs.size) :
    VecAt f n t k ⟨b, cap, 0, k, n, some ⟨b, 0, none⟩⟩ [b] w := by
  refine ⟨rfl, rfl, hn, hr, rfl, rfl, cs, hb, by show 0 + cap * k ≤ _; omega, fun i hi j hj => ?_⟩
  show cs[0 + (i * k + j)]? = _
  have : (i + 1) * k ≤ n * k := Nat.mul_le_mul_right _ hi
  rw [Nat.add_mul, Nat.one_mul] at this
  rw [Nat.zero_add, hc _ (by omega), flatF_get (fun i hi => (hr i hi).1) hi hj]

theorem VecAt.trim {f g : Nat → List Value} {len len0 k : Nat} {t : TypeId} {e : Spot} {own : List Nat} (h : VecAt f len0 t k e own w) (hle : len ≤ len0) : VecAt (joinF f len g) len t k ⟨e.b, e.cap, e.off, k, len, e.ad⟩ own w := by
  obtain ⟨h1, h2, h3, h4, h5⟩ := h
  refine ⟨rfl, rfl, Nat.le_trans hle h3, fun i hi => by simp only [joinF, hi, if_true]; exact h4 i (by omega), ?_⟩
  cases ha : e.ad with
  | none => rw [ha] at h5; exact h5
  | some q =>
    rw [ha] at h5
    obtain ⟨g1, g2, cs, g3, g4, g5⟩ := h5
    refine ⟨g1, g2, cs, g3, g4, fun i hi j hj => ?_⟩
    simp only [joinF, hi, if_true]
    exact g5 i (by omega) j hj

/-- An append to a slice whose elements are known, in place or not. -/
theorem append_core {t tx ty elem : TypeId} {i : TypeInfo} (hu : P.underlying t = some (.slice elem)) (hi : P.info? elem = some i) (hb0 : i.bytes ≠ 0) {zv : Value} (hz : i.zero = some zv) (hzs : zv.cells.size = i.size) {et : TypeId} (hkx : P.underlying tx = some (.slice et))
    {f g : Nat → List Value} {len len0 m : Nat} {e : Spot} {own0 : List Nat} (hv : VecAt f len0 elem i.size e own0 w) (hle : len ≤ len0) (hby : (len + m) * i.bytes ≤ 140737488351232) {b : Value} (hsrc : SrcR i.size g m b w) :
    ∃ e' own1 w', (Builtin.append_ #[t, tx] ty #[.slice e.ad len e.cap, b]).run P w = .ok (.slice e'.ad (len + m) e'.cap) w' ∧ ModP (fun x => x ∈ own0) w w' ∧ VecAt (joinF f len g) (len + m) elem i.size e' own1 w' ∧ ∀ x ∈ own1, x ∈ own0 ∨ (w.heap.size ≤ x ∧ x < w'.heap.size) := by
  have hsr := hsrc.src hkx
  have hcap : len ≤ e.cap := Nat.le_trans hle hv.2.2.1
  have hfl : (flatF f len).length = len * i.size := flatF_length fun j hj => (hv.2.2.2.1 j (by omega)).1
  obtain ⟨ad, c, hbv, hg, hgc, hgn⟩ := hsrc
  rcases Nat.eq_zero_or_pos m with h0 | h0
  · subst h0
    exact ⟨⟨e.b, e.cap, e.off, i.size, len, e.ad⟩, own0, w, run_append_nothing w t tx ty elem i hu hi e.ad len e.cap hcap b hsr, ModP.refl _ _, hv.trim hle, fun x hx => .inl hx⟩
  · by_cases hroom : len + m ≤ e.cap
    · obtain ⟨w', had, hst, hm, hv'⟩ := hv.extend (P := P) hle hroom h0 hg (flatF_length fun j hj => (hg j hj).1) (fun j hj q hq => flatF_get (fun j hj => (hg j hj).1) hj hq) hsr.one
      refine ⟨_, own0, w', ?_, hm, hv', fun x hx => .inl hx⟩
      simp only
      rw [had]
      exact append_room (ty := ty) hu hi e.b e.off len e.cap b m _ hsr hroom hst
    · have hold : (Builtin.firstCells i.size len (.slice e.ad len e.cap)).run P w.drew = .ok (flatF f len).toArray w.drew := by
        cases ha : e.ad with
        | none =>
          obtain ⟨_, _, _, _, h5⟩ := hv
          rw [ha] at h5
          have : len = 0 := by have := h5.2; omega
          subst this
          exact run_firstCells_none w.drew i.size 0 0 _
        | some q => exact run_firstCells_some w.drew i.size len _ _ _ _ hfl (fun j u hu' => hv.flat hle ha j u hu')
      have hb1' : len + m ≤ (len + m) * i.bytes := Nat.le_mul_of_pos_right _ (by omega)
      have hr := run_append_grow_src w t tx ty elem i zv hu hi hz e.ad len e.cap (flatF f len) hold b m (flatF g m) hsr (by omega) (by omega) (growslice_fits (by omega) (by omega))
      have hge := grownCap_ge w (len + m) e.cap elem
      generalize grownCap w (len + m) e.cap elem = gc at hr hge
      refine ⟨⟨w.heap.size, gc, 0, i.size, len + m, some ⟨w.heap.size, 0, none⟩⟩, [w.heap.size], _, hr, ⟨rfl, rfl, rfl, by simp, fun k hk _ => RowKit.Below.heap_alloc w.drew _ k hk⟩, VecAt.fresh (heap_alloc_new w.drew _) (fun j hj => ?_) (fun j hj => ?_) hge ?_, fun x hx => .inr ?_⟩
      · unfold joinF
        by_cases hjl : j < len
        · rw [if_pos hjl]; exact hv.2.2.2.1 j (by omega)
        · rw [if_neg hjl]; exact hg _ (by omega)
      · rw [flatF_join, Array.getElem?_append_left (by
          simp only [List.size_toArray, List.length_append, hfl, flatF_length (fun j hj => (hg j hj).1)]
          rw [← Nat.add_mul]; exact hj), List.getElem?_toArray]
      · have e3 : (len + m) * i.size + (gc - (len + m)) * i.size = gc * i.size := by
          rw [← Nat.add_mul]
          congr 1
          omega
        rw [Array.size_append, size_zeroCells, hzs]
        simp only [List.size_toArray, List.length_append, hfl, flatF_length (fun j hj => (hg j hj).1)]
        rw [Nat.add_mul] at e3
        omega
      · rw [List.mem_singleton] at hx
        subst hx
        exact ⟨Nat.le_refl _, by simp⟩

theorem vecAppend_s {t tx ty : TypeId} {x y s : SV} (h : vecAppend P t tx x y st = .ok s st') : Fn st st' ∧ ∀ B F ρ own w a b, Sit repAt P B F st st' ρ own w → den ρ x = some a → den ρ y = some b →
    ∃ v ρ' own' w', (Builtin.append_ #[t, tx] ty #[a, b]).run P w = .ok v w' ∧ den ρ' s = some v ∧ Tr repAt P B F st st' ρ own w ρ' own' w' := by
  unfold vecAppend at h
  generalize hu : P.underlying t = du at h
  split at h
  case h_2 => exact (fail_ok.1 h).elim
  next elem =>
  obtain ⟨i, _, h1, h2⟩ := bind_ok.1 h
  obtain ⟨hi, rfl⟩ := opt_ok.1 h1
  obtain ⟨_, _, h3, h4⟩ := bind_ok.1 h2
  obtain ⟨hb, rfl⟩ := want_ok.1 h3
  obtain ⟨⟨m, g⟩, st1, h5, h6⟩ := bind_ok.1 h4
  obtain ⟨q1, hsrc⟩ := vecSrc_s (P := P) h5
  simp only [Bool.and_eq_true, Bool.not_eq_true'] at hb
  obtain ⟨⟨⟨hb1, hb2⟩, hb3⟩, hb4⟩ := hb
  have hb1 := Nat.ne_of_beq_eq_false hb1
  have hb2 := Nat.ne_of_beq_eq_false hb2
  obtain ⟨e', hkx⟩ := isSliceT_ok hb4 rfl
  obtain ⟨zv, hz, hzs⟩ : ∃ z, i.zero = some z ∧ z.cells.size = i.size := by
    unfold zeroFits at hb3
    split at hb3
    · next z hz => exact ⟨z, hz, Nat.eq_of_beq_eq_true hb3⟩
    · cases hb3
  clear h h1 h2 h3 h4 h5 hb4
  simp only at h6
  split at h6
  · -- a row of open number
    next n len =>
    obtain ⟨c, st2, h7, h8⟩ := bind_ok.1 h6
    obtain ⟨hc, rfl⟩ := getC_ok.1 h7
    split at h8
    · next cs len' t' =>
      obtain ⟨_, _, h9, h10⟩ := bind_ok.1 h8
      obtain ⟨hw, rfl⟩ := want_ok.1 h9
      simp only [Bool.and_eq_true] at hw
      obtain ⟨hw1, hw2⟩ := hw
      have hw1 := Nat.eq_of_beq_eq_true hw1
      have hw2 := Nat.eq_of_beq_eq_true hw2
      obtain ⟨_, st2, h11, h12⟩ := bind_ok.1 h10
      obtain ⟨q3, hq3⟩ := need_ok h11
      obtain ⟨cs', _, h13, h12⟩ := bind_ok.1 h12
      obtain ⟨hjoin, rfl⟩ := opt_ok.1 h13
      obtain ⟨hj1, _, hj3⟩ := joinCs_ok hjoin
      obtain ⟨_, st3, h15, h16⟩ := bind_ok.1 h12
      obtain ⟨_, rfl⟩ := delC_ok.1 h15
      obtain ⟨n', st4, h17, h18⟩ := bind_ok.1 h16
      obtain ⟨rfl, rfl⟩ := newC_ok.1 h17
      obtain ⟨rfl, rfl⟩ := ret_ok.1 h18
      clear h6 h7 h8 h9
      subst hw1
      have q2 : Quiet st1 { st1 with fr := insN n st1.fr } := Quiet.get
      have q := (q1.trans q2).trans q3
      have hc0 : hget n st.hp = some (.rep (.vec cs len' t')) := by rw [← q1.hp]; exact hc
      have hc2 : hget n st2.hp = some (.rep (.vec cs len' t')) := by rw [q.hp]; exact hc0
      refine ⟨q.fn.trans (Fn.move st2 n _ _ hc2), fun B F ρ own w a b s ha hb => ?_⟩
      have s1 := s.of_quiet q
      obtain ⟨hle, hby⟩ := of_decide_eq_true (hq3 s.ask)
      have hF : F n := s.log n (mem_ins.2 (.inl rfl))
      have ssrc : Sit repAt P B F st st1 ρ own w := ⟨fun k hk => s.log k (mem_ins.2 (.inr (q3.fr k (q2.fr k hk)))), s.wf, fun k hk => absurd hk (newN_self q1.nx), s.li, fun p hp => s.ask p (q3.ask p (q2.ask p hp)), s.base⟩
      have hsr := hsrc B F ρ own w b ssrc hb
      obtain ⟨e, he, hat⟩ := s.li.at_ n _ hF hc0
      have hv : VecAt (colsF cs) len' t' i.size e (own n) w := by rw [← hw2]; exact hat
      simp only [den, he, Option.map_some, Option.some.injEq] at ha
      subst ha
      obtain ⟨e1, own1, w', hr, hm, hv', ho⟩ := append_core (ty := ty) hu hi hb2 hz hzs hkx hv hle hby hsr
      have hv2 : VecAt (colsF cs') (len + m) t' cs'.length e1 own1 w' := by rw [hj3, hj1, hw2]; exact hv'
      have ht := Tr.move s1 hc2 e1 own1 hm (show CAt repAt P (ρ.put st2.nx e1) B e1 own1 (.rep (.vec cs' (len + m) t')) w' from hv2) ho
      refine ⟨_, _, _, _, hr, ?_, Tr.of_quiet q ht⟩
      simp only [den]
      rw [Names.put_same]
      rfl
    · exact (fail_ok.1 h8).elim
  · -- an empty row
    next n =>
    obtain ⟨c, st2, h7, h8⟩ := bind_ok.1 h6
    obtain ⟨hc, rfl⟩ := getC_ok.1 h7
    split at h8
    · next t' =>
      obtain ⟨_, _, h9, h10⟩ := bind_ok.1 h8
      obtain ⟨hw, rfl⟩ := want_ok.1 h9
      simp only [Bool.and_eq_true] at hw
      obtain ⟨hw1, hw2⟩ := hw
      have hw1 := Nat.eq_of_beq_eq_true hw1
      have hw2 := Nat.eq_of_beq_eq_true hw2
      obtain ⟨_, st2, h11, h12⟩ := bind_ok.1 h10
      obtain ⟨q3, hq3⟩ := need_ok h11
      obtain ⟨_, st3, h15, h16⟩ := bind_ok.1 h12
      obtain ⟨_, rfl⟩ := delC_ok.1 h15
      obtain ⟨n', st4, h17, h18⟩ := bind_ok.1 h16
      obtain ⟨rfl, rfl⟩ := newC_ok.1 h17
      obtain ⟨rfl, rfl⟩ := ret_ok.1 h18
      clear h6 h7 h8 h9
      subst hw1
      have q2 : Quiet st1 { st1 with fr := insN n st1.fr } := Quiet.get
      have q := (q1.trans q2).trans q3
      have hc0 : hget n st.hp = some (.row [] t') := by rw [← q1.hp]; exact hc
      have hc2 : hget n st2.hp = some (.row [] t') := by rw [q.hp]; exact hc0
      refine ⟨q.fn.trans (Fn.move st2 n _ _ hc2), fun B F ρ own w a b s ha hb => ?_⟩
      have s1 := s.of_quiet q
      have hby := of_decide_eq_true (hq3 s.ask)
      have hF : F n := s.log n (mem_ins.2 (.inl rfl))
      have ssrc : Sit repAt P B F st st1 ρ own w := ⟨fun k hk => s.log k (mem_ins.2 (.inr (q3.fr k (q2.fr k hk)))), s.wf, fun k hk => absurd hk (newN_self q1.nx), s.li, fun p hp => s.ask p (q3.ask p (q2.ask p hp)), s.base⟩
      have hsr := hsrc B F ρ own w b ssrc hb
      obtain ⟨e, he, hat⟩ := s.li.at_ n _ hF hc0
      obtain ⟨ho, cs, vs, g1, g2, _, _, g5⟩ := hat
      have hcell : P.cellsOf t' = i.size := by simp [Program.cellsOf, hi]
      rw [hcell] at g5
      have hv : VecAt (fun _ => []) 0 t' i.size ⟨e.b, e.cap, e.off, i.size, 0, some ⟨e.b, e.off, none⟩⟩ (own n) w := ⟨rfl, rfl, Nat.zero_le _, (fun i hi => by omega), rfl, ho, cs, g1, g5, fun i hi => by omega⟩
      simp only [den, he, Option.map_some, Option.some.injEq, Nat.add_zero, Nat.sub_zero] at ha
      subst ha
      obtain ⟨e1, own1, w', hr, hm, hv', ho'⟩ := append_core (ty := ty) hu hi hb2 hz hzs hkx hv (Nat.le_refl 0) (by rw [Nat.zero_add]; exact hby) hsr
      have hj : joinF (fun _ => []) 0 (colsF g) = colsF g := by funext j; simp [joinF]
      rw [hj, Nat.zero_add] at hv'
      rw [Nat.zero_add] at hr
      have ht := Tr.move s1 hc2 e1 own1 hm (show CAt repAt P (ρ.put st2.nx e1) B e1 own1 (.rep (.vec g m t')) w' from (by rw [← hw2] at hv'; exact hv')) ho'
      refine ⟨_, _, _, _, hr, ?_, Tr.of_quiet q ht⟩
      simp only [den]
      rw [Names.put_same]
      rfl
    · exact (fail_ok.1 h8).elim
  · -- nil
    obtain ⟨_, _, h9, h6⟩ := bind_ok.1 h6
    obtain ⟨hw2, rfl⟩ := want_ok.1 h9
    have hw2 := Nat.eq_of_beq_eq_true hw2
    obtain ⟨_, st2, h11, h12⟩ := bind_ok.1 h6
    obtain ⟨q3, hq3⟩ := need_ok h11
    obtain ⟨n', st4, h17, h18⟩ := bind_ok.1 h12
    obtain ⟨rfl, rfl⟩ := newC_ok.1 h17
    obtain ⟨rfl, rfl⟩ := ret_ok.1 h18
    have q := q1.trans q3
    refine ⟨quiet_new q _, fun B F ρ own w a b s ha hb => ?_⟩
    have s1 := s.of_quiet q
    have hby := of_decide_eq_true (hq3 s.ask)
    have ssrc : Sit repAt P B F st st1 ρ own w := ⟨fun k hk => s.log k (q3.fr k hk), s.wf, fun k hk => absurd hk (newN_self q1.nx), s.li, fun p hp => s.ask p (q3.ask p hp), s.base⟩
    have hsr := hsrc B F ρ own w b ssrc hb
    have hv : VecAt (fun _ => []) 0 elem i.size ⟨0, 0, 0, i.size, 0, none⟩ [] w := ⟨rfl, rfl, Nat.zero_le _, (fun i hi => by omega), rfl, rfl⟩
    simp only [den, Option.some.injEq] at ha
    subst ha
    obtain ⟨e1, own1, w', hr, hm, hv', ho'⟩ := append_core (ty := ty) hu hi hb2 hz hzs hkx hv (Nat.le_refl 0) (by rw [Nat.zero_add]; exact hby) hsr
    have hj : joinF (fun _ => []) 0 (colsF g) = colsF g := by funext j; simp [joinF]
    rw [hj, Nat.zero_add] at hv'
    rw [Nat.zero_add] at hr
    have ht := Tr.new s1 e1 own1 (hm.mono fun x _ hx => by cases hx) (show CAt repAt P (ρ.put st2.nx e1) B e1 own1 (.rep (.vec g m elem)) w' from (by rw [← hw2] at hv'; exact hv')) (fun x hx => (ho' x hx).resolve_left (fun h => by cases h))
    refine ⟨_, _, _, _, hr, ?_, Tr.of_quiet q ht⟩
    simp only [den]
    rw [Names.put_same]
    rfl
  · exact (fail_ok.1 h6).elim

theorem extV_ok : ∀ ev o m, extV P ev o = some m → ∀ st s st', m st = .ok s st' → OpS repAt P o ev st st' s := by
  intro ev o m hm st s st' h
  obtain ⟨dst, op, ty, pos, aft, gu⟩ := o
  unfold extV at hm
  split at hm
  · next t x i he =>
    simp only at he
    subst he
    split at hm
    · next n len kd z hx hi =>
      generalize hu : P.underlying t = du at hm
      split at hm <;> cases hm
      obtain ⟨q, hs⟩ := vecIdx_s hu h
      refine ⟨q.fn, fun B F ρ own w a si hev K Q hk => ?_⟩
      have e := hev _ _ hi
      simp only [den, Option.some.injEq] at e
      obtain ⟨y, g1, g2⟩ := hs B F ρ own w _ kd si (hev _ _ hx)
      exact wp_val (vrun (by rw [← e]; exact g1)) (hk y ρ own w (si.quiet q) g2)
    · next n kd z hx hi =>
      generalize hu : P.underlying t = du at hm
      split at hm <;> cases hm
      obtain ⟨q, hs⟩ := arrIdx_s hu h
      refine ⟨q.fn, fun B F ρ own w a si hev K Q hk => ?_⟩
      have e := hev _ _ hi
      simp only [den, Option.some.injEq] at e
      obtain ⟨y, g1, g2⟩ := hs B F ρ own w _ si (hev _ _ hx)
      exact wp_val (vrun (by rw [← e]; exact g1)) (hk y ρ own w (si.quiet q) g2)
    · next n off idx len kd z hx hi =>
      generalize hu : P.underlying t = du at hm
      split at hm <;> try cases hm
      next elem =>
      split at hm <;> cases hm
      next k hp hk =>
      obtain ⟨q, hs⟩ := concIdx_s (idx := idx) (kd := kd) hu hk h
      refine ⟨q.fn, fun B F ρ own w a si hev K Q hk => ?_⟩
      have e := hev _ _ hi
      simp only [den, Option.some.injEq] at e
      obtain ⟨y, g1, g2⟩ := hs B F ρ own w _ si (hev _ _ hx)
      exact wp_val (vrun (by rw [← e]; exact g1)) (hk y ρ own w (si.quiet q) g2)
    · cases hm
  · next t x he =>
    simp only at he
    subst he
    split at hm <;> cases hm
    next n i j hx =>
    obtain ⟨q, hs⟩ := vecLoad_s h
    refine ⟨q.fn, fun B F ρ own w a si hev K Q hk => ?_⟩
    obtain ⟨y, g1, g2⟩ := hs B F ρ own w _ si (hev _ _ hx)
    exact wp_val (vrun g2) (hk y ρ own w (si.quiet q) g1)
  · next t x y he =>
    simp only at he
    subst he
    split at hm <;> try cases hm
    next n i j hx =>
    split at hm <;> cases hm
    next v hv =>
    obtain ⟨rfl, hf, hs⟩ := vecStore_s h
    refine ⟨hf, fun B F ρ own w a si hev K Q hk => ?_⟩
    obtain ⟨ρ', own', w', g1, g2⟩ := hs B F ρ own w _ _ si (hev _ _ hx) (hev _ _ hv)
    refine wp_unit ?_ (hk undef ρ' own' w' g2 rfl)
    simp only [execOp, Sem.run_bind, g1, Result.andThen_ok]
    rfl
  · next s0 x t tx he =>
    simp only at he
    subst he
    split at hm <;> try cases hm
    next a b ha hb =>
    split at hm <;> cases hm
    obtain ⟨hf, hs⟩ := vecAppend_s (ty := ty) h
    refine ⟨hf, fun B F ρ own w ac si hev K Q hk => ?_⟩
    obtain ⟨v, ρ', own', w', g1, g2, g3⟩ := hs B F ρ own w _ _ si (hev _ _ ha) (hev _ _ hb)
    refine wp_val ?_ (hk v ρ' own' w' g3 g2)
    have g4 : ∀ cs, (builtin .append #[t, tx] ty cs #[ac.eval s0, ac.eval x]).run P w = .ok (.value v) w' := fun cs => vrun g1
    simp only [execOp, resolve, Sem.run_bind, Sem.run_pure, Result.andThen_ok, invoke]
    rw [show (⟨[s0, x]⟩ : Array Operand).map ac.eval = #[ac.eval s0, ac.eval x] by simp]
    exact g4 _
  · cases hm
end
end Go.Proofs.Ytdjogfofedbohaa
end
section
/- The executor run up to a loop of the function at hand, and rules for what goes on from there. Condition: the program follows the looser reading of Go's order. -/
namespace Go.Proofs.Ytdjogfofedbohaa

inductive Fr where
  | sq (c : Code)
  | bk (id : Nat)
inductive Goer where
  | go (c : Code)
  | out (x : Ex)
inductive Stop where
  | fin (x : Ex) (e : Env)
  | here (c : Code) (fs : List Fr) (e : Env)
def Stop.env : Stop → Env
  | .fin _ e => e
  | .here _ _ e => e

section
variable {R : Type} (P : Program)
def wpF : List Fr → (Exit → Act → World → Prop) → Exit → Act → World → Prop
  | [], Q => Q
  | .sq b :: fs, Q => Exit.then (fun a w => b.wp P (wpF fs Q) a w) (wpF fs Q)
  | .bk id :: fs, Q => Exit.inBlock id (wpF fs Q)
def goWp (g : Goer) (fs : List Fr) (Q : Exit → Act → World → Prop) (a : Act) (w : World) : Prop := match g with
  | .go c => c.wp P (wpF P fs Q) a w
  | .out x => wpF P fs Q x.exit a w
def stopWp (r : Stop) (Q : Exit → Act → World → Prop) (a : Act) (w : World) : Prop := match r with
  | .fin x _ => Q x.exit a w
  | .here c fs _ => (Code.loop c).wp P (wpF P fs Q) a w

/-- The run of a body up to its first loop behind j loops that are run through. -/
def stepC (lib : Lib R) (n sz : Nat) : Nat → Nat → Goer → List Fr → Env → M R Stop
  | 0, _, _, _, _ => .fail 190
  | k + 1, j, .go c, fs, e => match c with
    | .seq a b => stepC lib n sz k j (.go a) (.sq b :: fs) e
    | .block id c => stepC lib n sz k j (.go c) (.bk id :: fs) e
    | .cond x a b => (M.opt 191 (evX e x)).bind fun
      | .v (.bool t) => (askB t).bind fun
        | true => stepC lib n sz k j (.go a) fs e
        | false => stepC lib n sz k j (.go b) fs e
      | _ => .fail 192
    | .loop c => match j with
      | 0 => .ret (.here c fs e)
      | j' + 1 => (runX P lib n sz (.loop c) e).bind fun r => stepC lib n sz k j' (.out r.1) fs r.2
    | c => (runX P lib n sz c e).bind fun r => stepC lib n sz k j (.out r.1) fs r.2
  | k + 1, j, .out x, fs, e => match fs with
    | [] => .ret (.fin x e)
    | .sq b :: fs => match x with
      | .nor => stepC lib n sz k j (.go b) fs e
      | x => stepC lib n sz k j (.out x) fs e
    | .bk id :: fs => match x with
      | .out i => match Nat.beq i id with
        | true => stepC lib n sz k j (.out .nor) fs e
        | false => stepC lib n sz k j (.out (.out i)) fs e
      | x => stepC lib n sz k j (.out x) fs e
variable {P} {A : RepAt R} {lib : Lib R} {n sz : Nat} {st st1 st' : St R}

def StepS (A : RepAt R) (P : Program) (sz : Nat) (g : Goer) (fs : List Fr) (e : Env) (st st' : St R) (r : Stop) : Prop := Fn st st' ∧ ∀ B F ρ own w a, Sit A P B F st st' ρ own w → EnvR ρ e a → a.tmps.size = sz →
  ∀ (Q : Exit → Act → World → Prop), (∀ a' ρ' own' w', Tr A P B F st st' ρ own w ρ' own' w' → EnvR ρ' r.env a' → a'.tmps.size = sz → a'.defers = a.defers → stopWp P r Q a' w') → goWp P g fs Q a w

theorem StepS.run {c : Code} {fs : List Fr} {e e1 : Env} {x : Ex} {r : Stop} (h1 : CodeS A P sz (fun Q a w => c.wp P Q a w) e st st1 (x, e1)) (h2 : StepS A P sz (.out x) fs e1 st1 st' r) : StepS A P sz (.go c) fs e st st' r := by
  refine ⟨h1.1.trans h2.1, fun B F ρ own w a si he hz Q hk => ?_⟩
  refine h1.2 B F ρ own w a (si.head h1.1 h2.1) he hz _ (fun a1 ρ1 own1 w1 t1 he1 hz1 hd1 => ?_)
  exact h2.2 B _ ρ1 own1 w1 a1 (si.next h1.1 h2.1 t1) he1 hz1 Q (fun a' ρ' own' w' t2 he2 hz2 hd2 => hk a' ρ' own' w' (t1.trans t2 h1.1 h2.1 (h1.1.wf si.wf)) he2 hz2 (hd2.trans hd1))

theorem step_s (hm : P.follows .mixedOrders = true) (hp : LibOK A P lib) : ∀ {k j : Nat} {g : Goer} {fs : List Fr} {e : Env} {st st' : St R} {r : Stop}, stepC P lib n sz k j g fs e st = .ok r st' → StepS A P sz g fs e st st' r
  | 0, _, _, _, _, _, _, _, h => (fail_ok.1 h).elim
  | k + 1, j, .go c, fs, e, st, st', r, h => by
    have hr := (run_s hm hp n).1
    have plain : ∀ {c : Code} {j' : Nat}, (runX P lib n sz c e).bind (fun r => stepC P lib n sz k j' (.out r.1) fs r.2) st = .ok r st' → StepS A P sz (.go c) fs e st st' r := by
      intro c j' h
      obtain ⟨⟨x, e1⟩, st1, h1, h2⟩ := bind_ok.1 h
      exact StepS.run (hr _ _ _ _ _ _ h1) (step_s hm hp h2)
    unfold stepC at h
    split at h
    · next a b =>
      obtain ⟨hf, hs⟩ := step_s hm hp h
      exact ⟨hf, fun B F ρ own w a si he hz Q hk => wp_seq (hs B F ρ own w a si he hz Q hk)⟩
    · next id c =>
      obtain ⟨hf, hs⟩ := step_s hm hp h
      exact ⟨hf, fun B F ρ own w a si he hz Q hk => wp_block (hs B F ρ own w a si he hz Q hk)⟩
    · next x a b =>
      obtain ⟨s, _, h1, h2⟩ := bind_ok.1 h
      obtain ⟨hs, rfl⟩ := opt_ok.1 h1
      split at h2
      · next t =>
        obtain ⟨o, st1, h3, h4⟩ := bind_ok.1 h2
        obtain ⟨q, hq⟩ := ask_ok h3
        have key : ∀ {z : Code}, stepC P lib n sz k j (.go z) fs e st1 = .ok r st' → ((∀ p ∈ st'.ask, p.1 = p.2) → (if t = true then a else b) = z) → StepS A P sz (.go (.cond x a b)) fs e st st' r := by
          intro z hz hsel
          have g := step_s hm hp hz
          refine ⟨q.fn.trans g.1, fun B F ρ own w a' si he hsz Q hk => ?_⟩
          have ev := he.ev _ _ hs
          simp only [den, Option.some.injEq] at ev
          refine wp_cond ev.symm ?_
          rw [hsel si.ask]
          exact g.2 B F ρ own w a' (si.of_quiet q) he hsz Q (fun a' ρ' own' w' t' => hk a' ρ' own' w' (Tr.of_quiet q t'))
        cases o with
        | true =>
          refine key h4 (fun ha => ?_)
          rw [hq (fun p hx => ha p ((step_s hm hp h4).1.ask p hx)), if_pos rfl]
        | false =>
          refine key h4 (fun ha => ?_)
          rw [hq (fun p hx => ha p ((step_s hm hp h4).1.ask p hx))]
          rfl
      · exact (fail_ok.1 h2).elim
    · next c =>
      cases j with
      | zero =>
        obtain ⟨rfl, rfl⟩ := ret_ok.1 h
        exact ⟨Fn.refl _, fun B F ρ own w a si he hz Q hk => hk a ρ own w (si.quiet (Quiet.refl _)) he hz rfl⟩
      | succ j => exact plain h
    · exact plain h
  | k + 1, j, .out x, fs, e, st, st', r, h => by
    unfold stepC at h
    split at h
    · obtain ⟨rfl, rfl⟩ := ret_ok.1 h
      exact ⟨Fn.refl _, fun B F ρ own w a si he hz Q hk => hk a ρ own w (si.quiet (Quiet.refl _)) he hz rfl⟩
    · next b fs =>
      split at h
      · obtain ⟨hf, hs⟩ := step_s hm hp h
        exact ⟨hf, fun B F ρ own w a si he hz Q hk => hs B F ρ own w a si he hz Q hk⟩
      · next hx =>
        obtain ⟨hf, hs⟩ := step_s hm hp h
        refine ⟨hf, fun B F ρ own w a si he hz Q hk => ?_⟩
        have := hs B F ρ own w a si he hz Q hk
        cases x with
        | nor => exact absurd rfl hx
        | ret => exact this
        | out i => exact this
    · next id fs =>
      cases x with
      | out i =>
        simp only at h
        cases hb : Nat.beq i id with
        | true =>
          rw [hb] at h
          have hid := Nat.eq_of_beq_eq_true hb
          subst hid
          obtain ⟨hf, hs⟩ := step_s hm hp h
          refine ⟨hf, fun B F ρ own w a si he hz Q hk => ?_⟩
          have := hs B F ρ own w a si he hz Q hk
          simpa [goWp, wpF, Exit.inBlock, Ex.exit] using this
        | false =>
          rw [hb] at h
          have hid := Nat.ne_of_beq_eq_false hb
          obtain ⟨hf, hs⟩ := step_s hm hp h
          refine ⟨hf, fun B F ρ own w a si he hz Q hk => ?_⟩
          have := hs B F ρ own w a si he hz Q hk
          simpa [goWp, wpF, Exit.inBlock, Ex.exit, hid] using this
      | nor =>
        obtain ⟨hf, hs⟩ := step_s hm hp h
        exact ⟨hf, fun B F ρ own w a si he hz Q hk => hs B F ρ own w a si he hz Q hk⟩
      | ret =>
        obtain ⟨hf, hs⟩ := step_s hm hp h
        exact ⟨hf, fun B F ρ own w a si he hz Q hk => hs B F ρ own w a si he hz Q hk⟩
end
end Go.Proofs.Ytdjogfofedbohaa
end
section
/- Symbolic states that stand for memory, and rules for a body cut at its loops. Condition: the program follows the looser reading of Go's order. -/
namespace Go.Proofs.Ytdjogfofedbohaa

structure Sym (R : Type) where
  e : Env
  hp : List (Nat × Chunk R)
  nx : Nat

section
variable {R : Type}
structure Stand (A : RepAt R) (P : Program) (B : Nat) (s : Sym R) (ρ : Names) (own : Nat → List Nat) (w : World) : Prop where
  li : LI A P B ρ own s.hp (fun _ => True) w
  top : ∀ n, s.nx ≤ n → hget n s.hp = none
  fresh : ∀ n, s.nx ≤ n → ρ n = none
  base : B ≤ w.heap.size

/-- What has changed lies in known pieces or is new. -/
structure Way (hp : List (Nat × Chunk R)) (own : Nat → List Nat) (w : World) (hp' : List (Nat × Chunk R)) (own' : Nat → List Nat) (w' : World) : Prop where
  mod : ModP (fun b => ∃ n c, hget n hp = some c ∧ b ∈ own n) w w'
  pool : ∀ n c, hget n hp' = some c → ∀ b ∈ own' n, w.heap.size ≤ b ∨ ∃ m d, hget m hp = some d ∧ b ∈ own m
variable {hp hp1 hp2 : List (Nat × Chunk R)} {own own1 own2 : Nat → List Nat} {w w1 w2 : World}
theorem Way.refl : Way hp own w hp own w := ⟨ModP.refl _ _, fun n c hc _ hb => .inr ⟨n, c, hc, hb⟩⟩
theorem Way.trans (h : Way hp own w hp1 own1 w1) (k : Way hp1 own1 w1 hp2 own2 w2) : Way hp own w hp2 own2 w2 := by
  refine ⟨h.mod.trans k.mod fun b hb ⟨n, c, hc, hn⟩ => (h.pool n c hc b hn).resolve_left (by omega), fun n c hc b hb => ?_⟩
  rcases k.pool n c hc b hb with g | ⟨m, d, g1, g2⟩
  · exact .inl (Nat.le_trans h.mod.size g)
  · exact h.pool m d g1 b g2

def Tri (A : RepAt R) (P : Program) (sz pin : Nat) (g : Goer) (fs : List Fr) (s : Sym R) (Q : Ex → Sym R → Prop) : Prop :=
  ∀ B ρ own w a, Stand A P B s ρ own w → EnvR ρ s.e a → a.tmps.size = sz → ∀ (K : Exit → Act → World → Prop),
    (∀ x s' ρ' own' w' a', Q x s' → Stand A P B s' ρ' own' w' → EnvR ρ' s'.e a' → a'.tmps.size = sz → a'.defers = a.defers → Way s.hp own w s'.hp own' w' → (∀ n, n < pin → ρ' n = ρ n) → K x.exit a' w') → goWp P g fs K a w

variable {A : RepAt R} {P : Program} {lib : Lib R} {n sz pin : Nat} {g g' : Goer} {fs fs' : List Fr} {s s' s'' : Sym R} {Q Q' : Ex → Sym R → Prop}
theorem Tri.fin {x : Ex} (h : Q x s) : Tri A P sz pin (.out x) [] s Q := fun _ ρ own w a hs he hz _ hk => hk x s ρ own w a h hs he hz rfl Way.refl (fun _ _ => rfl)
theorem Tri.mono (h : Tri A P sz pin g fs s Q) (hq : ∀ x s, Q x s → Q' x s) : Tri A P sz pin g fs s Q' := fun B ρ own w a hs he hz K hk => h B ρ own w a hs he hz K fun x s' ρ' own' w' a' hx => hk x s' ρ' own' w' a' (hq x s' hx)

def Stop.next (r : Stop) : Goer × List Fr := match r with
  | .fin x _ => (.out x, [])
  | .here c fs _ => (.go (.loop c), fs)
theorem stop_next {r : Stop} {Q : Exit → Act → World → Prop} {a : Act} {w : World} : goWp P r.next.1 r.next.2 Q a w = stopWp P r Q a w := by cases r <;> rfl

theorem Tri.run (hm : P.follows .mixedOrders = true) (hl : LibOK A P lib) {k j : Nat} {o : List (Option Bool)} {r : Stop} {st' : St R} (h : stepC P lib n sz k j g fs s.e ⟨s.hp, s.nx, [], [], [], o⟩ = .ok r st') (ha : ∀ p ∈ st'.ask, p.1 = p.2) (hpin : pin ≤ s.nx)
    (ht : Tri A P sz pin r.next.1 r.next.2 ⟨r.env, st'.hp, st'.nx⟩ Q) : Tri A P sz pin g fs s Q := by
  obtain ⟨hf, hs⟩ := step_s hm hl h
  intro B ρ own w a hst he hz K hk
  have hwf : Wf (⟨s.hp, s.nx, [], [], [], o⟩ : St R) := ⟨(fun n hn => by cases hn), hst.top⟩
  have hwf' := hf.wf hwf
  refine hs B (fun _ => True) ρ own w a ⟨fun _ _ => trivial, hwf, fun n hn => hst.fresh n hn.1, hst.li, ha, hst.base⟩ he hz K (fun a1 ρ1 own1 w1 t1 he1 hz1 hd1 => ?_)
  rw [← stop_next]
  have old : ∀ m, m ∈ st'.wr → ¬ newN (⟨s.hp, s.nx, [], [], [], o⟩ : St R) st' m → ∃ c, hget m s.hp = some c := fun m hm hn => by
    rcases hf.al m hm with h1 | h1 | h1
    · cases h1
    · exact absurd ⟨h1, (hwf'.wr m hm).2⟩ hn
    · exact h1
  have way : Way s.hp own w st'.hp own1 w1 := by
    refine ⟨t1.mod.mono fun b _ ⟨m, h1, h2, h3⟩ => ?_, fun n c hc b hb => ?_⟩
    · obtain ⟨c, hc⟩ := old m h1 h2
      exact ⟨m, c, hc, h3⟩
    · by_cases h1 : newN (⟨s.hp, s.nx, [], [], [], o⟩ : St R) st' n ∨ n ∈ st'.wr
      · rcases t1.pool n h1 b hb with h2 | ⟨m, h2, h3, h4⟩
        · exact .inl h2
        · obtain ⟨d, hd⟩ := old m h2 h3
          exact .inr ⟨m, d, hd, h4⟩
      · rw [not_or] at h1
        rw [t1.same n h1.1 h1.2] at hb
        have hlt := hwf'.lt hc
        have h2 : n < s.nx := by
          rcases Nat.lt_or_ge n s.nx with h | h
          · exact h
          · exact absurd ⟨h, hlt⟩ h1.1
        exact .inr ⟨n, c, (hf.hp n h1.2 h2).symm.trans hc, hb⟩
  refine ht B ρ1 own1 w1 a1 ⟨t1.li.sub fun _ _ => .inl trivial, hwf'.top, fun n hn => ?_, Nat.le_trans hst.base t1.mod.size⟩ he1 hz1 K (fun x s2 ρ2 own2 w2 a2 hq h2 he2 hz2 hd2 hw2 hp2 => hk x s2 ρ2 own2 w2 a2 hq h2 he2 hz2 (hd2.trans hd1) (way.trans hw2) (fun n hn => ?_))
  · simp only at hn
    rw [t1.out n (fun h => by have := h.2; omega)]
    exact hst.fresh n (Nat.le_trans hf.nx hn)
  · rw [hp2 n hn, t1.out n (fun h => by have h1 := h.1; simp only at h1; omega)]

theorem rounds_mono {c : Code} {Q : Exit → Act → World → Prop} : ∀ {n m : Nat}, n ≤ m → ∀ {a w}, Code.rounds P c Q n a w → Code.rounds P c Q m a w
  | 0, _, _, _, _, h => h.elim
  | n + 1, 0, hle, _, _, _ => by omega
  | n + 1, m + 1, hle, a, w, h => by
    rw [rounds_succ] at h ⊢
    refine wp_mono h fun e a w hx => ?_
    cases e <;> first | exact rounds_mono (Nat.le_of_succ_le_succ hle) hx | exact hx

/-- A loop's rule: each round leads to such a state again, of a smaller number, or out. -/
theorem Tri.loop {c : Code} (I : Nat → Sym R → Prop) (hr : ∀ k s, I k s → Tri A P sz pin (.go c) [] s (fun x s' => match x with
    | .nor => ∃ k', k' < k ∧ I k' s'
    | x => Tri A P sz pin (.out x) fs s' Q)) {k : Nat} (h : I k s) : Tri A P sz pin (.go (.loop c)) fs s Q := by
  have key : ∀ k s, I k s → ∀ B ρ own w a, Stand A P B s ρ own w → EnvR ρ s.e a → a.tmps.size = sz → ∀ (K : Exit → Act → World → Prop),
      (∀ x s' ρ' own' w' a', Q x s' → Stand A P B s' ρ' own' w' → EnvR ρ' s'.e a' → a'.tmps.size = sz → a'.defers = a.defers → Way s.hp own w s'.hp own' w' → (∀ n, n < pin → ρ' n = ρ n) → K x.exit a' w') → Code.rounds P c (wpF P fs K) (k + 1) a w := by
    intro k
    induction k using Nat.strongRecOn with
    | _ k ih =>
      intro s hI B ρ own w a hs he hz K hk
      rw [rounds_succ]
      refine hr k s hI B ρ own w a hs he hz _ (fun x s1 ρ1 own1 w1 a1 hx hs1 he1 hz1 hd1 hw1 hp1 => ?_)
      cases x with
      | nor =>
        obtain ⟨k', hlt, hI'⟩ := hx
        exact rounds_mono (Nat.succ_le_of_lt hlt) (ih k' hlt s1 hI' B ρ1 own1 w1 a1 hs1 he1 hz1 K (fun x s2 ρ2 own2 w2 a2 hq h2 he2 hz2 hd2 hw2 hp2 => hk x s2 ρ2 own2 w2 a2 hq h2 he2 hz2 (hd2.trans hd1) (hw1.trans hw2) (fun n hn => (hp2 n hn).trans (hp1 n hn))))
      | ret => exact hx B ρ1 own1 w1 a1 hs1 he1 hz1 K (fun x s2 ρ2 own2 w2 a2 hq h2 he2 hz2 hd2 hw2 hp2 => hk x s2 ρ2 own2 w2 a2 hq h2 he2 hz2 (hd2.trans hd1) (hw1.trans hw2) (fun n hn => (hp2 n hn).trans (hp1 n hn)))
      | out i => exact hx B ρ1 own1 w1 a1 hs1 he1 hz1 K (fun x s2 ρ2 own2 w2 a2 hq h2 he2 hz2 hd2 hw2 hp2 => hk x s2 ρ2 own2 w2 a2 hq h2 he2 hz2 (hd2.trans hd1) (hw1.trans hw2) (fun n hn => (hp2 n hn).trans (hp1 n hn)))
  exact fun B ρ own w a hs he hz K hk => wp_loop_rounds (k + 1) (key k s h B ρ own w a hs he hz K hk)

/-- The same memory, seen as another state. -/
def View (A : RepAt R) (P : Program) (pin : Nat) (s s' : Sym R) : Prop := ∀ B ρ own w, Stand A P B s ρ own w → ∃ ρ' own', Stand A P B s' ρ' own' w ∧ (∀ a, EnvR ρ s.e a → EnvR ρ' s'.e a) ∧ (∀ n c, hget n s'.hp = some c → ∀ b ∈ own' n, ∃ m d, hget m s.hp = some d ∧ b ∈ own m) ∧ ∀ n, n < pin → ρ' n = ρ n
theorem View.refl : View A P pin s s := fun _ ρ own _ h => ⟨ρ, own, h, fun _ h => h, fun n c hc _ hb => ⟨n, c, hc, hb⟩, fun _ _ => rfl⟩
theorem View.trans (h : View A P pin s s') (k : View A P pin s' s'') : View A P pin s s'' := fun B ρ own w hs => by
  obtain ⟨ρ1, own1, h1, h2, h3, h4⟩ := h B ρ own w hs
  obtain ⟨ρ2, own2, k1, k2, k3, k4⟩ := k B ρ1 own1 w h1
  refine ⟨ρ2, own2, k1, fun a ha => k2 a (h2 a ha), fun n c hc b hb => ?_, fun n hn => (k4 n hn).trans (h4 n hn)⟩
  obtain ⟨m, d, g1, g2⟩ := k3 n c hc b hb
  exact h3 m d g1 b g2
theorem Tri.view (h : View A P pin s s') (ht : Tri A P sz pin g fs s' Q) : Tri A P sz pin g fs s Q := fun B ρ own w a hs he hz K hk => by
  obtain ⟨ρ1, own1, h1, h2, h3, h4⟩ := h B ρ own w hs
  exact ht B ρ1 own1 w a h1 (h2 a he) hz K (fun x s2 ρ2 own2 w2 a2 hq hs2 he2 hz2 hd2 hw2 hp2 => hk x s2 ρ2 own2 w2 a2 hq hs2 he2 hz2 hd2 (Way.trans ⟨ModP.refl _ _, fun n c hc b hb => .inr (h3 n c hc b hb)⟩ hw2) (fun n hn => (hp2 n hn).trans (h4 n hn)))

/-! Names anew, in the order in which one comes to them; what one does not come to is forgotten. -/
mutual
def namesS : SV → List Nat
  | .v _ => []
  | .ptr n _ => [n]
  | .sl n _ _ _ => [n]
  | .slE n => [n]
  | .tptr n _ _ => [n]
  | .tsl n _ => [n]
  | .mp n => [n]
  | .ifc _ x => namesS x
  | .agg l => namesL l
  | .tup l => namesL l
  | .clo _ a b => namesL a ++ namesL b
def namesL : List SV → List Nat
  | [] => []
  | x :: l => namesS x ++ namesL l
end
def namesC : Chunk R → List Nat
  | .row l _ => namesL l
  | _ => []
def orderX (hp : List (Nat × Chunk R)) : Nat → List Nat → List Nat → List Nat
  | 0, _, seen => seen
  | _ + 1, [], seen => seen
  | k + 1, n :: todo, seen => match memN n seen with
    | true => orderX hp k todo seen
    | false => match hget n hp with
      | some c => orderX hp k (todo ++ namesC c) (seen ++ [n])
      | none => orderX hp k todo seen
def idxN (n : Nat) : List Nat → Nat → Option Nat
  | [], _ => none
  | m :: r, i => match Nat.beq n m with
    | true => some i
    | false => idxN n r (i + 1)
mutual
def renS (l : List Nat) : SV → Option SV
  | .v x => some (.v x)
  | .ptr n o => (idxN n l 0).map fun m => .ptr m o
  | .sl n o i k => (idxN n l 0).map fun m => .sl m o i k
  | .slE n => (idxN n l 0).map fun m => .slE m
  | .tptr n i j => (idxN n l 0).map fun m => .tptr m i j
  | .tsl n k => (idxN n l 0).map fun m => .tsl m k
  | .mp n => (idxN n l 0).map fun m => .mp m
  | .ifc t x => (renS l x).map fun y => .ifc t y
  | .agg r => (renL l r).map fun r => .agg r
  | .tup r => (renL l r).map fun r => .tup r
  | .clo f a b => match renL l a, renL l b with
    | some a, some b => some (.clo f a b)
    | _, _ => none
def renL (l : List Nat) : List SV → Option (List SV)
  | [] => some []
  | x :: r => match renS l x, renL l r with
    | some x, some r => some (x :: r)
    | _, _ => none
end
def renC (l : List Nat) : Chunk R → Option (Chunk R)
  | .row cs t => (renL l cs).map fun cs => .row cs t
  | .emp => some .emp
  | .rep r => some (.rep r)
  | .tab _ _ _ => none
def renHp (l : List Nat) (hp : List (Nat × Chunk R)) : List Nat → Nat → Option (List (Nat × Chunk R))
  | [], _ => some []
  | n :: r, i => match (hget n hp).bind (renC l), renHp l hp r (i + 1) with
    | some c, some t => some ((i, c) :: t)
    | _, _ => none
def renEnv (l : List Nat) (e : Env) : List Nat → Option Env
  | [] => some []
  | t :: r => match elook t e with
    | some s => match renS l s, renEnv l e r with
      | some s, some r => some ((t, s) :: r)
      | _, _ => none
    | none => renEnv l e r
def rootsE (e : Env) : List Nat → List Nat
  | [] => []
  | t :: r => match elook t e with
    | some s => namesS s ++ rootsE e r
    | none => rootsE e r
def startsB : List Nat → List Nat → Bool
  | [], _ => true
  | _ :: _, [] => false
  | n :: r, m :: l => match Nat.beq n m with
    | true => startsB r l
    | false => false
def canonL (l pins vars : List Nat) (s : Sym R) : Option (Sym R) := match startsB pins l with
  | true => match renEnv l s.e vars, renHp l s.hp l 0 with
    | some e, some hp => some ⟨e, hp, l.length⟩
    | _, _ => none
  | false => none
def canonX (pins vars : List Nat) (s : Sym R) : Option (Sym R) := canonL (orderX s.hp 2000 (pins ++ rootsE s.e vars) []) pins vars s

theorem idxN_ok {n : Nat} : ∀ {l : List Nat} {i m : Nat}, idxN n l i = some m → i ≤ m ∧ l[m - i]? = some n
  | [], _, _, h => by cases h
  | x :: l, i, m, h => by
    simp only [idxN] at h
    split at h
    · next hb =>
      injection h with h
      subst h
      have := Nat.eq_of_beq_eq_true hb
      subst this
      simp
    · obtain ⟨h1, h2⟩ := idxN_ok h
      refine ⟨by omega, ?_⟩
      rw [show m - i = (m - (i + 1)) + 1 by omega, List.getElem?_cons_succ]
      exact h2
def renN (l : List Nat) (ρ : Names) : Names := fun i => match l[i]? with
  | some n => ρ n
  | none => none
theorem renN_idx {l : List Nat} {ρ : Names} {n m : Nat} (h : idxN n l 0 = some m) : renN l ρ m = ρ n := by
  obtain ⟨_, h⟩ := idxN_ok h
  rw [Nat.sub_zero] at h
  simp [renN, h]
mutual
theorem den_ren {l : List Nat} {ρ : Names} : ∀ (s s' : SV) (x : Value), renS l s = some s' → den ρ s = some x → den (renN l ρ) s' = some x
  | .v _, s', x, h, hx => by
    simp only [renS, Option.some.injEq] at h
    subst h
    exact hx
  | .ptr n o, s', x, h, hx => by
    simp only [renS, Option.map_eq_some_iff] at h
    obtain ⟨m, hm, rfl⟩ := h
    simpa only [den, renN_idx hm] using hx
  | .sl n o i k, s', x, h, hx => by
    simp only [renS, Option.map_eq_some_iff] at h
    obtain ⟨m, hm, rfl⟩ := h
    simpa only [den, renN_idx hm] using hx
  | .slE n, s', x, h, hx => by
    simp only [renS, Option.map_eq_some_iff] at h
    obtain ⟨m, hm, rfl⟩ := h
    simpa only [den, renN_idx hm] using hx
  | .tptr n i j, s', x, h, hx => by
    simp only [renS, Option.map_eq_some_iff] at h
    obtain ⟨m, hm, rfl⟩ := h
    simpa only [den, renN_idx hm] using hx
  | .tsl n k, s', x, h, hx => by
    simp only [renS, Option.map_eq_some_iff] at h
    obtain ⟨m, hm, rfl⟩ := h
    simpa only [den, renN_idx hm] using hx
  | .mp n, s', x, h, hx => by
    simp only [renS, Option.map_eq_some_iff] at h
    obtain ⟨m, hm, rfl⟩ := h
    simpa only [den, renN_idx hm] using hx
  | .ifc t y, s', x, h, hx => by
    simp only [renS, Option.map_eq_some_iff] at h
    obtain ⟨y', hy, rfl⟩ := h
    simp only [den, Option.map_eq_some_iff] at hx ⊢
    obtain ⟨z, hz, hx⟩ := hx
    exact ⟨z, den_ren y y' z hy hz, hx⟩
  | .agg r, s', x, h, hx => by
    simp only [renS, Option.map_eq_some_iff] at h
    obtain ⟨y', hy, rfl⟩ := h
    simp only [den, Option.map_eq_some_iff] at hx ⊢
    obtain ⟨z, hz, hx⟩ := hx
    exact ⟨z, denL_ren r y' z hy hz, hx⟩
  | .tup r, s', x, h, hx => by
    simp only [renS, Option.map_eq_some_iff] at h
    obtain ⟨y', hy, rfl⟩ := h
    simp only [den, Option.map_eq_some_iff] at hx ⊢
    obtain ⟨z, hz, hx⟩ := hx
    exact ⟨z, denL_ren r y' z hy hz, hx⟩
  | .clo f a b, s', x, h, hx => by
    simp only [renS] at h
    split at h <;> cases h
    next a' b' ha hb =>
    simp only [den] at hx ⊢
    split at hx <;> try cases hx
    next va vb h1 h2 =>
    rw [denL_ren a a' va ha h1, denL_ren b b' vb hb h2]
theorem denL_ren {l : List Nat} {ρ : Names} : ∀ (s s' : List SV) (x : List Value), renL l s = some s' → denL ρ s = some x → denL (renN l ρ) s' = some x
  | [], s', x, h, hx => by
    simp only [renL, Option.some.injEq] at h
    subst h
    exact hx
  | y :: r, s', x, h, hx => by
    simp only [renL] at h
    split at h <;> cases h
    next y' r' hy hr =>
    obtain ⟨a, b, h1, h2, rfl⟩ := denL_cons.1 hx
    exact denL_cons.2 ⟨a, b, den_ren y y' a hy h1, denL_ren r r' b hr h2, rfl⟩
end
theorem order_nodup {hp : List (Nat × Chunk R)} : ∀ {k : Nat} {todo seen : List Nat}, seen.Nodup → (orderX hp k todo seen).Nodup
  | 0, _, _, h => h
  | _ + 1, [], _, h => h
  | k + 1, n :: todo, seen, h => by
    simp only [orderX]
    split
    · exact order_nodup h
    · next hm =>
      split
      · refine order_nodup (List.nodup_append.2 ⟨h, by simp, fun a ha b hb e => ?_⟩)
        rw [List.mem_singleton] at hb
        subst hb
        subst e
        rw [memN_iff.2 ha] at hm
        cases hm
      · exact order_nodup h
theorem renHp_get {l : List Nat} {hp : List (Nat × Chunk R)} : ∀ {r : List Nat} {i : Nat} {hp' : List (Nat × Chunk R)}, renHp l hp r i = some hp' → ∀ {n : Nat} {c : Chunk R}, hget n hp' = some c → i ≤ n ∧ ∃ m d, r[n - i]? = some m ∧ hget m hp = some d ∧ renC l d = some c
  | [], _, hp', h, n, c, hc => by
    simp only [renHp, Option.some.injEq] at h
    subst h
    cases hc
  | x :: r, i, hp', h, n, c, hc => by
    simp only [renHp] at h
    split at h <;> cases h
    next c0 t h1 h2 =>
    rw [hget_cons] at hc
    split at hc
    · next e =>
      subst e
      injection hc with hc
      subst hc
      simp only [Option.bind_eq_some_iff] at h1
      obtain ⟨d, h3, h4⟩ := h1
      exact ⟨Nat.le_refl _, x, d, by simp, h3, h4⟩
    · obtain ⟨h3, m, d, h4, h5, h6⟩ := renHp_get h2 hc
      refine ⟨by omega, m, d, ?_, h5, h6⟩
      rw [show n - i = (n - (i + 1)) + 1 by omega, List.getElem?_cons_succ]
      exact h4
theorem renEnv_get {l : List Nat} {e : Env} : ∀ {vars : List Nat} {e' : Env}, renEnv l e vars = some e' → ∀ {t : Nat} {s : SV}, elook t e' = some s → ∃ s0, elook t e = some s0 ∧ renS l s0 = some s
  | [], e', h, t, s, hs => by
    simp only [renEnv, Option.some.injEq] at h
    subst h
    cases hs
  | v :: vars, e', h, t, s, hs => by
    simp only [renEnv] at h
    split at h
    · next s0 h0 =>
      split at h <;> cases h
      next s1 r h1 h2 =>
      rw [elook_cons] at hs
      split at hs
      · next e =>
        subst e
        injection hs with hs
        subst hs
        exact ⟨s0, h0, h1⟩
      · exact renEnv_get h2 hs
    · exact renEnv_get h hs
theorem starts_get : ∀ {r l : List Nat}, startsB r l = true → ∀ {n : Nat}, n < r.length → l[n]? = r[n]?
  | [], _, _, _, h => by cases h
  | _ :: _, [], h, _, _ => by cases h
  | x :: r, y :: l, h, n, hn => by
    simp only [startsB] at h
    split at h
    · next hb =>
      have := Nat.eq_of_beq_eq_true hb
      subst this
      cases n with
      | zero => rfl
      | succ n =>
        simp only [List.getElem?_cons_succ]
        exact starts_get h (by simpa using hn)
    · cases h
theorem canon_view {vars : List Nat} (h : canonX (List.range pin) vars s = some s') : View A P pin s s' := by
  unfold canonX at h
  have hnd : (orderX s.hp 2000 (List.range pin ++ rootsE s.e vars) []).Nodup := order_nodup List.nodup_nil
  generalize orderX s.hp 2000 (List.range pin ++ rootsE s.e vars) [] = l at h hnd
  unfold canonL at h
  split at h
  case h_2 => cases h
  next hst =>
  split at h <;> cases h
  next e hp he hhp =>
  intro B ρ own w hs
  refine ⟨renN l ρ, fun i => match l[i]? with | some n => own n | none => [], ⟨⟨fun n c _ hc => ?_, fun n m c d _ _ hne hc hd b hb hb' => ?_, fun n c _ hc b hb => ?_⟩, fun n hn => ?_, fun n hn => ?_, hs.base⟩, fun a ha t v ht => ?_, fun n c hc b hb => ?_, fun n hn => ?_⟩
  · obtain ⟨_, m, d, h1, h2, h3⟩ := renHp_get hhp hc
    rw [Nat.sub_zero] at h1
    obtain ⟨e0, h4, h5⟩ := hs.li.at_ m d trivial h2
    refine ⟨e0, by simp [renN, h1, h4], ?_⟩
    simp only [h1]
    cases d with
    | row cs t =>
      simp only [renC, Option.map_eq_some_iff] at h3
      obtain ⟨cs', h6, rfl⟩ := h3
      obtain ⟨g1, ds, vs, g2, g3, g4⟩ := h5
      exact ⟨g1, ds, vs, g2, denL_ren _ _ _ h6 g3, g4⟩
    | tab f len t => cases h3
    | emp =>
      simp only [renC, Option.some.injEq] at h3
      subst h3
      exact h5
    | rep r =>
      simp only [renC, Option.some.injEq] at h3
      subst h3
      exact h5
  · obtain ⟨_, m1, d1, h1, h2, h3⟩ := renHp_get hhp hc
    obtain ⟨_, m2, d2, h4, h5, h6⟩ := renHp_get hhp hd
    rw [Nat.sub_zero] at h1 h4
    simp only [h1, h4] at hb hb'
    refine hs.li.dis m1 m2 d1 d2 trivial trivial (fun e => hne ?_) h2 h5 b hb hb'
    subst e
    exact (List.getElem?_inj (lt_of_some h1) hnd).1 (h1.trans h4.symm)
  · obtain ⟨_, m, d, h1, h2, h3⟩ := renHp_get hhp hc
    rw [Nat.sub_zero] at h1
    simp only [h1] at hb
    exact hs.li.low m d trivial h2 b hb
  · cases hx : hget n hp with
    | none => rfl
    | some c =>
      obtain ⟨_, m, d, h1, _⟩ := renHp_get hhp hx
      rw [Nat.sub_zero] at h1
      have := lt_of_some h1
      simp only at hn
      omega
  · simp only [renN]
    rw [List.getElem?_eq_none hn]
  · obtain ⟨s0, h1, h2⟩ := renEnv_get he ht
    obtain ⟨x, h3, h4⟩ := ha t s0 h1
    exact ⟨x, h3, den_ren s0 v x h2 h4⟩
  · obtain ⟨_, m, d, h1, h2, h3⟩ := renHp_get hhp hc
    rw [Nat.sub_zero] at h1
    simp only [h1] at hb
    exact ⟨m, d, h2, hb⟩
  · have := starts_get hst (n := n) (by simpa using hn)
    rw [List.getElem?_range hn] at this
    simp [renN, this]
end
end Go.Proofs.Ytdjogfofedbohaa
end
section
/- A long run cut into pieces at a loop's rounds: each piece its own theorem. No condition. -/
namespace Go.Proofs.Ytdjogfofedbohaa
variable {R : Type} {P : Program} {lib : Lib R}

def fEnv {β : Type} : Env → (Env → β) → β
  | [], k => k []
  | (t, s) :: r, k => fNat t fun t => fTop s fun s => fEnv r fun r => k ((t, s) :: r)
theorem fEnv_eq {β : Type} (e : Env) (k : Env → β) : fEnv e k = k e := by
  induction e generalizing k with
  | nil => rfl
  | cons p e ih => obtain ⟨t, s⟩ := p; simp [fEnv, fNat_eq, fTop_eq, ih]
/-- One round of a loop: what the next begins with, reckoned out. -/
def roundX (fR : R → (R → Option (Env × St R)) → Option (Env × St R)) (P : Program) (lib : Lib R) (n sz : Nat) (c : Code) (e : Env) (st : St R) : Option (Env × St R) := match runX P lib n sz c e st with
  | .ok (.nor, e1) st1 => fEnv (pruneE (maskE e) e1) fun e2 => fSt fR st1 fun st2 => some (e2, st2)
  | _ => none
theorem loop_round {fR : R → (R → Option (Env × St R)) → Option (Env × St R)} (hR : ∀ r k, fR r k = k r) {n sz : Nat} {c : Code} {e e1 : Env} {st st1 : St R} (h : roundX fR P lib n sz c e st = some (e1, st1)) : runX P lib (n + 1) sz (.loop c) e st = runX P lib n sz (.loop c) e1 st1 := by
  unfold roundX at h
  simp only [runX, codeF, M.bind]
  cases hr : runX P lib n sz c e st with
  | no w l => rw [hr] at h; cases h
  | ok a s =>
    obtain ⟨ex, e2⟩ := a
    rw [hr] at h
    cases ex with
    | nor =>
      simp only [fEnv_eq, fSt_eq hR] at h
      injection h with h; injection h with h1 h2; subst h1; subst h2; rfl
    | ret => cases h
    | out id => cases h

/-- A run up to its first loop. -/
inductive Sus (R : Type) where
  | done (r : Res R (Ex × Env))
  | here (n : Nat) (c : Code) (e : Env) (st : St R)
def susX (P : Program) (lib : Lib R) : Nat → Nat → Code → Env → St R → Sus R
  | n + 1, sz, .seq a b, e, st => match susX P lib n sz a e st with
    | .done (.ok (.nor, e1) st1) => susX P lib n sz b e1 st1
    | x => x
  | n + 1, sz, .block id c, e, st => match susX P lib n sz c e st with
    | .here m c' e' st' => .here m c' e' st'
    | .done _ => .done (runX P lib (n + 1) sz (.block id c) e st)
  | n + 1, _, .loop c, e, st => .here n c e st
  | n, sz, c, e, st => .done (runX P lib n sz c e st)
/-- The same, with the first loop's outcome given. -/
def finX (P : Program) (lib : Lib R) (v : Res R (Ex × Env)) : Nat → Nat → Code → Env → St R → Res R (Ex × Env)
  | n + 1, sz, .seq a b, e, st => match susX P lib n sz a e st with
    | .done (.ok (.nor, e1) st1) => finX P lib v n sz b e1 st1
    | .done r => r
    | .here _ _ _ _ => match finX P lib v n sz a e st with
      | .ok (.nor, e1) st1 => runX P lib n sz b e1 st1
      | r => r
  | n + 1, sz, .block id c, e, st => match finX P lib v n sz c e st with
    | .ok (.out id', e1) st1 => match Nat.beq id' id with
      | true => .ok (.nor, e1) st1
      | false => .ok (.out id', e1) st1
    | r => r
  | _ + 1, _, .loop _, _, _ => v
  | n, sz, c, e, st => runX P lib n sz c e st

theorem run_seq (n sz : Nat) (a b : Code) (e : Env) (st : St R) : runX P lib (n + 1) sz (.seq a b) e st = (match runX P lib n sz a e st with
    | .ok (.nor, e1) st1 => runX P lib n sz b e1 st1
    | r => r) := by
  simp only [runX, codeF, M.bind]
  cases runX P lib n sz a e st with
  | no w l => rfl
  | ok a s => obtain ⟨ex, e2⟩ := a; cases ex <;> rfl
theorem run_block (n sz id : Nat) (c : Code) (e : Env) (st : St R) : runX P lib (n + 1) sz (.block id c) e st = (match runX P lib n sz c e st with
    | .ok (.out id', e1) st1 => (match Nat.beq id' id with
      | true => .ok (.nor, e1) st1
      | false => .ok (.out id', e1) st1)
    | r => r) := by
  simp only [runX, codeF, M.bind]
  cases runX P lib n sz c e st with
  | no w l => rfl
  | ok a s =>
    obtain ⟨ex, e2⟩ := a
    cases ex with
    | nor => rfl
    | ret => rfl
    | out id' => cases hb : Nat.beq id' id <;> simp only [hb] <;> rfl
theorem sus_run : ∀ (n sz : Nat) (c : Code) (e : Env) (st : St R), (∀ r, susX P lib n sz c e st = .done r → runX P lib n sz c e st = r) ∧
    ∀ m c' e' st', susX P lib n sz c e st = .here m c' e' st' → runX P lib n sz c e st = finX P lib (runX P lib (m + 1) sz (.loop c') e' st') n sz c e st := by
  intro n
  induction n with
  | zero => exact fun sz c e st => ⟨fun r h => by cases c <;> (injection h), fun m c' e' st' h => by cases c <;> cases h⟩
  | succ n ih =>
    intro sz c e st
    cases c with
    | seq a b =>
      have ia := ih sz a e st
      rw [run_seq]
      cases hs : susX P lib n sz a e st with
      | done r =>
        rw [ia.1 r hs]
        cases r with
        | no w l => exact ⟨fun r h => by rw [susX, hs] at h; injection h, fun m c' e' st' h => by rw [susX, hs] at h; cases h⟩
        | ok v st1 =>
          obtain ⟨ex, e1⟩ := v
          have ib := ih sz b e1 st1
          cases ex with
          | nor =>
            refine ⟨fun r h => ?_, fun m c' e' st' h => ?_⟩
            · rw [susX, hs] at h
              exact ib.1 r h
            · rw [susX, hs] at h
              rw [finX, hs]
              exact ib.2 m c' e' st' h
          | ret => exact ⟨fun r h => by rw [susX, hs] at h; injection h, fun m c' e' st' h => by rw [susX, hs] at h; cases h⟩
          | out id => exact ⟨fun r h => by rw [susX, hs] at h; injection h, fun m c' e' st' h => by rw [susX, hs] at h; cases h⟩
      | here m c' e' st' =>
        refine ⟨fun r h => (by rw [susX, hs] at h; cases h), fun m2 c2 e2 st2 h => ?_⟩
        rw [susX, hs] at h
        injection h with h1 h2 h3 h4
        subst h1; subst h2; subst h3; subst h4
        rw [finX, hs, ia.2 _ _ _ _ hs]
    | block id c =>
      have ic := ih sz c e st
      cases hs : susX P lib n sz c e st with
      | done r => exact ⟨fun r h => by rw [susX, hs] at h; injection h, fun m c' e' st' h => by rw [susX, hs] at h; cases h⟩
      | here m c' e' st' =>
        refine ⟨fun r h => (by rw [susX, hs] at h; cases h), fun m2 c2 e2 st2 h => ?_⟩
        rw [susX, hs] at h
        injection h with h1 h2 h3 h4
        subst h1; subst h2; subst h3; subst h4
        rw [run_block, finX, ic.2 _ _ _ _ hs]
    | loop c => exact ⟨fun r h => (by cases h), fun m c' e' st' h => by injection h with h1 h2 h3 h4; subst h1; subst h2; subst h3; subst h4; rfl⟩
    | _ => exact ⟨fun r h => (by injection h), fun m c' e' st' h => by cases h⟩
/-- Where a run stands at its first loop, reckoned out. -/
def susF (fR : R → (R → Option (Nat × Env × St R)) → Option (Nat × Env × St R)) (x : Sus R) : Option (Nat × Env × St R) := match x with
  | .here n _ e st => fNat n fun n => fEnv e fun e => fSt fR st fun st => some (n, e, st)
  | .done _ => none
def endF (fR : R → (R → Option (Ex × Env × St R)) → Option (Ex × Env × St R)) (x : Res R (Ex × Env)) : Option (Ex × Env × St R) := match x with
  | .ok (.out i, e) st => fEnv e fun e => fSt fR st fun st => some (.out i, e, st)
  | _ => none
theorem endF_eq {fR : R → (R → Option (Ex × Env × St R)) → Option (Ex × Env × St R)} (hR : ∀ r k, fR r k = k r) {x : Res R (Ex × Env)} {ex : Ex} {e : Env} {st : St R} (h : endF fR x = some (ex, e, st)) : x = .ok (ex, e) st := by
  cases x with
  | no w l => cases h
  | ok a s =>
    obtain ⟨x1, e2⟩ := a
    cases x1 with
    | nor => cases h
    | ret => cases h
    | out id =>
      simp only [endF, fEnv_eq, fSt_eq hR] at h
      injection h with h; injection h with h1 h2; injection h2 with h2 h3; subst h1; subst h2; subst h3; rfl
def firstLoop : Code → Code
  | .seq a b => match firstLoop a with
    | .skip => firstLoop b
    | c => c
  | .block _ c => firstLoop c
  | .loop c => c
  | _ => .skip
def bodyOf (P : Program) (f : FuncId) : Code := match P.funcs[f]? with
  | some fn => match fn.body with
    | some c => c
    | none => .skip
  | none => .skip
def slotsOf (P : Program) (f : FuncId) : Nat := match P.funcs[f]? with
  | some fn => fn.ntmps
  | none => 0
/-- A call by its body's run. -/
theorem call_run {n : Nat} {f : FuncId} {args : List SV} {st : St R} (hp : (lib.prim f args).isNone = true) {v : Res R (Ex × Env)}
    (hr : runX P lib n (slotsOf P f) (bodyOf P f) (args.zipIdx.map fun p => (p.2, p.1)) st = v) : callX P lib n f args st = callF P lib (fun _ _ _ _ => v) f args st := by
  subst hr
  cases h1 : lib.prim f args with
  | some m => rw [h1] at hp; cases hp
  | none =>
    cases h2 : P.funcs[f]? with
    | none => simp only [callX, callF, h1, h2]
    | some fn =>
      cases h3 : fn.body with
      | none => simp only [callX, callF, h1, h2, h3]
      | some c =>
        have e1 : bodyOf P f = c := by simp only [bodyOf, h2, h3]
        have e2 : slotsOf P f = fn.ntmps := by simp only [slotsOf, h2]
        simp only [callX, callF, h1, h2, h3, e1, e2, stNow, M.bind]
        cases hw : Nat.ble args.length fn.ntmps <;> rfl
end Go.Proofs.Ytdjogfofedbohaa
end
section
/- Paths of a body, and a call by its body's rule. Condition: the program follows the looser reading of Go's order. -/
namespace Go.Proofs.Ytdjogfofedbohaa

section
variable {R : Type}
/-- A path: where it comes to, in names anew; and its tests. -/
def pathX (P : Program) (lib : Lib R) (n sz k j : Nat) (pins vars : List Nat) (g : Goer) (fs : List Fr) (s : Sym R) (o : List (Option Bool)) : Option (Goer × List Fr × Sym R × List (Bool × Bool)) := match stepC P lib n sz k j g fs s.e ⟨s.hp, s.nx, [], [], [], o⟩ with
  | .ok r st => match canonX pins vars ⟨r.env, st.hp, st.nx⟩ with
    | some s' => some (r.next.1, r.next.2, s', st.ask)
    | none => none
  | .no _ _ => none
variable {A : RepAt R} {P : Program} {lib : Lib R} {n sz pin k j : Nat} {g g' : Goer} {fs fs' : List Fr} {s s' : Sym R} {Q : Ex → Sym R → Prop}
theorem Tri.path (hm : P.follows .mixedOrders = true) (hl : LibOK A P lib) {vars : List Nat} {o : List (Option Bool)} {asks : List (Bool × Bool)} (h : pathX P lib n sz k j (List.range pin) vars g fs s o = some (g', fs', s', asks)) (ha : AllAsk asks) (hpin : pin ≤ s.nx)
    (ht : Tri A P sz pin g' fs' s' Q) : Tri A P sz pin g fs s Q := by
  unfold pathX at h
  split at h
  · next r st hr =>
    split at h
    · next s1 hs =>
      simp only [Option.some.injEq, Prod.mk.injEq] at h
      obtain ⟨rfl, rfl, rfl, rfl⟩ := h
      exact Tri.run hm hl hr ha.all hpin (Tri.view (canon_view hs) ht)
    · cases h
  · cases h

/-- The loops of a body, each with what stands round it; those within loops are left out. -/
def loopsC : Code → List Fr → List (Code × List Fr)
  | .seq a b, fs => loopsC a (.sq b :: fs) ++ loopsC b fs
  | .block id c, fs => loopsC c (.bk id :: fs)
  | .cond _ a b, fs => loopsC a fs ++ loopsC b fs
  | .loop c, fs => [(c, fs)]
  | _, _ => []
def lpAt (l : List (Code × List Fr)) (i : Nat) : Code × List Fr := match l[i]? with
  | some x => x
  | none => (.skip, [])
def loopOf (P : Program) (f : FuncId) (i : Nat) : Code × List Fr := lpAt (loopsC (bodyOf P f) []) i
def loopIn (p : Code × List Fr) (i : Nat) : Code × List Fr := lpAt (loopsC p.1 []) i

/-- What a body's end hands back. -/
def Ends (P : Program) (fn : Func) (T : List SV → Sym R → Prop) (x : Ex) (s : Sym R) : Prop := (x = .ret ∨ x = .nor) ∧ ∃ l st, resX P s.e fn.results.toList (⟨s.hp, s.nx, [], [], [], []⟩ : St R) = .ok l st ∧ T l s
theorem Ends.one {P : Program} {fn : Func} {x : Ex} {s : Sym R} {t : Nat} {v : SV} (hr : fn.results.toList = [.tmp t]) (hx : x = .ret ∨ x = .nor) (he : elook t s.e = some v) : Ends P fn (fun l _ => l = [v]) x s := by
  refine ⟨hx, [v], ⟨s.hp, s.nx, [], [], [], []⟩, ?_, rfl⟩
  rw [hr]
  simp only [resX, M.bind, M.opt, he, M.ret]
def argsE (args : List SV) : Env := args.zipIdx.map fun p => (p.2, p.1)
theorem argsE_den {ρ : Names} {args : List SV} {vals : List Value} (h : denL ρ args = some vals) (m : Nat) : EnvR ρ (argsE args) { tmps := vals.toArray ++ Array.replicate m undef, defers := [] } := fun t s hs => by
  obtain ⟨_, h9⟩ := elook_zip hs
  rw [Nat.sub_zero] at h9
  obtain ⟨x, g1, g2⟩ := denL_get h h9
  refine ⟨x, ?_, g1⟩
  rw [Array.getElem?_append_left (by rw [List.size_toArray]; exact lt_of_some g2), List.getElem?_toArray]
  exact g2

theorem Tri.calls {f : FuncId} {fn : Func} {c : Code} (hf : P.funcs[f]? = some fn) (hb : fn.body = some c) {args : List SV} {hp : List (Nat × Chunk R)} {nx : Nat} {T : List SV → Sym R → Prop} (hle : args.length ≤ fn.ntmps)
    (h : Tri A P fn.ntmps pin (.go c) [] ⟨argsE args, hp, nx⟩ (Ends P fn T)) {B : Nat} {ρ : Names} {own : Nat → List Nat} {w : World} (hs : Stand A P B ⟨argsE args, hp, nx⟩ ρ own w) {vals : List Value} (hv : denL ρ args = some vals) :
    Calls P f vals.toArray w fun e w' => ∃ y l s' ρ' own', e = .returned y ∧ den ρ' (oneOf l) = some y ∧ T l s' ∧ Stand A P B s' ρ' own' w' ∧ Way hp own w s'.hp own' w' ∧ ∀ n, n < pin → ρ' n = ρ n := by
  have hlen := denL_length hv
  refine calls_of_wp hf hb ?_
  refine h B ρ own w _ hs (argsE_den hv _) (by simp; omega) _ (fun x s' ρ' own' w' a' ⟨hx, l, st, hres, ht⟩ hs' he hz hd hw hpp => ?_)
  obtain ⟨q, hr⟩ := res_s (A := A) (sz := fn.ntmps) hres
  obtain ⟨vs, g1, g2⟩ := hr B (fun _ => True) ρ' own' w' a' hs'.li (fun _ _ => trivial) he hz
  have hr : (results fn a'.tmps).run P w' = .ok (if h : vs.length = 1 then vs[0] else .tuple vs.toArray) w' := by
    have e : results fn a'.tmps = (do
        let vs ← fn.results.mapM (resOp a'.tmps)
        pure (if h : vs.size = 1 then vs[0] else .tuple vs)) := rfl
    rw [e, Array.mapM_eq_mapM_toList]
    simp only [Sem.run_bind, Sem.run_map, g2, Result.andThen_ok, Sem.run_pure]
    congr 1
  have hone : den ρ' (oneOf l) = some (if h : vs.length = 1 then vs[0] else .tuple vs.toArray) := by
    have hl := denL_length g1
    cases l with
    | nil =>
      simp only [denL, Option.some.injEq] at g1
      subst g1
      rfl
    | cons x l =>
      obtain ⟨y, ys, g3, g4, rfl⟩ := denL_cons.1 g1
      cases l with
      | nil =>
        simp only [denL, Option.some.injEq] at g4
        subst g4
        simpa [oneOf] using g3
      | cons z l =>
        simp only [List.length_cons] at hl
        rw [dif_neg (by simp only [List.length_cons]; omega)]
        simp only [oneOf, den, g1, Option.map_some]
  have hpost : ∃ v, (results fn a'.tmps).run P w' = .ok v w' ∧ ∃ y l s' ρ' own', Ending.returned v = .returned y ∧ den ρ' (oneOf l) = some y ∧ T l s' ∧ Stand A P B s' ρ' own' w' ∧ Way hp own w s'.hp own' w' ∧ ∀ n, n < pin → ρ' n = ρ n := ⟨_, hr, _, l, s', ρ', own', rfl, hone, ht, hs', hw, hpp⟩
  rcases hx with rfl | rfl
  · exact ⟨hd, hpost⟩
  · exact ⟨hd, hpost⟩

/-- A law's call: it answers true, and what was there is as it was. -/
theorem Tri.law {f : FuncId} {fn : Func} {c : Code} (hf : P.funcs[f]? = some fn) (hb : fn.body = some c) {args : List SV} {hp : List (Nat × Chunk R)} {nx : Nat} (hle : Nat.ble args.length fn.ntmps = true)
    (h : Tri A P fn.ntmps 0 (.go c) [] ⟨argsE args, hp, nx⟩ (Ends P fn fun l _ => l = [.v (.bool true)])) {ρ : Names} {own : Nat → List Nat} {w : World} (hs : Stand A P w.heap.size ⟨argsE args, hp, nx⟩ ρ own w) {vals : List Value} (hv : denL ρ args = some vals) :
    Calls P f vals.toArray w fun e w' => e = .returned (.bool true) ∧ Mod [] w w' := by
  refine (Tri.calls hf hb (Nat.le_of_ble_eq_true hle) h hs hv).mono fun e w' ⟨y, l, s', ρ', own', he, hy, hl, _, hw, _⟩ => ?_
  subst hl
  simp only [oneOf, den, Option.some.injEq] at hy
  subst hy
  refine ⟨he, hw.mod.mod fun b hb ⟨n, d, hd, hn⟩ => ?_⟩
  have := (hs.li.low n d trivial hd b hn).1
  omega
end
end Go.Proofs.Ytdjogfofedbohaa
end
