/- A region whose order is open. No condition. -/
import Derived.Test.YtjediiajmnlonaaEG
namespace Go.Proofs.Ytjediiajmnlonaa

section
variable {R : Type} {A : RepAt R} {P : Program}
/-- One operation of the walk. -/
structure Link (P : Program) (call : Hk R) (ops : Array Oper) (sz k : Nat) (o : Oper) (s t s' : St R) (e e' : Env) (v : SV) (L : Log) : Prop where
  dst : ∀ d, o.dst = some d → d < sz
  edge : ∀ ed ∈ o.after, Region.binds .any ed = true → ed.on < k
  run : oneX P call ops o (evR (o.looksAt ops) e) s.bare = .ok v t
  st : s' = t.join s
  env : e' = putX o.dst v e
  log : L = logOf s t ops o

theorem drawX_chain {call : Hk R} {ops : Array Oper} {sz : Nat} : ∀ {l : List Oper} {ls ls' : List Log} {e e' : Env} {st st' : St R}, drawX P call ops sz l ls e st = .ok (e', ls') st' →
    ∃ (E : Nat → Env) (S T : Nat → St R) (V : Nat → SV) (L : Nat → Log), E 0 = e ∧ S 0 = st ∧ E l.length = e' ∧ S l.length = st' ∧ ls' = (List.range l.length).reverse.map L ++ ls ∧
      ∀ i o, l[i]? = some o → Link P call ops sz (ls.length + i) o (S i) (T i) (S (i + 1)) (E i) (E (i + 1)) (V i) (L i)
  | [], ls, ls', e, e', st, st', h => by
    simp only [drawX] at h
    obtain ⟨h1, rfl⟩ := ret_ok.1 h
    injection h1 with h1 h2
    subst h1
    subst h2
    exact ⟨fun _ => e, fun _ => st, fun _ => st, fun _ => undefX, fun _ => ⟨[], [], 0, 0, [], none⟩, rfl, rfl, rfl, rfl, by simp, fun i o ho => by simp at ho⟩
  | o :: l, ls, ls', e, e', st, st', h => by
    simp only [drawX] at h
    obtain ⟨_, _, h1, h2⟩ := bind_ok.1 h
    obtain ⟨hw, rfl⟩ := want_ok.1 h1
    simp only [Bool.and_eq_true] at hw
    obtain ⟨hw1, hw2⟩ := hw
    cases hr : oneX P call ops o (evR (o.looksAt ops) e) st.bare with
    | no w l => rw [hr] at h2; cases h2
    | ok s t =>
      rw [hr] at h2
      simp only at h2
      obtain ⟨E, S, T, V, L, g1, g2, g3, g4, g5, g6⟩ := drawX_chain h2
      refine ⟨fun i => match i with | 0 => e | i + 1 => E i, fun i => match i with | 0 => st | i + 1 => S i, fun i => match i with | 0 => t | i + 1 => T i, fun i => match i with | 0 => s | i + 1 => V i,
        fun i => match i with | 0 => logOf st t ops o | i + 1 => L i, rfl, rfl, g3, g4, ?_, ?_⟩
      · rw [g5, List.length_cons, List.range_succ_eq_map, List.reverse_cons, List.map_append, ← List.map_reverse, List.map_map]
        simp only [List.map_cons, List.map_nil, List.append_assoc, List.singleton_append]
        congr 1
      · intro i o' ho'
        cases i with
        | zero =>
          simp only [List.getElem?_cons_zero, Option.some.injEq] at ho'
          subst ho'
          refine ⟨fun d hd => ?_, fun ed hed hb => ?_, hr, g2, g1, rfl⟩
          · rw [hd] at hw1
            simpa [Nat.blt_eq] using hw1
          · have := Array.all_eq_true_iff_forall_mem.1 hw2 ed hed
            rw [hb] at this
            simpa [Nat.blt_eq] using this
        | succ i =>
          have := g6 i o' (by simpa using ho')
          rw [List.length_cons, show ls.length + 1 + i = ls.length + (i + 1) by omega] at this
          exact this

theorem bare_wf {s : St R} (h : Wf s) : Wf s.bare := ⟨(fun n hn => by cases hn), h.top⟩
theorem Link.fn {call : Hk R} (hcall : HkOK A P call) {ops : Array Oper} {sz k : Nat} {o : Oper} {s t s' : St R} {e e' : Env} {v : SV} {L : Log} (h : Link P call ops sz k o s t s' e e' v L) : Fn s.bare t ∧ Fn s s' := by
  have hf := (one_s hcall h.run).1
  refine ⟨hf, ?_⟩
  rw [h.st]
  refine ⟨hf.nx, fun n hn => mem_uni.2 (.inr hn), fun n hn => mem_uni.2 (.inr hn), hf.ask, fun n hn hl => hf.hp n (fun hw => hn (mem_uni.2 (.inl hw))) hl, fun hw => ?_, fun n hn => ?_⟩
  · have hw' := hf.wf (bare_wf hw)
    refine ⟨fun n hn => ?_, hw'.top⟩
    rcases mem_uni.1 hn with h1 | h1
    · exact ⟨mem_uni.2 (.inl (hw'.wr n h1).1), (hw'.wr n h1).2⟩
    · exact ⟨mem_uni.2 (.inr (hw.wr n h1).1), Nat.lt_of_lt_of_le (hw.wr n h1).2 hf.nx⟩
  · rcases mem_uni.1 hn with h1 | h1
    · rcases hf.al n h1 with h2 | h2
      · cases h2
      · exact .inr h2
    · exact .inl h1

/-- A memory, said by name. -/
def mkL (N : Nat) (g : Nat → Option (Chunk R)) : List (Nat × Chunk R) := (List.range N).filterMap fun n => (g n).map fun c => (n, c)
theorem hget_mkL {g : Nat → Option (Chunk R)} {m : Nat} : ∀ {N : Nat}, hget m (mkL N g) = if m < N then g m else none
  | 0 => by simp [mkL, hget]
  | N + 1 => by
    have happ : ∀ (l r : List (Nat × Chunk R)), hget m (l ++ r) = match hget m l with | some c => some c | none => hget m r := by
      intro l r
      induction l with
      | nil => rfl
      | cons p l ih =>
        obtain ⟨k, c⟩ := p
        rw [List.cons_append, hget_cons, hget_cons]
        by_cases h : m = k <;> simp [h, ih]
    have e : mkL (N + 1) g = mkL N g ++ ((g N).map fun c => (N, c)).toList := by
      unfold mkL
      rw [List.range_succ, List.filterMap_append]
      cases h : g N <;> simp [h]
    rw [e, happ, hget_mkL]
    by_cases h1 : m < N
    · rw [if_pos h1, if_pos (by omega)]
      cases hg : g m with
      | some c => rfl
      | none =>
        simp only
        cases h : g N with
        | none => rfl
        | some c => simp [hget_cons, hget, show ¬ m = N by omega]
    · rw [if_neg h1]
      simp only
      by_cases h2 : m = N
      · subst h2
        rw [if_pos (by omega)]
        cases g m <;> simp [hget]
      · rw [if_neg (by omega)]
        cases g N with
        | none => rfl
        | some c => simp [hget_cons, hget, h2]
end
end Go.Proofs.Ytjediiajmnlonaa
