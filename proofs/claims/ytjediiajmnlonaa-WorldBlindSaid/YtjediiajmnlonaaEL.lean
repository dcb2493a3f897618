/- The executor at a call out of nothing: what it answers, the machine answers, and nothing that was there has changed. Condition: the program follows the looser reading of Go's order. -/
import Derived.Test.YtjediiajmnlonaaEK
namespace Go.Proofs.Ytjediiajmnlonaa

section
variable {R : Type} {A : RepAt R} {P : Program}
def St.none (o : List (Option Bool)) : St R := ⟨[], 0, [], [], [], o⟩
def noNames : Names := fun _ => .none
theorem closed_s {call : FuncId → List SV → M R SV} (hc : CallOK A P call) {f : FuncId} {args : List SV} {o : List (Option Bool)} {s : SV} {st : St R} (h : call f args (St.none o) = .ok s st) (hask : ∀ p ∈ st.ask, p.1 = p.2) (w : World) {vals : List Value} (hv : denL noNames args = some vals) :
    Calls P f vals.toArray w fun e w' => ∃ x ρ, e = .returned x ∧ den ρ s = some x ∧ Mod [] w w' := by
  obtain ⟨hf, hs⟩ := hc _ _ _ _ _ h
  have hwf : Wf (St.none o : St R) := ⟨(fun n hn => by cases hn), fun _ _ => rfl⟩
  refine (hs w.heap.size (fun n => n ∈ st.fr) noNames (fun _ => []) w vals ⟨fun n h => h, hwf, fun _ _ => rfl, ⟨(fun n c _ hc => by cases hc), (fun n m c d _ _ _ hc => by cases hc), fun n c _ hc => by cases hc⟩, hask, Nat.le_refl _⟩ hv).mono fun e w' ⟨x, ρ', own', he, hx, ht⟩ => ⟨x, ρ', he, hx, ht.mod.mod fun b _ ⟨m, hm, hn, _⟩ => ?_⟩
  exact absurd ⟨Nat.zero_le _, ((hf.wf hwf).wr m hm).2⟩ hn

def AllAsk : List (Bool × Bool) → Prop
  | [] => True
  | p :: l => p.1 = p.2 ∧ AllAsk l
theorem AllAsk.all : ∀ {l : List (Bool × Bool)}, AllAsk l → ∀ p ∈ l, p.1 = p.2
  | [], _, p, h => by cases h
  | q :: l, ⟨h1, h2⟩, p, h => by
    rcases List.mem_cons.1 h with rfl | h
    · exact h1
    · exact AllAsk.all h2 p h
/-- What came of it, and on what tests. -/
def outcome (r : Res R SV) : Option SV × List (Bool × Bool) := match r with
  | .ok s st => (some s, st.ask)
  | .no e l => (some (.slE e), l)
/-- What is answered, and on what tests. -/
def answer (r : Res R SV) : Option (SV × List (Bool × Bool)) := match r with
  | .ok s st => some (s, st.ask)
  | .no _ _ => .none
theorem answer_of {r : Res R SV} {s : SV} {l : List (Bool × Bool)} (h : answer r = some (s, l)) : ∃ st, r = .ok s st ∧ st.ask = l := by
  unfold answer at h
  split at h
  · simp only [Option.some.injEq, Prod.mk.injEq] at h
    obtain ⟨rfl, rfl⟩ := h
    exact ⟨_, rfl, rfl⟩
  · cases h
theorem closed_ans {call : FuncId → List SV → M R SV} (hc : CallOK A P call) {f : FuncId} {args : List SV} {o : List (Option Bool)} {x : Value} {l : List (Bool × Bool)} (h : answer (call f args (St.none o)) = some (.v x, l)) (hl : ∀ p ∈ l, p.1 = p.2) (w : World) {vals : List Value} (hv : denL noNames args = some vals) :
    Calls P f vals.toArray w fun e w' => e = .returned x ∧ Mod [] w w' := by
  obtain ⟨st, hs, ha⟩ := answer_of h
  refine (closed_s hc hs (fun p hp => hl p (ha ▸ hp)) w hv).mono fun e w' ⟨y, ρ, he, hx, hm⟩ => ?_
  simp only [den, Option.some.injEq] at hx
  subst hx
  exact ⟨he, hm⟩

/-- By some oracle the answer is such a one. -/
def Good (r : List (Option Bool) → Res R SV) (Q : Value → Prop) : Prop := ∃ o l x, answer (r o) = some (.v x, l) ∧ AllAsk l ∧ Q x
theorem good_ans {call : FuncId → List SV → M R SV} (hc : CallOK A P call) {f : FuncId} {args : List SV} {Q : Value → Prop} (h : Good (fun o => call f args (St.none o)) Q) (w : World) {vals : List Value} (hv : denL noNames args = some vals) :
    Calls P f vals.toArray w fun e w' => ∃ x, Q x ∧ e = .returned x ∧ Mod [] w w' := by
  obtain ⟨o, l, x, h1, h2, h3⟩ := h
  exact (closed_ans hc h1 h2.all w hv).mono fun e w' ⟨he, hm⟩ => ⟨x, h3, he, hm⟩
/-- The answer true, without a test that was not decided. -/
def okTrue (r : Res R SV) : Bool := match r with
  | .ok (.v (.bool true)) ⟨_, _, _, _, [], _⟩ => true
  | _ => false
theorem okTrue_of {r : Res R SV} (h : okTrue r = true) : ∃ st, r = .ok (.v (.bool true)) st ∧ st.ask = [] := by
  unfold okTrue at h
  split at h
  · exact ⟨_, rfl, rfl⟩
  · cases h
theorem closed_true' {call : FuncId → List SV → M R SV} (hc : CallOK A P call) {f : FuncId} {args : List SV} (h : okTrue (call f args (St.none [])) = true) (w : World) {vals : List Value} (hv : denL noNames args = some vals) : Calls P f vals.toArray w fun e w' => e = .returned (.bool true) ∧ Mod [] w w' := by
  obtain ⟨st, hs, ha⟩ := okTrue_of h
  refine (closed_s hc hs (fun p hp => by rw [ha] at hp; cases hp) w hv).mono fun e w' ⟨x, ρ, he, hx, hm⟩ => ?_
  simp only [den, Option.some.injEq] at hx
  subst hx
  exact ⟨he, hm⟩
theorem closed_true {call : FuncId → List SV → M R SV} (hc : CallOK A P call) {f : FuncId} (h : okTrue (call f [] (St.none [])) = true) (w : World) : Calls P f #[] w fun e w' => e = .returned (.bool true) ∧ Mod [] w w' := by
  obtain ⟨st, hs, ha⟩ := okTrue_of h
  refine (closed_s hc hs (fun p hp => by rw [ha] at hp; cases hp) w (vals := []) rfl).mono fun e w' ⟨x, ρ, he, hx, hm⟩ => ?_
  simp only [den, Option.some.injEq] at hx
  subst hx
  exact ⟨he, hm⟩
end
end Go.Proofs.Ytjediiajmnlonaa
