/- Calls that are known by themselves and leave what is there alone. No condition. -/
import Derived.Test.YtjediiajmnlonaaEL
namespace Go.Proofs.Ytjediiajmnlonaa

section
variable {R : Type} {A : RepAt R} {P : Program}
theorem Tr.idle {B : Nat} {F : Nat → Prop} {st : St R} {ρ : Names} {own : Nat → List Nat} {w w' : World} (si : Sit A P B F st st ρ own w) (hm : Mod [] w w') : Tr A P B F st st ρ own w ρ own w' := by
  have hmP : ModP (fun _ => False) w w' := (ModP.of_mod hm).mono (fun _ _ h => by cases h)
  have hn : ∀ n, ¬ newN st st n := fun n h => by unfold newN at h; omega
  refine ⟨Names.le.refl _, fun _ _ => rfl, fun _ _ _ => rfl, fun n h b hb => .inr ⟨n, h.resolve_left (hn n), hn n, hb⟩, ?_, hmP.mono (fun _ _ h => h.elim)⟩
  refine (LI.step (X := fun _ => False) si.li hmP (Names.le.refl _) (fun _ h => h.elim) (fun n c h _ hc => ⟨h.resolve_right (hn n), hc, rfl⟩) (fun _ _ _ h => h.elim) (fun _ _ _ h => h.elim) (fun _ _ _ _ _ _ h => h.elim))

/-- A table of calls whose answers are known. -/
abbrev Tab := FuncId → List SV → Option SV
def TabOK (P : Program) (g : Tab) : Prop := ∀ f args s, g f args = some s → ∀ (ρ : Names) vals (w : World), denL ρ args = some vals → Calls P f vals.toArray w fun e w' => ∃ x, e = .returned x ∧ den ρ s = some x ∧ Mod [] w w'
def Lib.with (l : Lib R) (g : Tab) : Lib R := ⟨fun f args => match g f args with
  | some s => some (.ret s)
  | .none => l.prim f args, l.ext, l.tidy⟩
theorem Lib.with_ok {l : Lib R} {g : Tab} (hl : LibOK A P l) (hg : TabOK P g) : LibOK A P (l.with g) := by
  refine ⟨fun f args m hm st s st' h => ?_, hl.ext, hl.tidy⟩
  simp only [Lib.with] at hm
  split at hm
  · next s0 hs =>
    injection hm with hm
    subst hm
    obtain ⟨rfl, rfl⟩ := ret_ok.1 h
    exact ⟨Fn.refl _, fun B F ρ own w vals si hv => (hg _ _ _ hs ρ vals w hv).mono fun e w' ⟨x, h1, h2, h3⟩ => ⟨x, ρ, own, h1, h2, Tr.idle si h3⟩⟩
  · exact hl.prim f args m hm st s st' h
/-- One call's answer. -/
def Tab.one (f : FuncId) (k : List SV → Option SV) : Tab := fun g args => match Nat.beq g f with
  | true => k args
  | false => .none
def Tab.or (a b : Tab) : Tab := fun f args => match a f args with
  | some s => some s
  | .none => b f args
theorem TabOK.or {a b : Tab} (ha : TabOK P a) (hb : TabOK P b) : TabOK P (a.or b) := fun f args s h => by
  simp only [Tab.or] at h
  split at h
  · next s0 hs =>
    injection h with h
    subst h
    exact ha f args _ hs
  · exact hb f args s h
theorem TabOK.one {f : FuncId} {k : List SV → Option SV} (h : ∀ args s, k args = some s → ∀ (ρ : Names) vals (w : World), denL ρ args = some vals → Calls P f vals.toArray w fun e w' => ∃ x, e = .returned x ∧ den ρ s = some x ∧ Mod [] w w') : TabOK P (Tab.one f k) := fun g args s hs => by
  simp only [Tab.one] at hs
  split at hs
  · next hb =>
    obtain rfl := Nat.eq_of_beq_eq_true hb
    exact h args s hs
  · cases hs
/-- A call without arguments that answers true. -/
def kTrue : List SV → Option SV
  | [] => some (.v (.bool true))
  | _ => .none
theorem TabOK.true {f : FuncId} (h : ∀ w, Calls P f #[] w fun e w' => e = .returned (.bool true) ∧ Mod [] w w') : TabOK P (Tab.one f kTrue) := TabOK.one fun args s hs ρ vals w hv => by
  unfold kTrue at hs
  split at hs <;> cases hs
  simp only [denL, Option.some.injEq] at hv
  subst hv
  exact (h w).mono fun e w' ⟨he, hm⟩ => ⟨_, he, rfl, hm⟩
/-- Two ints in, a value out. -/
def kI2 (g : Int → Int → Value) : List SV → Option SV
  | [.v (.int .i64 a), .v (.int .i64 b)] => some (.v (g a b))
  | _ => .none
theorem TabOK.i2 {f : FuncId} {g : Int → Int → Value} (h : ∀ a b w, Calls P f #[.int .i64 a, .int .i64 b] w fun e w' => e = .returned (g a b) ∧ Mod [] w w') : TabOK P (Tab.one f (kI2 g)) := TabOK.one fun args s hs ρ vals w hv => by
  unfold kI2 at hs
  split at hs <;> cases hs
  simp only [denL, den, Option.some.injEq] at hv
  subst hv
  exact (h _ _ w).mono fun e w' ⟨he, hm⟩ => ⟨_, he, rfl, hm⟩
/-- A word in, a value out. -/
def kU1 (g : Int → Value) : List SV → Option SV
  | [.v (.int .u64 a)] => some (.v (g a))
  | _ => .none
theorem TabOK.u1 {f : FuncId} {g : Int → Value} (h : ∀ a w, Calls P f #[.int .u64 a] w fun e w' => e = .returned (g a) ∧ Mod [] w w') : TabOK P (Tab.one f (kU1 g)) := TabOK.one fun args s hs ρ vals w hv => by
  unfold kU1 at hs
  split at hs <;> cases hs
  simp only [denL, den, Option.some.injEq] at hv
  subst hv
  exact (h _ w).mono fun e w' ⟨he, hm⟩ => ⟨_, he, rfl, hm⟩
end
end Go.Proofs.Ytjediiajmnlonaa
