/- The executor run up to a loop of the function at hand, and rules for what goes on from there. Condition: the program follows the looser reading of Go's order. -/
import Derived.Test.YtjediiajmnlonaaEM
namespace Go.Proofs.Ytjediiajmnlonaa

inductive Fr where
  | sq (c : Code)
  | bk (id : Nat)
inductive Goer where
  | go (c : Code)
  | out (x : Ex)
inductive Stop where
  | fin (x : Ex) (e : Env)
  | here (c : Code) (fs : List Fr) (e : Env)
def Stop.env : Stop → Env
  | .fin _ e => e
  | .here _ _ e => e

section
variable {R : Type} (P : Program)
def wpF : List Fr → (Exit → Act → World → Prop) → Exit → Act → World → Prop
  | [], Q => Q
  | .sq b :: fs, Q => Exit.then (fun a w => b.wp P (wpF fs Q) a w) (wpF fs Q)
  | .bk id :: fs, Q => Exit.inBlock id (wpF fs Q)
def goWp (g : Goer) (fs : List Fr) (Q : Exit → Act → World → Prop) (a : Act) (w : World) : Prop := match g with
  | .go c => c.wp P (wpF P fs Q) a w
  | .out x => wpF P fs Q x.exit a w
def stopWp (r : Stop) (Q : Exit → Act → World → Prop) (a : Act) (w : World) : Prop := match r with
  | .fin x _ => Q x.exit a w
  | .here c fs _ => (Code.loop c).wp P (wpF P fs Q) a w

/-- The run of a body up to its first loop behind j loops that are run through. -/
def stepC (lib : Lib R) (n sz : Nat) : Nat → Nat → Goer → List Fr → Env → M R Stop
  | 0, _, _, _, _ => .fail 190
  | k + 1, j, .go c, fs, e => match c with
    | .seq a b => stepC lib n sz k j (.go a) (.sq b :: fs) e
    | .block id c => stepC lib n sz k j (.go c) (.bk id :: fs) e
    | .cond x a b => (M.opt 191 (evX e x)).bind fun
      | .v (.bool t) => (askB t).bind fun
        | true => stepC lib n sz k j (.go a) fs e
        | false => stepC lib n sz k j (.go b) fs e
      | _ => .fail 192
    | .loop c => match j with
      | 0 => .ret (.here c fs e)
      | j' + 1 => (runX P lib n sz (.loop c) e).bind fun r => stepC lib n sz k j' (.out r.1) fs r.2
    | c => (runX P lib n sz c e).bind fun r => stepC lib n sz k j (.out r.1) fs r.2
  | k + 1, j, .out x, fs, e => match fs with
    | [] => .ret (.fin x e)
    | .sq b :: fs => match x with
      | .nor => stepC lib n sz k j (.go b) fs e
      | x => stepC lib n sz k j (.out x) fs e
    | .bk id :: fs => match x with
      | .out i => match Nat.beq i id with
        | true => stepC lib n sz k j (.out .nor) fs e
        | false => stepC lib n sz k j (.out (.out i)) fs e
      | x => stepC lib n sz k j (.out x) fs e
variable {P} {A : RepAt R} {lib : Lib R} {n sz : Nat} {st st1 st' : St R}

def StepS (A : RepAt R) (P : Program) (sz : Nat) (g : Goer) (fs : List Fr) (e : Env) (st st' : St R) (r : Stop) : Prop := Fn st st' ∧ ∀ B F ρ own w a, Sit A P B F st st' ρ own w → EnvR ρ e a → a.tmps.size = sz →
  ∀ (Q : Exit → Act → World → Prop), (∀ a' ρ' own' w', Tr A P B F st st' ρ own w ρ' own' w' → EnvR ρ' r.env a' → a'.tmps.size = sz → a'.defers = a.defers → stopWp P r Q a' w') → goWp P g fs Q a w

theorem StepS.run {c : Code} {fs : List Fr} {e e1 : Env} {x : Ex} {r : Stop} (h1 : CodeS A P sz (fun Q a w => c.wp P Q a w) e st st1 (x, e1)) (h2 : StepS A P sz (.out x) fs e1 st1 st' r) : StepS A P sz (.go c) fs e st st' r := by
  refine ⟨h1.1.trans h2.1, fun B F ρ own w a si he hz Q hk => ?_⟩
  refine h1.2 B F ρ own w a (si.head h1.1 h2.1) he hz _ (fun a1 ρ1 own1 w1 t1 he1 hz1 hd1 => ?_)
  exact h2.2 B _ ρ1 own1 w1 a1 (si.next h1.1 h2.1 t1) he1 hz1 Q (fun a' ρ' own' w' t2 he2 hz2 hd2 => hk a' ρ' own' w' (t1.trans t2 h1.1 h2.1 (h1.1.wf si.wf)) he2 hz2 (hd2.trans hd1))

theorem step_s (hm : P.follows .mixedOrders = true) (hp : LibOK A P lib) : ∀ {k j : Nat} {g : Goer} {fs : List Fr} {e : Env} {st st' : St R} {r : Stop}, stepC P lib n sz k j g fs e st = .ok r st' → StepS A P sz g fs e st st' r
  | 0, _, _, _, _, _, _, _, h => (fail_ok.1 h).elim
  | k + 1, j, .go c, fs, e, st, st', r, h => by
    have hr := (run_s hm hp n).1
    have plain : ∀ {c : Code} {j' : Nat}, (runX P lib n sz c e).bind (fun r => stepC P lib n sz k j' (.out r.1) fs r.2) st = .ok r st' → StepS A P sz (.go c) fs e st st' r := by
      intro c j' h
      obtain ⟨⟨x, e1⟩, st1, h1, h2⟩ := bind_ok.1 h
      exact StepS.run (hr _ _ _ _ _ _ h1) (step_s hm hp h2)
    unfold stepC at h
    split at h
    · next a b =>
      obtain ⟨hf, hs⟩ := step_s hm hp h
      exact ⟨hf, fun B F ρ own w a si he hz Q hk => wp_seq (hs B F ρ own w a si he hz Q hk)⟩
    · next id c =>
      obtain ⟨hf, hs⟩ := step_s hm hp h
      exact ⟨hf, fun B F ρ own w a si he hz Q hk => wp_block (hs B F ρ own w a si he hz Q hk)⟩
    · next x a b =>
      obtain ⟨s, _, h1, h2⟩ := bind_ok.1 h
      obtain ⟨hs, rfl⟩ := opt_ok.1 h1
      split at h2
      · next t =>
        obtain ⟨o, st1, h3, h4⟩ := bind_ok.1 h2
        obtain ⟨q, hq⟩ := ask_ok h3
        have key : ∀ {z : Code}, stepC P lib n sz k j (.go z) fs e st1 = .ok r st' → ((∀ p ∈ st'.ask, p.1 = p.2) → (if t = true then a else b) = z) → StepS A P sz (.go (.cond x a b)) fs e st st' r := by
          intro z hz hsel
          have g := step_s hm hp hz
          refine ⟨q.fn.trans g.1, fun B F ρ own w a' si he hsz Q hk => ?_⟩
          have ev := he.ev _ _ hs
          simp only [den, Option.some.injEq] at ev
          refine wp_cond ev.symm ?_
          rw [hsel si.ask]
          exact g.2 B F ρ own w a' (si.of_quiet q) he hsz Q (fun a' ρ' own' w' t' => hk a' ρ' own' w' (Tr.of_quiet q t'))
        cases o with
        | true =>
          refine key h4 (fun ha => ?_)
          rw [hq (fun p hx => ha p ((step_s hm hp h4).1.ask p hx)), if_pos rfl]
        | false =>
          refine key h4 (fun ha => ?_)
          rw [hq (fun p hx => ha p ((step_s hm hp h4).1.ask p hx))]
          rfl
      · exact (fail_ok.1 h2).elim
    · next c =>
      cases j with
      | zero =>
        obtain ⟨rfl, rfl⟩ := ret_ok.1 h
        exact ⟨Fn.refl _, fun B F ρ own w a si he hz Q hk => hk a ρ own w (si.quiet (Quiet.refl _)) he hz rfl⟩
      | succ j => exact plain h
    · exact plain h
  | k + 1, j, .out x, fs, e, st, st', r, h => by
    unfold stepC at h
    split at h
    · obtain ⟨rfl, rfl⟩ := ret_ok.1 h
      exact ⟨Fn.refl _, fun B F ρ own w a si he hz Q hk => hk a ρ own w (si.quiet (Quiet.refl _)) he hz rfl⟩
    · next b fs =>
      split at h
      · obtain ⟨hf, hs⟩ := step_s hm hp h
        exact ⟨hf, fun B F ρ own w a si he hz Q hk => hs B F ρ own w a si he hz Q hk⟩
      · next hx =>
        obtain ⟨hf, hs⟩ := step_s hm hp h
        refine ⟨hf, fun B F ρ own w a si he hz Q hk => ?_⟩
        have := hs B F ρ own w a si he hz Q hk
        cases x with
        | nor => exact absurd rfl hx
        | ret => exact this
        | out i => exact this
    · next id fs =>
      cases x with
      | out i =>
        simp only at h
        cases hb : Nat.beq i id with
        | true =>
          rw [hb] at h
          have hid := Nat.eq_of_beq_eq_true hb
          subst hid
          obtain ⟨hf, hs⟩ := step_s hm hp h
          refine ⟨hf, fun B F ρ own w a si he hz Q hk => ?_⟩
          have := hs B F ρ own w a si he hz Q hk
          simpa [goWp, wpF, Exit.inBlock, Ex.exit] using this
        | false =>
          rw [hb] at h
          have hid := Nat.ne_of_beq_eq_false hb
          obtain ⟨hf, hs⟩ := step_s hm hp h
          refine ⟨hf, fun B F ρ own w a si he hz Q hk => ?_⟩
          have := hs B F ρ own w a si he hz Q hk
          simpa [goWp, wpF, Exit.inBlock, Ex.exit, hid] using this
      | nor =>
        obtain ⟨hf, hs⟩ := step_s hm hp h
        exact ⟨hf, fun B F ρ own w a si he hz Q hk => hs B F ρ own w a si he hz Q hk⟩
      | ret =>
        obtain ⟨hf, hs⟩ := step_s hm hp h
        exact ⟨hf, fun B F ρ own w a si he hz Q hk => hs B F ρ own w a si he hz Q hk⟩
end
end Go.Proofs.Ytjediiajmnlonaa
