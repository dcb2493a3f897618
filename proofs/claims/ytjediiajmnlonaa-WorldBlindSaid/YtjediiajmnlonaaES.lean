/- A long run cut into pieces at a loop's rounds: each piece its own theorem. No condition. -/
import Derived.Test.YtjediiajmnlonaaEL
namespace Go.Proofs.Ytjediiajmnlonaa
variable {R : Type} {P : Program} {lib : Lib R}

def fEnv {β : Type} : Env → (Env → β) → β
  | [], k => k []
  | (t, s) :: r, k => fNat t fun t => fTop s fun s => fEnv r fun r => k ((t, s) :: r)
theorem fEnv_eq {β : Type} (e : Env) (k : Env → β) : fEnv e k = k e := by
  induction e generalizing k with
  | nil => rfl
  | cons p e ih => obtain ⟨t, s⟩ := p; simp [fEnv, fNat_eq, fTop_eq, ih]
/-- One round of a loop: what the next begins with, reckoned out. -/
def roundX (fR : R → (R → Option (Env × St R)) → Option (Env × St R)) (P : Program) (lib : Lib R) (n sz : Nat) (c : Code) (e : Env) (st : St R) : Option (Env × St R) := match runX P lib n sz c e st with
  | .ok (.nor, e1) st1 => fEnv (pruneE (maskE e) e1) fun e2 => fSt fR st1 fun st2 => some (e2, st2)
  | _ => none
theorem loop_round {fR : R → (R → Option (Env × St R)) → Option (Env × St R)} (hR : ∀ r k, fR r k = k r) {n sz : Nat} {c : Code} {e e1 : Env} {st st1 : St R} (h : roundX fR P lib n sz c e st = some (e1, st1)) : runX P lib (n + 1) sz (.loop c) e st = runX P lib n sz (.loop c) e1 st1 := by
  unfold roundX at h
  simp only [runX, codeF, M.bind]
  cases hr : runX P lib n sz c e st with
  | no w l => rw [hr] at h; cases h
  | ok a s =>
    obtain ⟨ex, e2⟩ := a
    rw [hr] at h
    cases ex with
    | nor =>
      simp only [fEnv_eq, fSt_eq hR] at h
      injection h with h; injection h with h1 h2; subst h1; subst h2; rfl
    | ret => cases h
    | out id => cases h

/-- A run up to its first loop. -/
inductive Sus (R : Type) where
  | done (r : Res R (Ex × Env))
  | here (n : Nat) (c : Code) (e : Env) (st : St R)
def susX (P : Program) (lib : Lib R) : Nat → Nat → Code → Env → St R → Sus R
  | n + 1, sz, .seq a b, e, st => match susX P lib n sz a e st with
    | .done (.ok (.nor, e1) st1) => susX P lib n sz b e1 st1
    | x => x
  | n + 1, sz, .block id c, e, st => match susX P lib n sz c e st with
    | .here m c' e' st' => .here m c' e' st'
    | .done _ => .done (runX P lib (n + 1) sz (.block id c) e st)
  | n + 1, _, .loop c, e, st => .here n c e st
  | n, sz, c, e, st => .done (runX P lib n sz c e st)
/-- The same, with the first loop's outcome given. -/
def finX (P : Program) (lib : Lib R) (v : Res R (Ex × Env)) : Nat → Nat → Code → Env → St R → Res R (Ex × Env)
  | n + 1, sz, .seq a b, e, st => match susX P lib n sz a e st with
    | .done (.ok (.nor, e1) st1) => finX P lib v n sz b e1 st1
    | .done r => r
    | .here _ _ _ _ => match finX P lib v n sz a e st with
      | .ok (.nor, e1) st1 => runX P lib n sz b e1 st1
      | r => r
  | n + 1, sz, .block id c, e, st => match finX P lib v n sz c e st with
    | .ok (.out id', e1) st1 => match Nat.beq id' id with
      | true => .ok (.nor, e1) st1
      | false => .ok (.out id', e1) st1
    | r => r
  | _ + 1, _, .loop _, _, _ => v
  | n, sz, c, e, st => runX P lib n sz c e st

theorem run_seq (n sz : Nat) (a b : Code) (e : Env) (st : St R) : runX P lib (n + 1) sz (.seq a b) e st = (match runX P lib n sz a e st with
    | .ok (.nor, e1) st1 => runX P lib n sz b e1 st1
    | r => r) := by
  simp only [runX, codeF, M.bind]
  cases runX P lib n sz a e st with
  | no w l => rfl
  | ok a s => obtain ⟨ex, e2⟩ := a; cases ex <;> rfl
theorem run_block (n sz id : Nat) (c : Code) (e : Env) (st : St R) : runX P lib (n + 1) sz (.block id c) e st = (match runX P lib n sz c e st with
    | .ok (.out id', e1) st1 => (match Nat.beq id' id with
      | true => .ok (.nor, e1) st1
      | false => .ok (.out id', e1) st1)
    | r => r) := by
  simp only [runX, codeF, M.bind]
  cases runX P lib n sz c e st with
  | no w l => rfl
  | ok a s =>
    obtain ⟨ex, e2⟩ := a
    cases ex with
    | nor => rfl
    | ret => rfl
    | out id' => cases hb : Nat.beq id' id <;> simp only [hb] <;> rfl
theorem sus_run : ∀ (n sz : Nat) (c : Code) (e : Env) (st : St R), (∀ r, susX P lib n sz c e st = .done r → runX P lib n sz c e st = r) ∧
    ∀ m c' e' st', susX P lib n sz c e st = .here m c' e' st' → runX P lib n sz c e st = finX P lib (runX P lib (m + 1) sz (.loop c') e' st') n sz c e st := by
  intro n
  induction n with
  | zero => exact fun sz c e st => ⟨fun r h => by cases c <;> (injection h), fun m c' e' st' h => by cases c <;> cases h⟩
  | succ n ih =>
    intro sz c e st
    cases c with
    | seq a b =>
      have ia := ih sz a e st
      rw [run_seq]
      cases hs : susX P lib n sz a e st with
      | done r =>
        rw [ia.1 r hs]
        cases r with
        | no w l => exact ⟨fun r h => by rw [susX, hs] at h; injection h, fun m c' e' st' h => by rw [susX, hs] at h; cases h⟩
        | ok v st1 =>
          obtain ⟨ex, e1⟩ := v
          have ib := ih sz b e1 st1
          cases ex with
          | nor =>
            refine ⟨fun r h => ?_, fun m c' e' st' h => ?_⟩
            · rw [susX, hs] at h
              exact ib.1 r h
            · rw [susX, hs] at h
              rw [finX, hs]
              exact ib.2 m c' e' st' h
          | ret => exact ⟨fun r h => by rw [susX, hs] at h; injection h, fun m c' e' st' h => by rw [susX, hs] at h; cases h⟩
          | out id => exact ⟨fun r h => by rw [susX, hs] at h; injection h, fun m c' e' st' h => by rw [susX, hs] at h; cases h⟩
      | here m c' e' st' =>
        refine ⟨fun r h => (by rw [susX, hs] at h; cases h), fun m2 c2 e2 st2 h => ?_⟩
        rw [susX, hs] at h
        injection h with h1 h2 h3 h4
        subst h1; subst h2; subst h3; subst h4
        rw [finX, hs, ia.2 _ _ _ _ hs]
    | block id c =>
      have ic := ih sz c e st
      cases hs : susX P lib n sz c e st with
      | done r => exact ⟨fun r h => by rw [susX, hs] at h; injection h, fun m c' e' st' h => by rw [susX, hs] at h; cases h⟩
      | here m c' e' st' =>
        refine ⟨fun r h => (by rw [susX, hs] at h; cases h), fun m2 c2 e2 st2 h => ?_⟩
        rw [susX, hs] at h
        injection h with h1 h2 h3 h4
        subst h1; subst h2; subst h3; subst h4
        rw [run_block, finX, ic.2 _ _ _ _ hs]
    | loop c => exact ⟨fun r h => (by cases h), fun m c' e' st' h => by injection h with h1 h2 h3 h4; subst h1; subst h2; subst h3; subst h4; rfl⟩
    | _ => exact ⟨fun r h => (by injection h), fun m c' e' st' h => by cases h⟩
/-- Where a run stands at its first loop, reckoned out. -/
def susF (fR : R → (R → Option (Nat × Env × St R)) → Option (Nat × Env × St R)) (x : Sus R) : Option (Nat × Env × St R) := match x with
  | .here n _ e st => fNat n fun n => fEnv e fun e => fSt fR st fun st => some (n, e, st)
  | .done _ => none
def endF (fR : R → (R → Option (Ex × Env × St R)) → Option (Ex × Env × St R)) (x : Res R (Ex × Env)) : Option (Ex × Env × St R) := match x with
  | .ok (.out i, e) st => fEnv e fun e => fSt fR st fun st => some (.out i, e, st)
  | _ => none
theorem endF_eq {fR : R → (R → Option (Ex × Env × St R)) → Option (Ex × Env × St R)} (hR : ∀ r k, fR r k = k r) {x : Res R (Ex × Env)} {ex : Ex} {e : Env} {st : St R} (h : endF fR x = some (ex, e, st)) : x = .ok (ex, e) st := by
  cases x with
  | no w l => cases h
  | ok a s =>
    obtain ⟨x1, e2⟩ := a
    cases x1 with
    | nor => cases h
    | ret => cases h
    | out id =>
      simp only [endF, fEnv_eq, fSt_eq hR] at h
      injection h with h; injection h with h1 h2; injection h2 with h2 h3; subst h1; subst h2; subst h3; rfl
def firstLoop : Code → Code
  | .seq a b => match firstLoop a with
    | .skip => firstLoop b
    | c => c
  | .block _ c => firstLoop c
  | .loop c => c
  | _ => .skip
def bodyOf (P : Program) (f : FuncId) : Code := match P.funcs[f]? with
  | some fn => match fn.body with
    | some c => c
    | none => .skip
  | none => .skip
def slotsOf (P : Program) (f : FuncId) : Nat := match P.funcs[f]? with
  | some fn => fn.ntmps
  | none => 0
/-- A call by its body's run. -/
theorem call_run {n : Nat} {f : FuncId} {args : List SV} {st : St R} (hp : (lib.prim f args).isNone = true) {v : Res R (Ex × Env)}
    (hr : runX P lib n (slotsOf P f) (bodyOf P f) (args.zipIdx.map fun p => (p.2, p.1)) st = v) : callX P lib n f args st = callF P lib (fun _ _ _ _ => v) f args st := by
  subst hr
  cases h1 : lib.prim f args with
  | some m => rw [h1] at hp; cases hp
  | none =>
    cases h2 : P.funcs[f]? with
    | none => simp only [callX, callF, h1, h2]
    | some fn =>
      cases h3 : fn.body with
      | none => simp only [callX, callF, h1, h2, h3]
      | some c =>
        have e1 : bodyOf P f = c := by simp only [bodyOf, h2, h3]
        have e2 : slotsOf P f = fn.ntmps := by simp only [slotsOf, h2]
        simp only [callX, callF, h1, h2, h3, e1, e2, stNow, M.bind]
        cases hw : Nat.ble args.length fn.ntmps <;> rfl
end Go.Proofs.Ytjediiajmnlonaa
