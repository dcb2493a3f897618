/- What the executor says of an operation, the machine does, if it does so of calls. No condition. -/
import Derived.Test.YtjediiajmnlonaaED
namespace Go.Proofs.Ytjediiajmnlonaa

section
variable {R : Type} (A : RepAt R) (P : Program)
def CallS (f : FuncId) (args : List SV) (st st' : St R) (s : SV) : Prop := Fn st st' ∧ ∀ B F ρ own w vals, Sit A P B F st st' ρ own w → denL ρ args = some vals →
  Calls P f vals.toArray w fun e w' => ∃ x ρ' own', e = .returned x ∧ den ρ' s = some x ∧ Tr A P B F st st' ρ own w ρ' own' w'
def OpS (o : Oper) (ev : Operand → Option SV) (st st' : St R) (s : SV) : Prop := Fn st st' ∧ ∀ B F ρ own w a, Sit A P B F st st' ρ own w → Ev ρ ev a → ∀ (K : Act → World → Prop) (Q : Exit → Act → World → Prop),
  (∀ x ρ' own' w', Tr A P B F st st' ρ own w ρ' own' w' → den ρ' s = some x → K (a.put o.dst x) w') → o.wp P a w K Q
def CallOK (call : FuncId → List SV → M R SV) : Prop := ∀ f args st s st', call f args st = .ok s st' → CallS A P f args st st' s
structure HkOK (call : Hk R) : Prop where
  fn : CallOK A P call.fn
  ext : ∀ ev o m, call.ext ev o = some m → ∀ st s st', m st = .ok s st' → OpS A P o ev st st' s
variable {A P}
variable {st st' : St R} {o : Oper} {a : Act} {w w' : World} {K : Act → World → Prop} {Q : Exit → Act → World → Prop}

theorem intSV_ok {ρ : Names} {s : SV} {n : Int} {x : Value} (h : intSV s = some n) (hx : den ρ s = some x) : ∃ k, x = .int k n := by
  unfold intSV at h
  split at h
  · next k m =>
    injection h with h
    subst h
    simp only [den, Option.some.injEq] at hx
    exact ⟨k, hx.symm⟩
  · cases h
theorem wp_val {x : Value} (h : (execOp a.eval o).run P w = .ok (.value x) w') (hk : K (a.put o.dst x) w') : o.wp P a w K Q := by
  unfold Oper.wp
  rw [h]
  exact hk
theorem wp_unit (h : (execOp a.eval o).run P w = .ok .skip w') (hk : K (a.put o.dst undef) w') : o.wp P a w K Q := by
  unfold Oper.wp
  rw [h]
  exact hk
theorem wp_enter {f : FuncId} {args : Array Value} (h : (execOp a.eval o).run P w = .ok (.enter f args) w) (hk : Calls P f args w fun e w' => ∃ x, e = .returned x ∧ K (a.put o.dst x) w') : o.wp P a w K Q := by
  unfold Oper.wp
  rw [h]
  exact hk.mono fun e w' ⟨x, he, hx⟩ => by subst he; exact hx
theorem vrun {m : Sem Value} {x : Value} (h : m.run P w = .ok x w') : (do pure (.value (← m)) : Sem Next).run P w = .ok (.value x) w' := by
  rw [Sem.run_bind, h]
  rfl
theorem okFn_run {g : FuncId} (h : okFn P g = true) (args : Array Value) : (callFunc g args).run P w = .ok (.enter g args) w := by
  unfold okFn at h
  cases hf : P.funcs[g]? with
  | none => rw [hf] at h; cases h
  | some fn =>
    rw [hf] at h
    simp only [Bool.and_eq_true, bne_iff_ne, ne_eq] at h
    have hb : fn.body.isNone = false := by
      cases hbo : fn.body with
      | none => rw [hbo] at h; cases h.1
      | some _ => rfl
    simp only [callFunc, Sem.run_bind, run_program, Result.andThen_ok, hf, beq_iff_eq, h.2, if_false, hb, Bool.false_eq_true, Sem.run_pure]
theorem lenX_run {ρ : Names} {t ty : TypeId} {x s : SV} {v : Value} (h : lenX P t ty x = some s) (hx : den ρ x = some v) : ∃ y, den ρ s = some y ∧ ∀ w, (Builtin.len_ #[t] ty #[v]).run P w = .ok y w := by
  unfold lenX at h
  split at h
  · split at h <;> cases h
    next e hu =>
    simp only [den, Option.map_eq_some_iff] at hx
    obtain ⟨en, _, rfl⟩ := hx
    exact ⟨_, rfl, fun w => by simp only [Builtin.len_, List.getElem?_toArray, List.getElem?_cons_zero, Sem.run_bind, run_underlying hu w, Result.andThen_ok]; rfl⟩
  · split at h <;> cases h
    next e hu =>
    simp only [den, Option.map_eq_some_iff] at hx
    obtain ⟨en, _, rfl⟩ := hx
    exact ⟨_, rfl, fun w => by simp only [Builtin.len_, List.getElem?_toArray, List.getElem?_cons_zero, Sem.run_bind, run_underlying hu w, Result.andThen_ok]; rfl⟩
  · split at h <;> cases h
    next e hu =>
    simp only [den, Option.map_eq_some_iff] at hx
    obtain ⟨en, _, rfl⟩ := hx
    exact ⟨_, rfl, fun w => by simp only [Builtin.len_, List.getElem?_toArray, List.getElem?_cons_zero, Sem.run_bind, run_underlying hu w, Result.andThen_ok]; rfl⟩
  · simp only [Option.map_eq_some_iff] at h
    obtain ⟨y, hy, rfl⟩ := h
    simp only [den, Option.some.injEq] at hx
    subst hx
    exact ⟨y, rfl, pureRun_run hy⟩
  · cases h
theorem builtin_s {b : Builtin} {argTypes : Array TypeId} {ty : TypeId} {args : List SV} {s : SV} (h : builtinX P b argTypes.toList ty args st = .ok s st') : Fn st st' ∧ ∀ B F ρ own w vals cs, Sit A P B F st st' ρ own w → denL ρ args = some (Array.toList vals) →
    ∃ y ρ' own' w', (builtin b argTypes ty cs vals).run P w = .ok (.value y) w' ∧ den ρ' s = some y ∧ Tr A P B F st st' ρ own w ρ' own' w' := by
  generalize hat : argTypes.toList = la at h
  unfold builtinX at h
  split at h
  · next t x =>
    obtain ⟨hl, rfl⟩ := opt_ok.1 h
    have ea : argTypes = #[t] := Array.ext' hat
    subst ea
    refine ⟨Fn.refl _, fun B F ρ own w vals cs si hd => ?_⟩
    obtain ⟨u, _, g1, g2, g3⟩ := denL_cons.1 hd
    simp only [denL, Option.some.injEq] at g2
    subst g2
    have ev : vals = #[u] := Array.ext' g3
    subst ev
    obtain ⟨y, h1, h2⟩ := lenX_run hl g1
    exact ⟨y, ρ, own, w, vrun (h2 w), h1, si.quiet (Quiet.refl _)⟩
  · next t tx x y =>
    have ea : argTypes = #[t, tx] := Array.ext' hat
    subst ea
    obtain ⟨hf, hs⟩ := append_s (A := A) (ty := ty) h rfl
    refine ⟨hf, fun B F ρ own w vals cs si hd => ?_⟩
    obtain ⟨u, _, g1, g2, g3⟩ := denL_cons.1 hd
    obtain ⟨v, _, g4, g5, rfl⟩ := denL_cons.1 g2
    simp only [denL, Option.some.injEq] at g5
    subst g5
    have ev : vals = #[u, v] := Array.ext' g3
    subst ev
    obtain ⟨r, ρ', own', w', h1, h2, h3⟩ := hs B F ρ own w u v si g1 g4
    exact ⟨r, ρ', own', w', vrun h1, h2, h3⟩
  · next t tx x y =>
    have ea : argTypes = #[t, tx] := Array.ext' hat
    subst ea
    obtain ⟨hf, hs⟩ := copy_s (A := A) (tx := tx) (ty := ty) h
    refine ⟨hf, fun B F ρ own w vals cs si hd => ?_⟩
    obtain ⟨u, _, g1, g2, g3⟩ := denL_cons.1 hd
    obtain ⟨v, _, g4, g5, rfl⟩ := denL_cons.1 g2
    simp only [denL, Option.some.injEq] at g5
    subst g5
    have ev : vals = #[u, v] := Array.ext' g3
    subst ev
    obtain ⟨r, ρ', own', w', h1, h2, h3⟩ := hs B F ρ own w u v si g1 g4
    exact ⟨r, ρ', own', w', vrun h1, h2, h3⟩
  · exact (fail_ok.1 h).elim

theorem op_s {call : Hk R} (hcall : HkOK A P call) {ev : Operand → Option SV} {s : SV} (h : opX P call ev o st = .ok s st') : OpS A P o ev st st' s := by
  obtain ⟨dst, op, ty, pos, aft, gu⟩ := o
  have plain : ∀ {s}, plainX P ev op = some s → ∀ {st' : St R}, st' = st → OpS A P ⟨dst, op, ty, pos, aft, gu⟩ ev st st' s := by
    rintro s hp st' rfl
    refine ⟨Fn.refl _, fun B F ρ own w a si hev K Q hk => ?_⟩
    obtain ⟨x, h1, h2⟩ := plain_run (o := ⟨dst, op, ty, pos, aft, gu⟩) hp hev
    exact wp_val (h2 w) (hk x ρ own w (si.quiet (Quiet.refl _)) h1)
  unfold opX at h
  cases hx : call.ext ev ⟨dst, op, ty, pos, aft, gu⟩ with
  | some m =>
    rw [hx] at h
    exact hcall.ext _ _ _ hx _ _ _ h
  | none =>
  rw [hx] at h
  cases op <;> simp only at h <;> (try (obtain ⟨hp, rfl⟩ := opt_ok.1 h; exact plain hp rfl))
  case pick c x y =>
    obtain ⟨sc, _, h1, h2⟩ := bind_ok.1 h
    obtain ⟨hc, rfl⟩ := opt_ok.1 h1
    split at h2
    · next t =>
      obtain ⟨r, st1, h3, h4⟩ := bind_ok.1 h2
      obtain ⟨q, hq⟩ := ask_ok h3
      cases r with
      | true =>
        obtain ⟨hx, rfl⟩ := opt_ok.1 h4
        refine ⟨q.fn, fun B F ρ own w a si hev K Q hk => wp_val (x := a.eval x) ?_ (hk _ ρ own w (si.quiet q) (hev _ _ hx))⟩
        have e := hev _ _ hc
        simp only [den, Option.some.injEq] at e
        simp only [execOp, ← e, asBool, Sem.run_bind, Sem.run_pure, Result.andThen_ok, hq si.ask, if_true]
      | false =>
        obtain ⟨hx, rfl⟩ := opt_ok.1 h4
        refine ⟨q.fn, fun B F ρ own w a si hev K Q hk => wp_val (x := a.eval y) ?_ (hk _ ρ own w (si.quiet q) (hev _ _ hx))⟩
        have e := hev _ _ hc
        simp only [den, Option.some.injEq] at e
        simp only [execOp, ← e, asBool, Sem.run_bind, Sem.run_pure, Result.andThen_ok, hq si.ask, Bool.false_eq_true, if_false]
    · exact (fail_ok.1 h2).elim
  case alloc t =>
    obtain ⟨z, _, h1, h2⟩ := bind_ok.1 h
    obtain ⟨hz, rfl⟩ := opt_ok.1 h1
    obtain ⟨k, _, h3, h4⟩ := bind_ok.1 h2
    obtain ⟨hk, rfl⟩ := opt_ok.1 h3
    obtain ⟨_, _, h5, h6⟩ := bind_ok.1 h4
    obtain ⟨hl, rfl⟩ := want_ok.1 h5
    obtain ⟨n, st1, h7, h8⟩ := bind_ok.1 h6
    obtain ⟨rfl, rfl⟩ := newC_ok.1 h7
    obtain ⟨rfl, rfl⟩ := ret_ok.1 h8
    obtain ⟨hf, hs⟩ := alloc_s (A := A) (st := st) hz hk (Nat.eq_of_beq_eq_true hl)
    refine ⟨hf, fun B F ρ own w a si hev K Q hk => ?_⟩
    obtain ⟨y, ρ', own', w', g1, g2, g3⟩ := hs B F ρ own w si
    exact wp_val (vrun g1) (hk y ρ' own' w' g3 g2)
  case box t x =>
    obtain ⟨v, _, h1, h2⟩ := bind_ok.1 h
    obtain ⟨hv, rfl⟩ := opt_ok.1 h1
    obtain ⟨k, _, h3, h4⟩ := bind_ok.1 h2
    obtain ⟨hk, rfl⟩ := opt_ok.1 h3
    obtain ⟨_, _, h5, h6⟩ := bind_ok.1 h4
    obtain ⟨hl, rfl⟩ := want_ok.1 h5
    obtain ⟨n, st1, h7, h8⟩ := bind_ok.1 h6
    obtain ⟨rfl, rfl⟩ := newC_ok.1 h7
    obtain ⟨rfl, rfl⟩ := ret_ok.1 h8
    obtain ⟨hf, hs⟩ := box_s (A := A) (st := st) hk (Nat.eq_of_beq_eq_true hl)
    refine ⟨hf, fun B F ρ own w a si hev K Q hk => ?_⟩
    obtain ⟨y, ρ', own', w', g1, g2, g3⟩ := hs B F ρ own w _ si (hev _ _ hv)
    exact wp_val (vrun g1) (hk y ρ' own' w' g3 g2)
  case buildSlice t len parts =>
    obtain ⟨ps, _, h1, h2⟩ := bind_ok.1 h
    obtain ⟨hps, rfl⟩ := opt_ok.1 h1
    obtain ⟨r, _, h3, h4⟩ := bind_ok.1 h2
    obtain ⟨hr, rfl⟩ := opt_ok.1 h3
    obtain ⟨elem, l⟩ := r
    obtain ⟨n, st1, h7, h8⟩ := bind_ok.1 h4
    obtain ⟨rfl, rfl⟩ := newC_ok.1 h7
    obtain ⟨rfl, rfl⟩ := ret_ok.1 h8
    obtain ⟨hf, hs⟩ := buildSlice_s (A := A) (st := st) hr
    refine ⟨hf, fun B F ρ own w a si hev K Q hk => ?_⟩
    have h2 := mapM_two (g := fun (p : Nat × Operand) => (p.1, a.eval p.2)) (R := fun (p : Nat × SV) (q : Nat × Value) => p.1 = q.1 ∧ den ρ p.2 = some q.2) (fun p b hb => by
      simp only [Option.map_eq_some_iff] at hb
      obtain ⟨s, hs, rfl⟩ := hb
      exact ⟨rfl, hev _ _ hs⟩) hps
    obtain ⟨y, ρ', own', w', g1, g2, g3⟩ := hs B F ρ own w (parts.map fun (i, x) => (i, a.eval x)) si (by simpa using h2)
    exact wp_val (vrun g1) (hk y ρ' own' w' g3 g2)
  case load t x =>
    obtain ⟨v, _, h1, h2⟩ := bind_ok.1 h
    obtain ⟨hv, rfl⟩ := opt_ok.1 h1
    have q := loadX_quiet h2
    refine ⟨q.fn, fun B F ρ own w a si hev K Q hk => ?_⟩
    obtain ⟨y, g1, g2⟩ := loadX_run h2 si.li si.log (hev _ _ hv)
    exact wp_val (vrun g2) (hk y ρ own w (si.quiet q) g1)
  case store t x y =>
    obtain ⟨sx, _, h1, h2⟩ := bind_ok.1 h
    obtain ⟨hx, rfl⟩ := opt_ok.1 h1
    obtain ⟨sy, _, h3, h4⟩ := bind_ok.1 h2
    obtain ⟨hy, rfl⟩ := opt_ok.1 h3
    obtain ⟨_, st1, h5, h6⟩ := bind_ok.1 h4
    obtain ⟨rfl, rfl⟩ := ret_ok.1 h6
    obtain ⟨hf, hs⟩ := store_s (A := A) h5
    refine ⟨hf, fun B F ρ own w a si hev K Q hk => ?_⟩
    obtain ⟨ρ', own', w', g1, g2⟩ := hs B F ρ own w _ _ si (hev _ _ hx) (hev _ _ hy)
    refine wp_unit ?_ (hk undef ρ' own' w' g2 rfl)
    simp only [execOp, Sem.run_bind, g1, Result.andThen_ok]
    rfl
  case makeSlice t len cap =>
    obtain ⟨zn, _, h1, h2⟩ := bind_ok.1 h
    obtain ⟨hn, rfl⟩ := opt_ok.1 h1
    obtain ⟨zc, _, h3, h4⟩ := bind_ok.1 h2
    obtain ⟨hc, rfl⟩ := opt_ok.1 h3
    simp only [Option.bind_eq_some_iff] at hn hc
    obtain ⟨s1, hs1, hn⟩ := hn
    obtain ⟨s2, hs2, hc⟩ := hc
    generalize hu : P.underlying t = du at h4
    split at h4
    · next elem =>
      obtain ⟨i, _, h5, h6⟩ := bind_ok.1 h4
      obtain ⟨hi, rfl⟩ := opt_ok.1 h5
      obtain ⟨_, st0, h7, h8⟩ := bind_ok.1 h6
      obtain ⟨q, hq⟩ := need_ok h7
      obtain ⟨z, _, h9, h10⟩ := bind_ok.1 h8
      obtain ⟨hz, rfl⟩ := opt_ok.1 h9
      obtain ⟨m, st1, h11, h12⟩ := bind_ok.1 h10
      obtain ⟨rfl, rfl⟩ := newC_ok.1 h11
      obtain ⟨rfl, rfl⟩ := ret_ok.1 h12
      refine ⟨quiet_new q (.row z elem), fun B F ρ own w a si hev K Q hk => ?_⟩
      have hb := hq si.ask
      rw [Bool.and_eq_true, Bool.and_eq_true, decide_eq_true_eq, decide_eq_true_eq] at hb
      obtain ⟨⟨hb1, hb2⟩, hb3⟩ := hb
      obtain ⟨hf, hs⟩ := makeSlice_s (A := A) (st := st0) hu hi hb3 hz
      obtain ⟨k1, e1⟩ := intSV_ok hn (hev _ _ hs1)
      obtain ⟨k2, e2⟩ := intSV_ok hc (hev _ _ hs2)
      obtain ⟨y, ρ', own', w', g1, g2, g3⟩ := hs B F ρ own w k1 k2 (si.of_quiet q)
      rw [Int.toNat_of_nonneg hb1, Int.toNat_of_nonneg hb2] at g1
      exact wp_val (vrun (by rw [e1, e2]; exact g1)) (hk y ρ' own' w' (Tr.of_quiet q g3) g2)
    · exact (fail_ok.1 h4).elim
  case slice t x lo hi mx =>
    cases mx with
    | some _ => 
      obtain ⟨hp, rfl⟩ := opt_ok.1 h
      exact plain hp rfl
    | none =>
      obtain ⟨sx, _, h1, h2⟩ := bind_ok.1 h
      obtain ⟨hx, rfl⟩ := opt_ok.1 h1
      obtain ⟨sl, _, h3, h4⟩ := bind_ok.1 h2
      obtain ⟨hl, rfl⟩ := opt_ok.1 h3
      obtain ⟨sh, _, h5, h6⟩ := bind_ok.1 h4
      obtain ⟨hh, rfl⟩ := opt_ok.1 h5
      obtain ⟨hf, hs⟩ := slice_s (A := A) h6
      refine ⟨hf, fun B F ρ own w a si hev K Q hk => ?_⟩
      have side : ∀ {x : Option Operand} {r : Option SV}, (match x with | some l => (ev l).map some | none => some none) = some r → (∀ l, r = some l → ∃ v, x.map a.eval = some v ∧ den ρ l = some v) ∧ (r = none → x.map a.eval = none) := by
        intro x r hr
        cases x with
        | none =>
          simp only [Option.some.injEq] at hr
          subst hr
          exact ⟨(fun l hl => by cases hl), fun _ => rfl⟩
        | some l =>
          simp only [Option.map_eq_some_iff] at hr
          obtain ⟨s, hs, rfl⟩ := hr
          exact ⟨(fun l' hl' => by injection hl' with hl'; subst hl'; exact ⟨_, rfl, hev _ _ hs⟩), fun hn => by cases hn⟩
      obtain ⟨y, ρ', own', w', g1, g2, g3⟩ := hs B F ρ own w _ _ _ si (hev _ _ hx) (side hl).1 (side hl).2 (side hh).1 (side hh).2
      exact wp_val (vrun g1) (hk y ρ' own' w' g3 g2)
  case indexAddr t x i =>
    obtain ⟨sx, _, h1, h2⟩ := bind_ok.1 h
    obtain ⟨hx, rfl⟩ := opt_ok.1 h1
    obtain ⟨si', _, h3, h4⟩ := bind_ok.1 h2
    obtain ⟨hi, rfl⟩ := opt_ok.1 h3
    obtain ⟨q, hs⟩ := idx_s (A := A) h4
    refine ⟨q.fn, fun B F ρ own w a si hev K Q hk => ?_⟩
    obtain ⟨y, g1, g2⟩ := hs B F ρ own w _ _ si (hev _ _ hx) (hev _ _ hi)
    exact wp_val (vrun g1) (hk y ρ own w (si.quiet q) g2)
  case call c =>
    obtain ⟨callee, cargs, argTypes⟩ := c
    obtain ⟨args, _, h1, h2⟩ := bind_ok.1 h
    obtain ⟨hargs, rfl⟩ := opt_ok.1 h1
    have hden : ∀ {ρ : Names} {a : Act}, Ev ρ ev a → denL ρ args = some (cargs.toList.map a.eval) := fun hev => ev_list hev hargs
    cases callee with
    | builtin b =>
      obtain ⟨hf, hs⟩ := builtin_s (A := A) h2
      refine ⟨hf, fun B F ρ own w a si hev K Q hk => ?_⟩
      obtain ⟨y, ρ', own', w', g1, g2, g3⟩ := hs B F ρ own w (cargs.map a.eval) (cargs.map fun | .const _ => true | _ => false) si (by simpa using hden hev)
      refine wp_val ?_ (hk y ρ' own' w' g3 g2)
      simp only [execOp, resolve, Sem.run_bind, Sem.run_pure, Result.andThen_ok, invoke]
      exact g1
    | value f =>
      obtain ⟨sf, _, h3, h4⟩ := bind_ok.1 h2
      obtain ⟨hf, rfl⟩ := opt_ok.1 h3
      split at h4
      · next g a1 a2 =>
        obtain ⟨_, _, h5, h6⟩ := bind_ok.1 h4
        obtain ⟨hb, rfl⟩ := want_ok.1 h5
        simp only [Bool.and_eq_true] at hb
        obtain ⟨⟨hok, he1⟩, he2⟩ := hb
        have he1 := Array.eq_empty_of_size_eq_zero (Nat.eq_of_beq_eq_true he1)
        have he2 := Array.eq_empty_of_size_eq_zero (Nat.eq_of_beq_eq_true he2)
        subst he1
        subst he2
        obtain ⟨hfn, hs⟩ := hcall.fn g args st s st' h6
        refine ⟨hfn, fun B F ρ own w a si hev K Q hk => ?_⟩
        have e := hev _ _ hf
        simp only [den, Option.some.injEq] at e
        refine wp_enter (f := g) (args := (cargs.toList.map a.eval).toArray) ?_ ((hs B F ρ own w _ si (hden hev)).mono fun e w' ⟨x, ρ', own', h7, h8, h9⟩ => ⟨x, h7, hk x ρ' own' w' h9 h8⟩)
        simp only [execOp, resolve, ← e, Deferred.ofValue, Sem.run_bind, Sem.run_pure, Result.andThen_ok, invoke]
        refine Eq.trans (congrArg (fun z => Sem.run P (callFunc g z) w) ?_) (okFn_run hok _)
        apply Array.ext'
        simp
      · next g a1 a2 =>
        obtain ⟨_, _, h5, h6⟩ := bind_ok.1 h4
        obtain ⟨hok, rfl⟩ := want_ok.1 h5
        obtain ⟨hfn, hs⟩ := hcall.fn g _ st s st' h6
        refine ⟨hfn, fun B F ρ own w a si hev K Q hk => ?_⟩
        have e := hev _ _ hf
        simp only [den] at e
        split at e
        · next va vc hva hvc =>
          simp only [Option.some.injEq] at e
          have hall : denL ρ (a1 ++ (args ++ a2)) = some (va ++ (cargs.toList.map a.eval ++ vc)) := denL_append.2 ⟨_, _, hva, denL_append.2 ⟨_, _, hden hev, hvc, rfl⟩, rfl⟩
          refine wp_enter (f := g) (args := (va ++ (cargs.toList.map a.eval ++ vc)).toArray) ?_ ((hs B F ρ own w _ si hall).mono fun e w' ⟨x, ρ', own', h7, h8, h9⟩ => ⟨x, h7, hk x ρ' own' w' h9 h8⟩)
          simp only [execOp, resolve, ← e, Deferred.ofValue, Sem.run_bind, Sem.run_pure, Result.andThen_ok, invoke]
          refine Eq.trans (congrArg (fun z => Sem.run P (callFunc g z) w) ?_) (okFn_run hok _)
          apply Array.ext'
          simp
        · cases e
      · exact (fail_ok.1 h4).elim
    | invoke r name =>
      obtain ⟨sr, _, h3, h4⟩ := bind_ok.1 h2
      obtain ⟨hr, rfl⟩ := opt_ok.1 h3
      split at h4
      · next t x =>
        obtain ⟨g, _, h5, h6⟩ := bind_ok.1 h4
        obtain ⟨hm, rfl⟩ := opt_ok.1 h5
        obtain ⟨_, _, h7, h8⟩ := bind_ok.1 h6
        obtain ⟨hok, rfl⟩ := want_ok.1 h7
        obtain ⟨hfn, hs⟩ := hcall.fn g _ st s st' h8
        refine ⟨hfn, fun B F ρ own w a si hev K Q hk => ?_⟩
        have e := hev _ _ hr
        simp only [den, Option.map_eq_some_iff] at e
        obtain ⟨v, hv, e⟩ := e
        refine wp_enter (f := g) (args := (v :: cargs.toList.map a.eval).toArray) ?_ ((hs B F ρ own w _ si (denL_cons.2 ⟨_, _, hv, hden hev, rfl⟩)).mono fun e w' ⟨x, ρ', own', h7, h8, h9⟩ => ⟨x, h7, hk x ρ' own' w' h9 h8⟩)
        have hx : (cargs.map a.eval).toList = cargs.toList.map a.eval := by simp
        have hsz : (#[a.eval r] ++ cargs.map a.eval)[0]? = some (a.eval r) := by
          rw [Array.getElem?_append_left (by simp)]
          rfl
        have hex : (#[a.eval r] ++ cargs.map a.eval).extract 1 (#[a.eval r] ++ cargs.map a.eval).size = cargs.map a.eval := by
          apply Array.ext'
          simp
          rw [List.take_of_length_le (by simp)]
        rw [← e] at hsz hex
        simp only [execOp, resolve, Sem.run_bind, Sem.run_pure, Result.andThen_ok, invoke, hsz, hex, ← e, callMethod, run_program]
        rw [show P.types.size + Made.depth = (P.types.size + 99) + 1 from rfl, methodX_run hm v _ w]
        simp only [Result.andThen_ok]
        refine Eq.trans (congrArg (fun z => Sem.run P (callFunc g z) w) ?_) (okFn_run hok _)
        apply Array.ext'
        simp
      · exact (fail_ok.1 h4).elim
end
end Go.Proofs.Ytjediiajmnlonaa
