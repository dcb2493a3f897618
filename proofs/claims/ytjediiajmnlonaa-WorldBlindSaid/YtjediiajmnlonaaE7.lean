/- What the executor says of operations that neither read nor write, the machine does: all of them. No condition. -/
import Derived.Test.YtjediiajmnlonaaE6
namespace Go.Proofs.Ytjediiajmnlonaa

section
variable {P : Program} {ρ : Names}
theorem noGuard_run {v y : Value} (h : noGuard v = true) (op : BinOp) (t : TypeId) (ox oy : Operand) (w : World) : (eqGuard op t ox oy v y).run P w = .ok () w := by
  cases op <;> cases v <;> first | rfl | cases h
theorem eql_of {t : TypeId} {x y : Value} {r : Bool} {w : World} (hq : (Op.equal t x y).run P w = .ok r w) (h1 : binOp .eql t x y = do pure (.bool (← Op.equal t x y))) (h2 : binOp .neq t x y = do pure (.bool (!(← Op.equal t x y))))
    {op : BinOp} (ho : op = .eql ∨ op = .neq) (ox oy : Operand) (hg : (eqGuard op t ox oy x y).run P w = .ok () w) : (do eqGuard op t ox oy x y; binOp op t x y : Sem Value).run P w = .ok (.bool (if op = .eql then r else !r)) w := by
  rw [Sem.run_bind, hg]
  simp only [Result.andThen_ok]
  rcases ho with rfl | rfl
  · rw [h1, Sem.run_bind, hq]
    rfl
  · rw [h2, Sem.run_bind, hq]
    rfl
theorem nilX_run {t : TypeId} {a b : SV} {x y : Value} {r : Bool} (h : nilX (P.underlying t) a b = some r) (hx : den ρ a = some x) (hy : den ρ b = some y) (op : BinOp) (ho : op = .eql ∨ op = .neq) (ox oy : Operand) (w : World) :
    (do eqGuard op t ox oy x y; binOp op t x y : Sem Value).run P w = .ok (.bool (if op = .eql then r else !r)) w := by
  unfold nilX at h
  split at h <;> (try cases h)
  · next hu =>
    simp only [den, Option.map_eq_some_iff, Option.some.injEq] at hx hy
    obtain ⟨e, _, rfl⟩ := hx
    subst hy
    exact eql_of (by show (Op.equalIn (9999 + 1) t _ _).run P w = _; unfold Op.equalIn; rw [Sem.run_bind, run_underlying hu w]; rfl) rfl rfl ho ox oy (noGuard_run rfl op t ox oy w)
  · next hu =>
    simp only [den, Option.map_eq_some_iff, Option.some.injEq] at hx hy
    obtain ⟨e, _, rfl⟩ := hy
    subst hx
    exact eql_of (by show (Op.equalIn (9999 + 1) t _ _).run P w = _; unfold Op.equalIn; rw [Sem.run_bind, run_underlying hu w]; rfl) rfl rfl ho ox oy (noGuard_run rfl op t ox oy w)
  · next hu =>
    simp only [den, Option.map_eq_some_iff, Option.some.injEq] at hx hy
    obtain ⟨e, _, rfl⟩ := hx
    subst hy
    exact eql_of (by show (Op.equalIn (9999 + 1) t _ _).run P w = _; unfold Op.equalIn; rw [Sem.run_bind, run_underlying hu w]; rfl) rfl rfl ho ox oy (noGuard_run rfl op t ox oy w)
  · next hu =>
    simp only [den, Option.map_eq_some_iff, Option.some.injEq] at hx hy
    obtain ⟨e, _, rfl⟩ := hy
    subst hx
    exact eql_of (by show (Op.equalIn (9999 + 1) t _ _).run P w = _; unfold Op.equalIn; rw [Sem.run_bind, run_underlying hu w]; rfl) rfl rfl ho ox oy (by cases op <;> rfl)
  · next hu =>
    simp only [den, Option.some.injEq] at hx hy
    split at hx <;> cases hx
    subst hy
    exact eql_of (by show (Op.equalIn (9999 + 1) t _ _).run P w = _; unfold Op.equalIn; rw [Sem.run_bind, run_underlying hu w]; rfl) rfl rfl ho ox oy (noGuard_run rfl op t ox oy w)
  · next hu =>
    simp only [den, Option.some.injEq] at hx hy
    split at hy <;> cases hy
    subst hx
    exact eql_of (by show (Op.equalIn (9999 + 1) t _ _).run P w = _; unfold Op.equalIn; rw [Sem.run_bind, run_underlying hu w]; rfl) rfl rfl ho ox oy (noGuard_run rfl op t ox oy w)
  · next hu =>
    simp only [den, Option.map_eq_some_iff, Option.some.injEq] at hx hy
    obtain ⟨e, _, rfl⟩ := hx
    subst hy
    exact eql_of (by show (Op.equalIn (9999 + 1) t _ _).run P w = _; unfold Op.equalIn; rw [Sem.run_bind, run_underlying hu w]; rfl) rfl rfl ho ox oy (noGuard_run rfl op t ox oy w)
theorem eqlX_run {t : TypeId} {a b : SV} {x y : Value} {r : Bool} (h : eqlX P t a b = some r) (hx : den ρ a = some x) (hy : den ρ b = some y) (op : BinOp) (ho : op = .eql ∨ op = .neq) (ox oy : Operand) (w : World) :
    (do eqGuard op t ox oy x y; binOp op t x y : Sem Value).run P w = .ok (.bool (if op = .eql then r else !r)) w := by
  unfold eqlX at h
  split at h
  · next r' hn =>
    injection h with h
    subst h
    exact nilX_run hn hx hy op ho ox oy w
  · split at h
    · next hc =>
      simp only [Bool.and_eq_true, Bool.not_eq_true'] at hc
      obtain ⟨⟨⟨ha, hb⟩, hg⟩, hagg⟩ := hc
      have ex := aggV ha hx
      have ey := aggV hb hy
      have hagg : aggT P t = some true := by
        split at hagg
        · assumption
        · cases hagg
      have hr := eqX_run h (den_cells hx) (den_cells hy) 10000 (by omega) w
      simp only [ofCells, hagg, Array.toArray_toList] at hr
      rw [ex, ey, Sem.run_bind, run_eqGuard_agg w op t ox oy _ _ hg]
      simp only [Result.andThen_ok]
      rcases ho with rfl | rfl
      · rw [run_eql_struct, hr]
        simp
      · rw [run_neq_struct, hr]
        simp
    · cases h
theorem binX_run {op : BinOp} {t : TypeId} {a b s : SV} {x y : Value} (h : binX P op t a b = some s) (hx : den ρ a = some x) (hy : den ρ b = some y) (ox oy : Operand) :
    ∃ z, den ρ s = some z ∧ ∀ w, (do eqGuard op t ox oy x y; binOp op t x y : Sem Value).run P w = .ok z w := by
  have heq : eqNe op (eqlX P t a b) = some s → ∃ z, den ρ s = some z ∧ ∀ w, (do eqGuard op t ox oy x y; binOp op t x y : Sem Value).run P w = .ok z w := by
    intro h1
    cases op <;> simp only [eqNe, Option.map_eq_some_iff, reduceCtorEq] at h1
    · obtain ⟨r, hr, rfl⟩ := h1
      exact ⟨_, rfl, fun w => by rw [eqlX_run hr hx hy .eql (.inl rfl) ox oy w]; rfl⟩
    · obtain ⟨r, hr, rfl⟩ := h1
      exact ⟨_, rfl, fun w => by rw [eqlX_run hr hx hy .neq (.inr rfl) ox oy w]; rfl⟩
  unfold binX at h
  split at h
  · next x' y' =>
    split at h
    · next hg =>
      simp only [Option.map_eq_some_iff] at h
      obtain ⟨z, hz, rfl⟩ := h
      simp only [den, Option.some.injEq] at hx hy
      subst hx
      subst hy
      exact ⟨z, rfl, fun w => by rw [Sem.run_bind, noGuard_run hg]; exact pureRun_run hz w⟩
    · exact heq h
  · exact heq h

theorem methodX_run {t : TypeId} {name : String} {g : FuncId} (h : methodX P t name = some g) (v : Value) (n : Nat) (w : World) : (method (n + 1) t v name).run P w = .ok (g, v) w := by
  unfold methodX at h
  generalize hu : P.underlying t = du at h
  split at h
  · next e =>
    cases hi : P.info? t with
    | none => rw [hi] at h; cases h
    | some i =>
      rw [hi] at h
      simp only at h
      cases hm : i.methods.find? (·.name == name) with
      | none => rw [hm] at h; cases h
      | some m =>
        rw [hm] at h
        simp only at h
        split at h
        · next f hp hf =>
          injection h with h
          subst h
          have hpath : m.path.toList = [] := by
            have : m.path = #[] := by simpa using hp
            rw [this]
          simp only [method, Sem.run_bind, run_typeInfo w hi, Result.andThen_ok, hm, hpath, follow, Sem.run_pure, hf, receiverAt, run_underlying hu w, Place.get]
        · cases h
  · cases h

theorem nilAhead_run {t : TypeId} {name : String} {g : FuncId} (h : methodX P t name = some g) (v : Value) (n : Nat) (w : World) : (nilAhead (n + 1) t v name).run P w = .ok (some false) w := by
  unfold methodX at h
  generalize hu : P.underlying t = du at h
  split at h
  · next e =>
    cases hi : P.info? t with
    | none => rw [hi] at h; cases h
    | some i =>
      rw [hi] at h
      simp only at h
      cases hm : i.methods.find? (·.name == name) with
      | none => rw [hm] at h; cases h
      | some m =>
        rw [hm] at h
        simp only at h
        split at h
        · next f hp hf =>
          injection h with h
          subst h
          have hpath : m.path.toList = [] := by
            have : m.path = #[] := by simpa using hp
            rw [this]
          simp only [nilAhead, Sem.run_bind, run_typeInfo w hi, Result.andThen_ok, hm, hpath, followBlind, Sem.run_pure, hf]
        · cases h
  · cases h

theorem plain_run {o : Oper} {ev : Operand → Option SV} {a : Act} {s : SV} (h : plainX P ev o.op = some s) (hev : Ev ρ ev a) : ∃ x, den ρ s = some x ∧ ∀ w, (execOp a.eval o).run P w = .ok (.value x) w := by
  obtain ⟨dst, op, ty, pos, aft, gu⟩ := o
  have vrun : ∀ {m : Sem Value} {x : Value}, (∀ w, m.run P w = .ok x w) → ∀ w, (do pure (.value (← m)) : Sem Next).run P w = .ok (.value x) w := fun hm w => by
    rw [Sem.run_bind, hm w]
    rfl
  cases op <;> simp only [plainX, reduceCtorEq, Option.bind_eq_some_iff, Option.map_eq_some_iff] at h
  case move x => exact ⟨_, hev _ _ h, fun w => rfl⟩
  case assign x => exact ⟨_, hev _ _ h, fun w => rfl⟩
  case build t parts =>
    obtain ⟨ps, hps, h⟩ := h
    have h2 := mapM_two (g := fun (p : Nat × Operand) => (p.1, a.eval p.2)) (R := fun (p : Nat × SV) (q : Nat × Value) => p.1 = q.1 ∧ den ρ p.2 = some q.2) (fun p b hb => by
      simp only [Option.map_eq_some_iff] at hb
      obtain ⟨s, hs, rfl⟩ := hb
      exact ⟨rfl, hev _ _ hs⟩) hps
    obtain ⟨x, h3, h4⟩ := buildX_run (vparts := parts.map fun (i, x) => (i, a.eval x)) h (by simpa using h2)
    exact ⟨x, h3, vrun h4⟩
  case nilCheck x =>
    obtain ⟨y, hy, h⟩ := h
    have hx := hev _ _ hy
    split at h <;> simp only [Option.some.injEq, reduceCtorEq, Option.map_eq_some_iff] at h <;> (first | subst h | (obtain ⟨g, hg, h⟩ := h; subst h))
    · refine ⟨_, hx, fun w => ?_⟩
      simp only [den, Option.map_eq_some_iff] at hx
      obtain ⟨e, _, hx⟩ := hx
      simp only [execOp, ← hx]
      rfl
    · refine ⟨_, hx, fun w => ?_⟩
      simp only [den] at hx
      split at hx <;> try cases hx
      split at hx <;> simp only [Option.some.injEq, reduceCtorEq] at hx
      simp only [execOp, ← hx]
      rfl
    · refine ⟨_, hx, fun w => ?_⟩
      simp only [den, Option.map_eq_some_iff] at hx
      obtain ⟨e, _, hx⟩ := hx
      simp only [execOp, ← hx]
      rfl
    · refine ⟨_, hx, fun w => ?_⟩
      simp only [den] at hx
      split at hx <;> simp only [Option.some.injEq, reduceCtorEq] at hx
      simp only [execOp, ← hx]
      rfl
    · refine ⟨_, hx, fun w => ?_⟩
      next name t y a b =>
      simp only [den] at hx
      split at hx <;> simp only [Option.some.injEq, reduceCtorEq] at hx
      next va vb hva hvb =>
      obtain ⟨u, us, h1, h2, rfl⟩ := denL_cons.1 hva
      simp only [den, Option.map_eq_some_iff] at h1
      obtain ⟨v, hv, rfl⟩ := h1
      have hna := nilAhead_run hg v (P.types.size + 99) w
      simp only [execOp, ← hx]
      simp only [List.getElem?_toArray, List.getElem?_cons_zero, Sem.run_bind, run_program, Result.andThen_ok]
      rw [show P.types.size + Made.depth = (P.types.size + 99) + 1 from rfl, hna]
      rfl
  case binOp op t x y ty2 =>
    obtain ⟨s1, h1, s2, h2, h⟩ := h
    split at h
    · next hnn =>
      unfold nilNil at hnn
      split at hnn
      · next hu =>
        have e1 := hev _ _ h1
        have e2 := hev _ _ h2
        simp only [den, Option.some.injEq] at e1 e2
        have heq : ∀ w, (Op.equal t .nilIface .nilIface).run P w = .ok true w := fun w => by show (Op.equalIn (9999 + 1) t _ _).run P w = _; unfold Op.equalIn; rw [Sem.run_bind, run_underlying hu w]; rfl
        cases op <;> simp only [eqNe, Option.map_some, Option.some.injEq, reduceCtorEq] at h
        · subst h
          refine ⟨_, rfl, vrun fun w => ?_⟩
          rw [← e1, ← e2]
          exact eql_of (heq w) rfl rfl (.inl rfl) _ _ (by simp [eqGuard])
        · subst h
          refine ⟨_, rfl, vrun fun w => ?_⟩
          rw [← e1, ← e2]
          exact eql_of (heq w) rfl rfl (.inr rfl) _ _ (by simp [eqGuard])
      · cases hnn
    obtain ⟨z, h3, h4⟩ := binX_run h (hev _ _ h1) (hev _ _ h2) x y
    exact ⟨z, h3, vrun h4⟩
  case unOp op t x =>
    obtain ⟨y, hy, h⟩ := h
    have hx := hev _ _ hy
    split at h <;> simp only [Option.map_eq_some_iff, reduceCtorEq] at h
    obtain ⟨z, hz, rfl⟩ := h
    simp only [den, Option.some.injEq] at hx
    rw [hx] at hz
    exact ⟨z, rfl, vrun (pureRun_run hz)⟩
  case convert sr ds x =>
    obtain ⟨y, hy, h⟩ := h
    have hx := hev _ _ hy
    split at h <;> simp only [Option.map_eq_some_iff, reduceCtorEq] at h
    obtain ⟨z, hz, rfl⟩ := h
    simp only [den, Option.some.injEq] at hx
    rw [hx] at hz
    exact ⟨z, rfl, vrun (pureRun_run hz)⟩
  case makeInterface t x =>
    split at h <;> simp only [Option.map_eq_some_iff, reduceCtorEq] at h
    next d hn hu =>
    obtain ⟨y, hy, rfl⟩ := h
    refine ⟨.iface t (a.eval x), by simp [den, hev _ _ hy], vrun fun w => ?_⟩
    simp only [Instr.makeInterface, Sem.run_bind, run_underlying hu w, Result.andThen_ok]
    cases d <;> first | rfl | (exact (hn _ rfl).elim)
  case makeFunc fn f c =>
    obtain ⟨l1, h1, l2, h2, rfl⟩ := h
    refine ⟨.func fn (f.map a.eval) (c.map a.eval), ?_, vrun fun w => rfl⟩
    simp only [den, ev_list hev h1, ev_list hev h2]
    congr 2 <;> (apply Array.ext'; simp)
  case fieldAddr t x f =>
    obtain ⟨y, hy, h⟩ := h
    obtain ⟨z, h3, h4⟩ := fieldAddrX_run h (hev _ _ hy)
    exact ⟨z, h3, vrun h4⟩
  case field t x f =>
    obtain ⟨y, hy, h⟩ := h
    obtain ⟨z, h3, h4⟩ := fieldX_run h (hev _ _ hy)
    exact ⟨z, h3, vrun h4⟩
  case extract x i =>
    obtain ⟨y, hy, h⟩ := h
    have hx := hev _ _ hy
    split at h
    · next l =>
      simp only [den, Option.map_eq_some_iff] at hx
      obtain ⟨vs, hv, hx⟩ := hx
      obtain ⟨z, h1, h2⟩ := denL_get hv h
      refine ⟨z, h1, vrun fun w => ?_⟩
      rw [← hx]
      simp only [Instr.extract, List.getElem?_toArray, h2]
      rfl
    · cases h
end
end Go.Proofs.Ytjediiajmnlonaa
