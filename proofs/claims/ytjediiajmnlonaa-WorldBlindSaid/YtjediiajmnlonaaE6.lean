/- What the executor says of operations that neither read nor write, the machine does: the operations. No condition. -/
import Derived.Test.YtjediiajmnlonaaE5
namespace Go.Proofs.Ytjediiajmnlonaa

section
variable {P : Program} {ρ : Names}
theorem zeroT_run {t : TypeId} {l : List SV} (h : zeroT P t = some l) : ∃ z : Value, denL ρ l = some z.cells.toList ∧ ∀ w, (zeroValue t).run P w = .ok z w := by
  simp only [zeroT, Option.map_eq_some_iff, Option.bind_eq_some_iff] at h
  obtain ⟨z, ⟨i, hi, hz⟩, rfl⟩ := h
  exact ⟨z, denL_vs _, fun w => by simp [zeroValue, run_typeInfo w hi, hz]⟩
theorem mapM_places (w : World) : ∀ (l : List Field) (_ : ∀ f ∈ l, ∃ k, szT P f.type = some k), (l.mapM fun f => (do pure (f.offset, ← sizeOf f.type) : Sem (Nat × Nat))).run P w = .ok (l.map fun f => (f.offset, P.cellsOf f.type)) w
  | [], _ => by simp
  | f :: l, h => by
    obtain ⟨k, hk⟩ := h f (List.mem_cons_self ..)
    have ih := mapM_places w l (fun g hg => h g (List.mem_cons_of_mem _ hg))
    simp only [List.mapM_cons, Sem.run_bind, szT_run hk w, Result.andThen_ok, Sem.run_pure, ih, List.map_cons, szT_cells hk]
theorem fill_congr {p q : Nat → Option (Nat × Nat)} : ∀ {parts : List (Nat × SV)} {cells r : List SV}, fillX p cells parts = some r → (∀ i x, p i = some x → q i = some x) → fillX q cells parts = some r
  | [], _, _, h, _ => h
  | (i, s) :: parts, cells, r, h, hpq => by
    simp only [fillX] at h ⊢
    cases hp : p i with
    | none => rw [hp] at h; cases h
    | some x =>
      obtain ⟨off, size⟩ := x
      rw [hp] at h
      rw [hpq i _ hp]
      simp only at h ⊢
      split at h
      · exact fill_congr h hpq
      · cases h
theorem buildX_run {t : TypeId} {parts : List (Nat × SV)} {vparts : Array (Nat × Value)} {s : SV} (h : buildX P t parts = some s) (hp : Two (fun p q => p.1 = q.1 ∧ den ρ p.2 = some q.2) parts vparts.toList) : ∃ x, den ρ s = some x ∧ ∀ w, (Instr.build t vparts).run P w = .ok x w := by
  unfold buildX at h
  split at h
  · next fs hu =>
    split at h
    case h_2 => cases h
    next hfa =>
    have hall : ∀ f ∈ fs, ∃ k, szT P f.type = some k := fun f hf => Option.isSome_iff_exists.1 (Array.all_eq_true_iff_forall_mem.1 hfa f hf)
    simp only [Option.bind_eq_some_iff, Option.map_eq_some_iff] at h
    obtain ⟨zl, hz, r, hr, rfl⟩ := h
    obtain ⟨z, hz1, hz2⟩ := zeroT_run (ρ := ρ) hz
    have hr' := fill_congr (q := fun i => (fs.map fun f => (f.offset, P.cellsOf f.type))[i]?) hr (fun i x hx => by
      show (fs.map fun f => (f.offset, P.cellsOf f.type))[i]? = some x
      rw [Array.getElem?_map]
      cases hf : fs[i]? with
      | none => rw [hf] at hx; cases hx
      | some f =>
        rw [hf] at hx
        simp only [Option.map_eq_some_iff] at hx
        obtain ⟨k, hk, rfl⟩ := hx
        simp [szT_cells hk])
    obtain ⟨rs, h1, h2⟩ := fill_run hr' hz1 hp
    clear hr hr'
    refine ⟨_, den_agg.2 ⟨rs, h1, rfl⟩, fun w => ?_⟩
    simp only [Instr.build, Sem.run_bind, hz2 w, Result.andThen_ok, run_underlying hu w]
    rw [Array.mapM_eq_mapM_toList]
    simp only [Sem.run_map, mapM_places w fs.toList (fun f hf => hall f (by simpa using hf)), Result.andThen_ok]
    have e : (fs.toList.map fun f => (f.offset, P.cellsOf f.type)).toArray = fs.map fun f => (f.offset, P.cellsOf f.type) := by
      apply Array.ext'
      simp
    rw [e]
    simp only [Array.toArray_toList] at h2
    rw [h2]
    rfl
  · next n elem hu =>
    simp only [Option.bind_eq_some_iff, Option.map_eq_some_iff] at h
    obtain ⟨zl, hz, k, hk, r, hr, rfl⟩ := h
    obtain ⟨z, hz1, hz2⟩ := zeroT_run (ρ := ρ) hz
    obtain ⟨rs, h1, h2⟩ := fill_run hr hz1 hp
    refine ⟨_, den_agg.2 ⟨rs, h1, rfl⟩, fun w => ?_⟩
    simp only [Instr.build, Sem.run_bind, hz2 w, Result.andThen_ok, run_underlying hu w, szT_run hk w]
    simp only [Array.toArray_toList] at h2
    rw [h2]
    rfl
  · cases h

/-- The value of cells of a type. -/
def ofCells (P : Program) (t : TypeId) (vs : List Value) : Value := match aggT P t with
  | some true => .agg vs.toArray
  | _ => vs.headD undef
theorem part_cells {t : TypeId} {k off : Nat} {b : Bool} {vs : List Value} (hk : szT P t = some k) (hb : aggT P t = some b) (hl : off + k ≤ vs.length) (h1 : b = false → k = 1) (w : World) :
    (part t vs.toArray off).run P w = .ok (ofCells P t ((vs.drop off).take k)) w := by
  unfold part ofCells
  rw [hb]
  simp only [Sem.run_bind, aggT_run hb w, Result.andThen_ok]
  cases b with
  | true =>
    simp only [if_true, Sem.run_bind, szT_run hk w, Result.andThen_ok, Sem.run_pure]
    congr 2
    apply Array.ext'
    simp
  | false =>
    obtain rfl := h1 rfl
    simp only [Bool.false_eq_true, if_false]
    rw [List.getElem?_toArray, List.getElem?_eq_getElem (by omega)]
    simp only [Sem.run_pure]
    congr 1
    cases hd : vs.drop off with
    | nil => have := congrArg List.length hd; simp at this; omega
    | cons x l =>
      have : vs[off]? = some x := by
        have := congrArg List.head? hd
        rw [List.head?_drop] at this
        exact this
      rw [List.getElem?_eq_getElem (by omega)] at this
      injection this
theorem eqX_run : ∀ {n : Nat} {t : TypeId} {xs ys : List SV} {b : Bool} {us vs : List Value}, eqX P n t xs ys = some b → denL ρ xs = some us → denL ρ ys = some vs → ∀ d, n ≤ d → ∀ w, (Op.equalIn d t (ofCells P t us) (ofCells P t vs)).run P w = .ok b w
  | 0, _, _, _, _, _, _, h, _, _, _, _, _ => by simp [eqX] at h
  | n + 1, t, xs, ys, b, us, vs, h, hx, hy, d, hd, w => by
    obtain ⟨d, rfl⟩ : ∃ e, d = e + 1 := ⟨d - 1, by omega⟩
    simp only [eqX] at h
    split at h
    · next hu =>
      split at h <;> try cases h
      simp only [denL, den, Option.some.injEq] at hx hy
      subst hx
      subst hy
      simp only [ofCells, aggT, hu, List.headD_cons]
      exact run_equalIn_bool' w d t _ _ hu
    · next k0 hu =>
      split at h <;> try cases h
      next k a k' c =>
      split at h <;> cases h
      next hk =>
      subst hk
      simp only [denL, den, Option.some.injEq] at hx hy
      subst hx
      subst hy
      simp only [ofCells, aggT, hu, List.headD_cons]
      exact run_equalIn_int w d t _ k0 _ _ hu
    · next hu =>
      split at h <;> try cases h
      simp only [denL, den, Option.some.injEq] at hx hy
      subst hx
      subst hy
      simp only [ofCells, aggT, hu, List.headD_cons]
      rw [run_equalIn_string w d t _ _ hu, beq_toListBytes]
    · next fs hu =>
      split at h
      · cases h
      · next hst =>
        have hf : P.fieldsOf t = fs := by simp [Program.fieldsOf, hu]
        simp only [ofCells, aggT, hu]
        rw [run_equalIn_struct w d t _ _ (by rw [hf]; exact hu) hst, hf]
        clear hu hf hst
        generalize fs.toList = l at h
        induction l generalizing b with
        | nil =>
          simp only [eqF, Option.some.injEq] at h
          subst h
          rfl
        | cons f l ih =>
          simp only [eqF] at h
          simp only [Op.eqFields]
          split at h
          · next hne =>
            simp only [bne_iff_ne, ne_eq] at hne
            rw [if_pos hne]
            split at h <;> try cases h
            next p q hp hq =>
            obtain ⟨k, bb, r1, r2, hk, hb, h1k, h1, h2, h3⟩ : ∃ k bb r1 r2, szT P f.type = some (k + 1) ∧ aggT P f.type = some bb ∧ (bb = false → k = 0) ∧ cut xs f.offset (k + 1) = some r1 ∧ cut ys f.offset (k + 1) = some r2 ∧ eqX P n f.type r1 r2 = some p := by
              split at hp <;> try cases hp
              next k g hk hg =>
              split at hp <;> try cases hp
              next r1 r2 he h1 h2 =>
              refine ⟨k, g, r1, r2, hk, hg, fun e => ?_, h1, h2, hp⟩
              subst e
              simp only [Bool.false_or] at he
              exact Nat.eq_of_beq_eq_true he
            obtain ⟨rfl, h4⟩ := cut_ok h1
            obtain ⟨rfl, h5⟩ := cut_ok h2
            have hxl := denL_length hx
            have hyl := denL_length hy
            have hrec := eqX_run h3 (denL_take (denL_drop hx f.offset) (k + 1)) (denL_take (denL_drop hy f.offset) (k + 1)) d (by omega) w
            simp only [List.length_take, List.length_drop] at h4 h5
            have e1 := part_cells (P := P) (off := f.offset) (vs := us) hk hb (by omega) (fun e => by rw [h1k e]) w
            have e2 := part_cells (P := P) (off := f.offset) (vs := vs) hk hb (by omega) (fun e => by rw [h1k e]) w
            simp only [Sem.run_bind, e1, e2, Result.andThen_ok, hrec, Sem.run_ite, Sem.run_pure]
            cases p with
            | true => simpa using ih _ hq
            | false => rfl
          · next hne =>
            simp only [bne_eq_false_iff_eq] at hne
            rw [if_neg (by simp [hne])]
            exact ih _ h
    · cases h
end
end Go.Proofs.Ytjediiajmnlonaa
