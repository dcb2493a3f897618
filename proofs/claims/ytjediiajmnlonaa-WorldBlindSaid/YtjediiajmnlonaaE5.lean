/- What the executor says of operations that neither read nor write, the machine does. No condition. -/
import Derived.Test.YtjediiajmnlonaaE4
import Derived.Laws.StructEq
import Derived.Deep.AppendSrc
import Derived.Deep.MidRow
import Derived.ChangeKeysEq
namespace Go.Proofs.Ytjediiajmnlonaa

def Ev (ρ : Names) (ev : Operand → Option SV) (a : Act) : Prop := ∀ x s, ev x = some s → den ρ s = some (a.eval x)

section
variable {P : Program}
theorem pureRun_run {α : Type} : ∀ {m : Sem α} {x : α}, pureRun P m = some x → ∀ w, m.run P w = .ok x w
  | .pure a, x, h, w => by
    simp only [pureRun, Option.some.injEq] at h
    rw [h]
    rfl
  | .program k, x, h, w => by
    simp only [pureRun] at h
    exact pureRun_run h w
  | .load _ _ _, _, h, _ | .store _ _ _ _, _, h, _ | .new _ _, _, h, _ | .shape _ _, _, h, _ | .freeze _ _ _, _, h, _ | .frozen _ _, _, h, _ | .getObj _ _, _, h, _
  | .setObj _ _ _, _, h, _ | .choose _ _, _, h, _ | .sys _ _, _, h, _ | .mark _ _, _, h, _ | .halt _, _, h, _ => by simp [pureRun] at h
theorem szT_size {t : TypeId} {k : Nat} (h : szT P t = some k) : ∃ i, P.info? t = some i ∧ i.size = k := by
  unfold szT at h
  cases hi : P.info? t with
  | none => rw [hi] at h; cases h
  | some i => rw [hi] at h; exact ⟨i, rfl, by simpa using h⟩
theorem szT_run {t : TypeId} {k : Nat} (h : szT P t = some k) (w : World) : (sizeOf t).run P w = .ok k w := by
  obtain ⟨i, hi, rfl⟩ := szT_size h
  simp [sizeOf, run_typeInfo w hi]
theorem szT_cells {t : TypeId} {k : Nat} (h : szT P t = some k) : P.cellsOf t = k := by
  obtain ⟨i, hi, rfl⟩ := szT_size h
  simp [Program.cellsOf, hi]
theorem aggT_run {t : TypeId} {b : Bool} (h : aggT P t = some b) (w : World) : (isAgg t).run P w = .ok b w := by
  unfold aggT at h
  cases hu : P.underlying t with
  | none => rw [hu] at h; cases h
  | some d =>
    rw [hu] at h
    unfold isAgg
    rw [Sem.run_bind, run_underlying hu w]
    cases d <;> simp_all
theorem cut_ok {l r : List SV} {off k : Nat} (h : cut l off k = some r) : r = (l.drop off).take k ∧ r.length = k := by
  unfold cut at h
  split at h
  · next hb =>
    injection h with h
    have hb' := Nat.eq_of_beq_eq_true hb
    subst h
    exact ⟨rfl, hb'⟩
  · cases h
theorem part_run {ρ : Names} {t : TypeId} {l : List SV} {off : Nat} {s : SV} {vs : List Value} (h : partX P t l off = some s) (hl : denL ρ l = some vs) :
    ∃ x, den ρ s = some x ∧ ∀ w, (part t vs.toArray off).run P w = .ok x w := by
  unfold partX at h
  cases ha : aggT P t with
  | none => rw [ha] at h; cases h
  | some b =>
    rw [ha] at h
    cases b with
    | true =>
      simp only [Option.bind_eq_some_iff, Option.map_eq_some_iff] at h
      obtain ⟨k, hk, r, hr, rfl⟩ := h
      obtain ⟨rfl, hr⟩ := cut_ok hr
      refine ⟨_, den_agg.2 ⟨_, denL_take (denL_drop hl off) k, rfl⟩, fun w => ?_⟩
      simp only [part, Sem.run_bind, aggT_run ha w, Result.andThen_ok, if_true, szT_run hk w, Sem.run_pure]
      congr 2
      apply Array.ext'
      simp
    | false =>
      simp only at h
      obtain ⟨x, hx, hg⟩ := denL_get hl h
      refine ⟨x, hx, fun w => ?_⟩
      simp only [part, Sem.run_bind, aggT_run ha w, Result.andThen_ok, Bool.false_eq_true, if_false]
      rw [List.getElem?_toArray, hg]
      rfl
theorem fieldOf_ok {t : TypeId} {f : Nat} {fd : Field} (h : fieldOf P t f = some fd) : ∃ fs, P.underlying t = some (.struct fs) ∧ fs[f]? = some fd := by
  unfold fieldOf at h
  split at h
  · next fs hu => exact ⟨fs, hu, h⟩
  · cases h
theorem aggV {ρ : Names} {y : SV} {v : Value} (h : isAggV y = true) (hy : den ρ y = some v) : v = .agg v.cells := by
  cases y with
  | agg l =>
    obtain ⟨vs, _, rfl⟩ := den_agg.1 hy
    rfl
  | v x =>
    simp only [den, Option.some.injEq] at hy
    subst hy
    cases x <;> first | rfl | cases h
  | _ => cases h
theorem fieldX_run {ρ : Names} {t : TypeId} {f : Nat} {y s : SV} {v : Value} (h : fieldX P t f y = some s) (hy : den ρ y = some v) : ∃ x, den ρ s = some x ∧ ∀ w, (Instr.field t v f).run P w = .ok x w := by
  unfold fieldX at h
  cases hf : fieldOf P t f with
  | none => rw [hf] at h; cases h
  | some fd =>
    rw [hf] at h
    obtain ⟨fs, hu, hfs⟩ := fieldOf_ok hf
    simp only at h
    split at h
    · next ha =>
      obtain ⟨x, h1, h2⟩ := part_run h (den_cells hy)
      refine ⟨x, h1, fun w => ?_⟩
      rw [aggV ha hy]
      simp only [Instr.field, Sem.run_bind, run_underlying hu w, Result.andThen_ok, hfs, asAgg, Sem.run_pure]
      simpa using h2 w
    · cases h
theorem add_at (b o k : Nat) : (⟨b, o, none⟩ : Addr).add k = ⟨b, o + k, none⟩ := Addr.add_mid b o k
theorem fieldAddrX_run {ρ : Names} {t : TypeId} {f : Nat} {y s : SV} {v : Value} (h : fieldAddrX P t f y = some s) (hy : den ρ y = some v) : ∃ x, den ρ s = some x ∧ ∀ w, (Instr.fieldAt t v f).run P w = .ok x w := by
  unfold fieldAddrX at h
  cases hf : fieldOf P t f with
  | none => rw [hf] at h; cases h
  | some fd =>
    rw [hf] at h
    obtain ⟨fs, hu, hfs⟩ := fieldOf_ok hf
    simp only at h
    split at h
    · next k hk =>
      have key : ∀ b o, v = .pointer (some ⟨b, o, none⟩) → ∀ w, (Instr.fieldAt t v f).run P w = .ok (.pointer (some ⟨b, o + fd.offset, none⟩)) w := by
        rintro b o rfl w
        simp only [Instr.fieldAt, Sem.run_bind, run_underlying hu w, Result.andThen_ok, hfs, Instr.sureAddr, Sem.run_pure, fieldPlace, szT_run hk w, Nat.succ_ne_zero, if_false, add_at]
      split at h <;> try cases h
      · simp only [den, Option.map_eq_some_iff] at hy ⊢
        obtain ⟨e, he, rfl⟩ := hy
        exact ⟨_, ⟨e, he, rfl⟩, fun w => by rw [key _ _ rfl w, Nat.add_assoc]⟩
      · simp only [den] at hy ⊢
        split at hy <;> try cases hy
        next e he =>
        split at hy <;> cases hy
        next hlt =>
        exact ⟨_, by simp [hlt]; rfl, fun w => by rw [key _ _ rfl w, Nat.add_assoc]⟩
    · cases h

inductive Two {α β : Type} (R : α → β → Prop) : List α → List β → Prop where
  | nil : Two R [] []
  | cons {a : α} {b : β} {l : List α} {m : List β} (h : R a b) (t : Two R l m) : Two R (a :: l) (b :: m)
theorem mapM_two {α β γ : Type} {f : α → Option β} {g : α → γ} {R : β → γ → Prop} (hR : ∀ a b, f a = some b → R b (g a)) : ∀ {l : List α} {r : List β}, l.mapM f = some r → Two R r (l.map g)
  | [], r, h => by
    simp only [List.mapM_nil, Option.pure_def, Option.some.injEq] at h
    subst h
    exact .nil
  | a :: l, r, h => by
    simp only [List.mapM_cons, Option.bind_eq_bind, Option.bind_eq_some_iff, Option.pure_def, Option.some.injEq] at h
    obtain ⟨b, hb, r', hr, rfl⟩ := h
    exact .cons (hR a b hb) (mapM_two hR hr)
theorem denL_two {ρ : Names} : ∀ {l : List SV} {vs : List Value}, Two (fun s x => den ρ s = some x) l vs → denL ρ l = some vs
  | _, _, .nil => rfl
  | _, _, .cons h t => denL_cons.2 ⟨_, _, h, denL_two t, rfl⟩
theorem ev_list {ρ : Names} {ev : Operand → Option SV} {a : Act} (hev : Ev ρ ev a) {l : List Operand} {r : List SV} (h : l.mapM ev = some r) : denL ρ r = some (l.map a.eval) :=
  denL_two (mapM_two (R := fun s x => den ρ s = some x) (fun x s hs => hev x s hs) h)
theorem fill_run {ρ : Names} {place : Nat → Option (Nat × Nat)} : ∀ {parts : List (Nat × SV)} {vparts : List (Nat × Value)} {cells r : List SV} {vs : List Value}, fillX place cells parts = some r → denL ρ cells = some vs →
    Two (fun p q => p.1 = q.1 ∧ den ρ p.2 = some q.2) parts vparts → ∃ rs, denL ρ r = some rs ∧ Instr.fill place vs.toArray vparts = some rs.toArray
  | [], vparts, cells, r, vs, h, hc, hp => by
    cases hp
    simp only [fillX, Option.some.injEq] at h
    subst h
    exact ⟨vs, hc, rfl⟩
  | (i, s) :: parts, vparts, cells, r, vs, h, hc, hp => by
    cases hp with
    | cons h1 h2 =>
      rename_i q qs
      obtain ⟨j, x⟩ := q
      obtain ⟨rfl, hx⟩ := h1
      simp only [fillX] at h
      cases hpl : place i with
      | none => rw [hpl] at h; cases h
      | some os =>
        obtain ⟨off, size⟩ := os
        rw [hpl] at h
        simp only at h
        split at h
        · next hb =>
          simp only [Bool.and_eq_true] at hb
          have hsz := Nat.eq_of_beq_eq_true hb.1
          have hle := Nat.le_of_ble_eq_true hb.2
          have hcx := den_cells hx
          have hl := denL_length hcx
          have hlv := denL_length hc
          simp only [Array.length_toList] at hl
          have e : denL ρ (splice cells off s.cells) = some (vs.take off ++ (x.cells.toList ++ vs.drop (off + x.cells.size))) := by
            unfold splice
            refine denL_append.2 ⟨_, _, denL_take hc off, denL_append.2 ⟨_, _, hcx, ?_, rfl⟩, rfl⟩
            rw [← hl]
            exact denL_drop hc _
          obtain ⟨rs, h3, h4⟩ := fill_run h e h2
          refine ⟨rs, h3, ?_⟩
          simp only [Instr.fill, hpl]
          rw [if_neg (by simp; omega)]
          rw [← h4]
          congr 1
          have key : ∀ (l : List Value) (k : Nat) (cur : Array Value), off + k + l.length ≤ cur.size → ((l.zipIdx k).foldl (fun cs (p : Value × Nat) => cs.setIfInBounds (off + p.2) p.1) cur).toList = cur.toList.take (off + k) ++ (l ++ cur.toList.drop (off + k + l.length)) := by
            intro l
            induction l with
            | nil => intro k cur _; simp
            | cons v l ih =>
              intro k cur hk
              simp only [List.length_cons] at hk
              rw [List.zipIdx_cons, List.foldl_cons, ih (k + 1) _ (by simp; omega)]
              have e := list_seg_step cur.toList (off + k) v l (by simp; omega)
              simpa [Array.toList_setIfInBounds, Nat.add_assoc, List.append_assoc] using e
          apply Array.ext'
          have := key x.cells.toList 0 vs.toArray (by simp; omega)
          rw [← Array.foldl_toList, Array.toList_zipIdx]
          simpa using this
        · cases h
end
end Go.Proofs.Ytjediiajmnlonaa
