/- What the executor says of operations that read and write, the machine does: slices. No condition. -/
import Derived.Test.YtjediiajmnlonaaE9
namespace Go.Proofs.Ytjediiajmnlonaa

section
variable {R : Type} {A : RepAt R} {P : Program} {B : Nat} {F : Nat → Prop} {st st1 st' : St R} {ρ ρ' : Names} {own own' : Nat → List Nat} {w w' : World}

theorem wrap_small (n : Int) (h0 : 0 ≤ n) (h1 : n ≤ 140737488351232) : IntKind.i64.wrap n = n := by
  unfold IntKind.wrap
  simp [IntKind.bits, IntKind.signed]
  omega
theorem makeSlice_s {t elem : TypeId} {n c : Nat} {i : TypeInfo} {z : List SV} (hu : P.underlying t = some (.slice elem)) (hi : P.info? elem = some i) (hb : (Nat.ble n c && Nat.ble (c * i.bytes) 140737488351232 && Nat.ble c 140737488351232 && !Nat.beq i.size 0) = true)
    (hz : zerosX P elem (c * i.size) = some z) : Fn st (st.new (.row z elem)) ∧ ∀ B F ρ own w k k', Sit A P B F st (st.new (.row z elem)) ρ own w →
    ∃ y ρ' own' w', (Instr.makeSlice t (.int k (n : Int)) (.int k' (c : Int))).run P w = .ok y w' ∧ den ρ' (.sl st.nx 0 0 n) = some y ∧ Tr A P B F st (st.new (.row z elem)) ρ own w ρ' own' w' := by
  refine ⟨Fn.new _ _, fun B F ρ own w k k' s => ?_⟩
  simp only [Bool.and_eq_true, Bool.not_eq_true'] at hb
  obtain ⟨⟨⟨h1, h2⟩, h3⟩, h4⟩ := hb
  have h1 := Nat.le_of_ble_eq_true h1
  have h2 := Nat.le_of_ble_eq_true h2
  have h3 := Nat.le_of_ble_eq_true h3
  have h4 := Nat.ne_of_beq_eq_false h4
  obtain ⟨zv, hzv, rfl, hzl⟩ := zerosX_run hz
  have hc : P.cellsOf elem = i.size := by simp [Program.cellsOf, hi]
  have hk : szT P elem = some i.size := by simp [szT, hi]
  obtain ⟨ρ', own', ht, he⟩ := Tr.newRow (w' := w.alloc (.cells ((List.range (c * i.size)).map fun j => zv.cells[j % zv.cells.size]!).toArray elem)) s (ModP.refl _ _) rfl rfl (denL_vs (ρ := ρ) _) (fun i _ => by simp) c (by rw [hc]; simp) (by rw [hc]; simp)
  have e : ((List.range (c * i.size)).map fun j => zv.cells[j % zv.cells.size]!).toArray = (Array.range (c * i.size)).map (zv.cells[· % zv.cells.size]!) := by
    apply Array.ext'
    simp
  have w1 : IntKind.i64.wrap (n : Int) = n := wrap_small _ (by omega) (by omega)
  have w2 : IntKind.i64.wrap (c : Int) = c := wrap_small _ (by omega) (by omega)
  refine ⟨_, ρ', own', _, ?_, by simp [den, he]; rfl, ht⟩
  have hby : (i.bytes : Int) * (c : Int) ≤ 140737488351232 := by
    have : ((c * i.bytes : Nat) : Int) ≤ 140737488351232 := by omega
    rw [Int.natCast_mul, Int.mul_comm] at this
    exact this
  have hn1 : ¬ ((c : Int) < 0) := by omega
  have hn2 : ¬ ((2 : Int) ^ 48 < (i.bytes : Int) * (c : Int)) := by omega
  have hn3 : ¬ ((n : Int) < 0) := by omega
  have hn4 : ¬ ((c : Int) < (n : Int)) := by omega
  have hroom : ¬ (c * i.bytes > roomBytes) := by unfold roomBytes; omega
  simp only [Instr.makeSlice, Sem.run_bind, run_underlying hu w, Result.andThen_ok, asInt, asIntOf, Sem.run_pure, run_typeInfo w hi, w1, w2, gt_iff_lt, hn1, hn2, hn3, hn4, decide_false, Bool.or_false, Bool.false_eq_true, if_false, Sem.run_ite, askRoom, Int.toNat_natCast, hroom,
    szT_run hk w]
  by_cases h0 : c * i.size = 0
  · rw [if_pos h0]
    rw [h0] at e ⊢
    have e0 : (Array.range 0).map (zv.cells[· % zv.cells.size]!) = (#[] : Array Value) := by simp
    have e1 : ∀ f : Nat → Value, (Array.range 0).map f = (#[] : Array Value) := fun f => by simp
    simp only [Result.andThen_ok, e1, newRow_run]
    rfl
  · rw [if_neg h0]
    simp only [hzv w, Result.andThen_ok, newRow_run, ← e]

theorem idx_s {t : TypeId} {x iv s : SV} (h : idxX P t x iv st = .ok s st') : Quiet st st' ∧ ∀ B F ρ own w a b, Sit A P B F st st' ρ own w → den ρ x = some a → den ρ iv = some b →
    ∃ y, (Instr.indexAt t a b).run P w = .ok y w ∧ den ρ s = some y := by
  unfold idxX at h
  split at h
  · next k i =>
    generalize hu : P.underlying t = du at h
    split at h
    · next elem =>
      split at h
      · next n off idx len =>
        obtain ⟨_, st1, h1, h2⟩ := bind_ok.1 h
        obtain ⟨q, hq⟩ := need_ok h1
        obtain ⟨sz, _, h3, h2⟩ := bind_ok.1 h2
        obtain ⟨hsz, rfl⟩ := opt_ok.1 h3
        obtain ⟨rfl, rfl⟩ := ret_ok.1 h2
        refine ⟨q, fun B F ρ own w a b s hx hi => ?_⟩
        have hlt := hq s.ask
        simp only [decide_eq_true_eq] at hlt
        simp only [den, Option.map_eq_some_iff, Option.some.injEq] at hx hi
        obtain ⟨e, he, rfl⟩ := hx
        subst hi
        refine ⟨.pointer (some ⟨e.b, e.off + off + i.toNat * sz, none⟩), ?_, by simp [den, he, Nat.add_assoc]⟩
        simp only [Instr.indexAt, asIntOf, Sem.run_bind, Sem.run_pure, Result.andThen_ok, run_underlying hu w, hlt, and_self, if_true, szT_run hsz w, add_at]
      · next n len =>
        obtain ⟨c, st1, h1, h2⟩ := bind_ok.1 h
        obtain ⟨hc, rfl⟩ := getC_ok.1 h1
        split at h2
        · next f len' t' =>
          obtain ⟨_, _, h3, h4⟩ := bind_ok.1 h2
          obtain ⟨ht, rfl⟩ := want_ok.1 h3
          simp only [Bool.and_eq_true] at ht
          obtain ⟨ht, hsz⟩ := ht
          obtain ⟨_, st2, h5, h6⟩ := bind_ok.1 h4
          obtain ⟨q, hq⟩ := need_ok h5
          obtain ⟨rfl, rfl⟩ := ret_ok.1 h6
          have ht := Nat.eq_of_beq_eq_true ht
          clear h h1 h2 h3 h4 h5 h6
          subst ht
          refine ⟨Quiet.get.trans q, fun B F ρ own w a b s hx hi => ?_⟩
          have hlt := hq s.ask
          simp only [decide_eq_true_eq] at hlt
          obtain ⟨g1, g2, g3⟩ := hlt
          subst g3
          obtain ⟨e, he, _, h4, h5, h6, _⟩ := s.li.at_ n _ (s.log n (q.fr n (mem_ins.2 (.inl rfl)))) hc
          simp only [den, he, Option.map_some, Option.some.injEq] at hx hi
          subst hx
          subst hi
          obtain ⟨h7, _, _⟩ := h6 (by omega)
          obtain ⟨ii, hii⟩ : ∃ ii, P.info? t' = some ii := by
            cases hh : P.info? t' with
            | none => rw [hh] at hsz; cases hsz
            | some ii => exact ⟨ii, rfl⟩
          refine ⟨.pointer (some ⟨e.b, e.off + i.toNat * e.sz, none⟩), ?_, ?_⟩
          · simp only [Instr.indexAt, asIntOf, Sem.run_bind, Sem.run_pure, Result.andThen_ok, run_underlying hu w, g1, g2, and_self, if_true, run_sizeOf w hii, h7, add_at, h5]
          · have : i.toNat < e.len := by omega
            simp [den, he, this]
        · exact (fail_ok.1 h2).elim
      · exact (fail_ok.1 h).elim
    · next len elem =>
      split at h
      · next n off =>
        obtain ⟨_, st1, h1, h2⟩ := bind_ok.1 h
        obtain ⟨q, hq⟩ := need_ok h1
        obtain ⟨sz, _, h3, h2⟩ := bind_ok.1 h2
        obtain ⟨hsz, rfl⟩ := opt_ok.1 h3
        obtain ⟨rfl, rfl⟩ := ret_ok.1 h2
        refine ⟨q, fun B F ρ own w a b s hx hi => ?_⟩
        have hlt := hq s.ask
        simp only [decide_eq_true_eq] at hlt
        simp only [den, Option.map_eq_some_iff, Option.some.injEq] at hx hi
        obtain ⟨e, he, rfl⟩ := hx
        subst hi
        refine ⟨.pointer (some ⟨e.b, e.off + off + i.toNat * sz, none⟩), ?_, by simp [den, he, Nat.add_assoc]⟩
        simp only [Instr.indexAt, asIntOf, Sem.run_bind, Sem.run_pure, Result.andThen_ok, run_underlying hu w, Instr.sureAddr, hlt, and_self, if_true, szT_run hsz w, add_at]
      · exact (fail_ok.1 h).elim
    · exact (fail_ok.1 h).elim
  · exact (fail_ok.1 h).elim
end
end Go.Proofs.Ytjediiajmnlonaa
