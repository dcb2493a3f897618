/- What the executor says of operations that read and write, the machine does: one by one. No condition. -/
import Derived.Test.YtjediiajmnlonaaE8
import Derived.Below
namespace Go.Proofs.Ytjediiajmnlonaa

section
variable {R : Type} {A : RepAt R} {P : Program} {B : Nat} {F : Nat → Prop} {st st1 st' : St R} {ρ ρ' : Names} {own own' : Nat → List Nat} {w w' : World}

theorem quiet_new {st st1 : St R} (q : Quiet st st1) (c : Chunk R) : Fn st (st1.new c) := q.fn.trans (Fn.new st1 c)
theorem hget_quiet {st st1 : St R} (q : Quiet st st1) {n : Nat} {c : Chunk R} (h : hget n st.hp = some c) : hget n st1.hp = some c := by rw [q.hp]; exact h

theorem alloc_mod (w : World) (o : Obj) : ModP (fun _ => False) w (w.alloc o) := ⟨rfl, rfl, rfl, by simp, fun k hk _ => RowKit.Below.heap_alloc w o k hk⟩
/-- A new row. -/
theorem Tr.newRow {l : List SV} {t : TypeId} (s : Sit A P B F st (st.new (.row l t)) ρ own w) {w1 w' : World} (hw : ModP (fun _ => False) w w1) (hz : w1.heap.size = w.heap.size) {cs : Array Value} (h : w' = w1.alloc (.cells cs t)) {vs : List Value}
    (hd : denL ρ l = some vs) (hcs : ∀ i, i < vs.length → cs[i]? = vs[i]?) (cap : Nat) (h1 : vs.length ≤ cap * P.cellsOf t) (h2 : cap * P.cellsOf t ≤ cs.size) :
    ∃ ρ' own', Tr A P B F st (st.new (.row l t)) ρ own w ρ' own' w' ∧ ρ' st.nx = some ⟨w.heap.size, cap, 0, 0, 0, none⟩ := by
  subst h
  refine ⟨_, _, Tr.new s ⟨w.heap.size, cap, 0, 0, 0, none⟩ [w.heap.size] (hw.trans (alloc_mod w1 _) (fun _ _ h => h)) ⟨rfl, cs, vs, ?_, denL_mono (Names.put_le (s.fresh _ (newN_new.2 rfl))) _ _ hd, fun i hi => by rw [Nat.zero_add]; exact hcs i hi, h1, by simpa using h2⟩ (fun b hb => ?_), Names.put_same⟩
  · rw [← hz]
    exact heap_alloc_new w1 _
  · rw [List.mem_singleton] at hb
    subst hb
    simp [hz]

theorem newRow_run {t : TypeId} {cs : Array Value} : (Go.newRow t cs).run P w = .ok ⟨w.heap.size, 0, none⟩ (w.alloc (.cells cs t)) := rfl
theorem zeroT_len {t : TypeId} {z : List SV} (h : zeroT P t = some z) : ∃ v, z = v.cells.toList.map .v ∧ ∀ w, (zeroValue t).run P w = .ok v w := by
  simp only [zeroT, Option.map_eq_some_iff, Option.bind_eq_some_iff] at h
  obtain ⟨z, ⟨i, hi, hz⟩, rfl⟩ := h
  exact ⟨z, rfl, fun w => by simp [zeroValue, run_typeInfo w hi, hz]⟩

theorem store_s {t : TypeId} {v x : SV} {u : Unit} (h : storeX P t v x st = .ok u st') : Fn st st' ∧ ∀ B F ρ own w a b, Sit A P B F st st' ρ own w → den ρ x = some a → den ρ v = some b →
    ∃ ρ' own' w', (Instr.storeAt t a b).run P w = .ok () w' ∧ Tr A P B F st st' ρ own w ρ' own' w' := by
  unfold storeX at h
  split at h
  · next n off =>
    obtain ⟨c, st1, h1, h2⟩ := bind_ok.1 h
    obtain ⟨hc, rfl⟩ := getC_ok.1 h1
    split at h2
    · next l t0 =>
      obtain ⟨k, _, h3, h2⟩ := bind_ok.1 h2
      obtain ⟨hk, rfl⟩ := opt_ok.1 h3
      obtain ⟨_, _, h3, h2⟩ := bind_ok.1 h2
      obtain ⟨hb, rfl⟩ := want_ok.1 h3
      obtain ⟨_, rfl⟩ := setC_ok.1 h2
      simp only [Bool.and_eq_true] at hb
      obtain ⟨⟨hb1, hb2⟩, hb3⟩ := hb
      have hb1 := Nat.eq_of_beq_eq_true hb1
      have hb2 := Nat.le_of_ble_eq_true hb2
      have q : Quiet st { st with fr := insN n st.fr } := Quiet.get
      refine ⟨q.fn.trans (Fn.set _ n _ _ hc), fun B F ρ own w a b s hx hv => ?_⟩
      have s1 := s.of_quiet q
      have hcv := den_cells hv
      have hlen := denL_length hcv
      simp only [den, Option.map_eq_some_iff] at hx
      obtain ⟨e, he, rfl⟩ := hx
      obtain ⟨e', he', hat⟩ := s1.li.at_ n _ (s1.log n (mem_ins.2 (.inl rfl))) hc
      rw [he] at he'
      injection he' with he'
      subst he'
      obtain ⟨w', hr, hm, hat'⟩ := row_write (off := off) hat hcv (by omega) hb3
      refine ⟨_, _, w', ?_, Tr.of_quiet q (Tr.set s1 hc he (own n) hm hat' (fun b hb => .inl hb))⟩
      simp only [Array.length_toList] at hlen
      simp only [Instr.storeAt, Instr.sureAddr, storeVar, Sem.run_bind, Sem.run_pure, Result.andThen_ok, szT_run hk w, Sem.run_ite]
      rw [if_neg (by omega)]
      exact hr
    · exact (fail_ok.1 h2).elim
  · exact (fail_ok.1 h).elim

theorem alloc_s {t : TypeId} {z : List SV} {k : Nat} (hz : zeroT P t = some z) (hk : szT P t = some k) (hl : z.length = k) : Fn st (st.new (.row z t)) ∧ ∀ B F ρ own w, Sit A P B F st (st.new (.row z t)) ρ own w →
    ∃ y ρ' own' w', (Instr.alloc t true (.tuple #[])).run P w = .ok y w' ∧ den ρ' (.ptr st.nx 0) = some y ∧ Tr A P B F st (st.new (.row z t)) ρ own w ρ' own' w' := by
  refine ⟨Fn.new _ _, fun B F ρ own w s => ?_⟩
  obtain ⟨v, rfl, hv⟩ := zeroT_len hz
  simp only [List.length_map, Array.length_toList] at hl
  obtain ⟨ρ', own', ht, he⟩ := Tr.newRow (w' := w.alloc (.cells v.cells t)) s (ModP.refl _ _) rfl rfl (denL_vs (ρ := ρ) _) (fun i _ => by simp) 1 (by rw [szT_cells hk]; simp; omega) (by rw [szT_cells hk]; omega)
  refine ⟨_, ρ', own', _, ?_, by simp [den, he]; rfl, ht⟩
  simp only [Instr.alloc, Sem.run_bind, hv w, Result.andThen_ok, newVar, newRow_run, Sem.run_pure]

theorem box_s {t : TypeId} {v : SV} {k : Nat} (hk : szT P t = some k) (hl : v.cells.length = k) : Fn st (st.new (.row v.cells t)) ∧ ∀ B F ρ own w b, Sit A P B F st (st.new (.row v.cells t)) ρ own w → den ρ v = some b →
    ∃ y ρ' own' w', (Instr.box t b).run P w = .ok y w' ∧ den ρ' (.ptr st.nx 0) = some y ∧ Tr A P B F st (st.new (.row v.cells t)) ρ own w ρ' own' w' := by
  refine ⟨Fn.new _ _, fun B F ρ own w b s hv => ?_⟩
  have hcv := den_cells hv
  have hlen := denL_length hcv
  obtain ⟨ρ', own', ht, he⟩ := Tr.newRow (w' := w.alloc (.cells b.cells t)) s (ModP.refl _ _) rfl rfl hcv (fun i _ => by simp) 1 (by rw [szT_cells hk]; omega) (by rw [szT_cells hk]; simp at hlen; omega)
  refine ⟨_, ρ', own', _, ?_, by simp [den, he]; rfl, ht⟩
  simp only [Instr.box, newVar, Sem.run_bind, newRow_run, Result.andThen_ok, Sem.run_pure]

theorem fillX_length {place : Nat → Option (Nat × Nat)} : ∀ {parts : List (Nat × SV)} {cells r : List SV}, fillX place cells parts = some r → r.length = cells.length
  | [], _, _, h => by
    simp only [fillX, Option.some.injEq] at h
    rw [h]
  | (i, s) :: parts, cells, r, h => by
    simp only [fillX] at h
    split at h
    · cases h
    · split at h
      · next hb =>
        simp only [Bool.and_eq_true] at hb
        have := Nat.eq_of_beq_eq_true hb.1
        have := Nat.le_of_ble_eq_true hb.2
        rw [fillX_length h]
        exact splice_length (by omega)
      · cases h
theorem zerosX_run {elem : TypeId} {n : Nat} {l : List SV} (h : zerosX P elem n = some l) : ∃ z : Value, (∀ w, (zeroValue elem).run P w = .ok z w) ∧ l = ((List.range n).map fun j => z.cells[j % z.cells.size]!).map .v ∧ l.length = n := by
  unfold zerosX at h
  simp only [Option.bind_eq_some_iff] at h
  obtain ⟨i, hi, z, hz, h⟩ := h
  split at h
  · cases h
  · injection h with h
    subst h
    exact ⟨z, fun w => by simp [zeroValue, run_typeInfo w hi, hz], by simp, by simp⟩

theorem buildSlice_s {t elem : TypeId} {len : Nat} {ps : List (Nat × SV)} {l : List SV} (h : buildSliceX P t len ps = some (elem, l)) : Fn st (st.new (.row l elem)) ∧ ∀ B F ρ own w vps, Sit A P B F st (st.new (.row l elem)) ρ own w →
    Two (fun p q => p.1 = q.1 ∧ den ρ p.2 = some q.2) ps (Array.toList vps) → ∃ y ρ' own' w', (Instr.buildSlice t len vps).run P w = .ok y w' ∧ den ρ' (.sl st.nx 0 0 len) = some y ∧ Tr A P B F st (st.new (.row l elem)) ρ own w ρ' own' w' := by
  refine ⟨Fn.new _ _, fun B F ρ own w vps s hp => ?_⟩
  unfold buildSliceX at h
  split at h
  · next el hu =>
    simp only [Option.bind_eq_some_iff] at h
    obtain ⟨k, hk, h⟩ := h
    split at h
    · next hb =>
      simp only [Option.bind_eq_some_iff, Option.map_eq_some_iff] at h
      obtain ⟨z, hz, r, hr, h⟩ := h
      injection h with h1 h2
      subst h1
      subst h2
      simp only [Bool.and_eq_true, Bool.not_eq_true'] at hb
      have hle := Nat.le_of_ble_eq_true hb.1
      have hk0 : k ≠ 0 := Nat.ne_of_beq_eq_false hb.2
      obtain ⟨zv, hzv, rfl, hzl⟩ := zerosX_run hz
      obtain ⟨rs, h3, h4⟩ := fill_run hr (denL_vs _) hp
      have hlen := fillX_length hr
      have hlr := denL_length h3
      have hrl : rs.length = len * k := by rw [hlr, hlen, hzl]
      obtain ⟨ρ', own', ht, he⟩ := Tr.newRow (w' := w.alloc (.cells rs.toArray el)) s (ModP.refl _ _) rfl rfl h3 (fun i _ => by simp) len (by rw [szT_cells hk]; omega) (by rw [szT_cells hk]; simp; omega)
      refine ⟨_, ρ', own', _, ?_, by simp [den, he]; rfl, ht⟩
      have e : ((List.range (len * k)).map fun j => zv.cells[j % zv.cells.size]!).toArray = (Array.range (len * k)).map (zv.cells[· % zv.cells.size]!) := by
        apply Array.ext'
        simp
      rw [e] at h4
      simp only [Instr.buildSlice, Sem.run_bind, run_underlying hu w, Result.andThen_ok, szT_run hk w, Sem.run_ite]
      rw [if_neg (by omega)]
      by_cases h0 : len * k = 0
      · rw [if_pos h0]
        rw [h0] at h4
        simp only [Sem.run_pure, Result.andThen_ok, h0]
        have e0 : (Array.range 0).map (zv.cells[· % zv.cells.size]!) = (#[] : Array Value) := by simp
        rw [e0] at h4
        have e1 : ∀ f : Nat → Value, (Array.range 0).map f = (#[] : Array Value) := fun f => by simp
        simp only [e1, h4, Sem.run_bind, newRow_run, Result.andThen_ok, Sem.run_pure]
      · rw [if_neg h0]
        simp only [hzv w, Sem.run_pure, Result.andThen_ok, h4, Sem.run_bind, newRow_run]
    · cases h
  · cases h
end
end Go.Proofs.Ytjediiajmnlonaa
