/- What the executor says of operations that read and write, the machine does: slicing, append, copy. No condition. -/
import Derived.Test.YtjediiajmnlonaaEA
namespace Go.Proofs.Ytjediiajmnlonaa

section
variable {R : Type} {A : RepAt R} {P : Program} {B : Nat} {F : Nat → Prop} {st st1 st' : St R} {ρ ρ' : Names} {own own' : Nat → List Nat} {w w' : World}

theorem natOf_ok {s : SV} {n : Nat} {x : Value} (h : natOf s = some n) (hx : den ρ s = some x) : ∃ k, x = .int k (n : Int) := by
  unfold natOf at h
  split at h
  · next k m =>
    injection h with h
    subst h
    simp only [den, Option.some.injEq] at hx
    exact ⟨k, hx.symm⟩
  · cases h
theorem bound_run {k : IntKind} {n y : Nat} (h : n ≤ y) (c : BoundsCode) (w : World) : (Instr.sliceBound (.int k (n : Int)) y c).run P w = .ok n w := by
  simp only [Instr.sliceBound, asIntOf, Sem.run_bind, Sem.run_pure, Result.andThen_ok]
  rw [if_pos ⟨by omega, by omega⟩]
  simp
theorem slice_s {t : TypeId} {x s : SV} {lo hi : Option SV} (h : sliceX P t x lo hi st = .ok s st') : Fn st st' ∧ ∀ B F ρ own w a lo' hi', Sit A P B F st st' ρ own w → den ρ x = some a → (∀ l, lo = some l → ∃ v, lo' = some v ∧ den ρ l = some v) → (lo = none → lo' = none) →
    (∀ l, hi = some l → ∃ v, hi' = some v ∧ den ρ l = some v) → (hi = none → hi' = none) → ∃ y ρ' own' w', (Instr.sliceAt t a lo' hi' none).run P w = .ok y w' ∧ den ρ' s = some y ∧ Tr A P B F st st' ρ own w ρ' own' w' := by
  unfold sliceX at h
  generalize hu : P.underlying t = du at h
  split at h
  · next elem =>
    split at h
    · next n off idx len =>
      obtain ⟨l, _, h1, h2⟩ := bind_ok.1 h
      obtain ⟨hl, rfl⟩ := opt_ok.1 h1
      obtain ⟨g, _, h3, h4⟩ := bind_ok.1 h2
      obtain ⟨hh, rfl⟩ := opt_ok.1 h3
      obtain ⟨k, _, h5, h6⟩ := bind_ok.1 h4
      obtain ⟨hk, rfl⟩ := opt_ok.1 h5
      obtain ⟨_, _, h7, h8⟩ := bind_ok.1 h6
      obtain ⟨hb, rfl⟩ := want_ok.1 h7
      obtain ⟨c, st1, h9, h10⟩ := bind_ok.1 h8
      obtain ⟨hc, rfl⟩ := getC_ok.1 h9
      simp only [Bool.and_eq_true, Bool.not_eq_true'] at hb
      obtain ⟨⟨hb1, hb2⟩, hb3⟩ := hb
      have hb1 := Nat.le_of_ble_eq_true hb1
      have hb2 := Nat.le_of_ble_eq_true hb2
      have hb3 := Nat.ne_of_beq_eq_false hb3
      split at h10
      · next cs t' =>
        obtain ⟨_, _, h11, h12⟩ := bind_ok.1 h10
        obtain ⟨hw, rfl⟩ := want_ok.1 h11
        simp only [Bool.and_eq_true] at hw
        obtain ⟨⟨hw1, hw2⟩, hw3⟩ := hw
        have hw1 := Nat.eq_of_beq_eq_true hw1
        have hw2 := Nat.le_of_ble_eq_true hw2
        have hw3 := Nat.eq_of_beq_eq_true hw3
        have q : Quiet st { st with fr := insN n st.fr } := Quiet.get
        -- the run
        have key : ∀ B F ρ own w a lo' hi', LI A P B ρ own st.hp F w → F n → den ρ (.sl n off idx len) = some a → (∀ l, lo = some l → ∃ v, lo' = some v ∧ den ρ l = some v) → (lo = none → lo' = none) →
            (∀ l, hi = some l → ∃ v, hi' = some v ∧ den ρ l = some v) → (hi = none → hi' = none) → ∃ e, ρ n = some e ∧ idx + len ≤ e.cap ∧
              (Instr.sliceAt t a lo' hi' none).run P w = .ok (.slice (if e.cap - idx = l then some ⟨e.b, e.off + off, none⟩ else some ⟨e.b, e.off + off + l * k, none⟩) (g - l) (e.cap - idx - l)) w := by
          intro B F ρ own w a lo' hi' hli hF ha hl1 hl2 hh1 hh2
          obtain ⟨e, he, _, cs', vs, h13, h14, _, h15, _⟩ := hli.at_ n _ hF hc
          have hlen := denL_length h14
          have hcap : idx + len ≤ e.cap := by
            rw [hw1, szT_cells hk] at h15
            have : (idx + len) * k ≤ e.cap * k := by omega
            exact Nat.le_of_mul_le_mul_right this (by omega)
          simp only [den, he, Option.map_some, Option.some.injEq] at ha
          subst ha
          refine ⟨e, he, hcap, ?_⟩
          have hrun : (Instr.sliceBounds true len (e.cap - idx) lo' hi' none).run P w = .ok (l, g, e.cap - idx) w := by
            cases lo with
            | none =>
              rw [hl2 rfl]
              simp only [Option.some.injEq] at hl
              subst hl
              cases hi with
              | none =>
                rw [hh2 rfl]
                simp only [Option.some.injEq] at hh
                subst hh
                rfl
              | some hs =>
                obtain ⟨v, rfl, hv⟩ := hh1 _ rfl
                obtain ⟨kk, rfl⟩ := natOf_ok hh hv
                simp only [Instr.sliceBounds, Sem.run_bind, Sem.run_pure, Result.andThen_ok, bound_run (P := P) (k := kk) (show g ≤ e.cap - idx by omega)]
            | some ls =>
              obtain ⟨v, rfl, hv⟩ := hl1 _ rfl
              obtain ⟨kk, rfl⟩ := natOf_ok hl hv
              cases hi with
              | none =>
                rw [hh2 rfl]
                simp only [Option.some.injEq] at hh
                subst hh
                simp only [Instr.sliceBounds, Sem.run_bind, Sem.run_pure, Result.andThen_ok, bound_run (P := P) (k := kk) (show l ≤ len by omega), Option.isSome_none, Bool.false_eq_true, if_false]
              | some hs =>
                obtain ⟨v, rfl, hv⟩ := hh1 _ rfl
                obtain ⟨k2, rfl⟩ := natOf_ok hh hv
                simp only [Instr.sliceBounds, Sem.run_bind, Sem.run_pure, Result.andThen_ok, bound_run (P := P) (k := k2) (show g ≤ e.cap - idx by omega), if_true, bound_run (P := P) (k := kk) (show l ≤ g by omega), Option.isSome_none, Bool.false_eq_true, if_false]
          simp only [Instr.sliceAt, Sem.run_bind, run_underlying hu w, Result.andThen_ok, Instr.slice, hrun, szT_run hk w, Sem.run_pure]
          by_cases hx : e.cap - idx = l
          · simp only [hx, if_true]
          · simp only [hx, if_false, Option.map_some, add_at]
        cases hbe : Nat.beq l g with
        | true =>
          rw [hbe] at h12
          have hlg := Nat.eq_of_beq_eq_true hbe
          subst hlg
          obtain ⟨m, st2, h13, h14⟩ := bind_ok.1 h12
          obtain ⟨rfl, rfl⟩ := newC_ok.1 h13
          obtain ⟨rfl, rfl⟩ := ret_ok.1 h14
          refine ⟨quiet_new q .emp, fun B F ρ own w a lo' hi' s ha hl1 hl2 hh1 hh2 => ?_⟩
          have s1 := s.of_quiet q
          obtain ⟨e, he, hcap, hr⟩ := key B F ρ own w a lo' hi' s.li (s.log n (mem_ins.2 (.inl rfl))) ha hl1 hl2 hh1 hh2
          have ht := Tr.new (c := .emp) s1 ⟨0, e.cap - idx - l, 0, 0, 0, if e.cap - idx = l then some ⟨e.b, e.off + off, none⟩ else some ⟨e.b, e.off + off + l * k, none⟩⟩ [] (ModP.refl _ _) rfl (fun b hb => by cases hb)
          refine ⟨_, _, _, _, hr, ?_, Tr.of_quiet q ht⟩
          simp only [den]
          rw [Names.put_same]
          simp
        | false =>
          rw [hbe] at h12
          have hlg := Nat.ne_of_beq_eq_false hbe
          obtain ⟨rfl, rfl⟩ := ret_ok.1 h12
          refine ⟨q.fn, fun B F ρ own w a lo' hi' s ha hl1 hl2 hh1 hh2 => ?_⟩
          obtain ⟨e, he, hcap, hr⟩ := key B F ρ own w a lo' hi' s.li (s.log n (mem_ins.2 (.inl rfl))) ha hl1 hl2 hh1 hh2
          refine ⟨_, _, _, _, hr, ?_, s.quiet q⟩
          rw [if_neg (by omega)]
          simp [den, he, Nat.add_assoc, Nat.sub_sub]
      · exact (fail_ok.1 h10).elim
    · exact (fail_ok.1 h).elim
  · exact (fail_ok.1 h).elim
end
end Go.Proofs.Ytjediiajmnlonaa
