/- What the executor says of append and copy, the machine does: the operations. No condition. -/
import Derived.Test.YtjediiajmnlonaaEC
import Derived.Deep.Upon
namespace Go.Proofs.Ytjediiajmnlonaa

section
variable {R : Type} {A : RepAt R} {P : Program} {B : Nat} {F : Nat → Prop} {st st1 st' : St R} {ρ ρ' : Names} {own own' : Nat → List Nat} {w w' : World}

theorem append_s {t tx ty : TypeId} {txo : Option TypeId} {x y s : SV} (h : appendX P t txo x y st = .ok s st') (htx : txo = some tx) : Fn st st' ∧ ∀ B F ρ own w a b, Sit A P B F st st' ρ own w → den ρ x = some a → den ρ y = some b →
    ∃ v ρ' own' w', (Builtin.append_ #[t, tx] ty #[a, b]).run P w = .ok v w' ∧ den ρ' s = some v ∧ Tr A P B F st st' ρ own w ρ' own' w' := by
  unfold appendX at h
  generalize hu : P.underlying t = du at h
  split at h
  · next elem =>
    obtain ⟨i, _, h1, h2⟩ := bind_ok.1 h
    obtain ⟨hi, rfl⟩ := opt_ok.1 h1
    obtain ⟨_, _, h3, h4⟩ := bind_ok.1 h2
    obtain ⟨hb, rfl⟩ := want_ok.1 h3
    obtain ⟨⟨m, cs⟩, st1, h5, h6⟩ := bind_ok.1 h4
    obtain ⟨q1, hsrc⟩ := src_s (A := A) (P := P) h5
    simp only [Bool.and_eq_true, Bool.not_eq_true'] at hb
    obtain ⟨⟨⟨hb1, hb2⟩, hb3⟩, hb4⟩ := hb
    have hb1 := Nat.ne_of_beq_eq_false hb1
    have hb2 := Nat.ne_of_beq_eq_false hb2
    obtain ⟨e', hkx⟩ := isSliceT_ok hb4 htx
    obtain ⟨zv, hz, hzs⟩ : ∃ z, i.zero = some z ∧ z.cells.size = i.size := by
      unfold zeroFits at hb3
      split at hb3
      · next z hz => exact ⟨z, hz, Nat.eq_of_beq_eq_true hb3⟩
      · cases hb3
    have hcell : P.cellsOf elem = i.size := by simp [Program.cellsOf, hi]
    clear h h1 h2 h3 h4 h5 hb4
    simp only at h6
    split at h6
    · -- nil
      cases m with
      | zero =>
        obtain ⟨rfl, rfl⟩ := ret_ok.1 h6
        refine ⟨q1.fn, fun B F ρ own w a b s ha hb => ?_⟩
        obtain ⟨ad, c, news, rfl, g1, g2, g3, g4⟩ := hsrc B F ρ own w b s.li s.log hb
        simp only [den, Option.some.injEq] at ha
        subst ha
        have hn : news = [] := List.eq_nil_of_length_eq_zero (by omega)
        subst hn
        exact ⟨_, _, _, _, run_append_nothing w t tx ty elem i hu hi none 0 0 (Nat.le_refl _) (.slice ad 0 c) (src_of hkx g2 g3 g4 (by simp)), rfl, s.quiet q1⟩
      | succ m =>
        obtain ⟨_, _, h7, h8⟩ := bind_ok.1 h6
        obtain ⟨h1c, rfl⟩ := want_ok.1 h7
        obtain ⟨_, st2, h9, h10⟩ := bind_ok.1 h8
        obtain ⟨q2, hq2⟩ := need_ok h9
        obtain ⟨n, st3, h11, h12⟩ := bind_ok.1 h10
        obtain ⟨rfl, rfl⟩ := newC_ok.1 h11
        obtain ⟨rfl, rfl⟩ := ret_ok.1 h12
        have q := q1.trans q2
        refine ⟨quiet_new q (.row cs elem), fun B F ρ own w a b s ha hb => ?_⟩
        have hby := hq2 s.ask
        simp only [decide_eq_true_eq] at hby
        obtain ⟨ad, c, news, rfl, g1, g2, g3, g4⟩ := hsrc B F ρ own w b s.li (fun n hn => s.log n (q2.fr n hn)) hb
        simp only [den, Option.some.injEq] at ha
        subst ha
        have hone := oneC_all h1c g1
        have hb1 : m + 1 ≤ (m + 1) * i.bytes := Nat.le_mul_of_pos_right _ (by omega)
        have hr := run_append_grow_src w t tx ty elem i zv hu hi hz none 0 0 [] (run_firstCells_none w.drew i.size 0 0 0) (.slice ad (m + 1) c) (m + 1) news (src_of hkx g2 g3 g4 hone) (by omega) (by omega) (growslice_fits (by omega) (by rw [Nat.zero_add]; omega))
        have hge := grownCap_ge w (0 + (m + 1)) 0 elem
        have s1 := s.of_quiet q
        generalize hgc : grownCap w (0 + (m + 1)) 0 elem = gc at hr hge
        have e2 : (m + 1) * i.size ≤ gc * i.size := Nat.mul_le_mul_right _ (by omega)
        have e3 : (m + 1) * i.size + (gc - (0 + (m + 1))) * i.size = gc * i.size := by
          rw [← Nat.add_mul]
          congr 1
          omega
        obtain ⟨ρ', own', ht, he⟩ := Tr.newRow (w1 := w.drew) s1 ⟨rfl, rfl, rfl, Nat.le_refl _, fun _ _ _ => rfl⟩ rfl rfl g1 (cs := ([] ++ news).toArray ++ Builtin.zeroCells zv.cells (gc - (0 + (m + 1)))) (fun j hj => by
          rw [Array.getElem?_append_left (by simpa using hj)]
          simp) gc (by rw [hcell]; omega) (by
          rw [hcell, Array.size_append, size_zeroCells, hzs]
          simp only [List.nil_append, List.size_toArray, g2]
          omega)
        refine ⟨_, ρ', own', _, hr, ?_, Tr.of_quiet q ht⟩
        simp only [den]
        rw [he]
        simp
    · -- empty
      next n =>
      cases m with
      | zero =>
        obtain ⟨rfl, rfl⟩ := ret_ok.1 h6
        refine ⟨q1.fn, fun B F ρ own w a b s ha hb => ?_⟩
        obtain ⟨ad, c, news, rfl, g1, g2, g3, g4⟩ := hsrc B F ρ own w b s.li s.log hb
        simp only [den, Option.map_eq_some_iff] at ha
        obtain ⟨e, he, rfl⟩ := ha
        have hn : news = [] := List.eq_nil_of_length_eq_zero (by omega)
        subst hn
        exact ⟨_, _, _, _, run_append_nothing w t tx ty elem i hu hi e.ad 0 e.cap (Nat.zero_le _) (.slice ad 0 c) (src_of hkx g2 g3 g4 (by simp)), by simp [den, he], s.quiet q1⟩
      | succ m => exact (fail_ok.1 h6).elim
    · next n off idx len =>
      obtain ⟨c, st2, h7, h8⟩ := bind_ok.1 h6
      obtain ⟨hc, rfl⟩ := getC_ok.1 h7
      split at h8
      · next l t' =>
        obtain ⟨_, _, h9, h10⟩ := bind_ok.1 h8
        obtain ⟨hw, rfl⟩ := want_ok.1 h9
        simp only [Bool.and_eq_true] at hw
        obtain ⟨⟨hw1, hw2⟩, hw3⟩ := hw
        have hw1 := Nat.eq_of_beq_eq_true hw1
        have hw2 := Nat.eq_of_beq_eq_true hw2
        have hw3 := Nat.le_of_ble_eq_true hw3
        clear h6 h7 h8 h9
        subst hw1
        have q2 : Quiet st1 { st1 with fr := insN n st1.fr } := Quiet.get
        have hc0 : hget n st.hp = some (.row l t') := by rw [← q1.hp]; exact hc
        cases m with
        | zero =>
          obtain ⟨rfl, rfl⟩ := ret_ok.1 h10
          have q := q1.trans q2
          refine ⟨q.fn, fun B F ρ own w a b s ha hb => ?_⟩
          obtain ⟨ad, c, news, rfl, g1, g2, g3, g4⟩ := hsrc B F ρ own w b s.li (fun n hn => s.log n (q2.fr n hn)) hb
          obtain ⟨e, he, _, cs', vs, h13, h14, _, h15, _⟩ := s.li.at_ n _ (s.log n (mem_ins.2 (.inl rfl))) hc0
          have hlen := denL_length h14
          simp only [den, he, Option.map_some, Option.some.injEq] at ha
          subst ha
          have hn : news = [] := List.eq_nil_of_length_eq_zero (by omega)
          subst hn
          have hcap : idx + len ≤ e.cap := by
            rw [hcell] at h15
            have : (idx + len) * i.size ≤ e.cap * i.size := by omega
            exact Nat.le_of_mul_le_mul_right this (by omega)
          exact ⟨_, _, _, _, run_append_nothing w t tx ty t' i hu hi _ len (e.cap - idx) (by omega) (.slice ad 0 c) (src_of hkx g2 g3 g4 (by simp)), by simp [den, he], s.quiet q⟩
        | succ m =>
          obtain ⟨_, _, h11, h12⟩ := bind_ok.1 h10
          obtain ⟨hw, rfl⟩ := want_ok.1 h11
          simp only [Bool.and_eq_true] at hw
          obtain ⟨hll, h1c⟩ := hw
          have hll := Nat.eq_of_beq_eq_true hll
          obtain ⟨_, st2, h13, h14⟩ := bind_ok.1 h12
          obtain ⟨q3, hq3⟩ := need_ok h13
          obtain ⟨_, st3, h15, h16⟩ := bind_ok.1 h14
          obtain ⟨_, rfl⟩ := delC_ok.1 h15
          obtain ⟨n', st4, h17, h18⟩ := bind_ok.1 h16
          obtain ⟨rfl, rfl⟩ := newC_ok.1 h17
          obtain ⟨rfl, rfl⟩ := ret_ok.1 h18
          have q := (q1.trans q2).trans q3
          have hc2 : hget n st2.hp = some (.row l t') := by rw [q.hp]; exact hc0
          refine ⟨q.fn.trans (Fn.move st2 n (.row (l.drop off ++ cs) t') _ hc2), fun B F ρ own w a b s ha hb => ?_⟩
          have s1 := s.of_quiet q
          have hby := hq3 s.ask
          simp only [decide_eq_true_eq] at hby
          have hF : F n := s.log n (mem_ins.2 (.inl rfl))
          obtain ⟨ad, c, news, rfl, g1, g2, g3, g4⟩ := hsrc B F ρ own w b s.li (fun k hk => s.log k (mem_ins.2 (.inr (q3.fr k (q2.fr k hk))))) hb
          obtain ⟨e, he, hat⟩ := s.li.at_ n _ hF hc0
          have hat' := hat
          obtain ⟨ho, cs', vs, h19, h20, h21, h22, h23⟩ := hat'
          have hlen := denL_length h20
          simp only [den, he, Option.map_some, Option.some.injEq] at ha
          subst ha
          have hone := oneC_all h1c g1
          have hsr : Src P i.size tx (.slice ad (m + 1) c) (m + 1) news w := src_of hkx g2 g3 g4 hone
          have hfr : ρ st2.nx = none := s1.fresh _ (newN_move.2 rfl)
          by_cases hroom : len + (m + 1) ≤ e.cap - idx
          · obtain ⟨w', hst, hm, hc'⟩ := row_extend (ρ' := ρ.put st2.nx ⟨e.b, e.cap - idx, e.off + off, 0, 0, none⟩) hat g1 hcell hw2 hll g2 hroom hb1 h1c (Names.put_le hfr)
            have hr := append_room (ty := ty) hu hi e.b (e.off + off) len (e.cap - idx) _ (m + 1) news hsr hroom hst
            have ht := Tr.move s1 hc2 _ (own n) hm hc' (fun b hb => .inl hb)
            refine ⟨_, _, _, _, hr, ?_, Tr.of_quiet q ht⟩
            simp only [den]
            rw [Names.put_same]
            simp [Nat.add_assoc]
          · have hd := denL_drop h20 off
            have hold : (Builtin.firstCells i.size len (.slice (some ⟨e.b, e.off + off, none⟩) len (e.cap - idx))).run P w.drew = .ok (vs.drop off).toArray w.drew := by
              refine run_firstCells_some w.drew i.size len _ _ _ _ ?_ (fun j u hu' => ?_)
              · rw [List.length_drop, hlen, hll, hw2, Nat.add_mul]
                omega
              · rw [add_at]
                show w.cell? _ = _
                rw [cell_of_row w e.b _ cs' t' (0, 0) h19, Nat.add_assoc]
                rw [List.getElem?_drop] at hu'
                rw [h21 _ (lt_of_some hu')]
                exact hu'
            have hb1' : len + (m + 1) ≤ (len + (m + 1)) * i.bytes := Nat.le_mul_of_pos_right _ (by omega)
            have hr := run_append_grow_src w t tx ty t' i zv hu hi hz (some ⟨e.b, e.off + off, none⟩) len (e.cap - idx) (vs.drop off) hold _ (m + 1) news hsr (by omega) (by rw [Nat.add_assoc] at hby; omega) (growslice_fits (by omega) (by rw [← Nat.add_assoc]; omega))
            have hge := grownCap_ge w (len + (m + 1)) (e.cap - idx) t'
            generalize grownCap w (len + (m + 1)) (e.cap - idx) t' = gc at hr hge
            have e0 : (len + (m + 1)) * i.size = len * i.size + (m + 1) * i.size := Nat.add_mul ..
            have e1 : (idx + len) * i.size = idx * i.size + len * i.size := Nat.add_mul ..
            have e2 : (len + (m + 1)) * i.size ≤ gc * i.size := Nat.mul_le_mul_right _ (by omega)
            have e3 : (len + (m + 1)) * i.size + (gc - (len + (m + 1))) * i.size = gc * i.size := by
              rw [← Nat.add_mul]
              congr 1
              omega
            have hmod : ModP (fun b => b ∈ own n) w (w.drew.alloc (.cells ((vs.drop off ++ news).toArray ++ Builtin.zeroCells zv.cells (gc - (len + (m + 1)))) t')) := ⟨rfl, rfl, rfl, by simp, fun k hk _ => RowKit.Below.heap_alloc w.drew _ k hk⟩
            have ht := Tr.move s1 hc2 ⟨w.heap.size, gc, 0, 0, 0, none⟩ [w.heap.size] hmod (c := .row (l.drop off ++ cs) t') ⟨rfl, _, vs.drop off ++ news, heap_alloc_new w.drew _, denL_append.2 ⟨_, _, denL_mono (Names.put_le hfr) _ _ hd, denL_mono (Names.put_le hfr) _ _ g1, rfl⟩, fun j hj => by
              change (_ ++ _ : Array Value)[0 + j]? = _
              rw [Nat.zero_add, Array.getElem?_append_left (by simpa using hj)]
              simp, by
              rw [hcell, List.length_append, List.length_drop]
              show _ ≤ gc * i.size
              omega, by
              rw [hcell, Array.size_append, size_zeroCells, hzs]
              simp only [List.size_toArray, List.length_append, List.length_drop]
              show 0 + gc * i.size ≤ _
              omega⟩ (fun b hb => .inr (by
              rw [List.mem_singleton] at hb
              subst hb
              exact ⟨Nat.le_refl _, by simp⟩))
            refine ⟨_, _, _, _, hr, ?_, Tr.of_quiet q ht⟩
            simp only [den]
            rw [Names.put_same]
            simp [Nat.add_assoc]
      · exact (fail_ok.1 h8).elim
    · exact (fail_ok.1 h6).elim
  · exact (fail_ok.1 h).elim

theorem copy_s {t tx ty : TypeId} {x y s : SV} (h : copyX P t x y st = .ok s st') : Fn st st' ∧ ∀ B F ρ own w a b, Sit A P B F st st' ρ own w → den ρ x = some a → den ρ y = some b →
    ∃ v ρ' own' w', (Builtin.copy_ #[t, tx] ty #[a, b]).run P w = .ok v w' ∧ den ρ' s = some v ∧ Tr A P B F st st' ρ own w ρ' own' w' := by
  unfold copyX at h
  generalize hu : P.underlying t = du at h
  split at h
  · next elem =>
    obtain ⟨i, _, h1, h2⟩ := bind_ok.1 h
    obtain ⟨hi, rfl⟩ := opt_ok.1 h1
    obtain ⟨⟨m, cs⟩, st1, h3, h4⟩ := bind_ok.1 h2
    obtain ⟨q1, hsrc⟩ := src_s (A := A) (P := P) h3
    have hsz : szT P elem = some i.size := by simp [szT, hi]
    split at h4
    · next n off idx len =>
      simp only at h4
      have hlo : ∀ {ad c} (w : World), (Builtin.lenOf (.slice ad m c)).run P w = .ok m w := fun _ => rfl
      cases hmin : Nat.min m len with
      | zero =>
        rw [hmin] at h4
        obtain ⟨rfl, rfl⟩ := ret_ok.1 h4
        refine ⟨q1.fn, fun B F ρ own w a b s ha hb => ?_⟩
        obtain ⟨ad, c, news, rfl, g1, g2, g3, g4⟩ := hsrc B F ρ own w b s.li s.log hb
        simp only [den, Option.map_eq_some_iff] at ha
        obtain ⟨e, he, rfl⟩ := ha
        refine ⟨_, _, _, w, ?_, rfl, s.quiet q1⟩
        have hf : (Builtin.firstCells i.size 0 (.slice ad m c)).run P w = .ok #[] w := by
          cases ad with
          | none => exact run_firstCells_none w i.size 0 m c
          | some g => exact run_firstCells_some w i.size 0 g m c [] (by simp) (fun j v hv => by simp at hv)
        simp only [Builtin.copy_, List.getElem?_toArray, List.getElem?_cons_zero, List.getElem?_cons_succ, Sem.run_bind, run_underlying hu w, Result.andThen_ok, hlo, hmin, szT_run hsz w, hf, storeCells, Sem.run_pure]
        rfl
      | succ k =>
        rw [hmin] at h4
        obtain ⟨cs', _, h5, h6⟩ := bind_ok.1 h4
        obtain ⟨hcut, rfl⟩ := opt_ok.1 h5
        obtain ⟨c, st2, h7, h8⟩ := bind_ok.1 h6
        obtain ⟨hc, rfl⟩ := getC_ok.1 h7
        split at h8
        · next l t' =>
          obtain ⟨_, _, h9, h10⟩ := bind_ok.1 h8
          obtain ⟨hw, rfl⟩ := want_ok.1 h9
          obtain ⟨_, st3, h11, h12⟩ := bind_ok.1 h10
          obtain ⟨_, rfl⟩ := setC_ok.1 h11
          obtain ⟨rfl, rfl⟩ := ret_ok.1 h12
          simp only [Bool.and_eq_true] at hw
          obtain ⟨hw1, hw2⟩ := hw
          have hw1 := Nat.le_of_ble_eq_true hw1
          have q2 : Quiet st1 { st1 with fr := insN n st1.fr } := Quiet.get
          have q := q1.trans q2
          refine ⟨q.fn.trans (Fn.set _ n _ _ hc), fun B F ρ own w a b s ha hb => ?_⟩
          have s1 := s.of_quiet q
          have hsub : ∀ z ∈ st1.fr, z ∈ insN n (insN n st1.fr) := fun z hz => mem_ins.2 (.inr (mem_ins.2 (.inr hz)))
          obtain ⟨ad, c, news, rfl, g1, g2, g3, g4⟩ := hsrc B F ρ own w b s.li (fun z hz => s.log z (hsub z hz)) hb
          obtain ⟨e, he, hat⟩ := s1.li.at_ n _ (s1.log n (mem_ins.2 (.inl rfl))) hc
          simp only [den, he, Option.map_some, Option.some.injEq] at ha
          subst ha
          obtain ⟨rfl, hcl⟩ := cut_ok hcut
          simp only [List.drop_zero] at hcl hw2 ⊢
          have hd := denL_take g1 ((k + 1) * i.size)
          have hdl := denL_length hd
          obtain ⟨w', hst, hm, hc'⟩ := row_write (off := off) hat hd (by rw [hcl]; omega) hw2
          refine ⟨_, _, _, w', ?_, rfl, Tr.of_quiet q (Tr.set s1 hc he (own n) hm hc' (fun b hb => .inl hb))⟩
          have hkm : k + 1 ≤ m := by rw [← hmin]; exact Nat.min_le_left _ _
          have hf : (Builtin.firstCells i.size (k + 1) (.slice ad m c)).run P w = .ok (news.take ((k + 1) * i.size)).toArray w := by
            cases ad with
            | none => have := g4 rfl; omega
            | some g => exact run_firstCells_some w i.size (k + 1) g m c _ (by rw [hdl, hcl]) (fun j v hv => by
                rw [List.getElem?_take] at hv
                split at hv
                · exact g3 g rfl j v hv
                · cases hv)
          simp only [Builtin.copy_, List.getElem?_toArray, List.getElem?_cons_zero, List.getElem?_cons_succ, Sem.run_bind, run_underlying hu w, Result.andThen_ok, hlo, hmin, szT_run hsz w, hf, hst, Sem.run_pure]
          rfl
        · exact (fail_ok.1 h8).elim
    · exact (fail_ok.1 h4).elim
  · exact (fail_ok.1 h).elim
end
end Go.Proofs.Ytjediiajmnlonaa
