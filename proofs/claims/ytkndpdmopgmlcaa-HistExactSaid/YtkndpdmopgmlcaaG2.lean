/- What the executor does at rows of open number: an element's place, load, store, append; and that the machine does it. No condition. -/
import Derived.Test.YtkndpdmopgmlcaaG1
import Derived.Deep.Upon
import Derived.Tactics
import Derived.Orders
import Derived.LoopN
import Derived.Test.YtkndpdmopgmlcaaProg
import Derived.Tactics2
import Derived.WalkKit
import Derived.Deep.RegionHeld3
import Derived.Deep.DeepCutAuto
import Derived.Deep.QuietTactic
import Derived.BigQuiet
import Derived.KernelRfl
import Derived.WideLaws
import Derived.WalkSpells
import Derived.Handy
import Derived.Laws.BitsAllLaws
import Derived.StillTailTactics
import Derived.DeepKeys5
import Derived.Maps.OwnSet
import Derived.Maps.OwnOps
import Derived.Maps.Views
import Derived.Carry
section
/- What the executor says of append and copy, the machine does: the operations. No condition. -/
namespace Go.Proofs.Ytkndpdmopgmlcaa

section
variable {R : Type} {A : RepAt R} {P : Program} {B : Nat} {F : Nat → Prop} {st st1 st' : St R} {ρ ρ' : Names} {own own' : Nat → List Nat} {w w' : World}

theorem append_s {t tx ty : TypeId} {txo : Option TypeId} {x y s : SV} (h : appendX P t txo x y st = .ok s st') (htx : txo = some tx) : Fn st st' ∧ ∀ B F ρ own w a b, Sit A P B F st st' ρ own w → den ρ x = some a → den ρ y = some b →
    ∃ v ρ' own' w', (Builtin.append_ #[t, tx] ty #[a, b]).run P w = .ok v w' ∧ den ρ' s = some v ∧ Tr A P B F st st' ρ own w ρ' own' w' := by
  unfold appendX at h
  generalize hu : P.underlying t = du at h
  split at h
  · next elem =>
    obtain ⟨i, _, h1, h2⟩ := bind_ok.1 h
    obtain ⟨hi, rfl⟩ := opt_ok.1 h1
    obtain ⟨_, _, h3, h4⟩ := bind_ok.1 h2
    obtain ⟨hb, rfl⟩ := want_ok.1 h3
    obtain ⟨⟨m, cs⟩, st1, h5, h6⟩ := bind_ok.1 h4
    obtain ⟨q1, hsrc⟩ := src_s (A := A) (P := P) h5
    simp only [Bool.and_eq_true, Bool.not_eq_true'] at hb
    obtain ⟨⟨⟨hb1, hb2⟩, hb3⟩, hb4⟩ := hb
    have hb1 := Nat.ne_of_beq_eq_false hb1
    have hb2 := Nat.ne_of_beq_eq_false hb2
    obtain ⟨e', hkx⟩ := isSliceT_ok hb4 htx
    obtain ⟨zv, hz, hzs⟩ : ∃ z, i.zero = some z ∧ z.cells.size = i.size := by
      unfold zeroFits at hb3
      split at hb3
      · next z hz => exact ⟨z, hz, Nat.eq_of_beq_eq_true hb3⟩
      · cases hb3
    have hcell : P.cellsOf elem = i.size := by simp [Program.cellsOf, hi]
    clear h h1 h2 h3 h4 h5 hb4
    simp only at h6
    split at h6
    · -- nil
      cases m with
      | zero =>
        obtain ⟨rfl, rfl⟩ := ret_ok.1 h6
        refine ⟨q1.fn, fun B F ρ own w a b s ha hb => ?_⟩
        obtain ⟨ad, c, news, rfl, g1, g2, g3, g4⟩ := hsrc B F ρ own w b s.li s.log hb
        simp only [den, Option.some.injEq] at ha
        subst ha
        have hn : news = [] := List.eq_nil_of_length_eq_zero (by omega)
        subst hn
        exact ⟨_, _, _, _, run_append_nothing w t tx ty elem i hu hi none 0 0 (Nat.le_refl _) (.slice ad 0 c) (src_of hkx g2 g3 g4 (by simp)), rfl, s.quiet q1⟩
      | succ m =>
        obtain ⟨_, _, h7, h8⟩ := bind_ok.1 h6
        obtain ⟨h1c, rfl⟩ := want_ok.1 h7
        obtain ⟨_, st2, h9, h10⟩ := bind_ok.1 h8
        obtain ⟨q2, hq2⟩ := need_ok h9
        obtain ⟨n, st3, h11, h12⟩ := bind_ok.1 h10
        obtain ⟨rfl, rfl⟩ := newC_ok.1 h11
        obtain ⟨rfl, rfl⟩ := ret_ok.1 h12
        have q := q1.trans q2
        refine ⟨quiet_new q (.row cs elem), fun B F ρ own w a b s ha hb => ?_⟩
        have hby := hq2 s.ask
        simp only [decide_eq_true_eq] at hby
        obtain ⟨ad, c, news, rfl, g1, g2, g3, g4⟩ := hsrc B F ρ own w b s.li (fun n hn => s.log n (q2.fr n hn)) hb
        simp only [den, Option.some.injEq] at ha
        subst ha
        have hone := oneC_all h1c g1
        have hb1 : m + 1 ≤ (m + 1) * i.bytes := Nat.le_mul_of_pos_right _ (by omega)
        have hr := run_append_grow_src w t tx ty elem i zv hu hi hz none 0 0 [] (run_firstCells_none w.drew i.size 0 0 0) (.slice ad (m + 1) c) (m + 1) news (src_of hkx g2 g3 g4 hone) (by omega) (by omega) (growslice_fits (by omega) (by rw [Nat.zero_add]; omega))
        have hge := grownCap_ge w (0 + (m + 1)) 0 elem
        have s1 := s.of_quiet q
        generalize hgc : grownCap w (0 + (m + 1)) 0 elem = gc at hr hge
        have e2 : (m + 1) * i.size ≤ gc * i.size := Nat.mul_le_mul_right _ (by omega)
        have e3 : (m + 1) * i.size + (gc - (0 + (m + 1))) * i.size = gc * i.size := by
          rw [← Nat.add_mul]
          congr 1
          omega
        obtain ⟨ρ', own', ht, he⟩ := Tr.newRow (w1 := w.drew) s1 ⟨rfl, rfl, rfl, Nat.le_refl _, fun _ _ _ => rfl⟩ rfl rfl g1 (cs := ([] ++ news).toArray ++ Builtin.zeroCells zv.cells (gc - (0 + (m + 1)))) (fun j hj => by
          rw [Array.getElem?_append_left (by simpa using hj)]
          simp) gc (by rw [hcell]; omega) (by
          rw [hcell, Array.size_append, size_zeroCells, hzs]
          simp only [List.nil_append, List.size_toArray, g2]
          omega)
        refine ⟨_, ρ', own', _, hr, ?_, Tr.of_quiet q ht⟩
        simp only [den]
        rw [he]
        simp
    · -- empty
      next n =>
      cases m with
      | zero =>
        obtain ⟨rfl, rfl⟩ := ret_ok.1 h6
        refine ⟨q1.fn, fun B F ρ own w a b s ha hb => ?_⟩
        obtain ⟨ad, c, news, rfl, g1, g2, g3, g4⟩ := hsrc B F ρ own w b s.li s.log hb
        simp only [den, Option.map_eq_some_iff] at ha
        obtain ⟨e, he, rfl⟩ := ha
        have hn : news = [] := List.eq_nil_of_length_eq_zero (by omega)
        subst hn
        exact ⟨_, _, _, _, run_append_nothing w t tx ty elem i hu hi e.ad 0 e.cap (Nat.zero_le _) (.slice ad 0 c) (src_of hkx g2 g3 g4 (by simp)), by simp [den, he], s.quiet q1⟩
      | succ m => exact (fail_ok.1 h6).elim
    · next n off idx len =>
      obtain ⟨c, st2, h7, h8⟩ := bind_ok.1 h6
      obtain ⟨hc, rfl⟩ := getC_ok.1 h7
      split at h8
      · next l t' =>
        obtain ⟨_, _, h9, h10⟩ := bind_ok.1 h8
        obtain ⟨hw, rfl⟩ := want_ok.1 h9
        simp only [Bool.and_eq_true] at hw
        obtain ⟨⟨hw1, hw2⟩, hw3⟩ := hw
        have hw1 := Nat.eq_of_beq_eq_true hw1
        have hw2 := Nat.eq_of_beq_eq_true hw2
        have hw3 := Nat.le_of_ble_eq_true hw3
        clear h6 h7 h8 h9
        subst hw1
        have q2 : Quiet st1 { st1 with fr := insN n st1.fr } := Quiet.get
        have hc0 : hget n st.hp = some (.row l t') := by rw [← q1.hp]; exact hc
        cases m with
        | zero =>
          obtain ⟨rfl, rfl⟩ := ret_ok.1 h10
          have q := q1.trans q2
          refine ⟨q.fn, fun B F ρ own w a b s ha hb => ?_⟩
          obtain ⟨ad, c, news, rfl, g1, g2, g3, g4⟩ := hsrc B F ρ own w b s.li (fun n hn => s.log n (q2.fr n hn)) hb
          obtain ⟨e, he, _, cs', vs, h13, h14, _, h15, _⟩ := s.li.at_ n _ (s.log n (mem_ins.2 (.inl rfl))) hc0
          have hlen := denL_length h14
          simp only [den, he, Option.map_some, Option.some.injEq] at ha
          subst ha
          have hn : news = [] := List.eq_nil_of_length_eq_zero (by omega)
          subst hn
          have hcap : idx + len ≤ e.cap := by
            rw [hcell] at h15
            have : (idx + len) * i.size ≤ e.cap * i.size := by omega
            exact Nat.le_of_mul_le_mul_right this (by omega)
          exact ⟨_, _, _, _, run_append_nothing w t tx ty t' i hu hi _ len (e.cap - idx) (by omega) (.slice ad 0 c) (src_of hkx g2 g3 g4 (by simp)), by simp [den, he], s.quiet q⟩
        | succ m =>
          obtain ⟨_, _, h11, h12⟩ := bind_ok.1 h10
          obtain ⟨hw, rfl⟩ := want_ok.1 h11
          simp only [Bool.and_eq_true] at hw
          obtain ⟨hll, h1c⟩ := hw
          have hll := Nat.eq_of_beq_eq_true hll
          obtain ⟨_, st2, h13, h14⟩ := bind_ok.1 h12
          obtain ⟨q3, hq3⟩ := need_ok h13
          obtain ⟨_, st3, h15, h16⟩ := bind_ok.1 h14
          obtain ⟨_, rfl⟩ := delC_ok.1 h15
          obtain ⟨n', st4, h17, h18⟩ := bind_ok.1 h16
          obtain ⟨rfl, rfl⟩ := newC_ok.1 h17
          obtain ⟨rfl, rfl⟩ := ret_ok.1 h18
          have q := (q1.trans q2).trans q3
          have hc2 : hget n st2.hp = some (.row l t') := by rw [q.hp]; exact hc0
          refine ⟨q.fn.trans (Fn.move st2 n (.row (l.drop off ++ cs) t') _ hc2), fun B F ρ own w a b s ha hb => ?_⟩
          have s1 := s.of_quiet q
          have hby := hq3 s.ask
          simp only [decide_eq_true_eq] at hby
          have hF : F n := s.log n (mem_ins.2 (.inl rfl))
          obtain ⟨ad, c, news, rfl, g1, g2, g3, g4⟩ := hsrc B F ρ own w b s.li (fun k hk => s.log k (mem_ins.2 (.inr (q3.fr k (q2.fr k hk))))) hb
          obtain ⟨e, he, hat⟩ := s.li.at_ n _ hF hc0
          have hat' := hat
          obtain ⟨ho, cs', vs, h19, h20, h21, h22, h23⟩ := hat'
          have hlen := denL_length h20
          simp only [den, he, Option.map_some, Option.some.injEq] at ha
          subst ha
          have hone := oneC_all h1c g1
          have hsr : Src P i.size tx (.slice ad (m + 1) c) (m + 1) news w := src_of hkx g2 g3 g4 hone
          have hfr : ρ st2.nx = none := s1.fresh _ (newN_move.2 rfl)
          by_cases hroom : len + (m + 1) ≤ e.cap - idx
          · obtain ⟨w', hst, hm, hc'⟩ := row_extend (ρ' := ρ.put st2.nx ⟨e.b, e.cap - idx, e.off + off, 0, 0, none⟩) hat g1 hcell hw2 hll g2 hroom hb1 h1c (Names.put_le hfr)
            have hr := append_room (ty := ty) hu hi e.b (e.off + off) len (e.cap - idx) _ (m + 1) news hsr hroom hst
            have ht := Tr.move s1 hc2 _ (own n) hm hc' (fun b hb => .inl hb)
            refine ⟨_, _, _, _, hr, ?_, Tr.of_quiet q ht⟩
            simp only [den]
            rw [Names.put_same]
            simp [Nat.add_assoc]
          · have hd := denL_drop h20 off
            have hold : (Builtin.firstCells i.size len (.slice (some ⟨e.b, e.off + off, none⟩) len (e.cap - idx))).run P w.drew = .ok (vs.drop off).toArray w.drew := by
              refine run_firstCells_some w.drew i.size len _ _ _ _ ?_ (fun j u hu' => ?_)
              · rw [List.length_drop, hlen, hll, hw2, Nat.add_mul]
                omega
              · rw [add_at]
                show w.cell? _ = _
                rw [cell_of_row w e.b _ cs' t' (0, 0) h19, Nat.add_assoc]
                rw [List.getElem?_drop] at hu'
                rw [h21 _ (lt_of_some hu')]
                exact hu'
            have hb1' : len + (m + 1) ≤ (len + (m + 1)) * i.bytes := Nat.le_mul_of_pos_right _ (by omega)
            have hr := run_append_grow_src w t tx ty t' i zv hu hi hz (some ⟨e.b, e.off + off, none⟩) len (e.cap - idx) (vs.drop off) hold _ (m + 1) news hsr (by omega) (by rw [Nat.add_assoc] at hby; omega) (growslice_fits (by omega) (by rw [← Nat.add_assoc]; omega))
            have hge := grownCap_ge w (len + (m + 1)) (e.cap - idx) t'
            generalize grownCap w (len + (m + 1)) (e.cap - idx) t' = gc at hr hge
            have e0 : (len + (m + 1)) * i.size = len * i.size + (m + 1) * i.size := Nat.add_mul ..
            have e1 : (idx + len) * i.size = idx * i.size + len * i.size := Nat.add_mul ..
            have e2 : (len + (m + 1)) * i.size ≤ gc * i.size := Nat.mul_le_mul_right _ (by omega)
            have e3 : (len + (m + 1)) * i.size + (gc - (len + (m + 1))) * i.size = gc * i.size := by
              rw [← Nat.add_mul]
              congr 1
              omega
            have hmod : ModP (fun b => b ∈ own n) w (w.drew.alloc (.cells ((vs.drop off ++ news).toArray ++ Builtin.zeroCells zv.cells (gc - (len + (m + 1)))) t')) := ⟨rfl, rfl, rfl, by simp, fun k hk _ => RowKit.Below.heap_alloc w.drew _ k hk⟩
            have ht := Tr.move s1 hc2 ⟨w.heap.size, gc, 0, 0, 0, none⟩ [w.heap.size] hmod (c := .row (l.drop off ++ cs) t') ⟨rfl, _, vs.drop off ++ news, heap_alloc_new w.drew _, denL_append.2 ⟨_, _, denL_mono (Names.put_le hfr) _ _ hd, denL_mono (Names.put_le hfr) _ _ g1, rfl⟩, fun j hj => by
              change (_ ++ _ : Array Value)[0 + j]? = _
              rw [Nat.zero_add, Array.getElem?_append_left (by simpa using hj)]
              simp, by
              rw [hcell, List.length_append, List.length_drop]
              show _ ≤ gc * i.size
              omega, by
              rw [hcell, Array.size_append, size_zeroCells, hzs]
              simp only [List.size_toArray, List.length_append, List.length_drop]
              show 0 + gc * i.size ≤ _
              omega⟩ (fun b hb => .inr (by
              rw [List.mem_singleton] at hb
              subst hb
              exact ⟨Nat.le_refl _, by simp⟩))
            refine ⟨_, _, _, _, hr, ?_, Tr.of_quiet q ht⟩
            simp only [den]
            rw [Names.put_same]
            simp [Nat.add_assoc]
      · exact (fail_ok.1 h8).elim
    · exact (fail_ok.1 h6).elim
  · exact (fail_ok.1 h).elim

theorem copy_s {t tx ty : TypeId} {x y s : SV} (h : copyX P t x y st = .ok s st') : Fn st st' ∧ ∀ B F ρ own w a b, Sit A P B F st st' ρ own w → den ρ x = some a → den ρ y = some b →
    ∃ v ρ' own' w', (Builtin.copy_ #[t, tx] ty #[a, b]).run P w = .ok v w' ∧ den ρ' s = some v ∧ Tr A P B F st st' ρ own w ρ' own' w' := by
  unfold copyX at h
  generalize hu : P.underlying t = du at h
  split at h
  · next elem =>
    obtain ⟨i, _, h1, h2⟩ := bind_ok.1 h
    obtain ⟨hi, rfl⟩ := opt_ok.1 h1
    obtain ⟨⟨m, cs⟩, st1, h3, h4⟩ := bind_ok.1 h2
    obtain ⟨q1, hsrc⟩ := src_s (A := A) (P := P) h3
    have hsz : szT P elem = some i.size := by simp [szT, hi]
    split at h4
    · next n off idx len =>
      simp only at h4
      have hlo : ∀ {ad c} (w : World), (Builtin.lenOf (.slice ad m c)).run P w = .ok m w := fun _ => rfl
      cases hmin : Nat.min m len with
      | zero =>
        rw [hmin] at h4
        obtain ⟨rfl, rfl⟩ := ret_ok.1 h4
        refine ⟨q1.fn, fun B F ρ own w a b s ha hb => ?_⟩
        obtain ⟨ad, c, news, rfl, g1, g2, g3, g4⟩ := hsrc B F ρ own w b s.li s.log hb
        simp only [den, Option.map_eq_some_iff] at ha
        obtain ⟨e, he, rfl⟩ := ha
        refine ⟨_, _, _, w, ?_, rfl, s.quiet q1⟩
        have hf : (Builtin.firstCells i.size 0 (.slice ad m c)).run P w = .ok #[] w := by
          cases ad with
          | none => exact run_firstCells_none w i.size 0 m c
          | some g => exact run_firstCells_some w i.size 0 g m c [] (by simp) (fun j v hv => by simp at hv)
        simp only [Builtin.copy_, List.getElem?_toArray, List.getElem?_cons_zero, List.getElem?_cons_succ, Sem.run_bind, run_underlying hu w, Result.andThen_ok, hlo, hmin, szT_run hsz w, hf, storeCells, Sem.run_pure]
        rfl
      | succ k =>
        rw [hmin] at h4
        obtain ⟨cs', _, h5, h6⟩ := bind_ok.1 h4
        obtain ⟨hcut, rfl⟩ := opt_ok.1 h5
        obtain ⟨c, st2, h7, h8⟩ := bind_ok.1 h6
        obtain ⟨hc, rfl⟩ := getC_ok.1 h7
        split at h8
        · next l t' =>
          obtain ⟨_, _, h9, h10⟩ := bind_ok.1 h8
          obtain ⟨hw, rfl⟩ := want_ok.1 h9
          obtain ⟨_, st3, h11, h12⟩ := bind_ok.1 h10
          obtain ⟨_, rfl⟩ := setC_ok.1 h11
          obtain ⟨rfl, rfl⟩ := ret_ok.1 h12
          simp only [Bool.and_eq_true] at hw
          obtain ⟨hw1, hw2⟩ := hw
          have hw1 := Nat.le_of_ble_eq_true hw1
          have q2 : Quiet st1 { st1 with fr := insN n st1.fr } := Quiet.get
          have q := q1.trans q2
          refine ⟨q.fn.trans (Fn.set _ n _ _ hc), fun B F ρ own w a b s ha hb => ?_⟩
          have s1 := s.of_quiet q
          have hsub : ∀ z ∈ st1.fr, z ∈ insN n (insN n st1.fr) := fun z hz => mem_ins.2 (.inr (mem_ins.2 (.inr hz)))
          obtain ⟨ad, c, news, rfl, g1, g2, g3, g4⟩ := hsrc B F ρ own w b s.li (fun z hz => s.log z (hsub z hz)) hb
          obtain ⟨e, he, hat⟩ := s1.li.at_ n _ (s1.log n (mem_ins.2 (.inl rfl))) hc
          simp only [den, he, Option.map_some, Option.some.injEq] at ha
          subst ha
          obtain ⟨rfl, hcl⟩ := cut_ok hcut
          simp only [List.drop_zero] at hcl hw2 ⊢
          have hd := denL_take g1 ((k + 1) * i.size)
          have hdl := denL_length hd
          obtain ⟨w', hst, hm, hc'⟩ := row_write (off := off) hat hd (by rw [hcl]; omega) hw2
          refine ⟨_, _, _, w', ?_, rfl, Tr.of_quiet q (Tr.set s1 hc he (own n) hm hc' (fun b hb => .inl hb))⟩
          have hkm : k + 1 ≤ m := by rw [← hmin]; exact Nat.min_le_left _ _
          have hf : (Builtin.firstCells i.size (k + 1) (.slice ad m c)).run P w = .ok (news.take ((k + 1) * i.size)).toArray w := by
            cases ad with
            | none => have := g4 rfl; omega
            | some g => exact run_firstCells_some w i.size (k + 1) g m c _ (by rw [hdl, hcl]) (fun j v hv => by
                rw [List.getElem?_take] at hv
                split at hv
                · exact g3 g rfl j v hv
                · cases hv)
          simp only [Builtin.copy_, List.getElem?_toArray, List.getElem?_cons_zero, List.getElem?_cons_succ, Sem.run_bind, run_underlying hu w, Result.andThen_ok, hlo, hmin, szT_run hsz w, hf, hst, Sem.run_pure]
          rfl
        · exact (fail_ok.1 h8).elim
    · exact (fail_ok.1 h4).elim
  · exact (fail_ok.1 h).elim
end
end Go.Proofs.Ytkndpdmopgmlcaa
end
section
/- What the executor says of an operation, the machine does, if it does so of calls. No condition. -/
namespace Go.Proofs.Ytkndpdmopgmlcaa

section
variable {R : Type} (A : RepAt R) (P : Program)
def CallS (f : FuncId) (args : List SV) (st st' : St R) (s : SV) : Prop := Fn st st' ∧ ∀ B F ρ own w vals, Sit A P B F st st' ρ own w → denL ρ args = some vals →
  Calls P f vals.toArray w fun e w' => ∃ x ρ' own', e = .returned x ∧ den ρ' s = some x ∧ Tr A P B F st st' ρ own w ρ' own' w'
def OpS (o : Oper) (ev : Operand → Option SV) (st st' : St R) (s : SV) : Prop := Fn st st' ∧ ∀ B F ρ own w a, Sit A P B F st st' ρ own w → Ev ρ ev a → ∀ (K : Act → World → Prop) (Q : Exit → Act → World → Prop),
  (∀ x ρ' own' w', Tr A P B F st st' ρ own w ρ' own' w' → den ρ' s = some x → K (a.put o.dst x) w') → o.wp P a w K Q
def CallOK (call : FuncId → List SV → M R SV) : Prop := ∀ f args st s st', call f args st = .ok s st' → CallS A P f args st st' s
structure HkOK (call : Hk R) : Prop where
  fn : CallOK A P call.fn
  ext : ∀ ev o m, call.ext ev o = some m → ∀ st s st', m st = .ok s st' → OpS A P o ev st st' s
variable {A P}
variable {st st' : St R} {o : Oper} {a : Act} {w w' : World} {K : Act → World → Prop} {Q : Exit → Act → World → Prop}

theorem intSV_ok {ρ : Names} {s : SV} {n : Int} {x : Value} (h : intSV s = some n) (hx : den ρ s = some x) : ∃ k, x = .int k n := by
  unfold intSV at h
  split at h
  · next k m =>
    injection h with h
    subst h
    simp only [den, Option.some.injEq] at hx
    exact ⟨k, hx.symm⟩
  · cases h
theorem wp_val {x : Value} (h : (execOp a.eval o).run P w = .ok (.value x) w') (hk : K (a.put o.dst x) w') : o.wp P a w K Q := by
  unfold Oper.wp
  rw [h]
  exact hk
theorem wp_unit (h : (execOp a.eval o).run P w = .ok .skip w') (hk : K (a.put o.dst undef) w') : o.wp P a w K Q := by
  unfold Oper.wp
  rw [h]
  exact hk
theorem wp_enter {f : FuncId} {args : Array Value} (h : (execOp a.eval o).run P w = .ok (.enter f args) w) (hk : Calls P f args w fun e w' => ∃ x, e = .returned x ∧ K (a.put o.dst x) w') : o.wp P a w K Q := by
  unfold Oper.wp
  rw [h]
  exact hk.mono fun e w' ⟨x, he, hx⟩ => by subst he; exact hx
theorem vrun {m : Sem Value} {x : Value} (h : m.run P w = .ok x w') : (do pure (.value (← m)) : Sem Next).run P w = .ok (.value x) w' := by
  rw [Sem.run_bind, h]
  rfl
theorem okFn_run {g : FuncId} (h : okFn P g = true) (args : Array Value) : (callFunc g args).run P w = .ok (.enter g args) w := by
  unfold okFn at h
  cases hf : P.funcs[g]? with
  | none => rw [hf] at h; cases h
  | some fn =>
    rw [hf] at h
    simp only [Bool.and_eq_true, bne_iff_ne, ne_eq] at h
    have hb : fn.body.isNone = false := by
      cases hbo : fn.body with
      | none => rw [hbo] at h; cases h.1
      | some _ => rfl
    simp only [callFunc, Sem.run_bind, run_program, Result.andThen_ok, hf, beq_iff_eq, h.2, if_false, hb, Bool.false_eq_true, Sem.run_pure]
theorem lenX_run {ρ : Names} {t ty : TypeId} {x s : SV} {v : Value} (h : lenX P t ty x = some s) (hx : den ρ x = some v) : ∃ y, den ρ s = some y ∧ ∀ w, (Builtin.len_ #[t] ty #[v]).run P w = .ok y w := by
  unfold lenX at h
  split at h
  · split at h <;> cases h
    next e hu =>
    simp only [den, Option.map_eq_some_iff] at hx
    obtain ⟨en, _, rfl⟩ := hx
    exact ⟨_, rfl, fun w => by simp only [Builtin.len_, List.getElem?_toArray, List.getElem?_cons_zero, Sem.run_bind, run_underlying hu w, Result.andThen_ok]; rfl⟩
  · split at h <;> cases h
    next e hu =>
    simp only [den, Option.map_eq_some_iff] at hx
    obtain ⟨en, _, rfl⟩ := hx
    exact ⟨_, rfl, fun w => by simp only [Builtin.len_, List.getElem?_toArray, List.getElem?_cons_zero, Sem.run_bind, run_underlying hu w, Result.andThen_ok]; rfl⟩
  · split at h <;> cases h
    next e hu =>
    simp only [den, Option.map_eq_some_iff] at hx
    obtain ⟨en, _, rfl⟩ := hx
    exact ⟨_, rfl, fun w => by simp only [Builtin.len_, List.getElem?_toArray, List.getElem?_cons_zero, Sem.run_bind, run_underlying hu w, Result.andThen_ok]; rfl⟩
  · simp only [Option.map_eq_some_iff] at h
    obtain ⟨y, hy, rfl⟩ := h
    simp only [den, Option.some.injEq] at hx
    subst hx
    exact ⟨y, rfl, pureRun_run hy⟩
  · cases h
theorem builtin_s {b : Builtin} {argTypes : Array TypeId} {ty : TypeId} {args : List SV} {s : SV} (h : builtinX P b argTypes.toList ty args st = .ok s st') : Fn st st' ∧ ∀ B F ρ own w vals cs, Sit A P B F st st' ρ own w → denL ρ args = some (Array.toList vals) →
    ∃ y ρ' own' w', (builtin b argTypes ty cs vals).run P w = .ok (.value y) w' ∧ den ρ' s = some y ∧ Tr A P B F st st' ρ own w ρ' own' w' := by
  generalize hat : argTypes.toList = la at h
  unfold builtinX at h
  split at h
  · next t x =>
    obtain ⟨hl, rfl⟩ := opt_ok.1 h
    have ea : argTypes = #[t] := Array.ext' hat
    subst ea
    refine ⟨Fn.refl _, fun B F ρ own w vals cs si hd => ?_⟩
    obtain ⟨u, _, g1, g2, g3⟩ := denL_cons.1 hd
    simp only [denL, Option.some.injEq] at g2
    subst g2
    have ev : vals = #[u] := Array.ext' g3
    subst ev
    obtain ⟨y, h1, h2⟩ := lenX_run hl g1
    exact ⟨y, ρ, own, w, vrun (h2 w), h1, si.quiet (Quiet.refl _)⟩
  · next t tx x y =>
    have ea : argTypes = #[t, tx] := Array.ext' hat
    subst ea
    obtain ⟨hf, hs⟩ := append_s (A := A) (ty := ty) h rfl
    refine ⟨hf, fun B F ρ own w vals cs si hd => ?_⟩
    obtain ⟨u, _, g1, g2, g3⟩ := denL_cons.1 hd
    obtain ⟨v, _, g4, g5, rfl⟩ := denL_cons.1 g2
    simp only [denL, Option.some.injEq] at g5
    subst g5
    have ev : vals = #[u, v] := Array.ext' g3
    subst ev
    obtain ⟨r, ρ', own', w', h1, h2, h3⟩ := hs B F ρ own w u v si g1 g4
    exact ⟨r, ρ', own', w', vrun h1, h2, h3⟩
  · next t tx x y =>
    have ea : argTypes = #[t, tx] := Array.ext' hat
    subst ea
    obtain ⟨hf, hs⟩ := copy_s (A := A) (tx := tx) (ty := ty) h
    refine ⟨hf, fun B F ρ own w vals cs si hd => ?_⟩
    obtain ⟨u, _, g1, g2, g3⟩ := denL_cons.1 hd
    obtain ⟨v, _, g4, g5, rfl⟩ := denL_cons.1 g2
    simp only [denL, Option.some.injEq] at g5
    subst g5
    have ev : vals = #[u, v] := Array.ext' g3
    subst ev
    obtain ⟨r, ρ', own', w', h1, h2, h3⟩ := hs B F ρ own w u v si g1 g4
    exact ⟨r, ρ', own', w', vrun h1, h2, h3⟩
  · next k x _ y =>
    obtain ⟨rfl, rfl⟩ := ret_ok.1 h
    refine ⟨Fn.refl _, fun B F ρ own w vals cs si hd => ?_⟩
    simp only [denL, den, Option.some.injEq] at hd
    have ev : vals = #[.int k x, .int _ y] := Array.ext' hd.symm
    subst ev
    exact ⟨_, ρ, own, w, vrun (show (Builtin.min_ argTypes ty _).run P w = _ from rfl), rfl, si.quiet (Quiet.refl _)⟩
  · next k x _ y =>
    obtain ⟨rfl, rfl⟩ := ret_ok.1 h
    refine ⟨Fn.refl _, fun B F ρ own w vals cs si hd => ?_⟩
    simp only [denL, den, Option.some.injEq] at hd
    have ev : vals = #[.int k x, .int _ y] := Array.ext' hd.symm
    subst ev
    exact ⟨_, ρ, own, w, vrun (show (Builtin.max_ argTypes ty _).run P w = _ from rfl), rfl, si.quiet (Quiet.refl _)⟩
  · exact (fail_ok.1 h).elim

theorem op_s {call : Hk R} (hcall : HkOK A P call) {ev : Operand → Option SV} {s : SV} (h : opX P call ev o st = .ok s st') : OpS A P o ev st st' s := by
  obtain ⟨dst, op, ty, pos, aft, gu⟩ := o
  have plain : ∀ {s}, plainX P ev op = some s → ∀ {st' : St R}, st' = st → OpS A P ⟨dst, op, ty, pos, aft, gu⟩ ev st st' s := by
    rintro s hp st' rfl
    refine ⟨Fn.refl _, fun B F ρ own w a si hev K Q hk => ?_⟩
    obtain ⟨x, h1, h2⟩ := plain_run (o := ⟨dst, op, ty, pos, aft, gu⟩) hp hev
    exact wp_val (h2 w) (hk x ρ own w (si.quiet (Quiet.refl _)) h1)
  unfold opX at h
  cases hx : call.ext ev ⟨dst, op, ty, pos, aft, gu⟩ with
  | some m =>
    rw [hx] at h
    exact hcall.ext _ _ _ hx _ _ _ h
  | none =>
  rw [hx] at h
  cases op <;> simp only at h <;> (try (obtain ⟨hp, rfl⟩ := opt_ok.1 h; exact plain hp rfl))
  case pick c x y =>
    obtain ⟨sc, _, h1, h2⟩ := bind_ok.1 h
    obtain ⟨hc, rfl⟩ := opt_ok.1 h1
    split at h2
    · next t =>
      obtain ⟨r, st1, h3, h4⟩ := bind_ok.1 h2
      obtain ⟨q, hq⟩ := ask_ok h3
      cases r with
      | true =>
        obtain ⟨hx, rfl⟩ := opt_ok.1 h4
        refine ⟨q.fn, fun B F ρ own w a si hev K Q hk => wp_val (x := a.eval x) ?_ (hk _ ρ own w (si.quiet q) (hev _ _ hx))⟩
        have e := hev _ _ hc
        simp only [den, Option.some.injEq] at e
        simp only [execOp, ← e, asBool, Sem.run_bind, Sem.run_pure, Result.andThen_ok, hq si.ask, if_true]
      | false =>
        obtain ⟨hx, rfl⟩ := opt_ok.1 h4
        refine ⟨q.fn, fun B F ρ own w a si hev K Q hk => wp_val (x := a.eval y) ?_ (hk _ ρ own w (si.quiet q) (hev _ _ hx))⟩
        have e := hev _ _ hc
        simp only [den, Option.some.injEq] at e
        simp only [execOp, ← e, asBool, Sem.run_bind, Sem.run_pure, Result.andThen_ok, hq si.ask, Bool.false_eq_true, if_false]
    · exact (fail_ok.1 h2).elim
  case alloc t =>
    obtain ⟨z, _, h1, h2⟩ := bind_ok.1 h
    obtain ⟨hz, rfl⟩ := opt_ok.1 h1
    obtain ⟨k, _, h3, h4⟩ := bind_ok.1 h2
    obtain ⟨hk, rfl⟩ := opt_ok.1 h3
    obtain ⟨_, _, h5, h6⟩ := bind_ok.1 h4
    obtain ⟨hl, rfl⟩ := want_ok.1 h5
    obtain ⟨n, st1, h7, h8⟩ := bind_ok.1 h6
    obtain ⟨rfl, rfl⟩ := newC_ok.1 h7
    obtain ⟨rfl, rfl⟩ := ret_ok.1 h8
    obtain ⟨hf, hs⟩ := alloc_s (A := A) (st := st) hz hk (Nat.eq_of_beq_eq_true hl)
    refine ⟨hf, fun B F ρ own w a si hev K Q hk => ?_⟩
    obtain ⟨y, ρ', own', w', g1, g2, g3⟩ := hs B F ρ own w si
    exact wp_val (vrun g1) (hk y ρ' own' w' g3 g2)
  case box t x =>
    obtain ⟨v, _, h1, h2⟩ := bind_ok.1 h
    obtain ⟨hv, rfl⟩ := opt_ok.1 h1
    obtain ⟨k, _, h3, h4⟩ := bind_ok.1 h2
    obtain ⟨hk, rfl⟩ := opt_ok.1 h3
    obtain ⟨_, _, h5, h6⟩ := bind_ok.1 h4
    obtain ⟨hl, rfl⟩ := want_ok.1 h5
    obtain ⟨n, st1, h7, h8⟩ := bind_ok.1 h6
    obtain ⟨rfl, rfl⟩ := newC_ok.1 h7
    obtain ⟨rfl, rfl⟩ := ret_ok.1 h8
    obtain ⟨hf, hs⟩ := box_s (A := A) (st := st) hk (Nat.eq_of_beq_eq_true hl)
    refine ⟨hf, fun B F ρ own w a si hev K Q hk => ?_⟩
    obtain ⟨y, ρ', own', w', g1, g2, g3⟩ := hs B F ρ own w _ si (hev _ _ hv)
    exact wp_val (vrun g1) (hk y ρ' own' w' g3 g2)
  case buildSlice t len parts =>
    obtain ⟨ps, _, h1, h2⟩ := bind_ok.1 h
    obtain ⟨hps, rfl⟩ := opt_ok.1 h1
    obtain ⟨r, _, h3, h4⟩ := bind_ok.1 h2
    obtain ⟨hr, rfl⟩ := opt_ok.1 h3
    obtain ⟨elem, l⟩ := r
    obtain ⟨n, st1, h7, h8⟩ := bind_ok.1 h4
    obtain ⟨rfl, rfl⟩ := newC_ok.1 h7
    obtain ⟨rfl, rfl⟩ := ret_ok.1 h8
    obtain ⟨hf, hs⟩ := buildSlice_s (A := A) (st := st) hr
    refine ⟨hf, fun B F ρ own w a si hev K Q hk => ?_⟩
    have h2 := mapM_two (g := fun (p : Nat × Operand) => (p.1, a.eval p.2)) (R := fun (p : Nat × SV) (q : Nat × Value) => p.1 = q.1 ∧ den ρ p.2 = some q.2) (fun p b hb => by
      simp only [Option.map_eq_some_iff] at hb
      obtain ⟨s, hs, rfl⟩ := hb
      exact ⟨rfl, hev _ _ hs⟩) hps
    obtain ⟨y, ρ', own', w', g1, g2, g3⟩ := hs B F ρ own w (parts.map fun (i, x) => (i, a.eval x)) si (by simpa using h2)
    exact wp_val (vrun g1) (hk y ρ' own' w' g3 g2)
  case load t x =>
    obtain ⟨v, _, h1, h2⟩ := bind_ok.1 h
    obtain ⟨hv, rfl⟩ := opt_ok.1 h1
    have q := loadX_quiet h2
    refine ⟨q.fn, fun B F ρ own w a si hev K Q hk => ?_⟩
    obtain ⟨y, g1, g2⟩ := loadX_run h2 si.li si.log (hev _ _ hv)
    exact wp_val (vrun g2) (hk y ρ own w (si.quiet q) g1)
  case store t x y =>
    obtain ⟨sx, _, h1, h2⟩ := bind_ok.1 h
    obtain ⟨hx, rfl⟩ := opt_ok.1 h1
    obtain ⟨sy, _, h3, h4⟩ := bind_ok.1 h2
    obtain ⟨hy, rfl⟩ := opt_ok.1 h3
    obtain ⟨_, st1, h5, h6⟩ := bind_ok.1 h4
    obtain ⟨rfl, rfl⟩ := ret_ok.1 h6
    obtain ⟨hf, hs⟩ := store_s (A := A) h5
    refine ⟨hf, fun B F ρ own w a si hev K Q hk => ?_⟩
    obtain ⟨ρ', own', w', g1, g2⟩ := hs B F ρ own w _ _ si (hev _ _ hx) (hev _ _ hy)
    refine wp_unit ?_ (hk undef ρ' own' w' g2 rfl)
    simp only [execOp, Sem.run_bind, g1, Result.andThen_ok]
    rfl
  case makeSlice t len cap =>
    obtain ⟨zn, _, h1, h2⟩ := bind_ok.1 h
    obtain ⟨hn, rfl⟩ := opt_ok.1 h1
    obtain ⟨zc, _, h3, h4⟩ := bind_ok.1 h2
    obtain ⟨hc, rfl⟩ := opt_ok.1 h3
    simp only [Option.bind_eq_some_iff] at hn hc
    obtain ⟨s1, hs1, hn⟩ := hn
    obtain ⟨s2, hs2, hc⟩ := hc
    generalize hu : P.underlying t = du at h4
    split at h4
    · next elem =>
      obtain ⟨i, _, h5, h6⟩ := bind_ok.1 h4
      obtain ⟨hi, rfl⟩ := opt_ok.1 h5
      obtain ⟨_, st0, h7, h8⟩ := bind_ok.1 h6
      obtain ⟨q, hq⟩ := need_ok h7
      obtain ⟨z, _, h9, h10⟩ := bind_ok.1 h8
      obtain ⟨hz, rfl⟩ := opt_ok.1 h9
      obtain ⟨m, st1, h11, h12⟩ := bind_ok.1 h10
      obtain ⟨rfl, rfl⟩ := newC_ok.1 h11
      obtain ⟨rfl, rfl⟩ := ret_ok.1 h12
      refine ⟨quiet_new q (.row z elem), fun B F ρ own w a si hev K Q hk => ?_⟩
      have hb := hq si.ask
      rw [Bool.and_eq_true, Bool.and_eq_true, decide_eq_true_eq, decide_eq_true_eq] at hb
      obtain ⟨⟨hb1, hb2⟩, hb3⟩ := hb
      obtain ⟨hf, hs⟩ := makeSlice_s (A := A) (st := st0) hu hi hb3 hz
      obtain ⟨k1, e1⟩ := intSV_ok hn (hev _ _ hs1)
      obtain ⟨k2, e2⟩ := intSV_ok hc (hev _ _ hs2)
      obtain ⟨y, ρ', own', w', g1, g2, g3⟩ := hs B F ρ own w k1 k2 (si.of_quiet q)
      rw [Int.toNat_of_nonneg hb1, Int.toNat_of_nonneg hb2] at g1
      exact wp_val (vrun (by rw [e1, e2]; exact g1)) (hk y ρ' own' w' (Tr.of_quiet q g3) g2)
    · exact (fail_ok.1 h4).elim
  case slice t x lo hi mx =>
    cases mx with
    | some _ => 
      obtain ⟨hp, rfl⟩ := opt_ok.1 h
      exact plain hp rfl
    | none =>
      obtain ⟨sx, _, h1, h2⟩ := bind_ok.1 h
      obtain ⟨hx, rfl⟩ := opt_ok.1 h1
      obtain ⟨sl, _, h3, h4⟩ := bind_ok.1 h2
      obtain ⟨hl, rfl⟩ := opt_ok.1 h3
      obtain ⟨sh, _, h5, h6⟩ := bind_ok.1 h4
      obtain ⟨hh, rfl⟩ := opt_ok.1 h5
      obtain ⟨hf, hs⟩ := slice_s (A := A) h6
      refine ⟨hf, fun B F ρ own w a si hev K Q hk => ?_⟩
      have side : ∀ {x : Option Operand} {r : Option SV}, (match x with | some l => (ev l).map some | none => some none) = some r → (∀ l, r = some l → ∃ v, x.map a.eval = some v ∧ den ρ l = some v) ∧ (r = none → x.map a.eval = none) := by
        intro x r hr
        cases x with
        | none =>
          simp only [Option.some.injEq] at hr
          subst hr
          exact ⟨(fun l hl => by cases hl), fun _ => rfl⟩
        | some l =>
          simp only [Option.map_eq_some_iff] at hr
          obtain ⟨s, hs, rfl⟩ := hr
          exact ⟨(fun l' hl' => by injection hl' with hl'; subst hl'; exact ⟨_, rfl, hev _ _ hs⟩), fun hn => by cases hn⟩
      obtain ⟨y, ρ', own', w', g1, g2, g3⟩ := hs B F ρ own w _ _ _ si (hev _ _ hx) (side hl).1 (side hl).2 (side hh).1 (side hh).2
      exact wp_val (vrun g1) (hk y ρ' own' w' g3 g2)
  case indexAddr t x i =>
    obtain ⟨sx, _, h1, h2⟩ := bind_ok.1 h
    obtain ⟨hx, rfl⟩ := opt_ok.1 h1
    obtain ⟨si', _, h3, h4⟩ := bind_ok.1 h2
    obtain ⟨hi, rfl⟩ := opt_ok.1 h3
    obtain ⟨q, hs⟩ := idx_s (A := A) h4
    refine ⟨q.fn, fun B F ρ own w a si hev K Q hk => ?_⟩
    obtain ⟨y, g1, g2⟩ := hs B F ρ own w _ _ si (hev _ _ hx) (hev _ _ hi)
    exact wp_val (vrun g1) (hk y ρ own w (si.quiet q) g2)
  case call c =>
    obtain ⟨callee, cargs, argTypes⟩ := c
    obtain ⟨args, _, h1, h2⟩ := bind_ok.1 h
    obtain ⟨hargs, rfl⟩ := opt_ok.1 h1
    have hden : ∀ {ρ : Names} {a : Act}, Ev ρ ev a → denL ρ args = some (cargs.toList.map a.eval) := fun hev => ev_list hev hargs
    cases callee with
    | builtin b =>
      obtain ⟨hf, hs⟩ := builtin_s (A := A) h2
      refine ⟨hf, fun B F ρ own w a si hev K Q hk => ?_⟩
      obtain ⟨y, ρ', own', w', g1, g2, g3⟩ := hs B F ρ own w (cargs.map a.eval) (cargs.map fun | .const _ => true | _ => false) si (by simpa using hden hev)
      refine wp_val ?_ (hk y ρ' own' w' g3 g2)
      simp only [execOp, resolve, Sem.run_bind, Sem.run_pure, Result.andThen_ok, invoke]
      exact g1
    | value f =>
      obtain ⟨sf, _, h3, h4⟩ := bind_ok.1 h2
      obtain ⟨hf, rfl⟩ := opt_ok.1 h3
      split at h4
      · next g a1 a2 =>
        obtain ⟨_, _, h5, h6⟩ := bind_ok.1 h4
        obtain ⟨hb, rfl⟩ := want_ok.1 h5
        simp only [Bool.and_eq_true] at hb
        obtain ⟨⟨hok, he1⟩, he2⟩ := hb
        have he1 := Array.eq_empty_of_size_eq_zero (Nat.eq_of_beq_eq_true he1)
        have he2 := Array.eq_empty_of_size_eq_zero (Nat.eq_of_beq_eq_true he2)
        subst he1
        subst he2
        obtain ⟨hfn, hs⟩ := hcall.fn g args st s st' h6
        refine ⟨hfn, fun B F ρ own w a si hev K Q hk => ?_⟩
        have e := hev _ _ hf
        simp only [den, Option.some.injEq] at e
        refine wp_enter (f := g) (args := (cargs.toList.map a.eval).toArray) ?_ ((hs B F ρ own w _ si (hden hev)).mono fun e w' ⟨x, ρ', own', h7, h8, h9⟩ => ⟨x, h7, hk x ρ' own' w' h9 h8⟩)
        simp only [execOp, resolve, ← e, Deferred.ofValue, Sem.run_bind, Sem.run_pure, Result.andThen_ok, invoke]
        refine Eq.trans (congrArg (fun z => Sem.run P (callFunc g z) w) ?_) (okFn_run hok _)
        apply Array.ext'
        simp
      · next g a1 a2 =>
        obtain ⟨_, _, h5, h6⟩ := bind_ok.1 h4
        obtain ⟨hok, rfl⟩ := want_ok.1 h5
        obtain ⟨hfn, hs⟩ := hcall.fn g _ st s st' h6
        refine ⟨hfn, fun B F ρ own w a si hev K Q hk => ?_⟩
        have e := hev _ _ hf
        simp only [den] at e
        split at e
        · next va vc hva hvc =>
          simp only [Option.some.injEq] at e
          have hall : denL ρ (a1 ++ (args ++ a2)) = some (va ++ (cargs.toList.map a.eval ++ vc)) := denL_append.2 ⟨_, _, hva, denL_append.2 ⟨_, _, hden hev, hvc, rfl⟩, rfl⟩
          refine wp_enter (f := g) (args := (va ++ (cargs.toList.map a.eval ++ vc)).toArray) ?_ ((hs B F ρ own w _ si hall).mono fun e w' ⟨x, ρ', own', h7, h8, h9⟩ => ⟨x, h7, hk x ρ' own' w' h9 h8⟩)
          simp only [execOp, resolve, ← e, Deferred.ofValue, Sem.run_bind, Sem.run_pure, Result.andThen_ok, invoke]
          refine Eq.trans (congrArg (fun z => Sem.run P (callFunc g z) w) ?_) (okFn_run hok _)
          apply Array.ext'
          simp
        · cases e
      · exact (fail_ok.1 h4).elim
    | invoke r name =>
      obtain ⟨sr, _, h3, h4⟩ := bind_ok.1 h2
      obtain ⟨hr, rfl⟩ := opt_ok.1 h3
      split at h4
      · next t x =>
        obtain ⟨g, _, h5, h6⟩ := bind_ok.1 h4
        obtain ⟨hm, rfl⟩ := opt_ok.1 h5
        obtain ⟨_, _, h7, h8⟩ := bind_ok.1 h6
        obtain ⟨hok, rfl⟩ := want_ok.1 h7
        obtain ⟨hfn, hs⟩ := hcall.fn g _ st s st' h8
        refine ⟨hfn, fun B F ρ own w a si hev K Q hk => ?_⟩
        have e := hev _ _ hr
        simp only [den, Option.map_eq_some_iff] at e
        obtain ⟨v, hv, e⟩ := e
        refine wp_enter (f := g) (args := (v :: cargs.toList.map a.eval).toArray) ?_ ((hs B F ρ own w _ si (denL_cons.2 ⟨_, _, hv, hden hev, rfl⟩)).mono fun e w' ⟨x, ρ', own', h7, h8, h9⟩ => ⟨x, h7, hk x ρ' own' w' h9 h8⟩)
        have hx : (cargs.map a.eval).toList = cargs.toList.map a.eval := by simp
        have hsz : (#[a.eval r] ++ cargs.map a.eval)[0]? = some (a.eval r) := by
          rw [Array.getElem?_append_left (by simp)]
          rfl
        have hex : (#[a.eval r] ++ cargs.map a.eval).extract 1 (#[a.eval r] ++ cargs.map a.eval).size = cargs.map a.eval := by
          apply Array.ext'
          simp
          rw [List.take_of_length_le (by simp)]
        rw [← e] at hsz hex
        simp only [execOp, resolve, Sem.run_bind, Sem.run_pure, Result.andThen_ok, invoke, hsz, hex, ← e, callMethod, run_program]
        rw [show P.types.size + Made.depth = (P.types.size + 99) + 1 from rfl, methodX_run hm v _ w]
        simp only [Result.andThen_ok]
        refine Eq.trans (congrArg (fun z => Sem.run P (callFunc g z) w) ?_) (okFn_run hok _)
        apply Array.ext'
        simp
      · exact (fail_ok.1 h4).elim
end
end Go.Proofs.Ytkndpdmopgmlcaa
end
section
/- A region in the order of its text. No condition. -/
namespace Go.Proofs.Ytkndpdmopgmlcaa

def EnvR (ρ : Names) (e : Env) (a : Act) : Prop := ∀ t s, elook t e = some s → ∃ x, a.tmps[t]? = some x ∧ den ρ s = some x

section
variable {R : Type} {A : RepAt R} {P : Program} {st st' : St R} {ρ ρ' : Names} {e : Env} {a : Act}
theorem EnvR.mono (h : EnvR ρ e a) (hle : ρ.le ρ') : EnvR ρ' e a := fun t s hs => by
  obtain ⟨x, h1, h2⟩ := h t s hs
  exact ⟨x, h1, den_mono hle _ _ h2⟩
theorem EnvR.ev (h : EnvR ρ e a) : Ev ρ (evX e) a := by
  intro x s hx
  cases x with
  | tmp t =>
    obtain ⟨y, h1, h2⟩ := h t s hx
    rw [h2]
    simp only [Act.eval, Array.getD_eq_getD_getElem?, h1]
    rfl
  | const c =>
    simp only [evX, Option.some.injEq] at hx
    subst hx
    rfl
  | func f =>
    simp only [evX, Option.some.injEq] at hx
    subst hx
    rfl
  | global g => cases hx
theorem elook_cons {t k : Nat} {s : SV} : elook t ((k, s) :: e) = if t = k then some s else elook t e := by
  simp only [elook]
  by_cases hm : t = k
  · subst hm; simp
  · have := beq_no hm
    simp [this, hm]
theorem put_size {d : Option Tmp} {x : Value} : (a.put d x).tmps.size = a.tmps.size := by cases d <;> simp [Act.put]
theorem put_defers {d : Option Tmp} {x : Value} : (a.put d x).defers = a.defers := by cases d <;> simp [Act.put]
theorem put_tmps {d : Option Tmp} {x : Value} (t : Nat) : (a.put d x).tmps[t]? = match d with
    | some k => if t = k then (if k < a.tmps.size then some x else none) else a.tmps[t]?
    | none => a.tmps[t]? := by
  cases d with
  | none => rfl
  | some k =>
    simp only [Act.put, Array.getElem?_setIfInBounds]
    by_cases h : t = k
    · subst h; simp
    · rw [if_neg (fun e => h e.symm), if_neg h]
theorem EnvR.put (h : EnvR ρ e a) {d : Option Tmp} {s : SV} {x : Value} (hx : den ρ s = some x) (hd : ∀ k, d = some k → k < a.tmps.size) : EnvR ρ (putX d s e) (a.put d x) := by
  intro t r ht
  cases d with
  | none => exact h t r ht
  | some k =>
    simp only [putX, elook_cons] at ht
    rw [put_tmps]
    by_cases hk : t = k
    · subst hk
      simp only [if_true, Option.some.injEq] at ht
      subst ht
      exact ⟨x, by simp [hd t rfl], hx⟩
    · simp only [hk, if_false] at ht ⊢
      exact h t r ht

/-- An operation behind its guard. -/
theorem one_s {call : Hk R} (hcall : HkOK A P call) {ops : Array Oper} {o : Oper} {ev : Operand → Option SV} {s : SV} (h : oneX P call ops o ev st = .ok s st') : Fn st st' ∧ ∀ B F ρ own w a, Sit A P B F st st' ρ own w → Ev ρ ev a →
    (∀ d, ∀ s, ev (.tmp d) = some s → ∃ x, a.tmps[d]? = some x ∧ den ρ s = some x) → ∀ (K : Act → World → Prop) (Q : Exit → Act → World → Prop), (∀ x ρ' own' w', Tr A P B F st st' ρ own w ρ' own' w' → den ρ' s = some x → K (a.put o.dst x) w') →
    if Region.wanted o (yielded ops a.tmps) then o.wp P a w K Q ∨ (o.asks P a w ∧ LetsOut Q) else K (a.put o.dst undef) w := by
  unfold oneX at h
  cases hg : o.guard with
  | none =>
    rw [hg] at h
    obtain ⟨hf, hs⟩ := op_s hcall h
    refine ⟨hf, fun B F ρ own w a si hev _ K Q hk => ?_⟩
    have : Region.wanted o (yielded ops a.tmps) = true := by simp [Region.wanted, hg]
    rw [if_pos this]
    exact .inl (hs B F ρ own w a si hev K Q hk)
  | some jw =>
    obtain ⟨j, want⟩ := jw
    rw [hg] at h
    simp only at h
    cases hd : (ops[j]?).bind (·.dst) with
    | none => rw [hd] at h; exact (fail_ok.1 h).elim
    | some d =>
      rw [hd] at h
      simp only at h
      obtain ⟨g, _, h5, h6⟩ := bind_ok.1 h
      obtain ⟨hv, rfl⟩ := opt_ok.1 h5
      simp only [Option.bind_eq_some_iff] at hv
      obtain ⟨sv, hv, hsv⟩ := hv
      cases g with
      | none =>
        have hsv : sv = .v undef := by
          unfold guardOf at hsv
          split at hsv <;> simp_all [undef]
        subst hsv
        obtain ⟨rfl, rfl⟩ := ret_ok.1 h6
        refine ⟨Fn.refl _, fun B F ρ own w a si hev hl K Q hk => ?_⟩
        obtain ⟨x, h3, h4⟩ := hl d _ hv
        simp only [den, Option.some.injEq] at h4
        subst h4
        have hw : Region.wanted o (yielded ops a.tmps) = false := by
          simp only [Region.wanted, hg, yielded, hd, Option.bind_some, h3, undef]
          rfl
        rw [hw]
        simp only [Bool.false_eq_true, if_false]
        exact hk undef ρ own w (si.quiet (Quiet.refl _)) rfl
      | some b =>
      have hsv : sv = .v (.bool b) := by
        unfold guardOf at hsv
        split at hsv <;> simp_all
      subst hsv
      obtain ⟨r, st1, h1, h2⟩ := bind_ok.1 h6
      obtain ⟨q, hq⟩ := ask_ok h1
      have hy : ∀ {ρ : Names} {a : Act}, (∀ d, ∀ s, ev (.tmp d) = some s → ∃ x, a.tmps[d]? = some x ∧ den ρ s = some x) → Region.wanted o (yielded ops a.tmps) = (b == want) := by
        intro ρ a hl
        obtain ⟨x, h3, h4⟩ := hl d _ hv
        simp only [den, Option.some.injEq] at h4
        subst h4
        simp only [Region.wanted, hg, yielded, hd, Option.bind_some, h3]
        cases b <;> cases want <;> rfl
      cases hrw : (r == want) with
      | true =>
        rw [hrw] at h2
        obtain ⟨hf, hs⟩ := op_s hcall h2
        refine ⟨q.fn.trans hf, fun B F ρ own w a si hev hl K Q hk => ?_⟩
        have hb := hq (fun p hp => si.ask p (hf.ask p hp))
        rw [hy hl, hb, hrw, if_pos rfl]
        exact .inl (hs B F ρ own w a (si.of_quiet q) hev K Q (fun x ρ' own' w' ht hx => hk x ρ' own' w' (Tr.of_quiet q ht) hx))
      | false =>
        rw [hrw] at h2
        obtain ⟨rfl, rfl⟩ := ret_ok.1 h2
        refine ⟨q.fn, fun B F ρ own w a si hev hl K Q hk => ?_⟩
        have hb := hq si.ask
        rw [hy hl, hb, hrw]
        simp only [Bool.false_eq_true, if_false]
        exact hk undef ρ own w (si.quiet q) rfl

theorem seq_s {call : Hk R} (hcall : HkOK A P call) {ops : Array Oper} {sz : Nat} : ∀ {l : List Oper} {e e' : Env} {st st' : St R}, seqX P call ops sz l e st = .ok e' st' → Fn st st' ∧ ∀ B F ρ own w a, Sit A P B F st st' ρ own w → EnvR ρ e a → a.tmps.size = sz →
    ∀ (Q : Exit → Act → World → Prop), (∀ a' ρ' own' w', Tr A P B F st st' ρ own w ρ' own' w' → EnvR ρ' e' a' → a'.tmps.size = sz → a'.defers = a.defers → Q .normal a' w') → wpList P ops Q l a w
  | [], e, e', st, st', h => by
    obtain ⟨rfl, rfl⟩ := ret_ok.1 h
    exact ⟨Fn.refl _, fun B F ρ own w a si he hz Q hk => hk a ρ own w (si.quiet (Quiet.refl _)) he hz rfl⟩
  | o :: l, e, e', st, st', h => by
    obtain ⟨_, _, h1, h2⟩ := bind_ok.1 h
    obtain ⟨hd, rfl⟩ := want_ok.1 h1
    obtain ⟨s, st1, h3, h4⟩ := bind_ok.1 h2
    obtain ⟨f1, hs1⟩ := one_s hcall h3
    obtain ⟨f2, hs2⟩ := seq_s hcall h4
    refine ⟨f1.trans f2, fun B F ρ own w a si he hz Q hk => ?_⟩
    unfold wpList
    refine hs1 B F ρ own w a (si.head f1 f2) he.ev (fun d s hs => he d s hs) _ Q (fun x ρ1 own1 w1 ht hx => ?_)
    refine hs2 B _ ρ1 own1 w1 (a.put o.dst x) (si.next f1 f2 ht) ((he.mono ht.le).put hx (fun k hk => ?_)) (by rw [put_size, hz]) Q (fun a' ρ' own' w' ht' he' hz' hd' => hk a' ρ' own' w' (ht.trans ht' f1 f2 (f1.wf si.wf)) he' hz' (by rw [hd', put_defers]))
    rw [hk] at hd
    rw [hz]
    simpa [Nat.blt_eq] using hd
end
end Go.Proofs.Ytkndpdmopgmlcaa
end
section
/- A region whose order is open: what is needed of orders. No condition. -/
namespace Go.Proofs.Ytkndpdmopgmlcaa

section
variable {α : Type}
/-- What the last of those that have a say gives. -/
def view (base : α) (res : Nat → α) (p : Nat → Bool) : Nat → α
  | 0 => base
  | n + 1 => if p n = true then res n else view base res p n
variable {base : α} {res : Nat → α} {p q : Nat → Bool} {n : Nat}
theorem view_congr (h : ∀ j, j < n → p j = q j) : view base res p n = view base res q n := by
  induction n with
  | zero => rfl
  | succ n ih => simp only [view, h n (Nat.lt_succ_self n), ih (fun j hj => h j (Nat.lt_succ_of_lt hj))]
theorem view_above {i : Nat} (hi : i ≤ n) (h : ∀ j, i ≤ j → j < n → p j = false) : view base res p n = view base res p i := by
  induction n with
  | zero =>
    obtain rfl : i = 0 := by omega
    rfl
  | succ n ih =>
    by_cases e : i = n + 1
    · subst e; rfl
    · simp only [view, h n (by omega) (Nat.lt_succ_self n), Bool.false_eq_true, if_false]
      exact ih (by omega) (fun j h1 h2 => h j h1 (by omega))
theorem view_text {X : Nat → α} (h0 : X 0 = base) (hs : ∀ k, k < n → X (k + 1) = if p k = true then res k else X k) : ∀ i, i ≤ n → X i = view base res p i
  | 0, _ => h0
  | i + 1, hi => by rw [hs i (by omega), view, view_text h0 hs i (by omega)]
theorem view_at {X : Nat → α} {D : Nat → Bool} {i : Nat} (h0 : X 0 = base) (hs : ∀ k, k < n → X (k + 1) = if p k = true then res k else X k) (hi : i ≤ n) (hl : ∀ j, j < i → p j = true → D j = true) (hu : ∀ j, i ≤ j → j < n → p j = true → D j = false) :
    view base res (fun j => D j && p j) n = X i := by
  rw [view_above hi (fun j h1 h2 => by
    cases hp : p j with
    | false => simp
    | true => rw [hu j h1 h2 hp]; rfl), view_text h0 hs i hi]
  refine view_congr fun j hj => ?_
  cases hp : p j with
  | false => simp
  | true => rw [hl j hj hp]; rfl
theorem view_set {D D' : Nat → Bool} {i : Nat} (hi : i < n) (hD : ∀ j, D' j = (D j || j == i)) (hu : p i = true → ∀ j, i < j → j < n → p j = true → D j = false) :
    view base res (fun j => D' j && p j) n = if p i = true then res i else view base res (fun j => D j && p j) n := by
  split
  · next hp =>
    rw [view_above (i := i + 1) (by omega) (fun j h1 h2 => by
      cases hpj : p j with
      | false => simp
      | true =>
        have : (j == i) = false := by simp; omega
        rw [hD, hu hp j (by omega) h2 hpj, this]
        rfl)]
    have : D' i = true := by rw [hD]; simp
    simp [view, this, hp]
  · next hp =>
    refine view_congr fun j hj => ?_
    rw [hD]
    by_cases e : j = i
    · subst e
      have : p j = false := by simpa using hp
      simp [this]
    · have : (j == i) = false := by simpa using e
      rw [this, Bool.or_false]
end

/-- A set of operations that holds what stands ahead of its own. -/
def Closed (l : List Oper) (D : Nat → Bool) : Prop := ∀ (j : Nat) (o : Oper), l[j]? = some o → D j = true → ∀ e ∈ o.after, Region.binds .any e = true → D e.on = true
def Ahead (l : List Oper) (m j : Nat) : Prop := ∀ i, m.testBit i = true → ∀ D, Closed l D → D j = true → D i = true
theorem maskOf_ahead {l : List Oper} {acc : List Nat} {o : Oper} (ho : l[acc.length]? = some o) (hacc : ∀ k m, acc[k]? = some m → Ahead l m (acc.length - 1 - k)) : Ahead l (maskOf acc o) acc.length := by
  intro i hi D hD hj
  unfold maskOf at hi
  have key : ∀ (es : List Edge), (∀ e ∈ es, e ∈ o.after) → (es.foldr (fun e s => match Region.binds .any e && Nat.blt e.on acc.length with
      | true => (s ||| 2 ^ e.on) ||| acc.getD (acc.length - 1 - e.on) 0
      | false => s) 0).testBit i = true → D i = true := by
    intro es
    induction es with
    | nil => intro _ h; simp at h
    | cons e es ih =>
      intro hm h
      rw [List.foldr_cons] at h
      cases hb : (Region.binds .any e && Nat.blt e.on acc.length) with
      | false =>
        rw [hb] at h
        exact ih (fun e he => hm e (List.mem_cons_of_mem _ he)) h
      | true =>
        rw [hb] at h
        simp only [Nat.testBit_or, Bool.or_eq_true] at h
        simp only [Bool.and_eq_true] at hb
        have hlt : e.on < acc.length := by simpa [Nat.blt_eq] using hb.2
        have hon := hD acc.length o ho hj e (hm e (List.mem_cons_self ..)) hb.1
        rcases h with (h | h) | h
        · exact ih (fun e he => hm e (List.mem_cons_of_mem _ he)) h
        · rw [Nat.testBit_two_pow] at h
          simp only [decide_eq_true_eq] at h
          rw [← h]
          exact hon
        · have hg : acc[acc.length - 1 - e.on]? = some (acc.getD (acc.length - 1 - e.on) 0) := by
            rw [List.getD_eq_getElem?_getD, List.getElem?_eq_getElem (by omega)]
            rfl
          have := hacc _ _ hg
          rw [show acc.length - 1 - (acc.length - 1 - e.on) = e.on by omega] at this
          exact this i h D hD hon
  exact key o.after.toList (fun e he => by simpa using he) hi
theorem masks_ahead {l : List Oper} : ∀ {r : List Oper} {acc : List Nat}, (∀ k, r[k]? = l[acc.length + k]?) → (∀ k m, acc[k]? = some m → Ahead l m (acc.length - 1 - k)) →
    (masks r acc).length = acc.length + r.length ∧ ∀ k m, (masks r acc)[k]? = some m → Ahead l m (acc.length + r.length - 1 - k)
  | [], acc, _, h => ⟨by simp [masks], by simpa [masks] using h⟩
  | o :: r, acc, hr, h => by
    have ho : l[acc.length]? = some o := by have := hr 0; simpa using this.symm
    obtain ⟨h1, h2⟩ := masks_ahead (r := r) (acc := maskOf acc o :: acc) (fun k => by
      have := hr (k + 1)
      rw [List.getElem?_cons_succ] at this
      rw [this, List.length_cons]
      congr 1
      omega) (fun k m hk => by
      cases k with
      | zero =>
        simp only [List.getElem?_cons_zero, Option.some.injEq] at hk
        subst hk
        simpa using maskOf_ahead ho h
      | succ k =>
        have := h k m (by simpa using hk)
        rw [List.length_cons, show acc.length + 1 - 1 - (k + 1) = acc.length - 1 - k by omega]
        exact this)
    simp only [List.length_cons] at h1 h2
    refine ⟨by simp only [masks, List.length_cons]; omega, fun k m hk => ?_⟩
    have := h2 k m hk
    rw [List.length_cons, show acc.length + (r.length + 1) - 1 - k = acc.length + 1 + r.length - 1 - k by omega]
    exact this

theorem ordered_spec {L : Nat → Log} : ∀ {n : Nat} {ms : List Nat}, ms.length = n → ordered ms ((List.range n).reverse.map L) = true → ∀ i j, i < j → j < n → clash (L i) (L j) = true → ∃ m, ms[n - 1 - j]? = some m ∧ m.testBit i = true
  | 0, _, _, _, i, j, _, h, _ => by omega
  | n + 1, [], hl, _, _, _, _, _, _ => by simp at hl
  | n + 1, m :: ms, hl, h, i, j, hij, hj, hc => by
    rw [List.range_succ, List.reverse_append, List.map_append] at h
    simp only [List.reverse_cons, List.reverse_nil, List.nil_append, List.map_cons, List.map_nil, List.singleton_append, ordered, Bool.and_eq_true] at h
    by_cases e : j = n
    · subst e
      refine ⟨m, by simp, ?_⟩
      have h1 := List.all_eq_true.1 h.1 (L i, j - 1 - i) (by
        rw [List.mem_zipIdx_iff_getElem?, List.getElem?_map, List.getElem?_reverse (by simp; omega), List.length_range, List.getElem?_range (by omega)]
        simp only [Option.map_some, Option.some.injEq]
        congr 1
        omega)
      simp only [hc, Bool.not_true, Bool.false_or, List.length_map, List.length_reverse, List.length_range] at h1
      rw [show j - 1 - (j - 1 - i) = i by omega] at h1
      exact h1
    · obtain ⟨m', h1, h2⟩ := ordered_spec (n := n) (ms := ms) (by simpa using hl) h.2 i j hij (by omega) hc
      refine ⟨m', ?_, h2⟩
      rw [show n + 1 - 1 - j = (n - 1 - j) + 1 by omega, List.getElem?_cons_succ]
      exact h1
end Go.Proofs.Ytkndpdmopgmlcaa
end
section
/- A region whose order is open. No condition. -/
namespace Go.Proofs.Ytkndpdmopgmlcaa

section
variable {R : Type} {A : RepAt R} {P : Program}
/-- One operation of the walk. -/
structure Link (P : Program) (call : Hk R) (ops : Array Oper) (sz k : Nat) (o : Oper) (s t s' : St R) (e e' : Env) (v : SV) (L : Log) : Prop where
  dst : ∀ d, o.dst = some d → d < sz
  edge : ∀ ed ∈ o.after, Region.binds .any ed = true → ed.on < k
  run : oneX P call ops o (evR (o.looksAt ops) e) s.bare = .ok v t
  st : s' = t.join s
  env : e' = putX o.dst v e
  log : L = logOf s t ops o

theorem drawX_chain {call : Hk R} {ops : Array Oper} {sz : Nat} : ∀ {l : List Oper} {ls ls' : List Log} {e e' : Env} {st st' : St R}, drawX P call ops sz l ls e st = .ok (e', ls') st' →
    ∃ (E : Nat → Env) (S T : Nat → St R) (V : Nat → SV) (L : Nat → Log), E 0 = e ∧ S 0 = st ∧ E l.length = e' ∧ S l.length = st' ∧ ls' = (List.range l.length).reverse.map L ++ ls ∧
      ∀ i o, l[i]? = some o → Link P call ops sz (ls.length + i) o (S i) (T i) (S (i + 1)) (E i) (E (i + 1)) (V i) (L i)
  | [], ls, ls', e, e', st, st', h => by
    simp only [drawX] at h
    obtain ⟨h1, rfl⟩ := ret_ok.1 h
    injection h1 with h1 h2
    subst h1
    subst h2
    exact ⟨fun _ => e, fun _ => st, fun _ => st, fun _ => undefX, fun _ => ⟨[], [], 0, 0, [], none⟩, rfl, rfl, rfl, rfl, by simp, fun i o ho => by simp at ho⟩
  | o :: l, ls, ls', e, e', st, st', h => by
    simp only [drawX] at h
    obtain ⟨_, _, h1, h2⟩ := bind_ok.1 h
    obtain ⟨hw, rfl⟩ := want_ok.1 h1
    simp only [Bool.and_eq_true] at hw
    obtain ⟨hw1, hw2⟩ := hw
    cases hr : oneX P call ops o (evR (o.looksAt ops) e) st.bare with
    | no w l => rw [hr] at h2; cases h2
    | ok s t =>
      rw [hr] at h2
      simp only at h2
      obtain ⟨E, S, T, V, L, g1, g2, g3, g4, g5, g6⟩ := drawX_chain h2
      refine ⟨fun i => match i with | 0 => e | i + 1 => E i, fun i => match i with | 0 => st | i + 1 => S i, fun i => match i with | 0 => t | i + 1 => T i, fun i => match i with | 0 => s | i + 1 => V i,
        fun i => match i with | 0 => logOf st t ops o | i + 1 => L i, rfl, rfl, g3, g4, ?_, ?_⟩
      · rw [g5, List.length_cons, List.range_succ_eq_map, List.reverse_cons, List.map_append, ← List.map_reverse, List.map_map]
        simp only [List.map_cons, List.map_nil, List.append_assoc, List.singleton_append]
        congr 1
      · intro i o' ho'
        cases i with
        | zero =>
          simp only [List.getElem?_cons_zero, Option.some.injEq] at ho'
          subst ho'
          refine ⟨fun d hd => ?_, fun ed hed hb => ?_, hr, g2, g1, rfl⟩
          · rw [hd] at hw1
            simpa [Nat.blt_eq] using hw1
          · have := Array.all_eq_true_iff_forall_mem.1 hw2 ed hed
            rw [hb] at this
            simpa [Nat.blt_eq] using this
        | succ i =>
          have := g6 i o' (by simpa using ho')
          rw [List.length_cons, show ls.length + 1 + i = ls.length + (i + 1) by omega] at this
          exact this

theorem bare_wf {s : St R} (h : Wf s) : Wf s.bare := ⟨(fun n hn => by cases hn), h.top⟩
theorem Link.fn {call : Hk R} (hcall : HkOK A P call) {ops : Array Oper} {sz k : Nat} {o : Oper} {s t s' : St R} {e e' : Env} {v : SV} {L : Log} (h : Link P call ops sz k o s t s' e e' v L) : Fn s.bare t ∧ Fn s s' := by
  have hf := (one_s hcall h.run).1
  refine ⟨hf, ?_⟩
  rw [h.st]
  refine ⟨hf.nx, fun n hn => mem_uni.2 (.inr hn), fun n hn => mem_uni.2 (.inr hn), hf.ask, fun n hn hl => hf.hp n (fun hw => hn (mem_uni.2 (.inl hw))) hl, fun hw => ?_, fun n hn => ?_⟩
  · have hw' := hf.wf (bare_wf hw)
    refine ⟨fun n hn => ?_, hw'.top⟩
    rcases mem_uni.1 hn with h1 | h1
    · exact ⟨mem_uni.2 (.inl (hw'.wr n h1).1), (hw'.wr n h1).2⟩
    · exact ⟨mem_uni.2 (.inr (hw.wr n h1).1), Nat.lt_of_lt_of_le (hw.wr n h1).2 hf.nx⟩
  · rcases mem_uni.1 hn with h1 | h1
    · rcases hf.al n h1 with h2 | h2
      · cases h2
      · exact .inr h2
    · exact .inl h1

/-- A memory, said by name. -/
def mkL (N : Nat) (g : Nat → Option (Chunk R)) : List (Nat × Chunk R) := (List.range N).filterMap fun n => (g n).map fun c => (n, c)
theorem hget_mkL {g : Nat → Option (Chunk R)} {m : Nat} : ∀ {N : Nat}, hget m (mkL N g) = if m < N then g m else none
  | 0 => by simp [mkL, hget]
  | N + 1 => by
    have happ : ∀ (l r : List (Nat × Chunk R)), hget m (l ++ r) = match hget m l with | some c => some c | none => hget m r := by
      intro l r
      induction l with
      | nil => rfl
      | cons p l ih =>
        obtain ⟨k, c⟩ := p
        rw [List.cons_append, hget_cons, hget_cons]
        by_cases h : m = k <;> simp [h, ih]
    have e : mkL (N + 1) g = mkL N g ++ ((g N).map fun c => (N, c)).toList := by
      unfold mkL
      rw [List.range_succ, List.filterMap_append]
      cases h : g N <;> simp [h]
    rw [e, happ, hget_mkL]
    by_cases h1 : m < N
    · rw [if_pos h1, if_pos (by omega)]
      cases hg : g m with
      | some c => rfl
      | none =>
        simp only
        cases h : g N with
        | none => rfl
        | some c => simp [hget_cons, hget, show ¬ m = N by omega]
    · rw [if_neg h1]
      simp only
      by_cases h2 : m = N
      · subst h2
        rw [if_pos (by omega)]
        cases g m <;> simp [hget]
      · rw [if_neg (by omega)]
        cases g N with
        | none => rfl
        | some c => simp [hget_cons, hget, h2]
end
end Go.Proofs.Ytkndpdmopgmlcaa
end
section
/- A region whose order is open: the machine, in whatever order, comes where the walk in the text's order comes. No condition. -/
namespace Go.Proofs.Ytkndpdmopgmlcaa

section
variable {R : Type} {A : RepAt R} {P : Program}

theorem touches_iff {s t : St R} {ops : Array Oper} {o : Oper} {n : Nat} : touches (logOf s t ops o) n = true ↔ n ∈ t.wr ∨ newN s t n := by
  simp only [touches, logOf, Bool.or_eq_true, memN_iff, Bool.and_eq_true, newN]
  simp [Nat.blt_eq, Nat.ble_eq]

/-- What is known of the operations of one region. -/
structure Ctx (A : RepAt R) (P : Program) (call : Hk R) (ops : Array Oper) (sz n : Nat) (E : Nat → Env) (S T : Nat → St R) (V : Nat → SV) (L : Nat → Log) : Prop where
  cok : HkOK A P call
  size : ops.size = n
  link : ∀ i o, ops[i]? = some o → Link P call ops sz i o (S i) (T i) (S (i + 1)) (E i) (E (i + 1)) (V i) (L i)
  wf : Wf (S 0)
  ord : ∀ i j, i < j → j < n → clash (L i) (L j) = true → ∀ D, Closed ops.toList D → D j = true → D i = true

variable {call : Hk R} {ops : Array Oper} {sz n : Nat} {E : Nat → Env} {S T : Nat → St R} {V : Nat → SV} {L : Nat → Log}

theorem Ctx.op (c : Ctx A P call ops sz n E S T V L) {i : Nat} (hi : i < n) : ∃ o, ops[i]? = some o := ⟨ops[i]'(by rw [c.size]; exact hi), Array.getElem?_eq_getElem _⟩
theorem Ctx.fnB (c : Ctx A P call ops sz n E S T V L) {i : Nat} (hi : i < n) : Fn (S i).bare (T i) := by
  obtain ⟨o, ho⟩ := c.op hi
  exact ((c.link i o ho).fn c.cok).1
theorem Ctx.fn1 (c : Ctx A P call ops sz n E S T V L) {i : Nat} (hi : i < n) : Fn (S i) (S (i + 1)) := by
  obtain ⟨o, ho⟩ := c.op hi
  exact ((c.link i o ho).fn c.cok).2
theorem Ctx.fn (c : Ctx A P call ops sz n E S T V L) {i : Nat} : ∀ {j}, i ≤ j → j ≤ n → Fn (S i) (S j)
  | 0, h, _ => by
    obtain rfl : i = 0 := by omega
    exact Fn.refl _
  | j + 1, h, hj => by
    by_cases e : i = j + 1
    · subst e; exact Fn.refl _
    · exact (c.fn (j := j) (by omega) (by omega)).trans (c.fn1 (by omega))
theorem Ctx.wfS (c : Ctx A P call ops sz n E S T V L) {i : Nat} (hi : i ≤ n) : Wf (S i) := (c.fn (Nat.zero_le i) hi).wf c.wf
theorem Ctx.wfT (c : Ctx A P call ops sz n E S T V L) {i : Nat} (hi : i < n) : Wf (T i) := (c.fnB hi).wf (bare_wf (c.wfS (Nat.le_of_lt hi)))
theorem join_hp {t s : St R} : (t.join s).hp = t.hp ∧ (t.join s).nx = t.nx ∧ (t.join s).fr = uniN t.fr s.fr ∧ (t.join s).wr = uniN t.wr s.wr ∧ (t.join s).ask = t.ask := ⟨rfl, rfl, rfl, rfl, rfl⟩
theorem Ctx.next (c : Ctx A P call ops sz n E S T V L) {i : Nat} (hi : i < n) : (S (i + 1)).hp = (T i).hp ∧ (S (i + 1)).nx = (T i).nx ∧ (S (i + 1)).fr = uniN (T i).fr (S i).fr ∧ (S (i + 1)).wr = uniN (T i).wr (S i).wr ∧ (S (i + 1)).ask = (T i).ask := by
  obtain ⟨o, ho⟩ := c.op hi
  rw [(c.link i o ho).st]
  exact join_hp

def nw (S T : Nat → St R) (i m : Nat) : Prop := newN (S i) (T i) m
def tch (L : Nat → Log) (m i : Nat) : Bool := touches (L i) m
theorem Ctx.tch_iff (c : Ctx A P call ops sz n E S T V L) {i m : Nat} (hi : i < n) : tch L m i = true ↔ m ∈ (T i).wr ∨ nw S T i m := by
  obtain ⟨o, ho⟩ := c.op hi
  unfold tch nw
  rw [(c.link i o ho).log]
  exact touches_iff
theorem Ctx.new_disj (c : Ctx A P call ops sz n E S T V L) {i j m : Nat} (hi : i < n) (hj : j < n) (h1 : nw S T i m) (h2 : nw S T j m) : i = j := by
  have key : ∀ {a b : Nat}, a < b → b < n → nw S T a m → nw S T b m → False := by
    intro a b hab hb h1 h2
    have := (c.fn (i := a + 1) (j := b) hab (Nat.le_of_lt hb)).nx
    rw [(c.next (by omega)).2.1] at this
    unfold nw newN at h1 h2
    omega
  rcases Nat.lt_trichotomy i j with h | h | h
  · exact (key h hj h1 h2).elim
  · exact h
  · exact (key h hi h2 h1).elim
/-- The text's memory, step by step. -/
theorem Ctx.hpStep (c : Ctx A P call ops sz n E S T V L) (m : Nat) {k : Nat} (hk : k < n) : hget m (S (k + 1)).hp = if tch L m k = true then hget m (T k).hp else hget m (S k).hp := by
  rw [(c.next hk).1]
  split
  · rfl
  · next h =>
    rw [c.tch_iff hk, not_or] at h
    rcases Nat.lt_or_ge m (S k).nx with hl | hl
    · exact (c.fnB hk).hp m h.1 hl
    · have : (T k).nx ≤ m := by
        have := h.2
        unfold nw newN at this
        omega
      rw [(c.wfT hk).top m this, (c.wfS (Nat.le_of_lt hk)).top m hl]
def hitO : Option Tmp → Nat → Bool
  | some d, t => Nat.beq d t
  | none, _ => false
theorem hitO_iff {o : Option Tmp} {t : Nat} : hitO o t = true ↔ o = some t := by
  cases o with
  | none => simp [hitO]
  | some d =>
    simp only [hitO, Option.some.injEq]
    exact ⟨Nat.eq_of_beq_eq_true, fun h => by subst h; simp⟩
def hits (L : Nat → Log) (t i : Nat) : Bool := hitO (L i).dst t
theorem Ctx.envStep (c : Ctx A P call ops sz n E S T V L) (t : Nat) {k : Nat} (hk : k < n) : elook t (E (k + 1)) = if hits L t k = true then some (V k) else elook t (E k) := by
  obtain ⟨o, ho⟩ := c.op hk
  have hl := c.link k o ho
  have hd : (L k).dst = o.dst := by rw [hl.log]; rfl
  rw [hl.env]
  by_cases hh : hits L t k = true
  · rw [if_pos hh]
    have := hitO_iff.1 hh
    rw [hd] at this
    rw [this]
    simp [putX, elook_cons]
  · rw [if_neg hh]
    have hne : o.dst ≠ some t := fun e => hh (hitO_iff.2 (hd.trans e))
    cases ho2 : o.dst with
    | none => rfl
    | some d =>
      rw [putX, elook_cons, if_neg (fun e => hne (by rw [ho2, e]))]

theorem any_of {l : List Nat} {f : Nat → Bool} {m : Nat} (h : m ∈ l) (hf : f m = true) : l.any f = true := List.any_eq_true.2 ⟨m, h, hf⟩
theorem Ctx.clash_fr (c : Ctx A P call ops sz n E S T V L) {i j m : Nat} (hi : i < n) (hj : j < n) (hm : m ∈ (T i).fr) (ht : tch L m j = true) : clash (L i) (L j) = true ∧ clash (L j) (L i) = true := by
  obtain ⟨o, ho⟩ := c.op hi
  obtain ⟨p, hp⟩ := c.op hj
  have e : (L i).fr = (T i).fr := by rw [(c.link i o ho).log]; rfl
  have h : (L i).fr.any (touches (L j)) = true := any_of (by rw [e]; exact hm) ht
  unfold clash
  rw [h]
  simp
theorem Ctx.clash_tt (c : Ctx A P call ops sz n E S T V L) {i j m : Nat} (hi : i < n) (hj : j < n) (hne : i ≠ j) (h1 : tch L m i = true) (h2 : tch L m j = true) : clash (L i) (L j) = true := by
  rcases (c.tch_iff hi).1 h1 with h3 | h3
  · exact (c.clash_fr hi hj ((c.wfT hi).wr m h3).1 h2).1
  · rcases (c.tch_iff hj).1 h2 with h4 | h4
    · exact (c.clash_fr hj hi ((c.wfT hj).wr m h4).1 h1).2
    · exact absurd (c.new_disj hi hj h3 h4) hne

/-- How things stand when those of D have been carried out. -/
structure RI (A : RepAt R) (P : Program) (B : Nat) (F WR : Nat → Prop) (sz n : Nat) (E : Nat → Env) (S T : Nat → St R) (V : Nat → SV) (L : Nat → Log) (ρ0 : Names) (own0 : Nat → List Nat) (w0 : World) (a0 : Act) (D : Nat → Bool) (ρ : Names) (own : Nat → List Nat) (a : Act) (w : World) : Prop where
  le : ρ0.le ρ
  out : ∀ m, (∀ i, i < n → D i = true → ¬ nw S T i m) → ρ m = ρ0 m
  same : ∀ m, (∀ i, i < n → D i = true → tch L m i = false) → own m = own0 m
  pool : ∀ m i, i < n → D i = true → tch L m i = true → ∀ b ∈ own m, w0.heap.size ≤ b ∨ ∃ k, WR k ∧ k < (S 0).nx ∧ b ∈ own0 k
  li : LI A P B ρ own (mkL (S n).nx fun m => view (hget m (S 0).hp) (fun i => hget m (T i).hp) (fun j => D j && tch L m j) n) (fun m => F m ∨ ∃ i, i < n ∧ D i = true ∧ nw S T i m) w
  mod : ModP (fun b => ∃ k, WR k ∧ k < (S 0).nx ∧ b ∈ own0 k) w0 w
  env : ∀ t s, view (elook t (E 0)) (fun i => some (V i)) (fun j => D j && hits L t j) n = some s → ∃ x, a.tmps[t]? = some x ∧ den ρ s = some x
  size : a.tmps.size = sz
  defers : a.defers = a0.defers

variable {B : Nat} {F WR : Nat → Prop} {ρ0 ρ : Names} {own0 own : Nat → List Nat} {w0 w : World} {a0 a : Act} {D : Nat → Bool}

/-- One more of those that are ready. -/
theorem RI.step (c : Ctx A P call ops sz n E S T V L) (h : RI A P B F WR sz n E S T V L ρ0 own0 w0 a0 D ρ own a w) (hB : B ≤ w0.heap.size) (hfr : ∀ m, (S 0).nx ≤ m → m < (S n).nx → ρ0 m = none) (hF : ∀ m ∈ (S n).fr, F m) (hWR : ∀ m ∈ (S n).wr, WR m) (hask : ∀ p ∈ (S n).ask, p.1 = p.2)
    {i : Nat} (hi : i < n) (hD : D i = false) (hcl : Closed ops.toList D) (hready : ∀ o, ops[i]? = some o → ∀ e ∈ o.after, Region.binds .any e = true → D e.on = true) {D' : Nat → Bool} (hD' : ∀ j, D' j = (D j || j == i))
    {Q : Exit → Act → World → Prop} {K : Act → World → Prop} (hK : ∀ ρ' own' a' w', RI A P B F WR sz n E S T V L ρ0 own0 w0 a0 D' ρ' own' a' w' → K a' w') : wpOp P ops Q i K a w := by
  obtain ⟨o, ho⟩ := c.op hi
  have hln := c.link i o ho
  -- order
  have hclD : Closed ops.toList D' := fun j p hp hj e he hb => by
    rw [hD'] at hj ⊢
    by_cases e2 : j = i
    · subst e2
      have : p = o := by
        have h1 : ops[j]? = some p := by simpa using hp
        rw [ho] at h1
        injection h1 with h1
        exact h1.symm
      subst this
      rw [hready p ho e he hb]
      rfl
    · have : (j == i) = false := by simpa using e2
      rw [this, Bool.or_false] at hj
      rw [hcl j p hp hj e he hb]
      rfl
  have before : ∀ j, j < i → clash (L j) (L i) = true → D j = true := fun j hj hc => by
    have := c.ord j i hj hi hc D' hclD (by rw [hD']; simp)
    rw [hD'] at this
    have e : (j == i) = false := by simp; omega
    rwa [e, Bool.or_false] at this
  have behind : ∀ j, i < j → j < n → clash (L i) (L j) = true → D j = false := fun j hj hjn hc => by
    cases hDj : D j with
    | false => rfl
    | true =>
      have := c.ord i j hj hjn hc D hcl hDj
      rw [hD] at this
      cases this
  have hN : ∀ {m : Nat} {x : Chunk R} {k : Nat}, k < n → hget m (T k).hp = some x → m < (S n).nx := fun {m x k} hk hx => by
    have h1 := (c.wfT hk).lt hx
    have h2 := (c.fn (i := k + 1) (j := n) (by omega) (Nat.le_refl _)).nx
    rw [(c.next hk).2.1] at h2
    omega
  have hN0 : ∀ {m : Nat} {x : Chunk R} {k : Nat}, k ≤ n → hget m (S k).hp = some x → m < (S n).nx := fun {m x k} hk hx => by
    have h1 := (c.wfS hk).lt hx
    have h2 := (c.fn (i := k) (j := n) hk (Nat.le_refl _)).nx
    omega
  -- what the operation looks at stands as in the text
  have atFr : ∀ m ∈ (T i).fr, view (hget m (S 0).hp) (fun i => hget m (T i).hp) (fun j => D j && tch L m j) n = hget m (S i).hp := fun m hm =>
    view_at (X := fun k => hget m (S k).hp) rfl (fun k hk => c.hpStep m hk) (Nat.le_of_lt hi) (fun j hj ht => before j hj (c.clash_fr hi (by omega) hm ht).2) (fun j h1 h2 ht => by
      by_cases e : j = i
      · rw [e]; exact hD
      · exact behind j (by omega) h2 (c.clash_fr hi h2 hm ht).1)
  have atLk : ∀ t ∈ o.looksAt ops, view (elook t (E 0)) (fun i => some (V i)) (fun j => D j && hits L t j) n = elook t (E i) := fun t ht =>
    view_at (X := fun k => elook t (E k)) rfl (fun k hk => c.envStep t hk) (Nat.le_of_lt hi) (fun j hj hh => before j hj (by
      have hd := hitO_iff.1 hh
      have hl : memN t (L i).looks = true := by rw [hln.log]; exact memN_iff.2 ht
      unfold clash
      simp [hd, hl])) (fun j h1 h2 hh => by
      by_cases e : j = i
      · rw [e]; exact hD
      · refine behind j (by omega) h2 ?_
        have hd := hitO_iff.1 hh
        have hl : memN t (L i).looks = true := by rw [hln.log]; exact memN_iff.2 ht
        unfold clash
        simp [hd, hl])
  obtain ⟨hfn, hs⟩ := one_s c.cok hln.run
  have hTn : ∀ m, m ∈ (T i).fr → m ∈ (S n).fr := fun m hm => (c.fn (i := i + 1) (j := n) hi (Nat.le_refl _)).fr m (by rw [(c.next hi).2.2.1]; exact mem_uni.2 (.inl hm))
  have hTw : ∀ m, m ∈ (T i).wr → m ∈ (S n).wr := fun m hm => (c.fn (i := i + 1) (j := n) hi (Nat.le_refl _)).wr m (by rw [(c.next hi).2.2.2.1]; exact mem_uni.2 (.inl hm))
  obtain ⟨G, hG⟩ : ∃ G : Nat → Prop, G = fun m => (F m ∨ ∃ j, j < n ∧ D j = true ∧ nw S T j m) ∧ hget m (S i).hp = hget m (mkL (S n).nx fun m => view (hget m (S 0).hp) (fun i => hget m (T i).hp) (fun j => D j && tch L m j) n) := ⟨_, rfl⟩
  have hGfr : ∀ m ∈ (T i).fr, G m := fun m hm => by
    rw [hG]
    refine ⟨.inl (hF m (hTn m hm)), ?_⟩
    rw [hget_mkL]
    split
    · exact (atFr m hm).symm
    · next hlt =>
      cases hx : hget m (S i).hp with
      | none => rfl
      | some x => exact absurd (hN0 (Nat.le_of_lt hi) hx) hlt
  have sit : Sit A P B G (S i).bare (T i) ρ own w := by
    refine ⟨hGfr, bare_wf (c.wfS (Nat.le_of_lt hi)), fun m hm => ?_, ?_, fun p hp => ?_, Nat.le_trans hB h.mod.size⟩
    · rw [h.out m (fun j hj hDj hx => by
        have := c.new_disj hj hi hx hm
        rw [this, hD] at hDj
        cases hDj)]
      have h1 := (c.fn (i := 0) (j := i) (Nat.zero_le _) (Nat.le_of_lt hi)).nx
      have h2 := (c.fn (i := i + 1) (j := n) hi (Nat.le_refl _)).nx
      rw [(c.next hi).2.1] at h2
      have h3 := hm.1
      have h4 := hm.2
      change (S i).nx ≤ m at h3
      exact hfr m (by omega) (by omega)
    · refine ⟨fun m x hm hx => ?_, fun m k x y hm hk hne hx hy => ?_, fun m x hm hx => ?_⟩
      · rw [hG] at hm
        change hget m (S i).hp = some x at hx
        rw [hm.2] at hx
        exact h.li.at_ m x hm.1 hx
      · rw [hG] at hm hk
        change hget m (S i).hp = some x at hx
        change hget k (S i).hp = some y at hy
        rw [hm.2] at hx
        rw [hk.2] at hy
        exact h.li.dis m k x y hm.1 hk.1 hne hx hy
      · rw [hG] at hm
        change hget m (S i).hp = some x at hx
        rw [hm.2] at hx
        exact h.li.low m x hm.1 hx
    · have := (c.fn (i := i + 1) (j := n) hi (Nat.le_refl _)).ask
      rw [(c.next hi).2.2.2.2] at this
      exact hask p (this p hp)
  have hlook : ∀ d s, evR (o.looksAt ops) (E i) (.tmp d) = some s → ∃ x, a.tmps[d]? = some x ∧ den ρ s = some x := by
    intro d s hd
    simp only [evR] at hd
    split at hd
    · next hm =>
      refine h.env d s ?_
      rw [atLk d (memN_iff.1 hm)]
      exact hd
    · cases hd
  have hev : Ev ρ (evR (o.looksAt ops) (E i)) a := by
    intro x s hx
    cases x with
    | tmp t =>
      obtain ⟨y, h1, h2⟩ := hlook t s hx
      rw [h2]
      simp only [Act.eval, Array.getD_eq_getD_getElem?, h1]
      rfl
    | const v =>
      simp only [evR, evX, Option.some.injEq] at hx
      subst hx
      rfl
    | func f =>
      simp only [evR, evX, Option.some.injEq] at hx
      subst hx
      rfl
    | global g => cases hx
  unfold wpOp
  rw [ho]
  refine hs B G ρ own w a sit hev hlook K Q (fun x ρ' own' w' ht hx => hK ρ' own' (a.put o.dst x) w' ?_)
  have tchi : ∀ m, tch L m i = true ↔ m ∈ (T i).wr ∨ nw S T i m := fun m => c.tch_iff hi
  have hwT := c.wfT hi
  have vset : ∀ m, view (hget m (S 0).hp) (fun i => hget m (T i).hp) (fun j => D' j && tch L m j) n = if tch L m i = true then hget m (T i).hp else view (hget m (S 0).hp) (fun i => hget m (T i).hp) (fun j => D j && tch L m j) n := fun m =>
    view_set hi hD' (fun hti j h1 h2 htj => behind j h1 h2 (c.clash_tt hi h2 (by omega) hti htj))
  -- written names were there
  have alive : ∀ m ∈ (T i).wr, ¬ nw S T i m → ∃ x, hget m (S i).hp = some x := fun m hm hnn => by
    rcases hfn.al m hm with h1 | h1 | h1
    · cases h1
    · exact absurd ⟨h1, (hwT.wr m hm).2⟩ hnn
    · exact h1
  have notnew : ∀ m ∈ (T i).wr, ¬ nw S T i m → ∀ x, hget m (S i).hp = some x → (F m ∨ ∃ j, j < n ∧ D j = true ∧ nw S T j m) ∧ hget m (mkL (S n).nx fun m => view (hget m (S 0).hp) (fun i => hget m (T i).hp) (fun j => D j && tch L m j) n) = some x := fun m hm _ x hx => by
    have := hGfr m (hwT.wr m hm).1
    rw [hG] at this
    exact ⟨this.1, this.2.symm.trans hx⟩
  -- a written block was known, or is new
  have back : ∀ m ∈ (T i).wr, ¬ nw S T i m → ∀ b ∈ own m, w0.heap.size ≤ b ∨ ∃ k, WR k ∧ k < (S 0).nx ∧ b ∈ own0 k := by
    intro m hm hnn b hb
    by_cases hex : ∃ j, j < n ∧ D j = true ∧ tch L m j = true
    · obtain ⟨j, hj, hDj, htj⟩ := hex
      exact h.pool m j hj hDj htj b hb
    · rw [h.same m (fun j hj hDj => by
        cases ht : tch L m j with
        | false => rfl
        | true => exact absurd ⟨j, hj, hDj, ht⟩ hex)] at hb
      refine .inr ⟨m, hWR m (hTw m hm), ?_, hb⟩
      obtain ⟨x, hx⟩ := alive m hm hnn
      rcases Nat.lt_or_ge m (S 0).nx with hlt | hge
      · exact hlt
      · exfalso
        have hv := (notnew m hm hnn x hx).2
        rw [hget_mkL] at hv
        split at hv
        · have hnone : view (hget m (S 0).hp) (fun i => hget m (T i).hp) (fun j => D j && tch L m j) n = hget m (S 0).hp := by
            rw [view_above (i := 0) (Nat.zero_le _) (fun j _ hj => by
              cases hDj : D j with
              | false => rfl
              | true =>
                cases ht : tch L m j with
                | false => rfl
                | true => exact absurd ⟨j, hj, hDj, ht⟩ hex)]
            rfl
          rw [hnone, c.wf.top m hge] at hv
          cases hv
        · cases hv
  refine ⟨h.le.trans ht.le, fun m hm => ?_, fun m hm => ?_, fun m j hj hDj htj b hb => ?_, ?_, ?_, fun t s hts => ?_, by rw [put_size]; exact h.size, by rw [put_defers]; exact h.defers⟩
  · rw [ht.out m (hm i hi (by rw [hD']; simp))]
    exact h.out m (fun j hj hDj => hm j hj (by rw [hD', hDj]; rfl))
  · have hti := hm i hi (by rw [hD']; simp)
    have hti' : ¬ (m ∈ (T i).wr ∨ nw S T i m) := by rw [← tchi, hti]; simp
    rw [not_or] at hti'
    rw [ht.same m hti'.2 hti'.1]
    exact h.same m (fun j hj hDj => hm j hj (by rw [hD', hDj]; rfl))
  · by_cases hti : m ∈ (T i).wr ∨ nw S T i m
    · rcases ht.pool m hti.symm b hb with h1 | ⟨k, h1, h2, h3⟩
      · exact .inl (Nat.le_trans h.mod.size h1)
      · exact back k h1 h2 b h3
    · rw [not_or] at hti
      rw [ht.same m hti.2 hti.1] at hb
      have hji : j ≠ i := fun e => by
        subst e
        exact ((tchi m).1 htj).elim hti.1 hti.2
      have : (j == i) = false := by simpa using hji
      rw [hD', this, Bool.or_false] at hDj
      exact h.pool m j hj hDj htj b hb
  · -- the memory
    refine h.li.step (X := fun m => m ∈ (T i).wr ∨ nw S T i m) ht.mod ht.le (fun b hb => ?_) (fun m x hm hX hx => ?_) (fun m x _ hX hx => ?_) (fun m x _ hX hx b hb => ?_) (fun m k x y _ _ h1 h2 hne hx hy => ?_)
    · obtain ⟨m, h1, h2, h3⟩ := hb
      obtain ⟨x, hx⟩ := alive m h1 h2
      obtain ⟨h4, h5⟩ := notnew m h1 h2 x hx
      exact ⟨m, x, .inl h1, h4, h5, h3⟩
    · rw [not_or] at hX
      have hti : tch L m i = false := by
        cases ht : tch L m i with
        | false => rfl
        | true => exact (((tchi m).1 ht).elim hX.1 hX.2).elim
      rw [hget_mkL] at hx
      split at hx
      · next hlt =>
        rw [vset m, hti] at hx
        simp only [Bool.false_eq_true, if_false] at hx
        refine ⟨?_, by rw [hget_mkL, if_pos hlt]; exact hx, ht.same m hX.2 hX.1⟩
        rcases hm with h1 | ⟨j, hj, hDj, hnj⟩
        · exact .inl h1
        · rw [hD'] at hDj
          by_cases e : j = i
          · subst e; exact absurd hnj hX.2
          · have : (j == i) = false := by simpa using e
            rw [this, Bool.or_false] at hDj
            exact .inr ⟨j, hj, hDj, hnj⟩
      · cases hx
    · rw [hget_mkL] at hx
      split at hx
      · rw [vset m, if_pos ((tchi m).2 hX)] at hx
        refine ht.li.at_ m x ?_ hx
        rcases hX with h1 | h1
        · exact .inl (hGfr m (hwT.wr m h1).1)
        · exact .inr h1
      · cases hx
    · rw [hget_mkL] at hx
      split at hx
      · rw [vset m, if_pos ((tchi m).2 hX)] at hx
        have hlow := ht.li.low m x (by
          rcases hX with h1 | h1
          · exact .inl (hGfr m (hwT.wr m h1).1)
          · exact .inr h1) hx b hb
        refine ⟨hlow.2, hlow.1, ?_⟩
        rcases ht.pool m hX.symm b hb with h1 | ⟨k, h1, h2, h3⟩
        · exact .inl h1
        · obtain ⟨y, hy⟩ := alive k h1 h2
          obtain ⟨h4, h5⟩ := notnew k h1 h2 y hy
          exact .inr ⟨k, y, .inl h1, h4, h5, h3⟩
      · cases hx
    · rw [hget_mkL] at hx hy
      split at hx <;> try cases hx
      split at hy <;> try cases hy
      rw [vset m, if_pos ((tchi m).2 h1)] at hx
      rw [vset k, if_pos ((tchi k).2 h2)] at hy
      have inF : ∀ {z}, (z ∈ (T i).wr ∨ nw S T i z) → G z ∨ newN (S i).bare (T i) z := fun {z} hz => by
        rcases hz with h1 | h1
        · exact .inl (hGfr z (hwT.wr z h1).1)
        · exact .inr h1
      exact ht.li.dis m k x y (inF h1) (inF h2) hne hx hy
  · refine h.mod.trans ht.mod (fun b hb ⟨m, h1, h2, h3⟩ => ?_)
    exact (back m h1 h2 b h3).resolve_left (by omega)
  · rw [view_set hi hD' (fun hti j h1 h2 htj => behind j h1 h2 (by
      have hd := hitO_iff.1 hti
      have hd2 := hitO_iff.1 htj
      unfold clash
      simp [hd, hd2]))] at hts
    rw [put_tmps]
    have hdst : (L i).dst = o.dst := by rw [hln.log]; rfl
    split at hts
    · next hh =>
      simp only [Option.some.injEq] at hts
      subst hts
      have hd := hitO_iff.1 hh
      rw [hdst] at hd
      refine ⟨x, ?_, hx⟩
      rw [hd]
      simp [h.size, hln.dst t hd]
    · next hh =>
      obtain ⟨y, h1, h2⟩ := h.env t s hts
      refine ⟨y, ?_, den_mono ht.le _ _ h2⟩
      cases hd : o.dst with
      | none => exact h1
      | some d =>
        have : t ≠ d := fun e => hh (hitO_iff.2 (by rw [hdst, hd, e]))
        simp only [this, if_false]
        exact h1
end
end Go.Proofs.Ytkndpdmopgmlcaa
end
section
/- A region whose order is open, as a whole. Condition: the program follows the looser reading of Go's order. -/
namespace Go.Proofs.Ytkndpdmopgmlcaa

section
variable {R : Type} {A : RepAt R} {P : Program} {call : Hk R} {ops : Array Oper} {sz n : Nat} {E : Nat → Env} {S T : Nat → St R} {V : Nat → SV} {L : Nat → Log}
variable {B : Nat} {F : Nat → Prop} {ρ0 ρ : Names} {own0 own : Nat → List Nat} {w0 w : World} {a0 a : Act} {D : Nat → Bool}

theorem Ctx.cover (c : Ctx A P call ops sz n E S T V L) {m : Nat} : ∀ {k}, k ≤ n → newN (S 0) (S k) m → ∃ i, i < k ∧ nw S T i m
  | 0, _, h => by unfold newN at h; omega
  | k + 1, hk, h => by
    by_cases h1 : m < (S k).nx
    · obtain ⟨i, h2, h3⟩ := c.cover (k := k) (by omega) ⟨h.1, h1⟩
      exact ⟨i, by omega, h3⟩
    · refine ⟨k, by omega, ⟨by omega, ?_⟩⟩
      have := h.2
      rw [(c.next (by omega)).2.1] at this
      exact this
theorem Ctx.within (c : Ctx A P call ops sz n E S T V L) {m i : Nat} (hi : i < n) (h : nw S T i m) : newN (S 0) (S n) m := by
  have h1 := (c.fn (i := 0) (j := i) (Nat.zero_le _) (Nat.le_of_lt hi)).nx
  have h2 := (c.fn (i := i + 1) (j := n) hi (Nat.le_refl _)).nx
  rw [(c.next hi).2.1] at h2
  have h3 := h.1
  have h4 := h.2
  exact ⟨by omega, by omega⟩

/-- At the end. -/
theorem RI.done (c : Ctx A P call ops sz n E S T V L) (h : RI A P B F (fun m => m ∈ (S n).wr) sz n E S T V L ρ0 own0 w0 a0 D ρ own a w) (hall : ∀ i, i < n → D i = true) : Tr A P B F (S 0) (S n) ρ0 own0 w0 ρ own w ∧ EnvR ρ (E n) a := by
  have hw : ∀ {m i}, i < n → m ∈ (T i).wr → m ∈ (S n).wr := fun {m i} hi hm => (c.fn (i := i + 1) (j := n) hi (Nat.le_refl _)).wr m (by rw [(c.next hi).2.2.2.1]; exact mem_uni.2 (.inl hm))
  have hv : ∀ m, view (hget m (S 0).hp) (fun i => hget m (T i).hp) (fun j => D j && tch L m j) n = hget m (S n).hp := fun m =>
    view_at (X := fun k => hget m (S k).hp) rfl (fun k hk => c.hpStep m hk) (Nat.le_refl n) (fun j hj _ => hall j hj) (fun j h1 h2 _ => by omega)
  refine ⟨⟨h.le, fun m hm => h.out m (fun i hi _ hx => hm (c.within hi hx)), fun m hm hnw => h.same m (fun i hi _ => ?_), fun m hm b hb => ?_, ?_, h.mod.mono fun b _ ⟨k, h1, h2, h3⟩ => ⟨k, h1, fun hx => by have := hx.1; omega, h3⟩⟩, fun t s hs => ?_⟩
  · cases ht : tch L m i with
    | false => rfl
    | true =>
      rcases (c.tch_iff hi).1 ht with h1 | h1
      · exact absurd (hw hi h1) hnw
      · exact absurd (c.within hi h1) hm
  · by_cases hex : ∃ i, i < n ∧ tch L m i = true
    · obtain ⟨i, hi, ht⟩ := hex
      rcases h.pool m i hi (hall i hi) ht b hb with h1 | ⟨k, h1, h2, h3⟩
      · exact .inl h1
      · exact .inr ⟨k, h1, fun hx => by have := hx.1; omega, h3⟩
    · have hno : ∀ i, i < n → D i = true → tch L m i = false := fun i hi _ => by
        cases ht : tch L m i with
        | false => rfl
        | true => exact absurd ⟨i, hi, ht⟩ hex
      have hnn : ¬ newN (S 0) (S n) m := fun hx => by
        obtain ⟨i, hi, hni⟩ := c.cover (Nat.le_refl n) hx
        exact hex ⟨i, hi, (c.tch_iff hi).2 (.inr hni)⟩
      rw [h.same m hno] at hb
      exact .inr ⟨m, hm.resolve_left hnn, hnn, hb⟩
  · have hget_eq : ∀ m, hget m (mkL (S n).nx fun m => view (hget m (S 0).hp) (fun i => hget m (T i).hp) (fun j => D j && tch L m j) n) = hget m (S n).hp := fun m => by
      rw [hget_mkL, hv m]
      split
      · rfl
      · rw [(c.wfS (Nat.le_refl n)).top m (by omega)]
    have hF : ∀ m, F m ∨ newN (S 0) (S n) m → F m ∨ ∃ i, i < n ∧ D i = true ∧ nw S T i m := fun m hm => hm.imp_right fun hx => by
      obtain ⟨i, hi, hni⟩ := c.cover (Nat.le_refl n) hx
      exact ⟨i, hi, hall i hi, hni⟩
    exact ⟨fun m x hm hx => h.li.at_ m x (hF m hm) (by rw [hget_eq]; exact hx), fun m k x y hm hk hne hx hy => h.li.dis m k x y (hF m hm) (hF k hk) hne (by rw [hget_eq]; exact hx) (by rw [hget_eq]; exact hy),
      fun m x hm hx => h.li.low m x (hF m hm) (by rw [hget_eq]; exact hx)⟩
  · refine h.env t s ?_
    rw [view_at (X := fun k => elook t (E k)) rfl (fun k hk => c.envStep t hk) (Nat.le_refl n) (fun j hj _ => hall j hj) (fun j h1 h2 _ => by omega)]
    exact hs

/-- At the beginning. -/
theorem RI.start (hli : LI A P B ρ0 own0 (S 0).hp F w0) (he : EnvR ρ0 (E 0) a0) (hsz : a0.tmps.size = sz) {WR : Nat → Prop} : RI A P B F WR sz n E S T V L ρ0 own0 w0 a0 (fun _ => false) ρ0 own0 a0 { w0 with drawn := w0.drawn + 1 } := by
  have hv : ∀ {α : Type} (b : α) (r : Nat → α) (p : Nat → Bool), view b r (fun j => false && p j) n = b := fun b r p =>
    view_above (base := b) (res := r) (p := fun j => false && p j) (n := n) (i := 0) (Nat.zero_le _) (fun _ _ _ => rfl)
  have hget_eq : ∀ m x, hget m (mkL (S n).nx fun m => view (hget m (S 0).hp) (fun i => hget m (T i).hp) (fun j => false && tch L m j) n) = some x → hget m (S 0).hp = some x := fun m x => by
    rw [hget_mkL, hv]
    split
    · exact id
    · exact fun h => by cases h
  have hmod : ModP (fun _ => False) w0 { w0 with drawn := w0.drawn + 1 } := ⟨rfl, rfl, rfl, Nat.le_refl _, fun _ _ _ => rfl⟩
  refine ⟨Names.le.refl _, fun _ _ => rfl, fun _ _ => rfl, (fun m i _ hD => by cases hD), ?_, hmod.mono (fun _ _ h => h.elim), fun t s hs => he t s (by rw [hv] at hs; exact hs), hsz, rfl⟩
  have hF : ∀ m, (F m ∨ ∃ i, i < n ∧ false = true ∧ nw S T i m) → F m := fun m hm => hm.resolve_right fun ⟨_, _, h, _⟩ => by cases h
  refine ⟨fun m x hm hx => ?_, fun m k x y hm hk hne hx hy => hli.dis m k x y (hF m hm) (hF k hk) hne (hget_eq m x hx) (hget_eq k y hy), fun m x hm hx => hli.low m x (hF m hm) (hget_eq m x hx)⟩
  obtain ⟨e, h1, h2⟩ := hli.at_ m x (hF m hm) (hget_eq m x hx)
  exact ⟨e, h1, h2.stable (Names.le.refl _) hmod (fun _ _ h => h) (fun _ h => h.elim)⟩

theorem filter_lessX {l : List Nat} {p q : Nat → Bool} {i : Nat} (hn : l.Nodup) (hi : i ∈ l) (hp : p i = true) (hq : q i = false) (h : ∀ j, j ≠ i → q j = p j) : (l.filter p).length = (l.filter q).length + 1 := by
  induction l with
  | nil => cases hi
  | cons x l ih =>
    rw [List.nodup_cons] at hn
    by_cases hx : x = i
    · subst hx
      have : l.filter q = l.filter p := List.filter_congr fun j hj => h j (fun e => hn.1 (e ▸ hj))
      rw [List.filter_cons_of_pos hp, List.filter_cons_of_neg (by simp [hq]), this]
      simp
    · have hi' : i ∈ l := (List.mem_cons.1 hi).resolve_left (fun e => hx e.symm)
      have := ih hn.2 hi'
      cases hpx : p x with
      | true => rw [List.filter_cons_of_pos hpx, List.filter_cons_of_pos (by rw [h x hx]; exact hpx)]; simp [this]
      | false => rw [List.filter_cons_of_neg (by simp [hpx]), List.filter_cons_of_neg (by rw [h x hx]; simp [hpx])]; exact this

theorem chain_fn (hcall : HkOK A P call) {n : Nat} (link : ∀ i, i < n → ∃ o k, Link P call ops sz k o (S i) (T i) (S (i + 1)) (E i) (E (i + 1)) (V i) (L i)) : ∀ k, k ≤ n → Fn (S 0) (S k)
  | 0, _ => Fn.refl _
  | k + 1, hk => by
    obtain ⟨o, j, h⟩ := link k (by omega)
    exact (chain_fn hcall link k (by omega)).trans (h.fn hcall).2

theorem draw_s (hm : P.follows .mixedOrders = true) (hcall : HkOK A P call) {id : Nat} {ls : List Log} {e e' : Env} {st st' : St R} (h : drawX P call ops sz ops.toList [] e st = .ok (e', ls) st') (hord : ordered (masks ops.toList []) ls = true) :
    Fn st st' ∧ ∀ B F ρ own w a, Sit A P B F st st' ρ own w → EnvR ρ e a → a.tmps.size = sz →
    ∀ (Q : Exit → Act → World → Prop), (∀ a' ρ' own' w', Tr A P B F st st' ρ own w ρ' own' w' → EnvR ρ' e' a' → a'.tmps.size = sz → a'.defers = a.defers → Q .normal a' w') → (Code.region id ops true).wp P Q a w := by
  obtain ⟨E, S, T, V, L, rfl, rfl, rfl, rfl, rfl, hlink⟩ := drawX_chain h
  have hl : ops.toList.length = ops.size := by simp
  rw [hl] at h hord ⊢
  have hlink' : ∀ i o, ops[i]? = some o → Link P call ops sz i o (S i) (T i) (S (i + 1)) (E i) (E (i + 1)) (V i) (L i) := fun i o ho => by
    have := hlink i o (by simpa using ho)
    simpa using this
  have hord' : ∀ i j, i < j → j < ops.size → clash (L i) (L j) = true → ∀ D, Closed ops.toList D → D j = true → D i = true := by
    intro i j hij hj hc D hD hDj
    obtain ⟨h1, h2⟩ := masks_ahead (l := ops.toList) (r := ops.toList) (acc := []) (fun k => by simp) (fun k m hk => by simp at hk)
    simp only [List.length_nil, Nat.zero_add, hl] at h1 h2
    rw [List.append_nil] at hord
    obtain ⟨m, h3, h4⟩ := ordered_spec (L := L) h1 hord i j hij hj hc
    have := h2 _ m h3
    rw [show ops.size - 1 - (ops.size - 1 - j) = j by omega] at this
    exact this i h4 D hD hDj
  refine ⟨chain_fn hcall (fun i hi => ⟨ops[i], i, hlink' i _ (Array.getElem?_eq_getElem hi)⟩) _ (Nat.le_refl _), fun B F ρ own w a si he hsz Q hk => ?_⟩
  have c : Ctx A P call ops sz ops.size E S T V L := ⟨hcall, rfl, hlink', si.wf, hord'⟩
  refine wp_region_any hm ?_
  have main : ∀ (fuel : Nat) (listed : Array Bool) (b : Act) (w1 : World) (ρ1 : Names) (own1 : Nat → List Nat), listed.size = ops.size → Closed ops.toList (fun j => listed.getD j false) →
      RI A P B F (fun m => m ∈ (S ops.size).wr) sz ops.size E S T V L ρ own w a (fun j => listed.getD j false) ρ1 own1 b w1 → ((List.range ops.size).filter fun i => !listed.getD i false).length ≤ fuel → wpAny P .any ops Q fuel listed b w1 := by
    intro fuel
    have allOf : ∀ {listed : Array Bool}, listed.size = ops.size → Region.ready .any ops listed = [] → ∀ i, i < ops.size → listed.getD i false = true := by
      intro listed hls hr i
      induction i using Nat.strongRecOn with
      | _ i ih =>
        intro hi
        cases hli : listed.getD i false with
        | true => rfl
        | false =>
          exfalso
          have : i ∈ Region.ready .any ops listed := by
            refine mem_ready.2 ⟨?_, ops[i], Array.getElem?_eq_getElem hi, fun ed hed hb => ?_⟩
            · have hlt : i < listed.size := by omega
              simp only [Array.getD_eq_getD_getElem?, Array.getElem?_eq_getElem hlt, Option.getD_some] at hli ⊢
              exact hli
            · have hlt := (hlink' i _ (Array.getElem?_eq_getElem hi)).edge ed hed hb
              exact ih ed.on hlt (by omega)
          rw [hr] at this
          cases this
    have fin : ∀ {listed : Array Bool} {b w1 ρ1 own1}, listed.size = ops.size → Region.ready .any ops listed = [] → RI A P B F (fun m => m ∈ (S ops.size).wr) sz ops.size E S T V L ρ own w a (fun j => listed.getD j false) ρ1 own1 b w1 → Q .normal b w1 := by
      intro listed b w1 ρ1 own1 hls hr hri
      obtain ⟨ht, hen⟩ := hri.done c (allOf hls hr)
      exact hk b ρ1 own1 w1 ht hen hri.size hri.defers
    induction fuel with
    | zero =>
      intro listed b w1 ρ1 own1 hls hcl hri hcnt
      have hr : Region.ready .any ops listed = [] := by
        rw [List.eq_nil_iff_forall_not_mem]
        intro i hi
        obtain ⟨h1, o, ho, _⟩ := mem_ready.1 hi
        have hlt : i < ops.size := (Array.getElem?_eq_some_iff.1 ho).1
        have hnil := List.eq_nil_of_length_eq_zero (Nat.le_zero.1 hcnt)
        rw [List.filter_eq_nil_iff] at hnil
        have h2 := hnil i (List.mem_range.2 hlt)
        have h3 : i < listed.size := by omega
        simp only [Array.getD_eq_getD_getElem?, Array.getElem?_eq_getElem h3, Option.getD_some] at h1 h2
        rw [h1] at h2
        exact h2 rfl
      exact ⟨hr, fin hls hr hri⟩
    | succ fuel ih =>
      intro listed b w1 ρ1 own1 hls hcl hri hcnt
      refine ⟨fun hr => fin hls hr hri, fun i hi => ?_⟩
      obtain ⟨h1, o, ho, hedge⟩ := mem_ready.1 hi
      have hlt : i < ops.size := (Array.getElem?_eq_some_iff.1 ho).1
      have h3 : i < listed.size := by omega
      have hDi : listed.getD i false = false := by
        simp only [Array.getD_eq_getD_getElem?, Array.getElem?_eq_getElem h3, Option.getD_some] at h1 ⊢
        exact h1
      have hset : ∀ j, (listed.setIfInBounds i true).getD j false = (listed.getD j false || j == i) := by
        intro j
        by_cases e : j = i
        · subst e
          simp [Array.getD_eq_getD_getElem?, h3]
        · have : (j == i) = false := by simpa using e
          rw [getD_set_ne false (fun h => e h.symm), this, Bool.or_false]
      refine hri.step c si.base (fun m h1 h2 => si.fresh m ⟨h1, h2⟩) si.log (fun m hm => hm) si.ask hlt hDi hcl (fun o' ho' => ?_) hset (fun ρ' own' a' w' hri' => ih (listed.setIfInBounds i true) a' w' ρ' own' (by simp [hls]) ?_ hri' ?_)
      · rw [ho] at ho'
        injection ho' with ho'
        subst ho'
        exact hedge
      · intro j p hp hj ed hed hb
        simp only at hj ⊢
        rw [hset] at hj ⊢
        by_cases e : j = i
        · subst e
          have : p = o := by
            have h1 : ops[j]? = some p := by simpa using hp
            rw [ho] at h1
            injection h1 with h1
            exact h1.symm
          subst this
          rw [hedge ed hed hb]
          rfl
        · have : (j == i) = false := by simpa using e
          rw [this, Bool.or_false] at hj
          have := hcl j p hp hj ed hed hb
          simp only at this
          rw [this]
          rfl
      · have := filter_lessX (p := fun k => !listed.getD k false) (q := fun k => !(listed.setIfInBounds i true).getD k false) List.nodup_range (List.mem_range.2 hlt) (by simp [hDi]) (by simp [hset]) (fun j hj => by
          have : (j == i) = false := by simpa using hj
          simp only [hset, this, Bool.or_false])
        omega
  refine main ops.size _ a _ ρ own (by simp) (fun j p _ hj => ?_) ?_ ?_
  · exfalso
    simp only at hj
    rw [getD_replicate_false] at hj
    cases hj
  · have e : (fun j => (Array.replicate ops.size false).getD j false) = fun _ => false := by
      funext j
      exact getD_replicate_false _ j
    rw [e]
    exact RI.start si.li he hsz
  · exact Nat.le_trans (List.length_filter_le _ _) (by simp)
end
end Go.Proofs.Ytkndpdmopgmlcaa
end
section
/- The executor is right: what it says of a call, the machine does. Condition: the program follows the looser reading of Go's order. -/
namespace Go.Proofs.Ytkndpdmopgmlcaa

def Ex.exit : Ex → Exit
  | .nor => .normal
  | .ret => .ret
  | .out id => .exit id

section
variable {R : Type} {A : RepAt R} {P : Program} {st st1 st' : St R} {B : Nat} {F : Nat → Prop} {ρ ρ' : Names} {own own' : Nat → List Nat} {w w' : World}

def CodeS (A : RepAt R) (P : Program) (sz : Nat) (G : (Exit → Act → World → Prop) → Act → World → Prop) (e : Env) (st st' : St R) (r : Ex × Env) : Prop := Fn st st' ∧ ∀ B F ρ own w a, Sit A P B F st st' ρ own w → EnvR ρ e a → a.tmps.size = sz →
  ∀ (Q : Exit → Act → World → Prop), (∀ a' ρ' own' w', Tr A P B F st st' ρ own w ρ' own' w' → EnvR ρ' r.2 a' → a'.tmps.size = sz → a'.defers = a.defers → Q r.1.exit a' w') → G Q a w
def RunOK (A : RepAt R) (P : Program) (run : Nat → Code → Env → M R (Ex × Env)) : Prop := ∀ sz c e st r st', run sz c e st = .ok r st' → CodeS A P sz (fun Q a w => c.wp P Q a w) e st st' r

theorem region_plain {id : Nat} {ops : Array Oper} {Q : Exit → Act → World → Prop} {a : Act} (h : wpList P ops Q ops.toList a w) : (Code.region id ops false).wp P Q a w := by
  refine wp_region ?_
  have e := wpOps_eq_wpList (P := P) (ops := ops) (Q := Q) ops.toList 0 (fun j => by simp)
  rw [show List.range' 0 ops.toList.length = List.range ops.size by simp [List.range_eq_range']] at e
  rw [e]
  exact h

theorem CodeS.seq {sz : Nat} {e e1 e' : Env} {x y : Code} {ex : Ex} (h1 : CodeS A P sz (fun Q a w => x.wp P Q a w) e st st1 (.nor, e1)) (h2 : CodeS A P sz (fun Q a w => y.wp P Q a w) e1 st1 st' (ex, e')) :
    CodeS A P sz (fun Q a w => (Code.seq x y).wp P Q a w) e st st' (ex, e') := by
  refine ⟨h1.1.trans h2.1, fun B F ρ own w a si he hz Q hk => wp_seq ?_⟩
  refine h1.2 B F ρ own w a (si.head h1.1 h2.1) he hz _ (fun a1 ρ1 own1 w1 t1 he1 hz1 hd1 => ?_)
  exact h2.2 B _ ρ1 own1 w1 a1 (si.next h1.1 h2.1 t1) he1 hz1 Q (fun a' ρ' own' w' t2 he2 hz2 hd2 => hk a' ρ' own' w' (t1.trans t2 h1.1 h2.1 (h1.1.wf si.wf)) he2 hz2 (hd2.trans hd1))

theorem code_s (hm : P.follows .mixedOrders = true) {call : Hk R} (hcall : HkOK A P call) {run : Nat → Code → Env → M R (Ex × Env)} (hrun : RunOK A P run) {sz : Nat} {c : Code} {e : Env} {r : Ex × Env} (hnl : ∀ c', c ≠ .loop c') (h : codeF P call run sz c e st = .ok r st') :
    CodeS A P sz (fun Q a w => c.wp P Q a w) e st st' r := by
  unfold codeF at h
  split at h
  · obtain ⟨rfl, rfl⟩ := ret_ok.1 h
    exact ⟨Fn.refl _, fun B F ρ own w a si he hz Q hk => wp_skip (hk a ρ own w (si.quiet (Quiet.refl _)) he hz rfl)⟩
  · obtain ⟨e1, st1, h1, h2⟩ := bind_ok.1 h
    obtain ⟨rfl, rfl⟩ := ret_ok.1 h2
    obtain ⟨hf, hs⟩ := seq_s hcall h1
    exact ⟨hf, fun B F ρ own w a si he hz Q hk => region_plain (hs B F ρ own w a si he hz Q hk)⟩
  · obtain ⟨⟨e1, ls⟩, st1, h1, h2⟩ := bind_ok.1 h
    obtain ⟨_, _, h3, h4⟩ := bind_ok.1 h2
    obtain ⟨ho, rfl⟩ := want_ok.1 h3
    obtain ⟨rfl, rfl⟩ := ret_ok.1 h4
    obtain ⟨hf, hs⟩ := draw_s hm hcall h1 ho
    exact ⟨hf, fun B F ρ own w a si he hz Q hk => hs B F ρ own w a si he hz Q hk⟩
  · next x y =>
    obtain ⟨⟨ex, e1⟩, st1, h1, h2⟩ := bind_ok.1 h
    have g1 := hrun _ _ _ _ _ _ h1
    cases ex with
    | nor =>
      obtain ⟨ex2, e2⟩ := r
      exact g1.seq (hrun _ _ _ _ _ _ h2)
    | ret =>
      obtain ⟨rfl, rfl⟩ := ret_ok.1 h2
      exact ⟨g1.1, fun B F ρ own w a si he hz Q hk => wp_seq (g1.2 B F ρ own w a si he hz _ hk)⟩
    | out id =>
      obtain ⟨rfl, rfl⟩ := ret_ok.1 h2
      exact ⟨g1.1, fun B F ρ own w a si he hz Q hk => wp_seq (g1.2 B F ρ own w a si he hz _ hk)⟩
  · next c x y =>
    obtain ⟨s, _, h1, h2⟩ := bind_ok.1 h
    obtain ⟨hs, rfl⟩ := opt_ok.1 h1
    split at h2
    · next t =>
      obtain ⟨b, st1, h3, h4⟩ := bind_ok.1 h2
      obtain ⟨q, hq⟩ := ask_ok h3
      have key : ∀ {z : Code}, (if t = true then x else y) = z ∨ True → run sz z e st1 = .ok r st' → ((∀ p ∈ st'.ask, p.1 = p.2) → (if t = true then x else y) = z) → CodeS A P sz (fun Q a w => (Code.cond c x y).wp P Q a w) e st st' r := by
        intro z _ hz hsel
        have g := hrun _ _ _ _ _ _ hz
        refine ⟨q.fn.trans g.1, fun B F ρ own w a si he hsz Q hk => ?_⟩
        have ev := he.ev _ _ hs
        simp only [den, Option.some.injEq] at ev
        refine wp_cond ev.symm ?_
        rw [hsel si.ask]
        exact g.2 B F ρ own w a (si.of_quiet q) he hsz Q (fun a' ρ' own' w' t' => hk a' ρ' own' w' (Tr.of_quiet q t'))
      cases b with
      | true =>
        refine key (.inr trivial) h4 (fun ha => ?_)
        rw [hq (fun p hp => ha p ((hrun _ _ _ _ _ _ h4).1.ask p hp)), if_pos rfl]
      | false =>
        refine key (.inr trivial) h4 (fun ha => ?_)
        rw [hq (fun p hp => ha p ((hrun _ _ _ _ _ _ h4).1.ask p hp))]
        rfl
    · exact (fail_ok.1 h2).elim
  · next id c =>
    obtain ⟨⟨ex, e1⟩, st1, h1, h2⟩ := bind_ok.1 h
    have g1 := hrun _ _ _ _ _ _ h1
    cases ex with
    | nor =>
      obtain ⟨rfl, rfl⟩ := ret_ok.1 h2
      exact ⟨g1.1, fun B F ρ own w a si he hz Q hk => wp_block (g1.2 B F ρ own w a si he hz _ hk)⟩
    | ret =>
      obtain ⟨rfl, rfl⟩ := ret_ok.1 h2
      exact ⟨g1.1, fun B F ρ own w a si he hz Q hk => wp_block (g1.2 B F ρ own w a si he hz _ hk)⟩
    | out id' =>
      simp only at h2
      cases hb : Nat.beq id' id with
      | true =>
        rw [hb] at h2
        obtain ⟨rfl, rfl⟩ := ret_ok.1 h2
        have hid := Nat.eq_of_beq_eq_true hb
        refine ⟨g1.1, fun B F ρ own w a si he hz Q hk => wp_block (g1.2 B F ρ own w a si he hz _ (fun a' ρ' own' w' t' he' hz' hd' => ?_))⟩
        simp only [Ex.exit, Exit.inBlock, hid, if_true]
        exact hk a' ρ' own' w' t' he' hz' hd'
      | false =>
        rw [hb] at h2
        obtain ⟨rfl, rfl⟩ := ret_ok.1 h2
        have hid := Nat.ne_of_beq_eq_false hb
        refine ⟨g1.1, fun B F ρ own w a si he hz Q hk => wp_block (g1.2 B F ρ own w a si he hz _ (fun a' ρ' own' w' t' he' hz' hd' => ?_))⟩
        simp only [Ex.exit, Exit.inBlock, hid, if_false]
        exact hk a' ρ' own' w' t' he' hz' hd'
  · next c => exact absurd rfl (hnl c)
  · obtain ⟨rfl, rfl⟩ := ret_ok.1 h
    exact ⟨Fn.refl _, fun B F ρ own w a si he hz Q hk => wp_exit (hk a ρ own w (si.quiet (Quiet.refl _)) he hz rfl)⟩
  · obtain ⟨rfl, rfl⟩ := ret_ok.1 h
    exact ⟨Fn.refl _, fun B F ρ own w a si he hz Q hk => wp_ret (hk a ρ own w (si.quiet (Quiet.refl _)) he hz rfl)⟩
  · exact (fail_ok.1 h).elim

theorem look_prune : ∀ {e : Env} {m t : Nat} {s : SV}, elook t (pruneE m e) = some s → Nat.testBit m t = true ∧ elook t e = some s
  | [], m, t, s, h => by simp [pruneE, elook] at h
  | (k, s0) :: r, m, t, s, h => by
    rw [pruneE] at h
    cases hb : Nat.testBit m k with
    | true =>
      simp only [hb, elook_cons] at h ⊢
      by_cases hk : t = k
      · subst hk
        exact ⟨hb, by simpa using h⟩
      · rw [if_neg hk] at h ⊢
        have ih := look_prune h
        have hx : Nat.testBit (m ^^^ 2 ^ k) t = true := ih.1
        rw [Nat.testBit_xor, Nat.testBit_two_pow_of_ne (Ne.symm hk)] at hx
        exact ⟨by simpa using hx, ih.2⟩
    | false =>
      simp only [hb] at h
      have ih := look_prune h
      rw [elook_cons, if_neg (fun hk => by rw [hk, hb] at ih; cases ih.1)]
      exact ih

theorem loop_s {run : Nat → Code → Env → M R (Ex × Env)} (hrun : RunOK A P run) {n sz : Nat} {c : Code} {e : Env} {r : Ex × Env} {call : Hk R} (hloop : ∀ e st r st', run sz (.loop c) e st = .ok r st' → CodeS A P sz (fun Q a w => Code.rounds P c Q n a w) e st st' r)
    (h : codeF P call run sz (.loop c) e st = .ok r st') : CodeS A P sz (fun Q a w => Code.rounds P c Q (n + 1) a w) e st st' r := by
  simp only [codeF] at h
  obtain ⟨⟨ex, e1⟩, st1, h1, h2⟩ := bind_ok.1 h
  have g1 := hrun _ _ _ _ _ _ h1
  cases ex with
  | nor =>
    have g2 := hloop _ _ _ _ h2
    refine ⟨g1.1.trans g2.1, fun B F ρ own w a si he hz Q hk => ?_⟩
    show Code.rounds P c Q (n + 1) a w
    rw [rounds_succ]
    refine g1.2 B F ρ own w a (si.head g1.1 g2.1) he hz _ (fun a1 ρ1 own1 w1 t1 he1 hz1 hd1 => ?_)
    exact g2.2 B _ ρ1 own1 w1 a1 (si.next g1.1 g2.1 t1) (fun t s hl => he1 t s (look_prune hl).2) hz1 Q (fun a' ρ' own' w' t2 he2 hz2 hd2 => hk a' ρ' own' w' (t1.trans t2 g1.1 g2.1 (g1.1.wf si.wf)) he2 hz2 (hd2.trans hd1))
  | ret =>
    obtain ⟨rfl, rfl⟩ := ret_ok.1 h2
    refine ⟨g1.1, fun B F ρ own w a si he hz Q hk => ?_⟩
    show Code.rounds P c Q (n + 1) a w
    rw [rounds_succ]
    exact g1.2 B F ρ own w a si he hz _ hk
  | out id =>
    obtain ⟨rfl, rfl⟩ := ret_ok.1 h2
    refine ⟨g1.1, fun B F ρ own w a si he hz Q hk => ?_⟩
    show Code.rounds P c Q (n + 1) a w
    rw [rounds_succ]
    exact g1.2 B F ρ own w a si he hz _ hk

def resOp (tmps : Array Value) : ResultVar → Sem Value
  | .tmp t => pure (tmps.getD t undef)
  | .cell b t => do loadVar t (← asAddr (tmps.getD b undef))
theorem res_s {sz : Nat} {e : Env} : ∀ {l : List ResultVar} {ss : List SV} {st st' : St R}, resX P e l st = .ok ss st' → Quiet st st' ∧ ∀ B F ρ own w a, LI A P B ρ own st.hp F w → (∀ n ∈ st'.fr, F n) → EnvR ρ e a → a.tmps.size = sz →
    ∃ vs, denL ρ ss = some vs ∧ (l.mapM (resOp a.tmps)).run P w = .ok vs w
  | [], ss, st, st', h => by
    obtain ⟨rfl, rfl⟩ := ret_ok.1 h
    exact ⟨Quiet.refl _, fun B F ρ own w a _ _ _ _ => ⟨[], rfl, rfl⟩⟩
  | .tmp t :: l, ss, st, st', h => by
    obtain ⟨s, _, h1, h2⟩ := bind_ok.1 h
    obtain ⟨hs, rfl⟩ := opt_ok.1 h1
    obtain ⟨r, st1, h3, h4⟩ := bind_ok.1 h2
    obtain ⟨rfl, rfl⟩ := ret_ok.1 h4
    obtain ⟨q, g⟩ := res_s (sz := sz) h3
    refine ⟨q, fun B F ρ own w a hli hF he hz => ?_⟩
    obtain ⟨vs, g1, g2⟩ := g B F ρ own w a hli hF he hz
    obtain ⟨x, g3, g4⟩ := he t s hs
    refine ⟨x :: vs, denL_cons.2 ⟨_, _, g4, g1, rfl⟩, ?_⟩
    have e : a.tmps.getD t undef = x := by simp [Array.getD_eq_getD_getElem?, g3]
    have e2 : (resOp a.tmps (.tmp t)).run P w = .ok x w := by
      simp only [resOp, e]
      rfl
    rw [List.mapM_cons, Sem.run_bind, e2]
    simp only [Result.andThen_ok, Sem.run_bind, g2, Sem.run_pure]
  | .cell b t :: l, ss, st, st', h => by
    obtain ⟨x, _, h1, h2⟩ := bind_ok.1 h
    obtain ⟨hx, rfl⟩ := opt_ok.1 h1
    obtain ⟨s, st1, h3, h4⟩ := bind_ok.1 h2
    obtain ⟨r, st2, h5, h6⟩ := bind_ok.1 h4
    obtain ⟨rfl, rfl⟩ := ret_ok.1 h6
    have q1 := loadX_quiet h3
    obtain ⟨q, g⟩ := res_s (sz := sz) h5
    refine ⟨q1.trans q, fun B F ρ own w a hli hF he hz => ?_⟩
    obtain ⟨vs, g1, g2⟩ := g B F ρ own w a (by rw [q1.hp]; exact hli) hF he hz
    obtain ⟨y, g3, g4⟩ := he b x hx
    obtain ⟨v, g5, g6⟩ := loadX_run h3 hli (fun n hn => hF n (q.fr n hn)) g4
    refine ⟨v :: vs, denL_cons.2 ⟨_, _, g5, g1, rfl⟩, ?_⟩
    have e : a.tmps.getD b undef = y := by simp [Array.getD_eq_getD_getElem?, g3]
    obtain ⟨ad, rfl⟩ : ∃ ad, y = .pointer (some ad) := by
      cases y with
      | pointer p =>
        cases p with
        | some ad => exact ⟨ad, rfl⟩
        | none => simp [Instr.loadAt, Instr.sureAddr, stuck, Result.andThen] at g6
      | _ => simp [Instr.loadAt, Instr.sureAddr, stuck, Result.andThen] at g6
    simp only [Instr.loadAt, Instr.sureAddr, Sem.run_bind, Sem.run_pure, Result.andThen_ok] at g6
    have e2 : (resOp a.tmps (.cell b t)).run P w = .ok v w := by
      simp only [resOp, e, asAddr, Sem.run_bind, Sem.run_pure, Result.andThen_ok]
      exact g6
    rw [List.mapM_cons, Sem.run_bind, e2]
    simp only [Result.andThen_ok, Sem.run_bind, g2, Sem.run_pure]

theorem keepX_get {lo : Nat} {keep : List Nat} {n : Nat} : ∀ {hp : List (Nat × Chunk R)}, hget n (keepX lo keep hp) = if Nat.blt n lo || memN n keep then hget n hp else none
  | [] => by simp [keepX, hget]
  | (m, c) :: hp => by
    simp only [keepX]
    cases h : (Nat.blt m lo || memN m keep) with
    | true =>
      simp only [hget_cons, keepX_get (hp := hp)]
      by_cases e : n = m
      · subst e; simp [h]
      · simp [e]
    | false =>
      simp only [hget_cons, keepX_get (hp := hp)]
      by_cases e : n = m
      · subst e; simp [h]
      · simp [e]
theorem mem_cutN {lo n : Nat} {base l : List Nat} : n ∈ cutN lo base l ↔ n ∈ l ∧ (n < lo ∨ n ∈ base) := by
  unfold cutN
  rw [List.mem_filter, Bool.or_eq_true, memN_iff]
  simp [Nat.blt_eq]
/-- What was swept away. -/
structure Swept (st st1 st' : St R) : Prop where
  nx : st'.nx = st1.nx
  fr : ∀ n ∈ st'.fr, n ∈ st1.fr
  wr : ∀ n ∈ st'.wr, n ∈ st1.wr
  wrb : ∀ n ∈ st'.wr, st'.fr = st1.fr ∨ n < st.nx ∨ n ∈ st.wr
  frk : ∀ n ∈ st1.fr, n < st.nx ∨ n ∈ st.fr → n ∈ st'.fr
  wrk : ∀ n ∈ st1.wr, n < st.nx ∨ n ∈ st.wr → n ∈ st'.wr
  ask : st'.ask = st1.ask
  low : ∀ n, n < st.nx → hget n st'.hp = hget n st1.hp
  hp : ∀ n c, hget n st'.hp = some c → hget n st1.hp = some c
theorem sweep_s (s : SV) : Swept st st1 (sweepSt st s st1) := by
  obtain ⟨hp, nx, fr, wr, ak, oc⟩ := st1
  obtain ⟨hp0, lo, fr0, wr0, ak0, oc0⟩ := st
  simp only [sweepSt]
  split
  · exact ⟨rfl, fun _ h => h, fun _ h => h, fun _ _ => .inl rfl, fun _ h _ => h, fun _ h _ => h, rfl, fun _ _ => rfl, fun _ _ h => h⟩
  · refine ⟨rfl, fun n hn => (mem_cutN.1 hn).1, fun n hn => (mem_cutN.1 hn).1, fun n hn => .inr (mem_cutN.1 hn).2, fun n hn hl => mem_cutN.2 ⟨hn, hl⟩, fun n hn hl => mem_cutN.2 ⟨hn, hl⟩, rfl, fun n hn => ?_, fun n c hc => ?_⟩
    · rw [keepX_get]
      have : Nat.blt n lo = true := by simpa [Nat.blt_eq] using hn
      simp [this]
    · rw [keepX_get] at hc
      split at hc
      · exact hc
      · cases hc
theorem sweepX_ok {tidy : Option (Tidy R)} (ht : ∀ f, tidy = some f → ∀ st s k, f st s k = k st s) {s s' : SV} (h : sweepX tidy st s st1 = .ok s' st') : s' = s ∧ st' = sweepSt st s st1 := by
  unfold sweepX at h
  cases tidy with
  | none =>
    injection h with h1 h2
    exact ⟨h1.symm, h2.symm⟩
  | some f =>
    simp only [ht f rfl] at h
    injection h with h1 h2
    exact ⟨h1.symm, h2.symm⟩
theorem Fn.sweep (h : Fn st st1) (k : Swept st st1 st') : Fn st st' := by
  refine ⟨by rw [k.nx]; exact h.nx, fun n hn => k.frk n (h.fr n hn) (.inr hn), fun n hn => k.wrk n (h.wr n hn) (.inr hn), fun p hp => by rw [k.ask]; exact h.ask p hp, fun n hn hl => (k.low n hl).trans (h.hp n (fun hw => hn (k.wrk n hw (.inl hl))) hl), fun hw => ?_, fun n hn => h.al n (k.wr n hn)⟩
  have h1 := h.wf hw
  refine ⟨fun n hn => ?_, fun n hn => ?_⟩
  · have h2 := h1.wr n (k.wr n hn)
    refine ⟨?_, by rw [k.nx]; exact h2.2⟩
    rcases k.wrb n hn with h3 | h3 | h3
    · rw [h3]; exact h2.1
    · exact k.frk n h2.1 (.inl h3)
    · exact k.frk n h2.1 (.inr (hw.wr n h3).1)
  · cases hx : hget n st'.hp with
    | none => rfl
    | some c =>
      have h7 := k.hp n c hx
      rw [h1.top n (k.nx ▸ hn)] at h7
      cases h7
theorem Tr.sweep (t : Tr A P B F st st1 ρ own w ρ' own' w') (k : Swept st st1 st') (hw : Wf st1) : Tr A P B F st st' ρ own w ρ' own' w' := by
  have hn : ∀ n, newN st st' n ↔ newN st st1 n := fun n => by unfold newN; rw [k.nx]
  have keep : ∀ m, m ∈ st1.wr → ¬ newN st st1 m → m ∈ st'.wr := fun m hm hnn => k.wrk m hm (.inl (by
    have := (hw.wr m hm).2
    unfold newN at hnn
    omega))
  refine ⟨t.le, fun n hx => t.out n (fun h => hx ((hn n).2 h)), fun n hx hw' => t.same n (fun h => hx ((hn n).2 h)) (fun h => hw' (keep n h (fun h => hx ((hn n).2 h)))), fun n hx b hb => ?_, ?_, t.mod.mono fun b _ ⟨m, g1, g2, g3⟩ => ⟨m, keep m g1 g2, fun h => g2 ((hn m).1 h), g3⟩⟩
  · rcases t.pool n (hx.imp (hn n).1 (k.wr n)) b hb with g | ⟨m, g1, g2, g3⟩
    · exact .inl g
    · exact .inr ⟨m, keep m g1 g2, fun h => g2 ((hn m).1 h), g3⟩
  · exact ⟨fun n c hx hc => t.li.at_ n c (hx.imp_right (hn n).1) (k.hp n c hc), fun n m c d hx hy hne hc hd => t.li.dis n m c d (hx.imp_right (hn n).1) (hy.imp_right (hn m).1) hne (k.hp n c hc) (k.hp m d hd),
      fun n c hx hc => t.li.low n c (hx.imp_right (hn n).1) (k.hp n c hc)⟩

theorem elook_zip : ∀ {args : List SV} {k t : Nat} {s : SV}, elook t ((args.zipIdx k).map fun p => (p.2, p.1)) = some s → k ≤ t ∧ args[t - k]? = some s
  | [], k, t, s, h => by simp [elook] at h
  | x :: args, k, t, s, h => by
    rw [List.zipIdx_cons, List.map_cons, elook_cons] at h
    split at h
    · next e =>
      subst e
      simp only [Option.some.injEq] at h
      subst h
      simp
    · obtain ⟨h1, h2⟩ := elook_zip h
      refine ⟨by omega, ?_⟩
      rw [show t - k = (t - (k + 1)) + 1 by omega, List.getElem?_cons_succ]
      exact h2

structure LibOK (A : RepAt R) (P : Program) (lib : Lib R) : Prop where
  prim : ∀ f args m, lib.prim f args = some m → ∀ st s st', m st = .ok s st' → CallS A P f args st st' s
  ext : ∀ ev o m, lib.ext ev o = some m → ∀ st s st', m st = .ok s st' → OpS A P o ev st st' s
  tidy : ∀ f, lib.tidy = some f → ∀ st s k, f st s k = k st s
theorem call_s {lib : Lib R} (hp : LibOK A P lib) {run : Nat → Code → Env → M R (Ex × Env)} (hrun : RunOK A P run) : CallOK A P (callF P lib run) := by
  intro f args st s st' h
  unfold callF at h
  cases hpf : lib.prim f args with
  | some p =>
    rw [hpf] at h
    exact hp.prim f args p hpf st s st' h
  | none =>
    rw [hpf] at h
    simp only at h
    cases hf : P.funcs[f]? with
    | none => rw [hf] at h; exact (fail_ok.1 h).elim
    | some fn =>
      rw [hf] at h
      simp only at h
      cases hb : fn.body with
      | none => rw [hb] at h; exact (fail_ok.1 h).elim
      | some c =>
        rw [hb] at h
        obtain ⟨lo, st0, h1, h2⟩ := bind_ok.1 h
        simp only [stNow, Res.ok.injEq] at h1
        obtain ⟨rfl, rfl⟩ := h1
        obtain ⟨_, _, h3, h4⟩ := bind_ok.1 h2
        obtain ⟨hle, rfl⟩ := want_ok.1 h3
        have hle := Nat.le_of_ble_eq_true hle
        obtain ⟨⟨ex, e1⟩, st1, h5, h6⟩ := bind_ok.1 h4
        have g := hrun _ _ _ _ _ _ h5
        have key : ∀ (st2 : St R) (l : List SV), resX P e1 fn.results.toList st1 = .ok l st2 → sweepX lib.tidy st (oneOf l) st2 = .ok s st' → (ex = .nor ∨ ex = .ret) → CallS A P f args st st' s := by
          intro st2 l h7 h8 hex
          obtain ⟨rfl, rfl⟩ := sweepX_ok hp.tidy h8
          obtain ⟨q, hres⟩ := res_s (A := A) (sz := fn.ntmps) h7
          have f2 := g.1.trans q.fn
          have hs' := sweep_s (st := st) (st1 := st2) (oneOf l)
          refine ⟨f2.sweep hs', fun B F ρ own w vals si hd => ?_⟩
          have hlen := denL_length hd
          have hlog : ∀ n, n ∈ st2.fr → F n ∨ st.nx ≤ n := fun n hn => by
            rcases Nat.lt_or_ge n st.nx with hl | hl
            · exact .inl (si.log n (hs'.frk n hn (.inl hl)))
            · exact .inr hl
          have hup : ∀ n c, st.nx ≤ n → hget n st.hp = some c → False := fun n c hn hc => by
            rw [si.wf.top n hn] at hc
            cases hc
          have si1 : Sit A P B (fun n => F n ∨ st.nx ≤ n) st st1 ρ own w := ⟨fun n hn => hlog n (q.fr n hn), si.wf, fun n hn => si.fresh n ⟨hn.1, by rw [hs'.nx, q.nx]; exact hn.2⟩,
            ⟨fun n c hn hc => si.li.at_ n c (hn.resolve_right (fun h => hup n c h hc)) hc, fun n m c d hn hm hne hc hd => si.li.dis n m c d (hn.resolve_right (fun h => hup n c h hc)) (hm.resolve_right (fun h => hup m d h hd)) hne hc hd, fun n c hn hc => si.li.low n c (hn.resolve_right (fun h => hup n c h hc)) hc⟩,
            fun p hp => si.ask p (by rw [hs'.ask]; exact q.ask p hp), si.base⟩
          refine calls_of_wp hf hb ?_
          refine g.2 B _ ρ own w _ si1 (fun t s hts => ?_) (by simp; omega) _ (fun a' ρ' own' w' t he hz hdf => ?_)
          · obtain ⟨_, h9⟩ := elook_zip hts
            rw [Nat.sub_zero] at h9
            obtain ⟨x, g1, g2⟩ := denL_get hd h9
            refine ⟨x, ?_, g1⟩
            rw [Array.getElem?_append_left (by rw [List.size_toArray]; exact lt_of_some g2), List.getElem?_toArray]
            exact g2
          · obtain ⟨vs, g1, g2⟩ := hres B _ ρ' own' w' a' t.li (fun n hn => .inl (hlog n hn)) he hz
            have hr : (results fn a'.tmps).run P w' = .ok (if h : vs.length = 1 then vs[0] else .tuple vs.toArray) w' := by
              have e : results fn a'.tmps = (do
                  let vs ← fn.results.mapM (resOp a'.tmps)
                  pure (if h : vs.size = 1 then vs[0] else .tuple vs)) := rfl
              rw [e, Array.mapM_eq_mapM_toList]
              simp only [Sem.run_bind, Sem.run_map, g2, Result.andThen_ok, Sem.run_pure]
              congr 1
            have ht2 : Tr A P B F st st2 ρ own w ρ' own' w' := by
              refine ⟨t.le, fun n hn => t.out n (fun h => hn (by unfold newN at h ⊢; rw [q.nx]; exact h)), fun n hn hw => t.same n (fun h => hn (by unfold newN at h ⊢; rw [q.nx]; exact h)) (by rw [← q.wr]; exact hw), fun n hn b hb => ?_, ?_, ?_⟩
              · rcases t.pool n (hn.imp (fun h => by unfold newN at h ⊢; rw [← q.nx]; exact h) (fun h => by rw [← q.wr]; exact h)) b hb with g | ⟨m, g1, g2, g3⟩
                · exact .inl g
                · exact .inr ⟨m, by rw [q.wr]; exact g1, fun h => g2 (by unfold newN at h ⊢; rw [← q.nx]; exact h), g3⟩
              · rw [q.hp]
                exact t.li.sub fun n hn => hn.imp .inl fun h => by unfold newN at h ⊢; rw [← q.nx]; exact h
              · exact t.mod.mono fun b _ ⟨m, g1, g2, g3⟩ => ⟨m, by rw [q.wr]; exact g1, fun h => g2 (by unfold newN at h ⊢; rw [← q.nx]; exact h), g3⟩
            have hone : den ρ' (oneOf l) = some (if h : vs.length = 1 then vs[0] else .tuple vs.toArray) := by
              have hl := denL_length g1
              cases l with
              | nil =>
                simp only [denL, Option.some.injEq] at g1
                subst g1
                rfl
              | cons x l =>
                obtain ⟨y, ys, g3, g4, rfl⟩ := denL_cons.1 g1
                cases l with
                | nil =>
                  simp only [denL, Option.some.injEq] at g4
                  subst g4
                  simpa [oneOf] using g3
                | cons z l =>
                  simp only [List.length_cons] at hl
                  rw [dif_neg (by simp only [List.length_cons]; omega)]
                  simp only [oneOf, den, g1, Option.map_some]
            have hpost : ∃ v, (results fn a'.tmps).run P w' = .ok v w' ∧ ∃ x ρ' own', Ending.returned v = .returned x ∧ den ρ' (oneOf l) = some x ∧ Tr A P B F st _ ρ own w ρ' own' w' := ⟨_, hr, _, ρ', own', rfl, hone, ht2.sweep hs' (f2.wf si.wf)⟩
            rcases hex with rfl | rfl
            · exact ⟨hdf, hpost⟩
            · exact ⟨hdf, hpost⟩
        simp only at h6
        cases ex with
        | out id => exact (fail_ok.1 h6).elim
        | nor =>
          obtain ⟨l, st2, h7, h8⟩ := bind_ok.1 h6
          exact key st2 l h7 h8 (.inl rfl)
        | ret =>
          obtain ⟨l, st2, h7, h8⟩ := bind_ok.1 h6
          exact key st2 l h7 h8 (.inr rfl)

theorem run_s (hm : P.follows .mixedOrders = true) {lib : Lib R} (hp : LibOK A P lib) : ∀ n, RunOK A P (runX P lib n) ∧ ∀ sz c e st r st', runX P lib n sz (.loop c) e st = .ok r st' → CodeS A P sz (fun Q a w => Code.rounds P c Q n a w) e st st' r
  | 0 => ⟨fun _ _ _ _ _ _ h => (fail_ok.1 h).elim, fun _ _ _ _ _ _ h => (fail_ok.1 h).elim⟩
  | n + 1 => by
    obtain ⟨h1, h2⟩ := run_s hm hp n
    have hc := call_s hp h1
    have hl : ∀ sz c e st r st', runX P lib (n + 1) sz (.loop c) e st = .ok r st' → CodeS A P sz (fun Q a w => Code.rounds P c Q (n + 1) a w) e st st' r := fun sz c e st r st' h => loop_s h1 (fun e st r st' => h2 sz c e st r st') h
    refine ⟨fun sz c e st r st' h => ?_, hl⟩
    by_cases hnl : ∃ c', c = .loop c'
    · obtain ⟨c', rfl⟩ := hnl
      obtain ⟨hf, hs⟩ := hl sz c' e st r st' h
      exact ⟨hf, fun B F ρ own w a si he hz Q hk => wp_loop_rounds (n + 1) (hs B F ρ own w a si he hz Q hk)⟩
    · exact code_s hm ⟨hc, hp.ext⟩ h1 (fun c' e => hnl ⟨c', e⟩) h

/-- WHAT THE EXECUTOR SAYS OF A CALL, THE MACHINE DOES. -/
theorem callX_s (hm : P.follows .mixedOrders = true) {lib : Lib R} (hp : LibOK A P lib) (n : Nat) : CallOK A P (callX P lib n) := call_s hp (run_s hm hp n).1
end
end Go.Proofs.Ytkndpdmopgmlcaa
end
section
/- The executor at a call out of nothing: what it answers, the machine answers, and nothing that was there has changed. Condition: the program follows the looser reading of Go's order. -/
namespace Go.Proofs.Ytkndpdmopgmlcaa

section
variable {R : Type} {A : RepAt R} {P : Program}
def St.none (o : List (Option Bool)) : St R := ⟨[], 0, [], [], [], o⟩
def noNames : Names := fun _ => .none
theorem closed_s {call : FuncId → List SV → M R SV} (hc : CallOK A P call) {f : FuncId} {args : List SV} {o : List (Option Bool)} {s : SV} {st : St R} (h : call f args (St.none o) = .ok s st) (hask : ∀ p ∈ st.ask, p.1 = p.2) (w : World) {vals : List Value} (hv : denL noNames args = some vals) :
    Calls P f vals.toArray w fun e w' => ∃ x ρ, e = .returned x ∧ den ρ s = some x ∧ Mod [] w w' := by
  obtain ⟨hf, hs⟩ := hc _ _ _ _ _ h
  have hwf : Wf (St.none o : St R) := ⟨(fun n hn => by cases hn), fun _ _ => rfl⟩
  refine (hs w.heap.size (fun n => n ∈ st.fr) noNames (fun _ => []) w vals ⟨fun n h => h, hwf, fun _ _ => rfl, ⟨(fun n c _ hc => by cases hc), (fun n m c d _ _ _ hc => by cases hc), fun n c _ hc => by cases hc⟩, hask, Nat.le_refl _⟩ hv).mono fun e w' ⟨x, ρ', own', he, hx, ht⟩ => ⟨x, ρ', he, hx, ht.mod.mod fun b _ ⟨m, hm, hn, _⟩ => ?_⟩
  exact absurd ⟨Nat.zero_le _, ((hf.wf hwf).wr m hm).2⟩ hn

def AllAsk : List (Bool × Bool) → Prop
  | [] => True
  | p :: l => p.1 = p.2 ∧ AllAsk l
theorem AllAsk.all : ∀ {l : List (Bool × Bool)}, AllAsk l → ∀ p ∈ l, p.1 = p.2
  | [], _, p, h => by cases h
  | q :: l, ⟨h1, h2⟩, p, h => by
    rcases List.mem_cons.1 h with rfl | h
    · exact h1
    · exact AllAsk.all h2 p h
/-- What came of it, and on what tests. -/
def outcome (r : Res R SV) : Option SV × List (Bool × Bool) := match r with
  | .ok s st => (some s, st.ask)
  | .no e l => (some (.slE e), l)
/-- What is answered, and on what tests. -/
def answer (r : Res R SV) : Option (SV × List (Bool × Bool)) := match r with
  | .ok s st => some (s, st.ask)
  | .no _ _ => .none
theorem answer_of {r : Res R SV} {s : SV} {l : List (Bool × Bool)} (h : answer r = some (s, l)) : ∃ st, r = .ok s st ∧ st.ask = l := by
  unfold answer at h
  split at h
  · simp only [Option.some.injEq, Prod.mk.injEq] at h
    obtain ⟨rfl, rfl⟩ := h
    exact ⟨_, rfl, rfl⟩
  · cases h
theorem closed_ans {call : FuncId → List SV → M R SV} (hc : CallOK A P call) {f : FuncId} {args : List SV} {o : List (Option Bool)} {x : Value} {l : List (Bool × Bool)} (h : answer (call f args (St.none o)) = some (.v x, l)) (hl : ∀ p ∈ l, p.1 = p.2) (w : World) {vals : List Value} (hv : denL noNames args = some vals) :
    Calls P f vals.toArray w fun e w' => e = .returned x ∧ Mod [] w w' := by
  obtain ⟨st, hs, ha⟩ := answer_of h
  refine (closed_s hc hs (fun p hp => hl p (ha ▸ hp)) w hv).mono fun e w' ⟨y, ρ, he, hx, hm⟩ => ?_
  simp only [den, Option.some.injEq] at hx
  subst hx
  exact ⟨he, hm⟩

/-- By some oracle the answer is such a one. -/
def Good (r : List (Option Bool) → Res R SV) (Q : Value → Prop) : Prop := ∃ o l x, answer (r o) = some (.v x, l) ∧ AllAsk l ∧ Q x
theorem good_ans {call : FuncId → List SV → M R SV} (hc : CallOK A P call) {f : FuncId} {args : List SV} {Q : Value → Prop} (h : Good (fun o => call f args (St.none o)) Q) (w : World) {vals : List Value} (hv : denL noNames args = some vals) :
    Calls P f vals.toArray w fun e w' => ∃ x, Q x ∧ e = .returned x ∧ Mod [] w w' := by
  obtain ⟨o, l, x, h1, h2, h3⟩ := h
  exact (closed_ans hc h1 h2.all w hv).mono fun e w' ⟨he, hm⟩ => ⟨x, h3, he, hm⟩
/-- The answer true, without a test that was not decided. -/
def okTrue (r : Res R SV) : Bool := match r with
  | .ok (.v (.bool true)) ⟨_, _, _, _, [], _⟩ => true
  | _ => false
theorem okTrue_of {r : Res R SV} (h : okTrue r = true) : ∃ st, r = .ok (.v (.bool true)) st ∧ st.ask = [] := by
  unfold okTrue at h
  split at h
  · exact ⟨_, rfl, rfl⟩
  · cases h
theorem closed_true' {call : FuncId → List SV → M R SV} (hc : CallOK A P call) {f : FuncId} {args : List SV} (h : okTrue (call f args (St.none [])) = true) (w : World) {vals : List Value} (hv : denL noNames args = some vals) : Calls P f vals.toArray w fun e w' => e = .returned (.bool true) ∧ Mod [] w w' := by
  obtain ⟨st, hs, ha⟩ := okTrue_of h
  refine (closed_s hc hs (fun p hp => by rw [ha] at hp; cases hp) w hv).mono fun e w' ⟨x, ρ, he, hx, hm⟩ => ?_
  simp only [den, Option.some.injEq] at hx
  subst hx
  exact ⟨he, hm⟩
theorem closed_true {call : FuncId → List SV → M R SV} (hc : CallOK A P call) {f : FuncId} (h : okTrue (call f [] (St.none [])) = true) (w : World) : Calls P f #[] w fun e w' => e = .returned (.bool true) ∧ Mod [] w w' := by
  obtain ⟨st, hs, ha⟩ := okTrue_of h
  refine (closed_s hc hs (fun p hp => by rw [ha] at hp; cases hp) w (vals := []) rfl).mono fun e w' ⟨x, ρ, he, hx, hm⟩ => ?_
  simp only [den, Option.some.injEq] at hx
  subst hx
  exact ⟨he, hm⟩
end
end Go.Proofs.Ytkndpdmopgmlcaa
end
section
/- The queue's small methods: what Len, at, Head and Pop answer, of a queue that is known. Conditions: the queue is not nil; counts below 2^40. -/
namespace Go.Proofs.Ytkndpdmopgmlcaa
open Go.RowKit

abbrev Ent := Int × Int × Int
def ent (e : Ent) : List Value := [.int .i64 e.1, .int .i64 e.2.1, .int .i64 e.2.2]
theorem ent_len (e : Ent) : (ent e).length = 3 := rfl

structure QAt (w : World) (q rb L f t : Nat) (xs : List Ent) : Prop where
  blk : Blk w q 167 [.slice (some ⟨rb, 0, none⟩) L L, .int .u64 f, .int .u64 t]
  ring : ∃ R : List Ent, R.length = L ∧ Blk w rb 62 (flat ent R) ∧ ∀ i, i < xs.length → R[(f + i) % L]? = xs[i]?
  pow : ∃ k, L = 2 ^ k
  pos : 4 ≤ L
  big : L < 1099511627776
  len : t = f + xs.length
  fits : xs.length ≤ L
  bound : t < 1099511627776

theorem mask (n k : Nat) (h : 2 ^ k < 1099511627776) (hn : n < 1099511627776) : bits .and .u64 (n : Int) (IntKind.u64.wrap (IntKind.i64.wrap (((2 ^ k : Nat) : Int) - 1))) = ((n % 2 ^ k : Nat) : Int) := by
  have hp : 0 < 2 ^ k := Nat.two_pow_pos k
  have e : IntKind.u64.wrap (IntKind.i64.wrap (((2 ^ k : Nat) : Int) - 1)) = ((2 ^ k - 1 : Nat) : Int) := by
    rw [IntWalk.i64_in _ (by omega), IntWalk.u64_in _ (by omega)]
    omega
  rw [e, u64_and_nat _ _ (by omega) (by omega), Nat.and_two_pow_sub_one_eq_mod]

theorem len_cells (q f t : Nat) (w : World) (hft : f ≤ t) (ht : t < 1099511627776) (h1 : w.cell? ⟨q, 1, none⟩ = some (.int .u64 f)) (h2 : w.cell? ⟨q, 2, none⟩ = some (.int .u64 t)) :
    Calls Try.prog 87 #[.pointer (some ⟨q, 0, none⟩)] w fun e w' => e = .returned (.int .i64 ((t : Int) - f)) ∧ ∃ n, w' = w.drewN n := by
  go_enter Try.func87, Try.ntmps87
  go_wp2
  go_quiet (fail)
  go_wp2
  go_ret
  exact ⟨rfl, _, rfl⟩

theorem at_cells (q rb k n : Nat) (w : World) (hL : 2 ^ k < 1099511627776) (hn : n < 1099511627776) (h0 : w.cell? ⟨q, 0, none⟩ = some (.slice (some ⟨rb, 0, none⟩) (2 ^ k) (2 ^ k))) :
    Calls Try.prog 88 #[.pointer (some ⟨q, 0, none⟩), .int .u64 n] w fun e w' => e = .returned (.pointer (some ⟨rb, (n % 2 ^ k) * 3, none⟩)) ∧ ∃ n, w' = w.drewN n := by
  have hp : 0 < 2 ^ k := Nat.two_pow_pos k
  have hm := mask n k hL hn
  have hlt : n % 2 ^ k < 2 ^ k := Nat.mod_lt _ hp
  generalize 2 ^ k = L at *
  generalize n % L = r at *
  go_enter Try.func88, Try.ntmps88
  go_wp2
  go_quiet (fail)
  go_wp2
  go_ret
  exact ⟨rfl, _, rfl⟩
end Go.Proofs.Ytkndpdmopgmlcaa
end
section
/- Maps whose keys are places (three numbers) and whose elements are words. -/
namespace Go.Proofs.Ytkndpdmopgmlcaa
open Go.RowKit

abbrev Pl := Int × Int × Int
def kagg (p : Pl) : Value := .agg #[.int .i64 p.1, .int .i64 p.2.1, .int .i64 p.2.2]
def PlWf (p : Pl) : Prop := (Lit.int .i64 p.1).wf = true ∧ (Lit.int .i64 p.2.1).wf = true ∧ (Lit.int .i64 p.2.2).wf = true
def litP (p : Pl) : Lit := .string (keyBytes [.int .i64 p.1, .int .i64 p.2.1, .int .i64 p.2.2])

theorem laid_m : laidOutB Try.prog = true := by kernel_rfl
set_option maxRecDepth 100000 in
theorem place_law : WideMaps.KeyLaw Try.prog 113 := deep_law_gate laid_m (of_decide_eq_true (by kernel_rfl)) (of_decide_eq_true (by kernel_rfl)) (by kernel_rfl) (by kernel_rfl)
theorem place_keyed : Maps.Keyed Try.prog 113 := Maps.Keyed.of_law place_law

theorem keyOf_place (p : Pl) (h : PlWf p) : keyOf Try.prog 113 (kagg p) = some (litP p) := by
  obtain ⟨h1, h2, h3⟩ := h
  have hk : Try.prog.keyType 113 = true := by kernel_rfl
  have hI : Try.prog.cellsOf 3 = 1 := by kernel_rfl
  have hC : Try.prog.cellsOf 113 = 3 := by kernel_rfl
  obtain ⟨n, hn⟩ : ∃ n, Try.prog.types.size + 1 = n + 1 + 1 := ⟨Try.prog.types.size - 1, by have : 1 ≤ Try.prog.types.size := of_decide_eq_true (by kernel_rfl); omega⟩
  unfold keyOf
  rw [Try.underlying113, hn]
  simp [hk, kagg, litP, Program.keyLits, Try.underlying113, Try.underlying3, hI, hC, h1, h2, h3, Value.cells, Value.formed]
end Go.Proofs.Ytkndpdmopgmlcaa
end
section
/- A map from places to words as a function: what a look-up, a store and a deletion do. Condition: the places' numbers fit int. -/
namespace Go.Proofs.Ytkndpdmopgmlcaa
open Go.RowKit

theorem litP_inj {p q : Pl} (hp : PlWf p) (hq : PlWf q) (h : litP p = litP q) : p = q := by
  have h1 := keyOf_place p hp
  have h2 := keyOf_place q hq
  rw [← h] at h2
  have := place_law.inj h1 h2
  obtain ⟨p1, p2, p3⟩ := p
  obtain ⟨q1, q2, q3⟩ := q
  simpa [kagg] using this

/-- Block b is a map of at most n entries that holds the words f (no entry where f is 0). -/
def MapAt (w : World) (b : Nat) (f : Pl → Int) (n : Nat) : Prop :=
  ∃ D : DataW Unit, w.ownsMap Try.prog 113 (plainElem Try.prog 41) b n D ∧
    (∀ p, PlWf p → D.atKey (litP p) (.lit (.int .u64 0)) = .lit (.int .u64 (f p))) ∧ ∀ p, PlWf p → Maps.has D (litP p) = decide (f p ≠ 0)

theorem MapAt.mod {S : List Nat} {w w' : World} {b n : Nat} {f : Pl → Int} (h : MapAt w b f n) (hm : Mod S w w') (hb : b ∉ S) : MapAt w' b f n := by
  obtain ⟨D, ⟨es, cl, h1, h2⟩, h3⟩ := h
  exact ⟨D, ⟨es, cl, by rw [hm.block b (heap_lt h1) hb]; exact h1, h2⟩, h3⟩

theorem MapAt.new (w : World) : MapAt (w.alloc (.map #[] 0)) w.heap.size (fun _ => 0) 0 :=
  ⟨.map [], World.ownsMap_made w _ _ _, fun p _ => by simp [DataW.atKey], fun p _ => by simp [Maps.has]⟩

set_option maxRecDepth 100000 in
theorem MapAt.lookup {w : World} {b n : Nat} {f : Pl → Int} (h : MapAt w b f n) {p : Pl} (hp : PlWf p) {t : TypeId} (ht : Try.prog.underlying t = some (.map 113 41)) :
    (Instr.lookup t (.map (some b)) (kagg p) false).run Try.prog w = .ok (.int .u64 (f p)) w := by
  obtain ⟨D, ho, ha, _⟩ := h
  obtain ⟨c, h1, h2, _⟩ := ho.lookup_int place_keyed ht Try.underlying41 (by kernel_rfl) (keyOf_place p hp)
  rw [ha p hp] at h2
  injection h2 with h2
  injection h2 with _ h2
  rw [h1, h2]

theorem Mod.of_turned {w w' : World} {b : Nat} (h : w.mapTurned w' b) : Mod [b] w w' := by
  have hg := h.grown
  exact (Mod.refl [b] w).grown hg (fun g hg => by injection hg with hg; subst hg; exact .inl (by simp))

theorem MapAt.store {w : World} {b n : Nat} {f : Pl → Int} (h : MapAt w b f n) (hn : n < maxLen) {p : Pl} (hp : PlWf p) {v : Int} (hv : (Lit.int .u64 v).wf = true) (hv0 : v ≠ 0) {t : TypeId} (ht : Try.prog.underlying t = some (.map 113 41)) :
    ∃ w', (Instr.mapUpdate t (.map (some b)) (kagg p) (.int .u64 v)).run Try.prog w = .ok () w' ∧ MapAt w' b (fun q => if q = p then v else f q) (n + 1) ∧ Mod [b] w w' := by
  obtain ⟨D, ho, ha, hh⟩ := h
  obtain ⟨w', h1, h2, h3⟩ := ho.store place_keyed ht hn (keyOf_place p hp) (plainElem_int Try.underlying41 hv)
  refine ⟨w', h1, ⟨_, h2, fun q hq => ?_, fun q hq => ?_⟩, Mod.of_turned h3⟩
  · by_cases e : q = p
    · subst e
      rw [Maps.atKey_put_same ho.isMap (place_keyed.key (keyOf_place q hq))]
      simp
    · rw [Maps.atKey_put_other (fun h => e (litP_inj hq hp h)), ha q hq]
      simp [e]
  · by_cases e : q = p
    · subst e
      rw [Maps.has_put_same ho.isMap (place_keyed.key (keyOf_place q hq))]
      simp [hv0]
    · rw [Maps.has_put_other (fun h => e (litP_inj hq hp h)), hh q hq]
      simp [e]

theorem MapAt.drop {w : World} {b n : Nat} {f : Pl → Int} (h : MapAt w b f n) {p : Pl} (hp : PlWf p) {t : TypeId} (ht : Try.prog.underlying t = some (.map 113 41)) (ty : TypeId) :
    ∃ w', (Builtin.delete_ #[t, 113] ty #[.map (some b), kagg p]).run Try.prog w = .ok (.tuple #[]) w' ∧ MapAt w' b (fun q => if q = p then 0 else f q) n ∧ Mod [b] w w' := by
  obtain ⟨D, ho, ha, hh⟩ := h
  obtain ⟨w', h1, h2, h3⟩ := ho.drop place_keyed ht (keyOf_place p hp) ty
  refine ⟨w', h1, ⟨_, h2, fun q hq => ?_, fun q hq => ?_⟩, Mod.of_turned h3⟩
  · by_cases e : q = p
    · subst e
      rw [Maps.atKey_del_same]
      simp
    · rw [Maps.atKey_del_other (fun h => e (litP_inj hq hp h)), ha q hq]
      simp [e]
  · by_cases e : q = p
    · subst e
      rw [Maps.has_del_same]
      simp
    · rw [Maps.has_del_other (fun h => e (litP_inj hq hp h)), hh q hq]
      simp [e]
end Go.Proofs.Ytkndpdmopgmlcaa
end
section
/- A map from whole numbers to ints as a function: what a look-up, a store and a deletion do. Condition: keys fit their kind. -/
namespace Go.Proofs.Ytkndpdmopgmlcaa
open Go.RowKit

/-- Block b is a map of at most n entries, whose keys are of type k, of kind q, and whose elements are ints; f tells what is there. -/
def IMapAt (k : TypeId) (q : IntKind) (w : World) (b : Nat) (f : Int → Option Int) (n : Nat) : Prop :=
  ∃ D : DataW Unit, w.ownsMap Try.prog k (plainElem Try.prog 3) b n D ∧
    (∀ p, (Lit.int q p).wf = true → D.atKey (.int q p) (.lit (.int .i64 0)) = .lit (.int .i64 ((f p).getD 0))) ∧ ∀ p, (Lit.int q p).wf = true → Maps.has D (.int q p) = (f p).isSome

section
variable {k : TypeId} {q : IntKind} {w w' : World} {b n : Nat} {f : Int → Option Int}
theorem IMapAt.mod {S : List Nat} (h : IMapAt k q w b f n) (hm : Mod S w w') (hb : b ∉ S) : IMapAt k q w' b f n := by
  obtain ⟨D, ⟨es, cl, h1, h2⟩, h3⟩ := h
  exact ⟨D, ⟨es, cl, by rw [hm.block b (heap_lt h1) hb]; exact h1, h2⟩, h3⟩
theorem IMapAt.lt (h : IMapAt k q w b f n) : b < w.heap.size := by
  obtain ⟨D, ⟨es, cl, h1, _⟩, _⟩ := h
  exact heap_lt h1
theorem IMapAt.modP {T : Nat → Prop} (h : IMapAt k q w b f n) (hm : ModP T w w') (hb : ¬ T b) : IMapAt k q w' b f n := by
  obtain ⟨D, ⟨es, cl, h1, h2⟩, h3⟩ := h
  exact ⟨D, ⟨es, cl, by rw [hm.block b (heap_lt h1) hb]; exact h1, h2⟩, h3⟩
theorem IMapAt.new (k : TypeId) (q : IntKind) (w : World) : IMapAt k q (w.alloc (.map #[] 0)) w.heap.size (fun _ => none) 0 :=
  ⟨.map [], World.ownsMap_made w _ _ _, fun p _ => by simp [DataW.atKey], fun p _ => by simp [Maps.has]⟩

set_option maxRecDepth 100000 in
theorem IMapAt.lookup (h : IMapAt k q w b f n) (hk : Try.prog.underlying k = some (.int q)) {p : Int} (hp : (Lit.int q p).wf = true) {t : TypeId} (ht : Try.prog.underlying t = some (.map k 3)) :
    (Instr.lookup t (.map (some b)) (.int q p) false).run Try.prog w = .ok (.int .i64 ((f p).getD 0)) w := by
  obtain ⟨D, ho, ha, _⟩ := h
  obtain ⟨c, h1, h2, _⟩ := ho.lookup_int (Maps.int_keyed hk) ht Try.underlying3 (by kernel_rfl) (Maps.keyOf_int_mk hk hp)
  rw [ha p hp] at h2
  injection h2 with h2
  injection h2 with _ h2
  rw [h1, h2]
set_option maxRecDepth 100000 in
theorem IMapAt.look_ok (h : IMapAt k q w b f n) (hk : Try.prog.underlying k = some (.int q)) {p : Int} (hp : (Lit.int q p).wf = true) {t : TypeId} (ht : Try.prog.underlying t = some (.map k 3)) :
    (Instr.lookup t (.map (some b)) (.int q p) true).run Try.prog w = .ok (.tuple #[.int .i64 ((f p).getD 0), .bool (f p).isSome]) w := by
  obtain ⟨D, ho, ha, hh⟩ := h
  obtain ⟨v, ps, h1, h2⟩ := ho.look_ok (Maps.int_keyed hk) ht (z := .int .i64 0) (by kernel_rfl) (plainElem_int Try.underlying3 (by decide)) (Maps.keyOf_int_mk hk hp)
  obtain ⟨c, rfl, hc, _⟩ := plainElem_int_inv Try.underlying3 h2
  simp only [Prod.mk.injEq] at hc
  rw [ha p hp] at hc
  have e := hc.1
  injection e with e
  injection e with _ e
  rw [h1, hh p hp, ← e]
theorem lit_inj {q : IntKind} {a b : Int} (h : Lit.int q a = Lit.int q b) : a = b := by injection h
theorem lit_key (q : IntKind) (a : Int) (hk : Try.prog.underlying k = some (.int q)) (h : (Lit.int q a).wf = true) : WideAt.IsKeyLit (.int q a) := (Maps.int_keyed hk).key (Maps.keyOf_int_mk hk h)
theorem IMapAt.store (h : IMapAt k q w b f n) (hn : n < maxLen) (hk : Try.prog.underlying k = some (.int q)) {p : Int} (hp : (Lit.int q p).wf = true) {v : Int} (hv : (Lit.int .i64 v).wf = true) {t : TypeId} (ht : Try.prog.underlying t = some (.map k 3)) :
    ∃ w', (Instr.mapUpdate t (.map (some b)) (.int q p) (.int .i64 v)).run Try.prog w = .ok () w' ∧ IMapAt k q w' b (fun x => if x = p then some v else f x) (n + 1) ∧ Mod [b] w w' := by
  obtain ⟨D, ho, ha, hh⟩ := h
  obtain ⟨w', h1, h2, h3⟩ := ho.store (Maps.int_keyed hk) ht hn (Maps.keyOf_int_mk hk hp) (plainElem_int Try.underlying3 hv)
  refine ⟨w', h1, ⟨_, h2, fun x hx => ?_, fun x hx => ?_⟩, Mod.of_turned h3⟩
  · by_cases e : x = p
    · subst e
      rw [Maps.atKey_put_same ho.isMap (lit_key q x hk hx)]
      simp
    · rw [Maps.atKey_put_other (fun h => e (lit_inj h)), ha x hx]
      simp [e]
  · by_cases e : x = p
    · subst e
      rw [Maps.has_put_same ho.isMap (lit_key q x hk hx)]
      simp
    · rw [Maps.has_put_other (fun h => e (lit_inj h)), hh x hx]
      simp [e]
theorem IMapAt.drop (h : IMapAt k q w b f n) (hk : Try.prog.underlying k = some (.int q)) {p : Int} (hp : (Lit.int q p).wf = true) {t : TypeId} (ht : Try.prog.underlying t = some (.map k 3)) (ty : TypeId) :
    ∃ w', (Builtin.delete_ #[t, k] ty #[.map (some b), .int q p]).run Try.prog w = .ok (.tuple #[]) w' ∧ IMapAt k q w' b (fun x => if x = p then none else f x) n ∧ Mod [b] w w' := by
  obtain ⟨D, ho, ha, hh⟩ := h
  obtain ⟨w', h1, h2, h3⟩ := ho.drop (Maps.int_keyed hk) ht (Maps.keyOf_int_mk hk hp) ty
  refine ⟨w', h1, ⟨_, h2, fun x hx => ?_, fun x hx => ?_⟩, Mod.of_turned h3⟩
  · by_cases e : x = p
    · subst e
      rw [Maps.atKey_del_same]
      simp
    · rw [Maps.atKey_del_other (fun h => e (lit_inj h)), ha x hx]
      simp [e]
  · by_cases e : x = p
    · subst e
      rw [Maps.has_del_same]
      simp
    · rw [Maps.has_del_other (fun h => e (lit_inj h)), hh x hx]
      simp [e]
end
end Go.Proofs.Ytkndpdmopgmlcaa
end
section
/- Calls that are known by themselves and leave what is there alone. No condition. -/
namespace Go.Proofs.Ytkndpdmopgmlcaa

section
variable {R : Type} {A : RepAt R} {P : Program}
theorem Tr.idle {B : Nat} {F : Nat → Prop} {st : St R} {ρ : Names} {own : Nat → List Nat} {w w' : World} (si : Sit A P B F st st ρ own w) (hm : Mod [] w w') : Tr A P B F st st ρ own w ρ own w' := by
  have hmP : ModP (fun _ => False) w w' := (ModP.of_mod hm).mono (fun _ _ h => by cases h)
  have hn : ∀ n, ¬ newN st st n := fun n h => by unfold newN at h; omega
  refine ⟨Names.le.refl _, fun _ _ => rfl, fun _ _ _ => rfl, fun n h b hb => .inr ⟨n, h.resolve_left (hn n), hn n, hb⟩, ?_, hmP.mono (fun _ _ h => h.elim)⟩
  refine (LI.step (X := fun _ => False) si.li hmP (Names.le.refl _) (fun _ h => h.elim) (fun n c h _ hc => ⟨h.resolve_right (hn n), hc, rfl⟩) (fun _ _ _ h => h.elim) (fun _ _ _ h => h.elim) (fun _ _ _ _ _ _ h => h.elim))

/-- A table of calls whose answers are known. -/
abbrev Tab := FuncId → List SV → Option SV
def TabOK (P : Program) (g : Tab) : Prop := ∀ f args s, g f args = some s → ∀ (ρ : Names) vals (w : World), denL ρ args = some vals → Calls P f vals.toArray w fun e w' => ∃ x, e = .returned x ∧ den ρ s = some x ∧ Mod [] w w'
def Lib.with (l : Lib R) (g : Tab) : Lib R := ⟨fun f args => match g f args with
  | some s => some (.ret s)
  | .none => l.prim f args, l.ext, l.tidy⟩
theorem Lib.with_ok {l : Lib R} {g : Tab} (hl : LibOK A P l) (hg : TabOK P g) : LibOK A P (l.with g) := by
  refine ⟨fun f args m hm st s st' h => ?_, hl.ext, hl.tidy⟩
  simp only [Lib.with] at hm
  split at hm
  · next s0 hs =>
    injection hm with hm
    subst hm
    obtain ⟨rfl, rfl⟩ := ret_ok.1 h
    exact ⟨Fn.refl _, fun B F ρ own w vals si hv => (hg _ _ _ hs ρ vals w hv).mono fun e w' ⟨x, h1, h2, h3⟩ => ⟨x, ρ, own, h1, h2, Tr.idle si h3⟩⟩
  · exact hl.prim f args m hm st s st' h
/-- One call's answer. -/
def Tab.one (f : FuncId) (k : List SV → Option SV) : Tab := fun g args => match Nat.beq g f with
  | true => k args
  | false => .none
def Tab.or (a b : Tab) : Tab := fun f args => match a f args with
  | some s => some s
  | .none => b f args
theorem TabOK.or {a b : Tab} (ha : TabOK P a) (hb : TabOK P b) : TabOK P (a.or b) := fun f args s h => by
  simp only [Tab.or] at h
  split at h
  · next s0 hs =>
    injection h with h
    subst h
    exact ha f args _ hs
  · exact hb f args s h
theorem TabOK.one {f : FuncId} {k : List SV → Option SV} (h : ∀ args s, k args = some s → ∀ (ρ : Names) vals (w : World), denL ρ args = some vals → Calls P f vals.toArray w fun e w' => ∃ x, e = .returned x ∧ den ρ s = some x ∧ Mod [] w w') : TabOK P (Tab.one f k) := fun g args s hs => by
  simp only [Tab.one] at hs
  split at hs
  · next hb =>
    obtain rfl := Nat.eq_of_beq_eq_true hb
    exact h args s hs
  · cases hs
/-- A call without arguments that answers true. -/
def kTrue : List SV → Option SV
  | [] => some (.v (.bool true))
  | _ => .none
theorem TabOK.true {f : FuncId} (h : ∀ w, Calls P f #[] w fun e w' => e = .returned (.bool true) ∧ Mod [] w w') : TabOK P (Tab.one f kTrue) := TabOK.one fun args s hs ρ vals w hv => by
  unfold kTrue at hs
  split at hs <;> cases hs
  simp only [denL, Option.some.injEq] at hv
  subst hv
  exact (h w).mono fun e w' ⟨he, hm⟩ => ⟨_, he, rfl, hm⟩
/-- Two ints in, a value out. -/
def kI2 (g : Int → Int → Value) : List SV → Option SV
  | [.v (.int .i64 a), .v (.int .i64 b)] => some (.v (g a b))
  | _ => .none
theorem TabOK.i2 {f : FuncId} {g : Int → Int → Value} (h : ∀ a b w, Calls P f #[.int .i64 a, .int .i64 b] w fun e w' => e = .returned (g a b) ∧ Mod [] w w') : TabOK P (Tab.one f (kI2 g)) := TabOK.one fun args s hs ρ vals w hv => by
  unfold kI2 at hs
  split at hs <;> cases hs
  simp only [denL, den, Option.some.injEq] at hv
  subst hv
  exact (h _ _ w).mono fun e w' ⟨he, hm⟩ => ⟨_, he, rfl, hm⟩
/-- A word in, a value out. -/
def kU1 (g : Int → Value) : List SV → Option SV
  | [.v (.int .u64 a)] => some (.v (g a))
  | _ => .none
theorem TabOK.u1 {f : FuncId} {g : Int → Value} (h : ∀ a w, Calls P f #[.int .u64 a] w fun e w' => e = .returned (g a) ∧ Mod [] w w') : TabOK P (Tab.one f (kU1 g)) := TabOK.one fun args s hs ρ vals w hv => by
  unfold kU1 at hs
  split at hs <;> cases hs
  simp only [denL, den, Option.some.injEq] at hv
  subst hv
  exact (h _ w).mono fun e w' ⟨he, hm⟩ => ⟨_, he, rfl, hm⟩
end
end Go.Proofs.Ytkndpdmopgmlcaa
end
section
/- Rows of elements of open number, in memory: what it means, a store into one, and elements behind all. No condition. -/
namespace Go.Proofs.Ytkndpdmopgmlcaa
open Go.RowKit

/-- An element's cells. -/
def RowOK (k : Nat) (r : List Value) : Prop := r.length = k ∧ ∀ v ∈ r, v.oneCell' = true
/-- A row of len elements of k cells each. -/
def VecAt (f : Nat → List Value) (len : Nat) (t : TypeId) (k : Nat) (e : Spot) (own : List Nat) (w : World) : Prop :=
  e.len = len ∧ e.sz = k ∧ len ≤ e.cap ∧ (∀ i, i < len → RowOK k (f i)) ∧ match e.ad with
  | none => own = [] ∧ e.cap = 0
  | some g => g = ⟨e.b, e.off, none⟩ ∧ own = [e.b] ∧ ∃ cs, w.heap[e.b]? = some (.cells cs t (0, 0)) ∧ e.off + e.cap * k ≤ cs.size ∧ ∀ i, i < len → ∀ j, j < k → cs[e.off + (i * k + j)]? = (f i)[j]?
/-- The same of an argument's, that nobody writes. -/
def TabAt (B : Nat) (f : Nat → List Value) (len : Nat) (k : Nat) (e : Spot) (own : List Nat) (w : World) : Prop :=
  own = [] ∧ e.len = len ∧ e.sz = k ∧ (0 < len → e.ad = some ⟨e.b, e.off, none⟩ ∧ e.b < B ∧ e.b < w.heap.size) ∧ ∀ i, i < len → RowOK k (f i) ∧ ∀ j, j < k → w.cell? ⟨e.b, e.off + i * k + j, none⟩ = (f i)[j]?

section
variable {f : Nat → List Value} {len k B : Nat} {t : TypeId} {e : Spot} {own : List Nat} {w w' : World} {P : Program}
theorem VecAt.modP {T : Nat → Prop} (h : VecAt f len t k e own w) (hm : ModP T w w') (hT : ∀ x ∈ own, ¬ T x) : VecAt f len t k e own w' := by
  obtain ⟨h1, h2, h3, h4, h5⟩ := h
  refine ⟨h1, h2, h3, h4, ?_⟩
  cases ha : e.ad with
  | none => rw [ha] at h5; exact h5
  | some g =>
    rw [ha] at h5
    obtain ⟨g1, g2, cs, g3, g4⟩ := h5
    refine ⟨g1, g2, cs, ?_, g4⟩
    rw [hm.block e.b (heap_lt g3) (hT _ (by rw [g2]; simp))]
    exact g3
theorem TabAt.modP {T : Nat → Prop} (h : TabAt B f len k e own w) (hm : ModP T w w') (hB : ∀ x, T x → B ≤ x) : TabAt B f len k e own w' := by
  obtain ⟨h1, h2, h3, h4, h5⟩ := h
  refine ⟨h1, h2, h3, fun hl => ?_, fun i hi => ?_⟩
  · obtain ⟨g1, g2, g3⟩ := h4 hl
    exact ⟨g1, g2, Nat.lt_of_lt_of_le g3 hm.size⟩
  · obtain ⟨g1, g2, g3⟩ := h4 (by omega)
    obtain ⟨g4, g5⟩ := h5 i hi
    refine ⟨g4, fun j hj => ?_⟩
    rw [← g5 j hj]
    exact World.cell?_of_block (w := w) (hm.block e.b g3 (fun ht => by have := hB _ ht; omega))

theorem VecAt.cell (h : VecAt f len t k e own w) {i j : Nat} (hi : i < len) {v : Value} (hv : (f i)[j]? = some v) : w.cell? ⟨e.b, e.off + i * k + j, none⟩ = some v := by
  obtain ⟨h1, h2, h3, h4, h5⟩ := h
  have hj := lt_of_some hv
  rw [(h4 i hi).1] at hj
  cases ha : e.ad with
  | none => rw [ha] at h5; have := h5.2; omega
  | some g =>
    rw [ha] at h5
    obtain ⟨g1, g2, cs, g3, g4, g5⟩ := h5
    rw [cell_of_row w e.b _ cs t (0, 0) g3, Nat.add_assoc, g5 i hi j hj]
    exact hv
theorem TabAt.cell (h : TabAt B f len k e own w) {i j : Nat} (hi : i < len) {v : Value} (hv : (f i)[j]? = some v) : w.cell? ⟨e.b, e.off + i * k + j, none⟩ = some v := by
  obtain ⟨_, _, _, _, h5⟩ := h
  obtain ⟨g4, g5⟩ := h5 i hi
  have hj := lt_of_some hv
  rw [g5 j (by rw [← g4.1]; omega)]
  exact hv

def spliceV (l : List Value) (off : Nat) (cs : List Value) : List Value := l.take off ++ (cs ++ l.drop (off + cs.length))
theorem spliceV_length {l cs : List Value} {off : Nat} (h : off + cs.length ≤ l.length) : (spliceV l off cs).length = l.length := splice_length h
theorem spliceV_get {l cs : List Value} {off : Nat} (h : off + cs.length ≤ l.length) (i : Nat) : (spliceV l off cs)[i]? = if i < off then l[i]? else if i < off + cs.length then cs[i - off]? else l[i]? := splice_get h i

/-- An element's cells are written. -/
theorem VecAt.write (h : VecAt f len t k e own w) {i j : Nat} (hi : i < len) {us : List Value} (hj : j + us.length ≤ k) (h1 : ∀ v ∈ us, v.oneCell' = true) :
    ∃ w', (storeCells ⟨e.b, e.off + i * k + j, none⟩ us).run P w = .ok () w' ∧ ModP (fun b => b ∈ own) w w' ∧ VecAt (fun m => if m = i then spliceV (f i) j us else f m) len t k e own w' := by
  obtain ⟨g1, g2, g3, g4, h5⟩ := h
  cases ha : e.ad with
  | none => rw [ha] at h5; have := h5.2; omega
  | some g =>
    rw [ha] at h5
    obtain ⟨a1, a2, cs, a3, a4, a5⟩ := h5
    have hik : i * k + k ≤ e.cap * k := by
      have : (i + 1) * k ≤ e.cap * k := Nat.mul_le_mul_right _ (by omega)
      rw [Nat.add_mul, Nat.one_mul] at this
      exact this
    have hst := run_storeCells_at (P := P) e.b (e.off + i * k + j) t us 0 cs w a3 (by simp only [Nat.add_zero]; omega) h1
    simp only [Nat.add_zero] at hst
    refine ⟨_, hst, ⟨rfl, rfl, rfl, by simp, fun q hq hn => ?_⟩, g1, g2, g3, fun m hm => ?_, ?_⟩
    · exact setRow_other w e.b q _ (fun hke => hn (by rw [a2, hke]; simp))
    · by_cases hmi : m = i
      · subst hmi
        simp only [if_true]
        refine ⟨by rw [spliceV_length (by rw [(g4 m hm).1]; omega), (g4 m hm).1], fun v hv => ?_⟩
        simp only [spliceV, List.mem_append] at hv
        rcases hv with hv | hv | hv
        · exact (g4 m hm).2 v (List.mem_of_mem_take hv)
        · exact h1 v hv
        · exact (g4 m hm).2 v (List.mem_of_mem_drop hv)
      · simp only [hmi, if_false]
        exact g4 m hm
    · rw [ha]
      refine ⟨a1, a2, _, setRow_heap w e.b cs _ t (0, 0) a3, ?_, fun m hm c hc => ?_⟩
      · rw [List.size_toArray, List.append_assoc, splice_length (by simp; omega)]
        simpa using a4
      · rw [List.getElem?_toArray, List.append_assoc, splice_get (by simp; omega)]
        by_cases hmi : m = i
        · subst hmi
          simp only [if_true]
          rw [spliceV_get (by rw [(g4 m hm).1]; omega)]
          by_cases q1 : c < j
          · rw [if_pos (by omega), if_pos q1, Array.getElem?_toList]
            exact a5 m hm c hc
          · rw [if_neg (by omega), if_neg q1]
            by_cases q2 : c < j + us.length
            · rw [if_pos (by omega), if_pos q2]
              congr 1
              omega
            · rw [if_neg (by omega), if_neg q2, Array.getElem?_toList]
              exact a5 m hm c hc
        · simp only [hmi, if_false]
          have hsep : m * k + c < i * k ∨ i * k + k ≤ m * k + c := by
            rcases Nat.lt_or_gt_of_ne hmi with hl | hl
            · have : (m + 1) * k ≤ i * k := Nat.mul_le_mul_right _ hl
              rw [Nat.add_mul, Nat.one_mul] at this
              omega
            · have : (i + 1) * k ≤ m * k := Nat.mul_le_mul_right _ hl
              rw [Nat.add_mul, Nat.one_mul] at this
              omega
          rcases hsep with hl | hl
          · rw [if_pos (by omega), Array.getElem?_toList]
            exact a5 m hm c hc
          · rw [if_neg (by omega), if_neg (by omega), Array.getElem?_toList]
            exact a5 m hm c hc

/-- The elements behind len are others. -/
def joinF (f : Nat → List Value) (len : Nat) (g : Nat → List Value) : Nat → List Value := fun i => if i < len then f i else g (i - len)
/-- Cells stand as elements. -/
def rowsF (k : Nat) (l : List Value) : Nat → List Value := fun i => (l.drop (i * k)).take k
theorem rowsF_length {k : Nat} {l : List Value} {m i : Nat} (hl : l.length = m * k) (hi : i < m) : (rowsF k l i).length = k := by
  have : (i + 1) * k ≤ m * k := Nat.mul_le_mul_right _ hi
  rw [Nat.add_mul, Nat.one_mul] at this
  simp [rowsF]
  omega
theorem rowsF_get {k : Nat} {l : List Value} {i j : Nat} (hj : j < k) : (rowsF k l i)[j]? = l[i * k + j]? := by
  simp [rowsF, hj]

/-- There is room behind the first elements: cells are written there. -/
theorem VecAt.extend {len0 : Nat} (h : VecAt f len0 t k e own w) (hlen : len ≤ len0) {m : Nat} (hroom : len + m ≤ e.cap) (hm0 : 0 < m) {g : Nat → List Value} (hg : ∀ i, i < m → RowOK k (g i)) {us : List Value} (hus : us.length = m * k)
    (hug : ∀ i, i < m → ∀ j, j < k → us[i * k + j]? = (g i)[j]?) (h1 : ∀ v ∈ us, v.oneCell' = true) :
    ∃ w', e.ad = some ⟨e.b, e.off, none⟩ ∧ (storeCells ⟨e.b, e.off + len * k, none⟩ us).run P w = .ok () w' ∧ ModP (fun b => b ∈ own) w w' ∧ VecAt (joinF f len g) (len + m) t k ⟨e.b, e.cap, e.off, k, len + m, e.ad⟩ own w' := by
  obtain ⟨g1, g2, g3, g4, h5⟩ := h
  cases ha : e.ad with
  | none => rw [ha] at h5; have := h5.2; omega
  | some ad =>
    rw [ha] at h5
    obtain ⟨a1, a2, cs, a3, a4, a5⟩ := h5
    have hik : (len + m) * k ≤ e.cap * k := Nat.mul_le_mul_right _ hroom
    rw [Nat.add_mul] at hik
    have hst := run_storeCells_at (P := P) e.b (e.off + len * k) t us 0 cs w a3 (by simp only [Nat.add_zero]; omega) h1
    simp only [Nat.add_zero] at hst
    refine ⟨_, by rw [a1], hst, ⟨rfl, rfl, rfl, by simp, fun q hq hn => ?_⟩, rfl, rfl, hroom, fun i hi => ?_, a1, a2, _, setRow_heap w e.b cs _ t (0, 0) a3, ?_, fun i hi c hc => ?_⟩
    · exact setRow_other w e.b q _ (fun hke => hn (by rw [a2, hke]; simp))
    · unfold joinF
      by_cases hil : i < len
      · rw [if_pos hil]; exact g4 i (by omega)
      · rw [if_neg hil]; exact hg _ (by omega)
    · rw [List.size_toArray, List.append_assoc, splice_length (by simp; omega)]
      simpa using a4
    · change (List.toArray _)[e.off + (i * k + c)]? = _
      rw [List.getElem?_toArray, List.append_assoc, splice_get (by simp; omega)]
      unfold joinF
      by_cases hil : i < len
      · have : (i + 1) * k ≤ len * k := Nat.mul_le_mul_right _ hil
        rw [Nat.add_mul, Nat.one_mul] at this
        rw [if_pos (by omega), if_pos hil, Array.getElem?_toList]
        exact a5 i (by omega) c hc
      · have h6 : len * k ≤ i * k := Nat.mul_le_mul_right _ (by omega)
        have h7 : (i - len + 1) * k ≤ m * k := Nat.mul_le_mul_right _ (by omega)
        have h8 : i * k = len * k + (i - len) * k := by
          rw [← Nat.add_mul]
          congr 1
          omega
        rw [Nat.add_mul, Nat.one_mul] at h7
        rw [if_neg (by omega), if_pos (by omega), if_neg hil, ← hug (i - len) (by omega) c hc]
        congr 1
        omega
/-- The elements' cells, one behind the other. -/
def flatF (f : Nat → List Value) : Nat → List Value
  | 0 => []
  | n + 1 => flatF f n ++ f n
theorem flatF_length {f : Nat → List Value} {k : Nat} : ∀ {n : Nat}, (∀ i, i < n → (f i).length = k) → (flatF f n).length = n * k
  | 0, _ => by simp [flatF]
  | n + 1, h => by
    rw [flatF, List.length_append, flatF_length (fun i hi => h i (by omega)), h n (by omega), Nat.add_mul, Nat.one_mul]
theorem flatF_get {f : Nat → List Value} {k : Nat} : ∀ {n : Nat}, (∀ i, i < n → (f i).length = k) → ∀ {i j : Nat}, i < n → j < k → (flatF f n)[i * k + j]? = (f i)[j]?
  | 0, _, i, _, hi, _ => by omega
  | n + 1, h, i, j, hi, hj => by
    have hl := flatF_length (n := n) (fun i hi => h i (by omega))
    rw [flatF, List.getElem?_append]
    by_cases hin : i < n
    · have : (i + 1) * k ≤ n * k := Nat.mul_le_mul_right _ hin
      rw [Nat.add_mul, Nat.one_mul] at this
      rw [if_pos (by omega)]
      exact flatF_get (fun i hi => h i (by omega)) hin hj
    · obtain rfl : i = n := by omega
      rw [if_neg (by omega), hl]
      congr 1
      omega
theorem flatF_mem {f : Nat → List Value} {v : Value} : ∀ {n : Nat}, v ∈ flatF f n → ∃ i, i < n ∧ v ∈ f i
  | 0, h => by cases h
  | n + 1, h => by
    rw [flatF, List.mem_append] at h
    rcases h with h | h
    · obtain ⟨i, hi, hv⟩ := flatF_mem h
      exact ⟨i, by omega, hv⟩
    · exact ⟨n, by omega, h⟩
theorem VecAt.flat (h : VecAt f len t k e own w) {n : Nat} (hn : n ≤ len) {g : Addr} (hg : e.ad = some g) : ∀ j u, (flatF f n)[j]? = some u → w.cell? (g.add j) = some u := by
  intro j u hu
  have hl := flatF_length (n := n) (fun i hi => (h.2.2.2.1 i (by omega)).1)
  have hj := lt_of_some hu
  rw [hl] at hj
  obtain ⟨h1, h2, h3, h4, h5⟩ := h
  rw [hg] at h5
  obtain ⟨g1, g2, cs, g3, g4, g5⟩ := h5
  have hk : 0 < k := by
    rcases Nat.eq_zero_or_pos k with h | h
    · subst h; simp at hj
    · exact h
  have hq : j / k < n := (Nat.div_lt_iff_lt_mul hk).2 hj
  have e1 : j = j / k * k + j % k := by rw [Nat.mul_comm]; exact (Nat.div_add_mod j k).symm
  have hr := Nat.mod_lt j hk
  rw [g1, add_at, cell_of_row w e.b _ cs t (0, 0) g3]
  rw [e1] at hu ⊢
  rw [flatF_get (fun i hi => (h4 i (by omega)).1) hq hr] at hu
  rw [g5 _ (by omega) _ hr]
  exact hu
theorem TabAt.flat (h : TabAt B f len k e own w) {n : Nat} (hn : n ≤ len) {g : Addr} (hg : e.ad = some g) : ∀ j u, (flatF f n)[j]? = some u → w.cell? (g.add j) = some u := by
  intro j u hu
  obtain ⟨h1, h2, h3, h4, h5⟩ := h
  have hl := flatF_length (n := n) (fun i hi => (h5 i (by omega)).1.1)
  have hj := lt_of_some hu
  rw [hl] at hj
  have hk : 0 < k := by
    rcases Nat.eq_zero_or_pos k with h | h
    · subst h; simp at hj
    · exact h
  have hq : j / k < n := (Nat.div_lt_iff_lt_mul hk).2 hj
  have e1 : j = j / k * k + j % k := by rw [Nat.mul_comm]; exact (Nat.div_add_mod j k).symm
  have hr := Nat.mod_lt j hk
  have h6 := (h4 (Nat.lt_of_lt_of_le (Nat.zero_lt_of_lt hq) hn)).1
  rw [hg] at h6
  injection h6 with h6
  subst h6
  rw [add_at]
  rw [e1] at hu ⊢
  rw [flatF_get (fun i hi => (h5 i (by omega)).1.1) hq hr] at hu
  rw [← Nat.add_assoc, (h5 _ (by omega)).2 _ hr]
  exact hu
theorem rowsOK {k m : Nat} {l : List Value} (hl : l.length = m * k) (h1 : ∀ v ∈ l, v.oneCell' = true) {i : Nat} (hi : i < m) : RowOK k (rowsF k l i) :=
  ⟨rowsF_length hl hi, fun v hv => h1 v (List.mem_of_mem_drop (List.mem_of_mem_take hv))⟩
end
end Go.Proofs.Ytkndpdmopgmlcaa
end
section
/- Maps from places to words, for the executor. No condition. -/
namespace Go.Proofs.Ytkndpdmopgmlcaa
open Go.RowKit

abbrev tMap : TypeId := 207
/-- A kind of cells; a column of a row of elements. -/
inductive CK where
  | int (kd : IntKind)
  | bool
  | str
  | raw
inductive Col where
  | int (kd : IntKind) (W : Nat → Int)
  | bool (W : Nat → Bool)
  | str (W : Nat → ByteArray)
  | raw (W : Nat → Value)
def Col.at : Col → Nat → Value
  | .int kd W, i => .int kd (W i)
  | .bool W, i => .bool (W i)
  | .str W, i => .string (W i)
  | .raw W, i => W i
def colsF : List Col → Nat → List Value
  | [], _ => []
  | c :: r, i => c.at i :: colsF r i
/-- What stands within an object of a pool. -/
inductive RepI where
  | vec (cs : List Col) (len : Nat) (t : TypeId)
  | tab (cs : List Col) (len : Nat)
  | queue (xs : List Ent) (n : Nat)
  | junk
/-- An object: its pieces by names, its root by 0. -/
abbrev Obj := List (Nat × Chunk RepI)
inductive Rep where
  | pmap (l : List (Pl × Int)) (g : Pl → Int) (n : Nat)
  | vec (cs : List Col) (len : Nat) (t : TypeId)
  | tab (cs : List Col) (len : Nat)
  | ucells (l : List (Pl × Int)) (g : Pl → Int) (n : Nat)
  | queue (xs : List Ent) (n : Nat)
  | imap (t : TypeId) (l : List (Int × Option Int)) (g : Int → Option Int) (n : Nat)
  | pool (f : Addr → Option (Obj → Prop))
  | tabs (cs : Nat → List Col) (ln : Nat → Nat) (len : Nat)
  | junk
/-- What a row of stores comes to, the last one first, over what was there. -/
def getL : List (Pl × Int) → (Pl → Int) → Pl → Int
  | [], g, q => g q
  | (p, v) :: r, g, q => if q = p then v else getL r g q
def zeroG : Pl → Int := fun _ => 0
/-- The same of a map from whole numbers. -/
def getI : List (Int × Option Int) → (Int → Option Int) → Int → Option Int
  | [], g, q => g q
  | (p, v) :: r, g, q => if q = p then v else getI r g q
def noneG : Int → Option Int := fun _ => none
/-- The key's type and kind of a map from whole numbers to ints. -/
noncomputable def imKind (t : TypeId) : Option (TypeId × IntKind) := match Try.prog.underlying t with
  | some (.map k e) => match Try.prog.underlying k, Nat.beq e 3 with
    | some (.int q), true => some (k, q)
    | _, _ => none
  | _ => none
theorem imKind_ok {t k : TypeId} {q : IntKind} (h : imKind t = some (k, q)) : Try.prog.underlying t = some (.map k 3) ∧ Try.prog.underlying k = some (.int q) := by
  unfold imKind at h
  split at h
  · next k' e hu =>
    split at h
    · next q' hk he =>
      have he := Nat.eq_of_beq_eq_true he
      subst he
      cases h
      exact ⟨hu, hk⟩
    · cases h
  · cases h
abbrev tRC : TypeId := 40
abbrev tOne : TypeId := 211
def oneCols (A0 A1 A2 W : Nat → Int) : List Col := [.int .i64 A0, .int .i64 A1, .int .i64 A2, .int .u64 W]
/-- Rows of places and words, each place once, are the words f. -/
structure URel (A0 A1 A2 W : Nat → Int) (len : Nat) (f : Pl → Int) : Prop where
  wf : ∀ k, k < len → PlWf (A0 k, A1 k, A2 k)
  val : ∀ k, k < len → f (A0 k, A1 k, A2 k) = W k
  off : ∀ p, (∀ k, k < len → (A0 k, A1 k, A2 k) ≠ p) → f p = 0
  one : ∀ j k, j < len → k < len → (A0 j, A1 j, A2 j) = (A0 k, A1 k, A2 k) → j = k
/-- The document's Cells: words in a row, of at most n places. -/
def UAt (f : Pl → Int) (n : Nat) (e : Spot) (own : List Nat) (w : World) : Prop :=
  ∃ (A0 A1 A2 W : Nat → Int) (len : Nat) (sp : Spot) (own1 : List Nat), own = e.b :: own1 ∧ e.b ∉ own1 ∧
    (∃ cs : Array Value, w.heap[e.b]? = some (.cells cs tRC (0, 0)) ∧ cs[e.off]? = some (.slice sp.ad len sp.cap) ∧ 1 ≤ e.cap ∧ e.off + e.cap ≤ cs.size) ∧
    VecAt (colsF (oneCols A0 A1 A2 W)) len tOne 4 sp own1 w ∧ URel A0 A1 A2 W len f ∧ len ≤ n
theorem UAt.modP {T : Nat → Prop} {w w' : World} {f : Pl → Int} {n : Nat} {e : Spot} {own : List Nat} (h : UAt f n e own w) (hm : ModP T w w') (hT : ∀ x ∈ own, ¬ T x) : UAt f n e own w' := by
  obtain ⟨A0, A1, A2, W, len, sp, own1, h1, h2, ⟨cs, h3, h4⟩, h5, h6⟩ := h
  refine ⟨A0, A1, A2, W, len, sp, own1, h1, h2, ⟨cs, ?_, h4⟩, h5.modP hm fun x hx => hT x (by rw [h1]; simp [hx]), h6⟩
  rw [hm.block e.b (heap_lt h3) (hT _ (by rw [h1]; simp))]
  exact h3
/-- The program's queue: its entries; of so many pushes at most. -/
def QueAt (xs : List Ent) (n : Nat) (e : Spot) (own : List Nat) (w : World) : Prop := ∃ rb L f t, e.off = 0 ∧ own = [e.b, rb] ∧ e.b ≠ rb ∧ QAt w e.b rb L f t xs ∧ t ≤ n
theorem QueAt.modP {T : Nat → Prop} {w w' : World} {xs : List Ent} {n : Nat} {e : Spot} {own : List Nat} (h : QueAt xs n e own w) (hm : ModP T w w') (hT : ∀ x ∈ own, ¬ T x) : QueAt xs n e own w' := by
  obtain ⟨rb, L, f, t, h1, rfl, hne, ⟨hb, ⟨R, r1, r2, r3⟩, hp⟩, h3⟩ := h
  refine ⟨rb, L, f, t, h1, rfl, hne, ⟨?_, ⟨R, r1, ?_, r3⟩, ‹_›, ‹_›, ‹_›, ‹_›, ‹_›, ‹_›⟩, h3⟩
  · exact (hm.block e.b (heap_lt hb) (hT _ (by simp))).trans hb
  · exact (hm.block rb (heap_lt r2) (hT _ (by simp))).trans r2
/-- A table of tables of an argument's. -/
def TabsAt (B : Nat) (cs : Nat → List Col) (ln : Nat → Nat) (len : Nat) (e : Spot) (own : List Nat) (w : World) : Prop :=
  own = [] ∧ e.len = len ∧ e.sz = 1 ∧ (0 < len → e.ad = some ⟨e.b, e.off, none⟩ ∧ e.b < B ∧ e.b < w.heap.size) ∧
    ∃ sp : Nat → Spot, ∀ i, i < len → w.cell? ⟨e.b, e.off + i, none⟩ = some (.slice (sp i).ad (ln i) (sp i).cap) ∧ TabAt B (colsF (cs i)) (ln i) (cs i).length (sp i) [] w
theorem TabsAt.modP {T : Nat → Prop} {w w' : World} {B : Nat} {cs : Nat → List Col} {ln : Nat → Nat} {len : Nat} {e : Spot} {own : List Nat} (h : TabsAt B cs ln len e own w) (hm : ModP T w w') (hB : ∀ x, T x → B ≤ x) : TabsAt B cs ln len e own w' := by
  obtain ⟨h1, h2, h3, h4, sp, h5⟩ := h
  refine ⟨h1, h2, h3, fun hl => ⟨(h4 hl).1, (h4 hl).2.1, Nat.lt_of_lt_of_le (h4 hl).2.2 hm.size⟩, sp, fun i hi => ?_⟩
  obtain ⟨g1, g2⟩ := h5 i hi
  obtain ⟨_, g3, g4⟩ := h4 (by omega)
  refine ⟨?_, g2.modP hm hB⟩
  rw [← g1]
  exact World.cell?_of_block (w := w) (hm.block e.b g4 (fun ht => by have := hB _ ht; omega))
def RepI.At (B : Nat) : RepI → Spot → List Nat → World → Prop
  | .vec cs len t, e, own, w => VecAt (colsF cs) len t cs.length e own w
  | .tab cs len, e, own, w => TabAt B (colsF cs) len cs.length e own w
  | .queue xs n, e, own, w => QueAt xs n e own w
  | .junk, _, own, _ => own = []
def repAtI : RepAt RepI where
  At := RepI.At
  stable {B r e own T w w'} h hm hT hB := by
    cases r with
    | vec cs len t => exact VecAt.modP h hm hT
    | tab cs len => exact TabAt.modP h hm hB
    | queue xs n => exact QueAt.modP h hm hT
    | junk => exact h
/-- The object that stands at an address. -/
structure ObjAt (B : Nat) (a : Addr) (hp : Obj) (ρ : Names) (ow : Nat → List Nat) (w : World) : Prop where
  li : LI repAtI Try.prog B ρ ow hp (fun _ => True) w
  root : ∃ e, ρ 0 = some e ∧ a = ⟨e.b, e.off, none⟩
  top : ∀ n, hp.length ≤ n → ρ n = none
/-- Objects by their addresses; no two share a block. -/
def PoolAt (f : Addr → Option Obj) (B : Nat) (own : List Nat) (w : World) : Prop := ∃ (ρ : Addr → Names) (ow : Addr → Nat → List Nat),
  (∀ a hp, f a = some hp → ObjAt B a hp (ρ a) (ow a) w) ∧
  (∀ a a' hp hp' n m c d, f a = some hp → f a' = some hp' → a ≠ a' → hget n hp = some c → hget m hp' = some d → ∀ b ∈ ow a n, b ∉ ow a' m) ∧
  ∀ b, b ∈ own ↔ ∃ a hp n c, f a = some hp ∧ hget n hp = some c ∧ b ∈ ow a n
theorem LI.keep {R : Type} {A : RepAt R} {P : Program} {B : Nat} {ρ : Names} {own : Nat → List Nat} {hp : List (Nat × Chunk R)} {F T : Nat → Prop} {w w' : World} (h : LI A P B ρ own hp F w) (hm : ModP T w w') (hT : ∀ n c, F n → hget n hp = some c → ∀ b ∈ own n, ¬ T b) (hB : ∀ x, T x → B ≤ x) : LI A P B ρ own hp F w' :=
  ⟨fun n c hn hc => by
    obtain ⟨e, h1, h2⟩ := h.at_ n c hn hc
    exact ⟨e, h1, h2.stable (Names.le.refl _) hm (hT n c hn hc) hB⟩, h.dis, fun n c hn hc b hb => ⟨(h.low n c hn hc b hb).1, Nat.lt_of_lt_of_le (h.low n c hn hc b hb).2 hm.size⟩⟩
theorem PoolAt.modP {T : Nat → Prop} {w w' : World} {f : Addr → Option Obj} {B : Nat} {own : List Nat} (h : PoolAt f B own w) (hm : ModP T w w') (hT : ∀ x ∈ own, ¬ T x) (hB : ∀ x, T x → B ≤ x) : PoolAt f B own w' := by
  obtain ⟨ρ, ow, h1, h2, h3⟩ := h
  exact ⟨ρ, ow, fun a hp ha => ⟨(h1 a hp ha).li.keep hm (fun n c _ hc b hb => hT b ((h3 b).2 ⟨a, hp, n, c, ha, hc, hb⟩)) hB, (h1 a hp ha).root, (h1 a hp ha).top⟩, h2, h3⟩
/-- Objects of which so much is said, by their addresses. -/
def PoolS (f : Addr → Option (Obj → Prop)) (B : Nat) (own : List Nat) (w : World) : Prop := ∃ g : Addr → Option Obj, PoolAt g B own w ∧ (∀ a, (g a).isSome = (f a).isSome) ∧ ∀ a o S, g a = some o → f a = some S → S o
def Rep.At (B : Nat) : Rep → Spot → List Nat → World → Prop
  | .pmap l g n, e, own, w => own = [e.b] ∧ MapAt w e.b (getL l g) n
  | .vec cs len t, e, own, w => VecAt (colsF cs) len t cs.length e own w
  | .tab cs len, e, own, w => TabAt B (colsF cs) len cs.length e own w
  | .ucells l g n, e, own, w => UAt (getL l g) n e own w
  | .queue xs n, e, own, w => QueAt xs n e own w
  | .imap t l g n, e, own, w => own = [e.b] ∧ ∃ k q, imKind t = some (k, q) ∧ IMapAt k q w e.b (getI l g) n
  | .pool f, _, own, w => PoolS f B own w
  | .tabs cs ln len, e, own, w => TabsAt B cs ln len e own w
  | .junk, _, own, _ => own = []

theorem MapAt.lt {w : World} {b n : Nat} {f : Pl → Int} (h : MapAt w b f n) : b < w.heap.size := by
  obtain ⟨D, ⟨es, cl, h1, _⟩, _⟩ := h
  exact heap_lt h1
theorem MapAt.modP {T : Nat → Prop} {w w' : World} {b n : Nat} {f : Pl → Int} (h : MapAt w b f n) (hm : ModP T w w') (hb : ¬ T b) : MapAt w' b f n := by
  obtain ⟨D, ⟨es, cl, h1, h2⟩, h3⟩ := h
  exact ⟨D, ⟨es, cl, by rw [hm.block b (heap_lt h1) hb]; exact h1, h2⟩, h3⟩
def repAt : RepAt Rep where
  At := Rep.At
  stable {B r e own T w w'} h hm hT hB := by
    cases r with
    | pmap l g n => exact ⟨h.1, h.2.modP hm (hT e.b (by rw [h.1]; simp))⟩
    | vec cs len t => exact VecAt.modP h hm hT
    | tab cs len => exact TabAt.modP h hm hB
    | ucells l g n => exact UAt.modP h hm hT
    | queue xs n => exact QueAt.modP h hm hT
    | imap t l g n =>
      obtain ⟨h1, k, q, h2, h3⟩ := h
      exact ⟨h1, k, q, h2, h3.modP hm (hT e.b (by rw [h1]; simp))⟩
    | pool f =>
      obtain ⟨g, h1, h2, h3⟩ := h
      exact ⟨g, PoolAt.modP h1 hm hT hB, h2, h3⟩
    | tabs cs ln len => exact TabsAt.modP h hm hB
    | junk => exact h

/-- A map's numbers reckoned out. -/
def fPl {β : Type} (p : Pl) (k : Pl → β) : β := fInt p.1 fun a => fInt p.2.1 fun b => fInt p.2.2 fun c => k (a, b, c)
def fPls {β : Type} : List (Pl × Int) → (List (Pl × Int) → β) → β
  | [], k => k []
  | (p, v) :: l, k => fPl p fun p => fInt v fun v => fPls l fun l => k ((p, v) :: l)
def fRep {β : Type} (r : Rep) (k : Rep → β) : β := match r with
  | .pmap f g n => fPls f fun f => fNat n fun n => k (.pmap f g n)
  | r => k r
theorem fRep_eq {β : Type} (r : Rep) (k : Rep → β) : fRep r k = k r := by
  have hp : ∀ (l : List (Pl × Int)) (k : List (Pl × Int) → β), fPls l k = k l := fun l => by
    induction l with
    | nil => exact fun _ => rfl
    | cons p l ih =>
      intro k
      obtain ⟨p, v⟩ := p
      simp [fPls, fPl, fInt_eq, ih]
  cases r with
  | pmap f g n => simp [fRep, hp, fNat_eq]
  | _ => rfl
def plOf : SV → Option Pl
  | .agg [.v (.int .i64 a), .v (.int .i64 b), .v (.int .i64 c)] => some (a, b, c)
  | .v (.agg ⟨[.int .i64 a, .int .i64 b, .int .i64 c]⟩) => some (a, b, c)
  | _ => none
def plWfB (p : Pl) : Bool := (Lit.int .i64 p.1).wf && (Lit.int .i64 p.2.1).wf && (Lit.int .i64 p.2.2).wf
theorem plWfB_iff {p : Pl} : plWfB p = true ↔ PlWf p := by
  simp [plWfB, PlWf, and_assoc]
theorem plOf_den {ρ : Names} {s : SV} {p : Pl} {x : Value} (h : plOf s = some p) (hx : den ρ s = some x) : x = kagg p := by
  unfold plOf at h
  split at h
  · injection h with h
    subst h
    simp only [den, denL, Option.map_some, Option.some.injEq] at hx
    exact hx.symm
  · injection h with h
    subst h
    simp only [den, Option.some.injEq] at hx
    exact hx.symm
  · cases h

def mapGet (m k : Option SV) : M Rep SV := (M.opt 300 m).bind fun
  | .mp n => (getC n).bind fun
    | .rep (.pmap f g _) => (M.opt 301 (k.bind plOf)).bind fun p => (need 302 (plWfB p)).bind fun _ => .ret (.v (.int .u64 (getL f g p)))
    | _ => .fail 303
  | _ => .fail 304
def wordOf : SV → Option Int
  | .v (.int .u64 x) => some x
  | _ => none
def mapPut (m k v : Option SV) : M Rep SV := (M.opt 310 m).bind fun
  | .mp n => (getC n).bind fun
    | .rep (.pmap f g c) => (M.opt 311 (k.bind plOf)).bind fun p => (M.opt 312 (v.bind wordOf)).bind fun x => (need 313 (plWfB p && (Lit.int .u64 x).wf && x != 0 && decide (c < maxLen))).bind fun _ =>
      (setC n (.rep (.pmap ((p, x) :: f) g (c + 1)))).bind fun _ => .ret undefX
    | _ => .fail 314
  | _ => .fail 315
def mapDel (m k : Option SV) : M Rep SV := (M.opt 320 m).bind fun
  | .mp n => (getC n).bind fun
    | .rep (.pmap f g c) => (M.opt 321 (k.bind plOf)).bind fun p => (need 322 (plWfB p)).bind fun _ =>
      (setC n (.rep (.pmap ((p, 0) :: f) g c))).bind fun _ => .ret (.tup [])
    | _ => .fail 323
  | _ => .fail 324
def extM (ev : Operand → Option SV) (o : Oper) : Option (M Rep SV) := match o.op with
  | .makeMap t none => match Nat.beq t tMap with
    | true => some ((newC (.rep (.pmap [] zeroG 0))).bind fun n => .ret (.mp n))
    | false => none
  | .lookup t m k false => match Nat.beq t tMap with
    | true => some (mapGet (ev m) (ev k))
    | false => none
  | .mapUpdate t m k v => match Nat.beq t tMap with
    | true => some (mapPut (ev m) (ev k) (ev v))
    | false => none
  | .call ⟨.builtin .delete, ⟨[m, k]⟩, ⟨[t, kt]⟩⟩ => match Nat.beq t tMap && Nat.beq kt 113 with
    | true => some (mapDel (ev m) (ev k))
    | false => none
  | _ => none

section
variable {st st' : St Rep} {o : Oper} {ev : Operand → Option SV} {s : SV}
theorem CAt_rep {ρ : Names} {B : Nat} {e : Spot} {own : List Nat} {r : Rep} {w : World} : CAt repAt Try.prog ρ B e own (.rep r) w ↔ r.At B e own w := Iff.rfl
set_option maxRecDepth 100000 in
theorem extM_ok : ∀ ev o m, extM ev o = some m → ∀ st s st', m st = .ok s st' → OpS repAt Try.prog o ev st st' s := by
  intro ev o m hm st s st' h
  obtain ⟨dst, op, ty, pos, aft, gu⟩ := o
  unfold extM at hm
  split at hm
  · -- makeMap
    next t he =>
    simp only at he
    subst he
    split at hm <;> cases hm
    next ht =>
    have ht := Nat.eq_of_beq_eq_true ht
    subst ht
    obtain ⟨n, st1, h1, h2⟩ := bind_ok.1 h
    obtain ⟨rfl, rfl⟩ := newC_ok.1 h1
    obtain ⟨rfl, rfl⟩ := ret_ok.1 h2
    refine ⟨Fn.new _ _, fun B F ρ own w a si hev K Q hk => ?_⟩
    have ht := Tr.new (w' := w.alloc (.map #[] 0)) si ⟨w.heap.size, 0, 0, 0, 0, none⟩ [w.heap.size] (alloc_mod w _) (show Rep.At B (.pmap [] zeroG 0) ⟨w.heap.size, 0, 0, 0, 0, none⟩ [w.heap.size] _ from ⟨rfl, MapAt.new w⟩) (fun b hb => by
      rw [List.mem_singleton] at hb
      subst hb
      simp)
    refine wp_val (x := .map (some w.heap.size)) ?_ (hk _ _ _ _ ht (by simp [den, Names.put_same]))
    simp only [execOp, Option.map_none, Sem.run_bind, run_makeMap]
    rfl
  · -- lookup
    next t m k he =>
    simp only at he
    subst he
    split at hm <;> cases hm
    next ht =>
    have ht := Nat.eq_of_beq_eq_true ht
    subst ht
    obtain ⟨sm, _, h1, h2⟩ := bind_ok.1 h
    obtain ⟨hsm, rfl⟩ := opt_ok.1 h1
    split at h2
    · next n =>
      obtain ⟨c, st1, h3, h4⟩ := bind_ok.1 h2
      obtain ⟨hc, rfl⟩ := getC_ok.1 h3
      split at h4
      · next f g cnt =>
        obtain ⟨p, _, h5, h6⟩ := bind_ok.1 h4
        obtain ⟨hp, rfl⟩ := opt_ok.1 h5
        simp only [Option.bind_eq_some_iff] at hp
        obtain ⟨sk, hsk, hp⟩ := hp
        obtain ⟨_, st2, h7, h8⟩ := bind_ok.1 h6
        obtain ⟨q2, hq⟩ := need_ok h7
        obtain ⟨rfl, rfl⟩ := ret_ok.1 h8
        have q := Quiet.get.trans q2
        refine ⟨q.fn, fun B F ρ own w a si hev K Q hk => ?_⟩
        obtain ⟨e, he, hat⟩ := si.li.at_ n _ (si.log n (q2.fr n (mem_ins.2 (.inl rfl)))) hc
        have e1 := hev _ _ hsm
        simp only [den, he, Option.map_some, Option.some.injEq] at e1
        have e2 := plOf_den hp (hev _ _ hsk)
        refine wp_val (vrun ?_) (hk _ ρ own w (si.quiet q) rfl)
        rw [← e1, e2]
        exact (CAt_rep.1 hat).2.lookup (plWfB_iff.1 (hq si.ask)) Try.underlying207
      · exact (fail_ok.1 h4).elim
    · exact (fail_ok.1 h2).elim
  · -- update
    next t m k v he =>
    simp only at he
    subst he
    split at hm <;> cases hm
    next ht =>
    have ht := Nat.eq_of_beq_eq_true ht
    subst ht
    obtain ⟨sm, _, h1, h2⟩ := bind_ok.1 h
    obtain ⟨hsm, rfl⟩ := opt_ok.1 h1
    split at h2
    · next n =>
      obtain ⟨c, st1, h3, h4⟩ := bind_ok.1 h2
      obtain ⟨hc, rfl⟩ := getC_ok.1 h3
      split at h4
      · next f g cnt =>
        obtain ⟨p, _, h5, h6⟩ := bind_ok.1 h4
        obtain ⟨hp, rfl⟩ := opt_ok.1 h5
        simp only [Option.bind_eq_some_iff] at hp
        obtain ⟨sk, hsk, hp⟩ := hp
        obtain ⟨x, _, h7, h8⟩ := bind_ok.1 h6
        obtain ⟨hx, rfl⟩ := opt_ok.1 h7
        simp only [Option.bind_eq_some_iff] at hx
        obtain ⟨sv, hsv, hx⟩ := hx
        obtain ⟨_, st2, h9, h10⟩ := bind_ok.1 h8
        obtain ⟨q2, hq⟩ := need_ok h9
        obtain ⟨_, st3, h11, h12⟩ := bind_ok.1 h10
        obtain ⟨_, rfl⟩ := setC_ok.1 h11
        obtain ⟨rfl, rfl⟩ := ret_ok.1 h12
        have q := Quiet.get.trans q2
        have hc2 : hget n st2.hp = some (.rep (.pmap f g cnt)) := by rw [q.hp]; exact hc
        refine ⟨q.fn.trans (Fn.set st2 n (.rep (.pmap ((p, x) :: f) g (cnt + 1))) _ hc2), fun B F ρ own w a si hev K Q hk => ?_⟩
        have s1 := si.of_quiet q
        have hn := hq si.ask
        simp only [Bool.and_eq_true, bne_iff_ne, ne_eq, decide_eq_true_eq] at hn
        obtain ⟨⟨⟨n1, n2⟩, n3⟩, n4⟩ := hn
        obtain ⟨e, he, hat⟩ := s1.li.at_ n _ (s1.log n (mem_ins.2 (.inl rfl))) hc2
        have e1 := hev _ _ hsm
        simp only [den, he, Option.map_some, Option.some.injEq] at e1
        have e2 := plOf_den hp (hev _ _ hsk)
        have e3 : a.eval v = .int .u64 x := by
          have := hev _ _ hsv
          unfold wordOf at hx
          split at hx <;> cases hx
          simp only [den, Option.some.injEq] at this
          exact this.symm
        obtain ⟨ho, hmap⟩ := CAt_rep.1 hat
        obtain ⟨w', hr, hm', hmod⟩ := hmap.store n4 (plWfB_iff.1 n1) n2 n3 Try.underlying207
        have ht := Tr.set s1 hc2 he (own n) ((ModP.of_mod hmod).mono (fun b _ hb => by rw [ho]; exact hb)) (show Rep.At B (.pmap ((p, x) :: f) g (cnt + 1)) e (own n) w' from ⟨ho, hm'⟩) (fun b hb => .inl hb)
        refine wp_unit ?_ (hk undef _ _ _ (Tr.of_quiet q ht) rfl)
        simp only [execOp, ← e1, e2, e3, Sem.run_bind, hr, Result.andThen_ok]
        rfl
      · exact (fail_ok.1 h4).elim
    · exact (fail_ok.1 h2).elim
  · -- delete
    next m k t kt he =>
    simp only at he
    subst he
    split at hm <;> cases hm
    next ht =>
    simp only [Bool.and_eq_true] at ht
    have ht1 := Nat.eq_of_beq_eq_true ht.1
    have ht2 := Nat.eq_of_beq_eq_true ht.2
    subst ht1
    subst ht2
    obtain ⟨sm, _, h1, h2⟩ := bind_ok.1 h
    obtain ⟨hsm, rfl⟩ := opt_ok.1 h1
    split at h2
    · next n =>
      obtain ⟨c, st1, h3, h4⟩ := bind_ok.1 h2
      obtain ⟨hc, rfl⟩ := getC_ok.1 h3
      split at h4
      · next f g cnt =>
        obtain ⟨p, _, h5, h6⟩ := bind_ok.1 h4
        obtain ⟨hp, rfl⟩ := opt_ok.1 h5
        simp only [Option.bind_eq_some_iff] at hp
        obtain ⟨sk, hsk, hp⟩ := hp
        obtain ⟨_, st2, h9, h10⟩ := bind_ok.1 h6
        obtain ⟨q2, hq⟩ := need_ok h9
        obtain ⟨_, st3, h11, h12⟩ := bind_ok.1 h10
        obtain ⟨_, rfl⟩ := setC_ok.1 h11
        obtain ⟨rfl, rfl⟩ := ret_ok.1 h12
        have q := Quiet.get.trans q2
        have hc2 : hget n st2.hp = some (.rep (.pmap f g cnt)) := by rw [q.hp]; exact hc
        refine ⟨q.fn.trans (Fn.set st2 n (.rep (.pmap ((p, 0) :: f) g cnt)) _ hc2), fun B F ρ own w a si hev K Q hk => ?_⟩
        have s1 := si.of_quiet q
        obtain ⟨e, he, hat⟩ := s1.li.at_ n _ (s1.log n (mem_ins.2 (.inl rfl))) hc2
        have e1 := hev _ _ hsm
        simp only [den, he, Option.map_some, Option.some.injEq] at e1
        have e2 := plOf_den hp (hev _ _ hsk)
        obtain ⟨ho, hmap⟩ := CAt_rep.1 hat
        obtain ⟨w', hr, hm', hmod⟩ := hmap.drop (plWfB_iff.1 (hq si.ask)) Try.underlying207 ty
        have ht := Tr.set s1 hc2 he (own n) ((ModP.of_mod hmod).mono (fun b _ hb => by rw [ho]; exact hb)) (show Rep.At B (.pmap ((p, 0) :: f) g cnt) e (own n) w' from ⟨ho, hm'⟩) (fun b hb => .inl hb)
        refine wp_val (x := .tuple #[]) ?_ (hk _ _ _ _ (Tr.of_quiet q ht) rfl)
        have hargs : (#[m, k].map a.eval : Array Value) = #[.map (some e.b), kagg p] := by
          have : (#[m, k] : Array Operand).map a.eval = #[a.eval m, a.eval k] := by simp
          rw [this, ← e1, e2]
        simp only [execOp, resolve, Sem.run_bind, Sem.run_pure, Result.andThen_ok, invoke, builtin]
        rw [show (⟨[m, k]⟩ : Array Operand).map a.eval = #[.map (some e.b), kagg p] from hargs, hr]
        rfl
      · exact (fail_ok.1 h4).elim
    · exact (fail_ok.1 h2).elim
  · cases hm
end
end Go.Proofs.Ytkndpdmopgmlcaa
end
section
/- What the executor does at rows of open number: an element's place, load, store, append; and that the machine does it. No condition. -/
namespace Go.Proofs.Ytkndpdmopgmlcaa
open Go.RowKit

def plainL : List SV → Option (List Value)
  | [] => some []
  | .v x :: r => (plainL r).map fun l => x :: l
  | _ :: _ => none
theorem plainL_den {ρ : Names} : ∀ {l : List SV} {vs us : List Value}, plainL l = some vs → denL ρ l = some us → us = vs
  | [], vs, us, h, hd => by
    simp only [plainL, denL, Option.some.injEq] at h hd
    rw [← h, ← hd]
  | .v x :: r, vs, us, h, hd => by
    simp only [plainL, Option.map_eq_some_iff] at h
    obtain ⟨l, h1, rfl⟩ := h
    obtain ⟨a, b, h2, h3, rfl⟩ := denL_cons.1 hd
    simp only [den, Option.some.injEq] at h2
    rw [plainL_den h1 h3, h2]
  | .ptr .. :: _, _, _, h, _ | .sl .. :: _, _, _, h, _ | .slE .. :: _, _, _, h, _ | .tptr .. :: _, _, _, h, _ | .tsl .. :: _, _, _, h, _ | .mp .. :: _, _, _, h, _ | .ifc .. :: _, _, _, h, _ | .agg .. :: _, _, _, h, _ | .tup .. :: _, _, _, h, _ | .clo .. :: _, _, _, h, _ => by cases h

def updI {α : Type} (W : Nat → α) (i : Nat) (v : α) : Nat → α := fun m => if m = i then v else W m
def joinI {α : Type} (W : Nat → α) (len : Nat) (V : Nat → α) : Nat → α := fun i => if i < len then W i else V (i - len)
def eqKd (a b : IntKind) : Bool := match decide (a = b) with
  | true => true
  | false => false
/-- Cells of element i are others. -/
def updC : Col → Nat → Value → Option Col
  | .int kd W, i, .int kd' z => match eqKd kd kd' with
    | true => some (.int kd (updI W i z))
    | false => none
  | .bool W, i, .bool b => some (.bool (updI W i b))
  | .str W, i, .string b => some (.str (updI W i b))
  | .raw W, i, x => some (.raw (updI W i x))
  | _, _, _ => none
def updCs : List Col → Nat → Nat → List Value → Option (List Col)
  | cs, _, 0, [] => some cs
  | c :: cs, i, 0, v :: vs => match updC c i v, updCs cs i 0 vs with
    | some c, some cs => some (c :: cs)
    | _, _ => none
  | c :: cs, i, j + 1, vs => match updCs cs i j vs with
    | some cs => some (c :: cs)
    | none => none
  | [], _, _, _ => none
def joinC : Col → Nat → Col → Option Col
  | .int kd W, n, .int kd' V => match eqKd kd kd' with
    | true => some (.int kd (joinI W n V))
    | false => none
  | .bool W, n, .bool V => some (.bool (joinI W n V))
  | .str W, n, .str V => some (.str (joinI W n V))
  | .raw W, n, V => some (.raw (joinI W n V.at))
  | _, _, _ => none
def joinCs : List Col → Nat → List Col → Option (List Col)
  | [], _, [] => some []
  | c :: cs, n, d :: ds => match joinC c n d, joinCs cs n ds with
    | some c, some cs => some (c :: cs)
    | _, _ => none
  | _, _, _ => none
def constC : Value → Col
  | .int kd z => .int kd fun _ => z
  | .bool b => .bool fun _ => b
  | .string b => .str fun _ => b
  | x => .raw fun _ => x

section
variable (P : Program)
def vecIdx (n len : Nat) (elem : TypeId) (i : Int) : M Rep SV := (getC n).bind fun
  | .rep (.vec cs len' _) => (want 330 (match szT P elem with | some k' => Nat.beq k' cs.length | none => false)).bind fun _ => (need 331 (decide (0 ≤ i ∧ i < (len : Int) ∧ len ≤ len'))).bind fun _ => .ret (.tptr n i.toNat 0)
  | .rep (.tab cs len') => (want 332 (match szT P elem with | some k' => Nat.beq k' cs.length | none => false)).bind fun _ => (need 333 (decide (0 ≤ i ∧ i < (len : Int) ∧ len ≤ len'))).bind fun _ => .ret (.tptr n i.toNat 0)
  | _ => .fail 334
def arrIdx (t : TypeId) (n : Nat) (kd : IntKind) (i : Int) (alen : Nat) (elem : TypeId) : M Rep SV := (getC n).bind fun
  | .rep (.vec cs len' _) => (want 335 (match szT P elem with | some k' => Nat.beq k' cs.length | none => false)).bind fun _ => (need 336 (decide (0 ≤ i ∧ i < (alen : Int) ∧ alen ≤ len'))).bind fun _ => .ret (.tptr n i.toNat 0)
  | _ => idxX P t (.ptr n 0) (.v (.int kd i))
def vecLoad (t : TypeId) (n i j : Nat) : M Rep SV := (getC n).bind fun
  | .rep (.vec cs _ _) => .opt 337 (partX P t ((colsF cs i).map .v) j)
  | .rep (.tab cs _) => .opt 338 (partX P t ((colsF cs i).map .v) j)
  | _ => .fail 339
def vecStore (t : TypeId) (n i j : Nat) (v : SV) : M Rep SV := (M.opt 340 (plainL v.cells)).bind fun vs => (M.opt 341 (szT P t)).bind fun kk => (getC n).bind fun
  | .rep (.vec cs len t') => (want 342 (Nat.beq vs.length kk && vs.all Value.oneCell')).bind fun _ => (M.opt 344 (updCs cs i j vs)).bind fun cs' =>
    (setC n (.rep (.vec cs' len t'))).bind fun _ => .ret undefX
  | _ => .fail 343
/-- The elements to be appended. -/
def vecSrc (k : Nat) : SV → M Rep (Nat × List Col)
  | .tsl n m => (getC n).bind fun
    | .rep (.vec cs len' _) => (want 344 (Nat.beq k cs.length)).bind fun _ => (need 345 (decide (m ≤ len'))).bind fun _ => .ret (m, cs)
    | .rep (.tab cs len') => (want 346 (Nat.beq k cs.length)).bind fun _ => (need 347 (decide (m ≤ len'))).bind fun _ => .ret (m, cs)
    | _ => .fail 348
  | x => (srcX k x).bind fun r => (M.opt 349 (plainL r.2)).bind fun vs => (want 361 (Nat.beq r.1 1 && vs.all Value.oneCell')).bind fun _ => .ret (1, vs.map constC)
def vecAppend (t tx : TypeId) (s x : SV) : M Rep SV := match P.underlying t with
  | some (.slice elem) => (M.opt 350 (P.info? elem)).bind fun i => (want 351 (!Nat.beq i.size 0 && !Nat.beq i.bytes 0 && zeroFits i && isSliceT P (some tx))).bind fun _ => (vecSrc i.size x).bind fun r => match s with
    | .tsl n len => (getC n).bind fun
      | .rep (.vec cs len' t') => (want 352 (Nat.beq t' elem && Nat.beq cs.length i.size)).bind fun _ => (need 353 (decide (len ≤ len' ∧ (len + r.1) * i.bytes ≤ 140737488351232))).bind fun _ => (M.opt 362 (joinCs cs len r.2)).bind fun cs' => (delC n).bind fun _ =>
        (newC (.rep (.vec cs' (len + r.1) elem))).bind fun n' => .ret (.tsl n' (len + r.1))
      | _ => .fail 354
    | .sl n 0 0 0 => (getC n).bind fun
      | .row [] t' => (want 355 (Nat.beq t' elem && Nat.beq r.2.length i.size)).bind fun _ => (need 356 (decide (r.1 * i.bytes ≤ 140737488351232))).bind fun _ => (delC n).bind fun _ =>
        (newC (.rep (.vec r.2 r.1 elem))).bind fun n' => .ret (.tsl n' r.1)
      | _ => .fail 357
    | .v (.slice none 0 0) => (want 363 (Nat.beq r.2.length i.size)).bind fun _ => (need 358 (decide (r.1 * i.bytes ≤ 140737488351232))).bind fun _ => (newC (.rep (.vec r.2 r.1 elem))).bind fun n' => .ret (.tsl n' r.1)
    | _ => .fail 359
  | _ => .fail 360
/-- A number among the first k, found out one by one. -/
def pickN : Nat → Nat → Int → M Rep Nat
  | 0, _, _ => .fail 370
  | k + 1, c, z => (askB (decide (z = (c : Int)))).bind fun
    | true => .ret c
    | false => pickN k (c + 1) z
def concIdx (n off len k : Nat) (z : Int) : M Rep SV := (pickN len 0 z).bind fun c => .ret (.ptr n (off + c * k))
def isPtrT (t : TypeId) : Bool := match P.underlying t with
  | some (.pointer _) => true
  | _ => false
def isTsl : SV → Bool
  | .tsl _ _ => true
  | _ => false
def extV (ev : Operand → Option SV) (o : Oper) : Option (M Rep SV) := match o.op with
  | .indexAddr t x i => match ev x, ev i with
    | some (.tsl n len), some (.v (.int _ z)) => match P.underlying t with
      | some (.slice elem) => some (vecIdx P n len elem z)
      | _ => none
    | some (.ptr n 0), some (.v (.int kd z)) => match P.underlying t with
      | some (.array alen elem) => some (arrIdx P t n kd z alen elem)
      | _ => none
    | some (.sl n off _ len), some (.v (.int _ z)) => match P.underlying t with
      | some (.slice elem) => match isPtrT P elem, szT P elem with
        | true, some k => some (concIdx n off len k z)
        | _, _ => none
      | _ => none
    | _, _ => none
  | .load t x => match ev x with
    | some (.tptr n i j) => some (vecLoad P t n i j)
    | _ => none
  | .store t x y => match ev x with
    | some (.tptr n i j) => match ev y with
      | some v => some (vecStore P t n i j v)
      | none => none
    | _ => none
  | .call ⟨.builtin .append, ⟨[s, x]⟩, ⟨[t, tx]⟩⟩ => match ev s, ev x with
    | some a, some b => match isTsl a || isTsl b with
      | true => some (vecAppend P t tx a b)
      | false => none
    | _, _ => none
  | _ => none
end

section
variable {P : Program} {st st1 st' : St Rep} {B : Nat} {F : Nat → Prop} {ρ ρ' : Names} {own own' : Nat → List Nat} {w w' : World}
theorem szB {elem : TypeId} {k : Nat} (h : (match szT P elem with | some k' => Nat.beq k' k | none => false) = true) : szT P elem = some k := by
  split at h
  · next k' hk => rw [hk, Nat.eq_of_beq_eq_true h]
  · cases h
theorem vkey {n len len' k : Nat} {t elem : TypeId} {z : Int} {e : Spot} (he : ρ n = some e) (hl : e.len = len') (hk : e.sz = k) (had : 0 < len' → e.ad = some ⟨e.b, e.off, none⟩) (hsz : szT P elem = some k) (hz : 0 ≤ z ∧ z < (len : Int) ∧ len ≤ len') (hu : P.underlying t = some (.slice elem)) (a : Value) (kd : IntKind) (ha : den ρ (.tsl n len) = some a) :
    ∃ y, (Instr.indexAt t a (.int kd z)).run P w = .ok y w ∧ den ρ (.tptr n z.toNat 0) = some y := by
  obtain ⟨g1, g2, g3⟩ := hz
  simp only [den, he, Option.map_some, Option.some.injEq] at ha
  subst ha
  refine ⟨.pointer (some ⟨e.b, e.off + z.toNat * e.sz, none⟩), ?_, ?_⟩
  · simp only [Instr.indexAt, asIntOf, Sem.run_bind, Sem.run_pure, Result.andThen_ok, run_underlying hu w, g1, g2, and_self, if_true, szT_run hsz w, had (by omega), add_at, hk]
  · have : z.toNat < e.len := by omega
    simp [den, he, this]
theorem vecIdx_s {n len : Nat} {t elem : TypeId} {z : Int} {s : SV} (hu : P.underlying t = some (.slice elem)) (h : vecIdx P n len elem z st = .ok s st') : Quiet st st' ∧ ∀ B F ρ own w a kd, Sit repAt P B F st st' ρ own w → den ρ (.tsl n len) = some a →
    ∃ y, (Instr.indexAt t a (.int kd z)).run P w = .ok y w ∧ den ρ s = some y := by
  unfold vecIdx at h
  obtain ⟨c, st1, h1, h2⟩ := bind_ok.1 h
  obtain ⟨hc, rfl⟩ := getC_ok.1 h1
  split at h2
  · next cs len' t' =>
    obtain ⟨_, _, h3, h4⟩ := bind_ok.1 h2
    obtain ⟨hsz, rfl⟩ := want_ok.1 h3
    obtain ⟨_, st2, h5, h6⟩ := bind_ok.1 h4
    obtain ⟨q, hq⟩ := need_ok h5
    obtain ⟨rfl, rfl⟩ := ret_ok.1 h6
    refine ⟨Quiet.get.trans q, fun B F ρ own w a kd s ha => ?_⟩
    obtain ⟨e, he, hat⟩ := s.li.at_ n _ (s.log n (q.fr n (mem_ins.2 (.inl rfl)))) hc
    have hv : VecAt (colsF cs) len' t' cs.length e (own n) w := hat
    refine vkey he hv.1 hv.2.1 (fun hl => ?_) (szB hsz) (of_decide_eq_true (hq s.ask)) hu a kd ha
    obtain ⟨_, _, h3, _, h5⟩ := hv
    cases hx : e.ad with
    | none => rw [hx] at h5; have := h5.2; omega
    | some g => rw [hx] at h5; rw [h5.1]
  · next cs len' =>
    obtain ⟨_, _, h3, h4⟩ := bind_ok.1 h2
    obtain ⟨hsz, rfl⟩ := want_ok.1 h3
    obtain ⟨_, st2, h5, h6⟩ := bind_ok.1 h4
    obtain ⟨q, hq⟩ := need_ok h5
    obtain ⟨rfl, rfl⟩ := ret_ok.1 h6
    refine ⟨Quiet.get.trans q, fun B F ρ own w a kd s ha => ?_⟩
    obtain ⟨e, he, hat⟩ := s.li.at_ n _ (s.log n (q.fr n (mem_ins.2 (.inl rfl)))) hc
    have hv : TabAt B (colsF cs) len' cs.length e (own n) w := hat
    exact vkey he hv.2.1 hv.2.2.1 (fun hl => (hv.2.2.2.1 hl).1) (szB hsz) (of_decide_eq_true (hq s.ask)) hu a kd ha
  · exact (fail_ok.1 h2).elim
theorem arrIdx_s {n alen : Nat} {t elem : TypeId} {kd : IntKind} {z : Int} {s : SV} (hu : P.underlying t = some (.array alen elem)) (h : arrIdx P t n kd z alen elem st = .ok s st') : Quiet st st' ∧ ∀ B F ρ own w a, Sit repAt P B F st st' ρ own w → den ρ (.ptr n 0) = some a →
    ∃ y, (Instr.indexAt t a (.int kd z)).run P w = .ok y w ∧ den ρ s = some y := by
  unfold arrIdx at h
  obtain ⟨c, st1, h1, h2⟩ := bind_ok.1 h
  obtain ⟨hc, rfl⟩ := getC_ok.1 h1
  split at h2
  · next cs len' t' =>
    obtain ⟨_, _, h3, h4⟩ := bind_ok.1 h2
    obtain ⟨hsz, rfl⟩ := want_ok.1 h3
    obtain ⟨_, st2, h5, h6⟩ := bind_ok.1 h4
    obtain ⟨q, hq⟩ := need_ok h5
    obtain ⟨rfl, rfl⟩ := ret_ok.1 h6
    refine ⟨Quiet.get.trans q, fun B F ρ own w a s ha => ?_⟩
    obtain ⟨e, he, hat⟩ := s.li.at_ n _ (s.log n (q.fr n (mem_ins.2 (.inl rfl)))) hc
    have hv : VecAt (colsF cs) len' t' cs.length e (own n) w := hat
    obtain ⟨g1, g2, g3⟩ := of_decide_eq_true (hq s.ask)
    simp only [den, he, Option.map_some, Option.some.injEq, Nat.add_zero] at ha
    subst ha
    refine ⟨.pointer (some ⟨e.b, e.off + z.toNat * e.sz, none⟩), ?_, ?_⟩
    · simp only [Instr.indexAt, asIntOf, Sem.run_bind, Sem.run_pure, Result.andThen_ok, run_underlying hu w, Instr.sureAddr, g1, g2, and_self, if_true, szT_run (szB hsz) w, add_at, hv.2.1]
    · have : z.toNat < e.len := by rw [hv.1]; omega
      simp [den, he, this]
  · obtain ⟨q, hs⟩ := idx_s (A := repAt) h2
    exact ⟨Quiet.get.trans q, fun B F ρ own w a s ha => hs B F ρ own w a (.int kd z) (s.of_quiet Quiet.get) ha rfl⟩
theorem pickN_s : ∀ {k c : Nat} {z : Int} {r : Nat} {st st' : St Rep}, pickN k c z st = .ok r st' → Quiet st st' ∧ ((∀ p ∈ st'.ask, p.1 = p.2) → z = (r : Int) ∧ c ≤ r ∧ r < c + k)
  | 0, _, _, _, _, _, h => (fail_ok.1 h).elim
  | k + 1, c, z, r, st, st', h => by
    obtain ⟨b, st1, h1, h2⟩ := bind_ok.1 h
    obtain ⟨q, hq⟩ := ask_ok h1
    cases b with
    | true =>
      obtain ⟨rfl, rfl⟩ := ret_ok.1 h2
      exact ⟨q, fun ha => ⟨of_decide_eq_true (hq ha), Nat.le_refl _, by omega⟩⟩
    | false =>
      obtain ⟨q2, h3⟩ := pickN_s h2
      exact ⟨q.trans q2, fun ha => by obtain ⟨g1, g2, g3⟩ := h3 ha; exact ⟨g1, by omega, by omega⟩⟩
theorem concIdx_s {n off idx len k : Nat} {t elem : TypeId} {kd : IntKind} {z : Int} {s : SV} (hu : P.underlying t = some (.slice elem)) (hk : szT P elem = some k) (h : concIdx n off len k z st = .ok s st') : Quiet st st' ∧ ∀ B F ρ own w a, Sit repAt P B F st st' ρ own w → den ρ (.sl n off idx len) = some a →
    ∃ y, (Instr.indexAt t a (.int kd z)).run P w = .ok y w ∧ den ρ s = some y := by
  unfold concIdx at h
  obtain ⟨c, st1, h1, h2⟩ := bind_ok.1 h
  obtain ⟨q, hq⟩ := pickN_s h1
  obtain ⟨rfl, rfl⟩ := ret_ok.1 h2
  refine ⟨q, fun B F ρ own w a s ha => ?_⟩
  obtain ⟨rfl, _, g3⟩ := hq s.ask
  simp only [den, Option.map_eq_some_iff] at ha
  obtain ⟨e, he, rfl⟩ := ha
  refine ⟨.pointer (some ⟨e.b, e.off + off + c * k, none⟩), ?_, by simp [den, he, Nat.add_assoc]⟩
  have g4 : (0 : Int) ≤ (c : Int) ∧ (c : Int) < (len : Int) := by omega
  simp only [Instr.indexAt, asIntOf, Sem.run_bind, Sem.run_pure, Result.andThen_ok, run_underlying hu w, g4, and_self, if_true, szT_run hk w, add_at, Int.toNat_natCast]
theorem vecLoad_s {t : TypeId} {n i j : Nat} {s : SV} (h : vecLoad P t n i j st = .ok s st') : Quiet st st' ∧ ∀ B F ρ own w v, Sit repAt P B F st st' ρ own w → den ρ (.tptr n i j) = some v → ∃ y, den ρ s = some y ∧ (Instr.loadAt t v).run P w = .ok y w := by
  unfold vecLoad at h
  obtain ⟨c, st1, h1, h2⟩ := bind_ok.1 h
  obtain ⟨hc, rfl⟩ := getC_ok.1 h1
  split at h2
  · next cs len t' =>
    obtain ⟨hp, rfl⟩ := opt_ok.1 h2
    refine ⟨Quiet.get, fun B F ρ own w v s hx => ?_⟩
    obtain ⟨e, he, hat⟩ := s.li.at_ n _ (s.log n (mem_ins.2 (.inl rfl))) hc
    have hv : VecAt (colsF cs) len t' cs.length e (own n) w := hat
    simp only [den, he] at hx
    split at hx
    · next hlt =>
      simp only [Option.some.injEq] at hx
      subst hx
      refine load_part hp (denL_vs _) fun m u hu => ?_
      rw [Nat.add_assoc, hv.2.1]
      exact hv.cell (by rw [← hv.1]; exact hlt) hu
    · cases hx
  · next cs len =>
    obtain ⟨hp, rfl⟩ := opt_ok.1 h2
    refine ⟨Quiet.get, fun B F ρ own w v s hx => ?_⟩
    obtain ⟨e, he, hat⟩ := s.li.at_ n _ (s.log n (mem_ins.2 (.inl rfl))) hc
    have hv : TabAt B (colsF cs) len cs.length e (own n) w := hat
    simp only [den, he] at hx
    split at hx
    · next hlt =>
      simp only [Option.some.injEq] at hx
      subst hx
      refine load_part hp (denL_vs _) fun m u hu => ?_
      rw [Nat.add_assoc, hv.2.2.1]
      exact hv.cell (by rw [← hv.2.1]; exact hlt) hu
    · cases hx
  · exact (fail_ok.1 h2).elim
theorem eqKd_ok {a b : IntKind} (h : eqKd a b = true) : a = b := by
  unfold eqKd at h
  split at h
  · next hb => exact of_decide_eq_true hb
  · cases h
theorem updC_ok {c c' : Col} {i : Nat} {v : Value} (h : updC c i v = some c') (m : Nat) : c'.at m = if m = i then v else c.at m := by
  unfold updC at h
  split at h
  · split at h <;> cases h
    next hk =>
    obtain rfl := eqKd_ok hk
    simp only [Col.at, updI]
    split <;> rfl
  · injection h with h
    subst h
    simp only [Col.at, updI]
    split <;> rfl
  · injection h with h
    subst h
    simp only [Col.at, updI]
    split <;> rfl
  · injection h with h
    subst h
    simp only [Col.at, updI]
  · cases h
theorem colsF_length : ∀ {cs : List Col} {i : Nat}, (colsF cs i).length = cs.length
  | [], _ => rfl
  | _ :: r, i => by simp [colsF, colsF_length (cs := r)]
theorem updCs_ok : ∀ {cs cs' : List Col} {i j : Nat} {vs : List Value}, updCs cs i j vs = some cs' → j + vs.length ≤ cs.length ∧ cs'.length = cs.length ∧ ∀ m, colsF cs' m = if m = i then spliceV (colsF cs i) j vs else colsF cs m
  | cs, cs', i, 0, [], h => by
    have e : updCs cs i 0 [] = some cs := by cases cs <;> rfl
    rw [e] at h
    injection h with h
    subst h
    refine ⟨by simp, rfl, fun m => ?_⟩
    split
    · next e => subst e; simp [spliceV]
    · rfl
  | c :: cs, cs', i, 0, v :: vs, h => by
    simp only [updCs] at h
    split at h <;> cases h
    next c1 r h1 h2 =>
    obtain ⟨g1, g2, g3⟩ := updCs_ok h2
    refine ⟨by simp only [List.length_cons]; omega, by simp [g2], fun m => ?_⟩
    simp only [colsF, updC_ok h1 m, g3 m]
    split
    · simp [spliceV]
    · rfl
  | c :: cs, cs', i, j + 1, vs, h => by
    have e : updCs (c :: cs) i (j + 1) vs = (match updCs cs i j vs with | some cs => some (c :: cs) | none => none) := by cases vs <;> rfl
    rw [e] at h
    split at h <;> cases h
    next r h2 =>
    obtain ⟨g1, g2, g3⟩ := updCs_ok h2
    refine ⟨by simp only [List.length_cons]; omega, by simp [g2], fun m => ?_⟩
    simp only [colsF, g3 m]
    split
    · next e => subst e; simp [spliceV, Nat.add_right_comm]
    · rfl
  | [], cs', i, 0, v :: vs, h => by cases h
  | [], cs', i, j + 1, vs, h => by cases vs <;> cases h
theorem vecStore_s {t : TypeId} {n i j : Nat} {v s : SV} (h : vecStore P t n i j v st = .ok s st') : s = undefX ∧ Fn st st' ∧ ∀ B F ρ own w a b, Sit repAt P B F st st' ρ own w → den ρ (.tptr n i j) = some a → den ρ v = some b →
    ∃ ρ' own' w', (Instr.storeAt t a b).run P w = .ok () w' ∧ Tr repAt P B F st st' ρ own w ρ' own' w' := by
  unfold vecStore at h
  obtain ⟨vs, _, h1, h2⟩ := bind_ok.1 h
  obtain ⟨hvs, rfl⟩ := opt_ok.1 h1
  obtain ⟨kk, _, h3, h4⟩ := bind_ok.1 h2
  obtain ⟨hk, rfl⟩ := opt_ok.1 h3
  obtain ⟨c, st1, h5, h6⟩ := bind_ok.1 h4
  obtain ⟨hc, rfl⟩ := getC_ok.1 h5
  split at h6
  · next cs len t' =>
    obtain ⟨_, _, h7, h8⟩ := bind_ok.1 h6
    obtain ⟨hw, rfl⟩ := want_ok.1 h7
    obtain ⟨cs', _, h11, h8⟩ := bind_ok.1 h8
    obtain ⟨hcs, rfl⟩ := opt_ok.1 h11
    obtain ⟨_, st2, h9, h10⟩ := bind_ok.1 h8
    obtain ⟨_, rfl⟩ := setC_ok.1 h9
    obtain ⟨rfl, rfl⟩ := ret_ok.1 h10
    simp only [Bool.and_eq_true] at hw
    obtain ⟨hw1, hw3⟩ := hw
    have hw1 := Nat.eq_of_beq_eq_true hw1
    have hw3 := List.all_eq_true.1 hw3
    obtain ⟨hu1, hu2, hu3⟩ := updCs_ok hcs
    have q : Quiet st { st with fr := insN n st.fr } := Quiet.get
    refine ⟨rfl, q.fn.trans (Fn.set _ n _ _ hc), fun B F ρ own w a b s ha hb => ?_⟩
    have s1 := s.of_quiet q
    have hcv := den_cells hb
    have hpl := plainL_den hvs hcv
    obtain ⟨e, he, hat⟩ := s1.li.at_ n _ (s1.log n (mem_ins.2 (.inl rfl))) hc
    have hv : VecAt (colsF cs) len t' cs.length e (own n) w := hat
    simp only [den, he] at ha
    split at ha
    · next hlt =>
      simp only [Option.some.injEq] at ha
      subst ha
      obtain ⟨w', hr, hm, hat'⟩ := hv.write (P := P) (i := i) (j := j) (us := vs) (by rw [← hv.1]; exact hlt) hu1 hw3
      have hat2 : VecAt (colsF cs') len t' cs'.length e (own n) w' := by
        rw [hu2, show colsF cs' = fun m => if m = i then spliceV (colsF cs i) j vs else colsF cs m from funext hu3]
        exact hat'
      refine ⟨_, _, w', ?_, Tr.of_quiet q (Tr.set s1 hc he (own n) hm (show CAt repAt P ρ B e (own n) (.rep (.vec cs' len t')) w' from hat2) (fun b hb => .inl hb))⟩
      simp only [Instr.storeAt, Instr.sureAddr, storeVar, Sem.run_bind, Sem.run_pure, Result.andThen_ok, szT_run hk w, Sem.run_ite]
      rw [if_neg (by rw [← Array.length_toList, hpl]; omega), hpl, hv.2.1]
      exact hr
    · cases ha
  · exact (fail_ok.1 h6).elim
end
end Go.Proofs.Ytkndpdmopgmlcaa
end
