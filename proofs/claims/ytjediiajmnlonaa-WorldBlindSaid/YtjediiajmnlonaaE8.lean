/- What the executor says of operations that read and write, the machine does. No condition. -/
import Derived.Test.YtjediiajmnlonaaE7
namespace Go.Proofs.Ytjediiajmnlonaa

section
variable {R : Type} {A : RepAt R} {P : Program} {B : Nat} {F : Nat → Prop} {st st1 st' : St R} {ρ ρ' : Names} {own own' : Nat → List Nat} {w w' : World}

theorem newN_quiet (q : Quiet st st1) {n : Nat} : newN st1 st' n ↔ newN st st' n := by unfold newN; rw [q.nx]
theorem Sit.of_quiet (s : Sit A P B F st st' ρ own w) (q : Quiet st st1) : Sit A P B F st1 st' ρ own w :=
  ⟨s.log, q.fn.wf s.wf, fun n hn => s.fresh n ((newN_quiet q).1 hn), by rw [q.hp]; exact s.li, s.ask, s.base⟩
theorem Tr.of_quiet (q : Quiet st st1) (t : Tr A P B F st1 st' ρ own w ρ' own' w') : Tr A P B F st st' ρ own w ρ' own' w' where
  le := t.le
  out n hn := t.out n (fun h => hn ((newN_quiet q).1 h))
  same n hn hw := t.same n (fun h => hn ((newN_quiet q).1 h)) hw
  pool _ hn _ hb := (t.pool _ (hn.imp_left (newN_quiet q).2) _ hb).imp_right fun ⟨m, h1, h2, h3⟩ => ⟨m, h1, fun h => h2 ((newN_quiet q).2 h), h3⟩
  li := t.li.sub fun _ hn => hn.imp_right (newN_quiet q).2
  mod := t.mod.mono fun _ _ ⟨m, h1, h2, h3⟩ => ⟨m, h1, fun h => h2 ((newN_quiet q).2 h), h3⟩

theorem oneC_of {s : SV} {x : Value} (h : s.oneC = true) (hx : den ρ s = some x) : x.oneCell' = true := by
  cases s with
  | v y =>
    simp only [den, Option.some.injEq] at hx
    subst hx
    cases y <;> first | rfl | cases h
  | agg l => cases h
  | tup l => cases h
  | tptr n i j =>
    simp only [den] at hx
    split at hx <;> try cases hx
    split at hx <;> cases hx
    rfl
  | clo fn f c =>
    simp only [den] at hx
    split at hx <;> cases hx
    rfl
  | _ =>
    simp only [den, Option.map_eq_some_iff] at hx
    obtain ⟨e, _, rfl⟩ := hx
    rfl
theorem oneC_all : ∀ {l : List SV} {vs : List Value}, l.all SV.oneC = true → denL ρ l = some vs → ∀ v ∈ vs, v.oneCell' = true
  | [], vs, _, h => by
    simp only [denL, Option.some.injEq] at h
    subst h
    exact fun v hv => by cases hv
  | s :: l, vs, h1, h => by
    obtain ⟨a, b, h2, h3, rfl⟩ := denL_cons.1 h
    simp only [List.all_cons, Bool.and_eq_true] at h1
    intro v hv
    rcases List.mem_cons.1 hv with rfl | hv
    · exact oneC_of h1.1 h2
    · exact oneC_all h1.2 h3 v hv

theorem load_part {t : TypeId} {l : List SV} {off b o : Nat} {s : SV} {vs : List Value} (h : partX P t l off = some s) (hl : denL ρ l = some vs) (hc : ∀ j v, vs[off + j]? = some v → w.cell? ⟨b, o + j, none⟩ = some v) :
    ∃ y, den ρ s = some y ∧ (Instr.loadAt t (.pointer (some ⟨b, o, none⟩))).run P w = .ok y w := by
  unfold partX at h
  cases ha : aggT P t with
  | none => rw [ha] at h; cases h
  | some g =>
    rw [ha] at h
    cases g with
    | true =>
      simp only [Option.bind_eq_some_iff, Option.map_eq_some_iff] at h
      obtain ⟨k, hk, r, hr, rfl⟩ := h
      obtain ⟨rfl, hr⟩ := cut_ok hr
      have hd := denL_take (denL_drop hl off) k
      have hlen := denL_length hd
      refine ⟨_, den_agg.2 ⟨_, hd, rfl⟩, ?_⟩
      have hlc := run_loadCells_list (P := P) w ⟨b, o, none⟩ ((vs.drop off).take k) (fun j v hv => by
        rw [add_at]
        refine hc j v ?_
        rw [List.getElem?_take] at hv
        split at hv
        · rw [List.getElem?_drop] at hv; exact hv
        · cases hv)
      rw [hlen, hr] at hlc
      simp only [Instr.loadAt, Instr.sureAddr, loadVar, Sem.run_bind, Sem.run_pure, Result.andThen_ok, aggT_run ha w, if_true, szT_run hk w, hlc]
    | false =>
      simp only at h
      obtain ⟨x, hx, hg⟩ := denL_get hl h
      refine ⟨x, hx, ?_⟩
      have := hc 0 x hg
      rw [Nat.add_zero] at this
      simp only [Instr.loadAt, Instr.sureAddr, loadVar, Sem.run_bind, Sem.run_pure, Result.andThen_ok, aggT_run ha w, Bool.false_eq_true, if_false, run_load, this]

theorem loadX_run {t : TypeId} {x s : SV} {v : Value} (h : loadX P t x st = .ok s st') (hli : LI A P B ρ own st.hp F w) (hF : ∀ n ∈ st'.fr, F n) (hx : den ρ x = some v) :
    ∃ y, den ρ s = some y ∧ (Instr.loadAt t v).run P w = .ok y w := by
  unfold loadX at h
  split at h
  · next n off =>
    obtain ⟨c, st1, h1, h2⟩ := bind_ok.1 h
    obtain ⟨hc, rfl⟩ := getC_ok.1 h1
    split at h2
    · next l t0 =>
      obtain ⟨hp, rfl⟩ := opt_ok.1 h2
      obtain ⟨e, he, _, cs, vs, h3, h4, h5, _⟩ := hli.at_ n _ (hF n (mem_ins.2 (.inl rfl))) hc
      simp only [den, he, Option.map_some, Option.some.injEq] at hx
      subst hx
      exact load_part hp h4 fun j u hu => by
        rw [cell_of_row w e.b _ cs t0 (0, 0) h3, Nat.add_assoc, h5 _ (lt_of_some hu)]
        exact hu
    · exact (fail_ok.1 h2).elim
  · next n i j =>
    obtain ⟨c, st1, h1, h2⟩ := bind_ok.1 h
    obtain ⟨hc, rfl⟩ := getC_ok.1 h1
    split at h2
    · next f len t0 =>
      obtain ⟨hp, rfl⟩ := opt_ok.1 h2
      obtain ⟨e, he, _, h3, h4, h5, h6⟩ := hli.at_ n _ (hF n (mem_ins.2 (.inl rfl))) hc
      simp only [den, he] at hx
      split at hx
      · next hlt =>
        simp only [Option.some.injEq] at hx
        subst hx
        obtain ⟨vs, h7, h8, h9⟩ := h6 i (by omega)
        exact load_part hp h7 fun m u hu => by
          have hm := lt_of_some hu
          rw [Nat.add_assoc, h9 (j + m) (by omega)]
          exact hu
      · cases hx
    · exact (fail_ok.1 h2).elim
  · exact (fail_ok.1 h).elim
theorem loadX_quiet {t : TypeId} {x s : SV} (h : loadX P t x st = .ok s st') : Quiet st st' := by
  unfold loadX at h
  split at h
  · obtain ⟨c, st1, h1, h2⟩ := bind_ok.1 h
    obtain ⟨hc, rfl⟩ := getC_ok.1 h1
    split at h2
    · obtain ⟨_, rfl⟩ := opt_ok.1 h2
      exact Quiet.get
    · exact (fail_ok.1 h2).elim
  · obtain ⟨c, st1, h1, h2⟩ := bind_ok.1 h
    obtain ⟨hc, rfl⟩ := getC_ok.1 h1
    split at h2
    · obtain ⟨_, rfl⟩ := opt_ok.1 h2
      exact Quiet.get
    · exact (fail_ok.1 h2).elim
  · exact (fail_ok.1 h).elim

theorem splice_get {α : Type} {l m : List α} {off : Nat} (h : off + m.length ≤ l.length) (i : Nat) : (l.take off ++ (m ++ l.drop (off + m.length)))[i]? = if i < off then l[i]? else if i < off + m.length then m[i - off]? else l[i]? := by
  rw [List.getElem?_append]
  simp only [List.length_take]
  rw [Nat.min_eq_left (by omega)]
  by_cases h1 : i < off
  · simp [h1]
  · rw [if_neg h1, if_neg h1, List.getElem?_append]
    by_cases h2 : i < off + m.length
    · rw [if_pos (by omega), if_pos h2]
    · rw [if_neg (by omega), if_neg h2, List.getElem?_drop]
      congr 1
      omega
theorem splice_length {α : Type} {l m : List α} {off : Nat} (h : off + m.length ≤ l.length) : (l.take off ++ (m ++ l.drop (off + m.length))).length = l.length := by
  simp only [List.length_append, List.length_take, List.length_drop]
  omega
theorem denL_splice {l m : List SV} {vs us : List Value} (hl : denL ρ l = some vs) (hm : denL ρ m = some us) (off : Nat) : denL ρ (splice l off m) = some (vs.take off ++ (us ++ vs.drop (off + us.length))) := by
  unfold splice
  refine denL_append.2 ⟨_, _, denL_take hl off, denL_append.2 ⟨_, _, hm, ?_, rfl⟩, rfl⟩
  rw [denL_length hm]
  exact denL_drop hl _

/-- Cells of a known row are written. -/
theorem row_write {t : TypeId} {l m : List SV} {e : Spot} {own0 : List Nat} {off : Nat} (h : CAt A P ρ B e own0 (.row l t) w) {us : List Value} (hm : denL ρ m = some us) (hle : off + m.length ≤ l.length) (h1 : m.all SV.oneC = true) :
    ∃ w', (storeCells ⟨e.b, e.off + off, none⟩ us).run P w = .ok () w' ∧ ModP (fun b => b ∈ own0) w w' ∧ CAt A P ρ B e own0 (.row (splice l off m) t) w' := by
  obtain ⟨ho, cs, vs, h2, h3, h4, h5, h6⟩ := h
  have hlv := denL_length h3
  have hlu := denL_length hm
  have hst := run_storeCells_at (P := P) e.b (e.off + off) t us 0 cs w h2 (by simp only [Nat.add_zero]; omega) (oneC_all h1 hm)
  simp only [Nat.add_zero] at hst
  refine ⟨_, hst, ⟨rfl, rfl, rfl, by simp, fun k hk hn => ?_⟩, ho, _, _, setRow_heap w e.b cs _ t (0, 0) h2, denL_splice h3 hm off, ?_, ?_, ?_⟩
  · exact setRow_other w e.b k _ (fun hke => hn (by rw [ho, hke]; simp))
  · intro i hi
    rw [splice_length (by omega)] at hi
    rw [splice_get (by omega), List.getElem?_toArray]
    rw [List.append_assoc, splice_get (by simp; omega)]
    by_cases g1 : i < off
    · rw [if_pos g1, if_pos (by omega), Array.getElem?_toList]
      exact h4 i hi
    · rw [if_neg g1, if_neg (by omega)]
      by_cases g2 : i < off + us.length
      · rw [if_pos g2, if_pos (by omega)]
        congr 1
        omega
      · rw [if_neg g2, if_neg (by omega), Array.getElem?_toList]
        exact h4 i hi
  · rw [splice_length (by omega)]
    exact h5
  · rw [List.size_toArray, List.append_assoc, splice_length (by simp; omega)]
    simpa using h6
end
end Go.Proofs.Ytjediiajmnlonaa
