/- maps.Clone and maps.Equal at maps of places, as known calls. -/
import Derived.Test.YtjediiajmnlonaaK2
import Derived.Test.YtjediiajmnlonaaK3
import Derived.Test.YtjediiajmnlonaaP2
import Derived.Test.YtjediiajmnlonaaEM
namespace Go.Proofs.Ytjediiajmnlonaa
open Go.RowKit


/-- Whether two maps are one, at all places that there are. -/
noncomputable def samePl (f g : Pl → Int) : Bool := @decide (∀ p, PlWf p → f p = g p) (Classical.propDecidable _)
theorem samePl_iff {f g : Pl → Int} : samePl f g = true ↔ ∀ p, PlWf p → f p = g p := by unfold samePl; exact @decide_eq_true_iff _ (Classical.propDecidable _)
def cloneX : List SV → M Rep SV
  | [.mp n] => (getC n).bind fun
    | .rep (.pmap l g c) => (newC (.rep (.pmap l g c))).bind fun k => .ret (.mp k)
    | _ => .fail 330
  | _ => .fail 331
noncomputable def equalX : List SV → M Rep SV
  | [.mp n, .mp m] => (getC n).bind fun
    | .rep (.pmap l g _) => (getC m).bind fun
      | .rep (.pmap l' g' _) => .ret (.v (.bool (samePl (getL l g) (getL l' g'))))
      | _ => .fail 332
    | _ => .fail 333
  | _ => .fail 334
noncomputable def primM (f : FuncId) (args : List SV) : Option (M Rep SV) := match Nat.beq f 122 with
  | true => some (cloneX args)
  | false => match Nat.beq f 94 with
    | true => some (equalX args)
    | false => none
theorem clone_s {args : List SV} {st st' : St Rep} {s : SV} (h : cloneX args st = .ok s st') : CallS repAt Try.prog 122 args st st' s := by
  unfold cloneX at h
  split at h
  · next n =>
    obtain ⟨c, st1, h3, h4⟩ := bind_ok.1 h
    obtain ⟨hc, rfl⟩ := getC_ok.1 h3
    split at h4
    · next l g cnt =>
      obtain ⟨k, st2, h5, h6⟩ := bind_ok.1 h4
      obtain ⟨rfl, rfl⟩ := newC_ok.1 h5
      obtain ⟨rfl, rfl⟩ := ret_ok.1 h6
      have q : Quiet st { st with fr := insN n st.fr } := Quiet.get
      refine ⟨q.fn.trans (Fn.new _ _), fun B F ρ own w vals si hv => ?_⟩
      have s1 := si.of_quiet q
      obtain ⟨e, he, hat⟩ := s1.li.at_ n _ (s1.log n (mem_ins.2 (.inl rfl))) hc
      simp only [denL, den, he, Option.map_some, Option.some.injEq] at hv
      subst hv
      refine (clone_at (CAt_rep.1 hat).2).mono ?_
      rintro ex w' ⟨rfl, hm, hb⟩
      have ht := Tr.new (w' := w') s1 ⟨w.heap.size, 0, 0, 0, 0, none⟩ [w.heap.size] ⟨hb.os, hb.tape, hb.output, hb.size, fun k hk _ => hb.block k hk⟩ (show Rep.At B (.pmap l g cnt) ⟨w.heap.size, 0, 0, 0, 0, none⟩ [w.heap.size] w' from ⟨rfl, hm⟩) (fun b hb' => by
        rw [List.mem_singleton] at hb'
        subst hb'
        exact ⟨Nat.le_refl _, hm.lt⟩)
      exact ⟨_, _, _, rfl, by simp [den, Names.put_same], Tr.of_quiet q ht⟩
    · exact (fail_ok.1 h4).elim
  · exact (fail_ok.1 h).elim
theorem equal_s {args : List SV} {st st' : St Rep} {s : SV} (h : equalX args st = .ok s st') : CallS repAt Try.prog 94 args st st' s := by
  unfold equalX at h
  split at h
  · next n m =>
    obtain ⟨c, st1, h3, h4⟩ := bind_ok.1 h
    obtain ⟨hc, rfl⟩ := getC_ok.1 h3
    split at h4
    · next l g cnt =>
      obtain ⟨c2, st2, h5, h6⟩ := bind_ok.1 h4
      obtain ⟨hc2, rfl⟩ := getC_ok.1 h5
      split at h6
      · next l2 g2 cnt2 =>
        obtain ⟨rfl, rfl⟩ := ret_ok.1 h6
        have q : Quiet st _ := Quiet.get.trans (Quiet.get (n := m) (st := { st with fr := insN n st.fr }))
        refine ⟨q.fn, fun B F ρ own w vals si hv => ?_⟩
        obtain ⟨e, he, hat⟩ := si.li.at_ n _ (si.log n (mem_ins.2 (.inr (mem_ins.2 (.inl rfl))))) hc
        obtain ⟨e2, he2, hat2⟩ := si.li.at_ m _ (si.log m (mem_ins.2 (.inl rfl))) hc2
        simp only [denL, den, he, he2, Option.map_some, Option.some.injEq] at hv
        subst hv
        refine (equal_at (CAt_rep.1 hat).2 (CAt_rep.1 hat2).2).mono ?_
        rintro ex w' ⟨r, rfl, hr, hg⟩
        have ht := Tr.idle (w' := w') (si.of_quiet q) ((Mod.refl [] w).grown hg (fun g h => by cases h))
        refine ⟨_, _, _, rfl, ?_, Tr.of_quiet q ht⟩
        have : r = samePl (getL l g) (getL l2 g2) := Bool.eq_iff_iff.2 (hr.trans samePl_iff.symm)
        rw [this]
        rfl
      · exact (fail_ok.1 h6).elim
    · exact (fail_ok.1 h4).elim
  · exact (fail_ok.1 h).elim
theorem primM_ok : ∀ f args m, primM f args = some m → ∀ st s st', m st = .ok s st' → CallS repAt Try.prog f args st st' s := by
  intro f args m hm st s st' h
  unfold primM at hm
  split at hm
  · next hb =>
    obtain rfl := Nat.eq_of_beq_eq_true hb
    cases hm
    exact clone_s h
  · split at hm
    · next hb =>
      obtain rfl := Nat.eq_of_beq_eq_true hb
      cases hm
      exact equal_s h
    · cases hm
/-- With the calls on maps known. -/
noncomputable def Lib.maps (l : Lib Rep) : Lib Rep := ⟨fun f args => match primM f args with
  | some m => some m
  | none => l.prim f args, l.ext, l.tidy⟩
theorem Lib.maps_ok {l : Lib Rep} (hl : LibOK repAt Try.prog l) : LibOK repAt Try.prog l.maps := by
  refine ⟨fun f args m hm => ?_, hl.ext, hl.tidy⟩
  simp only [Lib.maps] at hm
  split at hm
  · next m' h =>
    injection hm with hm
    subst hm
    exact primM_ok f args m' h
  · exact hl.prim f args m hm
end Go.Proofs.Ytjediiajmnlonaa
