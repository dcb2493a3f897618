/- HistAhead, called with whatever, returns true, and its arguments read behind it as they did. No condition. -/
import Derived.Test.YtkndpdmopgmlcaaG1
import Derived.Test.YtkndpdmopgmlcaaG3
import Derived.Below
import Derived.WalkKit
import Derived.ProofKit
import Derived.OpenShut
import Derived.ChangeOld
import Derived.Test.YtkndpdmopgmlcaaRows
section
/- Arguments without pointers: their cells by kind. No condition. -/
namespace Go.Proofs.Ytkndpdmopgmlcaa
open Go.ChangeShapes Go.WideShapes Go.ChangeAt Go.RowKit Go.Deep

inductive Leaf where
  | int (k : IntKind)
  | bool
  | str
def LeafOK : Leaf → Value → Prop
  | .int k, v => ∃ z : Int, v = .int k z ∧ (Lit.int k z).wf = true
  | .bool, v => ∃ b : Bool, v = .bool b
  | .str, v => ∃ s : ByteArray, v = .string s ∧ s.size ≤ maxLen
def leavesF (P : Program) (g : TypeId → Option (List Leaf)) : List Field → Nat → Option (List Leaf)
  | [], _ => some []
  | f :: fs, off => match Nat.beq f.offset off, g f.type with
    | true, some l => match Nat.beq l.length (P.cellsOf f.type) with
      | true => (leavesF P g fs (off + l.length)).map fun r => l ++ r
      | false => none
    | _, _ => none
def leaves (P : Program) : Nat → TypeId → Option (List Leaf)
  | 0, _ => none
  | d + 1, t => match P.underlying t with
    | some .bool => some [.bool]
    | some (.int k) => some [.int k]
    | some .string => some [.str]
    | some (.struct fs) => match leavesF P (leaves P d) fs.toList 0 with
      | some l => match Nat.beq l.length (P.cellsOf t) with
        | true => some l
        | false => none
      | none => none
    | _ => none

theorem Two.append {α β : Type} {R : α → β → Prop} : ∀ {a b : List α} {c d : List β}, Two R a c → Two R b d → Two R (a ++ b) (c ++ d)
  | _, _, _, _, .nil, h => h
  | _, _, _, _, .cons h t, k => .cons h (t.append k)
theorem Two.length {α β : Type} {R : α → β → Prop} : ∀ {a : List α} {b : List β}, Two R a b → a.length = b.length
  | _, _, .nil => rfl
  | _, _, .cons _ t => by simp [t.length]

section
variable {H : Type} {enc : TypeId × Value → H} {P : Program} {w : World} {base : Nat} {spare : Nat → Bool} {held : Bool}
theorem leavesF_trod {g : TypeId → Option (List Leaf)} {m : Nat} {cs : List Value} (hg : ∀ t ls n cs x, g t = some ls → DataW.trod enc P w base spare held n t cs = some x → Two LeafOK ls cs) :
    ∀ {fs : List Field} {off : Nat} {ls : List Leaf}, leavesF P g fs off = some ls → (∀ f ∈ fs, ∃ x, DataW.trod enc P w base spare held m f.type ((cs.drop f.offset).take (P.cellsOf f.type)) = some x) → Two LeafOK ls ((cs.drop off).take ls.length)
  | [], off, ls, h, _ => by
    simp only [leavesF, Option.some.injEq] at h
    subst h
    simpa using Two.nil
  | f :: fs, off, ls, h, hx => by
    simp only [leavesF] at h
    split at h <;> try cases h
    next l ho hl =>
    split at h <;> try cases h
    next hlen =>
    simp only [Option.map_eq_some_iff] at h
    obtain ⟨r, hr, rfl⟩ := h
    have ho := Nat.eq_of_beq_eq_true ho
    have hlen := Nat.eq_of_beq_eq_true hlen
    obtain ⟨x, h1⟩ := hx f (List.mem_cons_self ..)
    have h2 := hg _ _ _ _ _ hl h1
    have h3 := leavesF_trod hg hr (fun f hf => hx f (List.mem_cons_of_mem _ hf))
    rw [← hlen, ho] at h2
    rw [List.length_append, List.take_add, List.drop_drop]
    exact h2.append h3
theorem leaves_trod : ∀ {d : Nat} {t : TypeId} {ls : List Leaf} {n : Nat} {cs : List Value} {x : DataW H × List MemPlace}, leaves P d t = some ls → DataW.trod enc P w base spare held n t cs = some x → Two LeafOK ls cs
  | 0, _, _, _, _, _, h, _ => by simp [leaves] at h
  | d + 1, t, ls, n, cs, x, h, hx => by
    simp only [leaves] at h
    split at h
    · next hu =>
      injection h with h
      subst h
      obtain ⟨b, rfl, _⟩ := DataW.trod_bool hu hx
      exact .cons ⟨b, rfl⟩ .nil
    · next k hu =>
      injection h with h
      subst h
      obtain ⟨z, rfl, _, hw⟩ := DataW.trod_int hu hx
      exact .cons ⟨z, rfl, hw⟩ .nil
    · next hu =>
      injection h with h
      subst h
      obtain ⟨s, rfl, _, hs⟩ := DataW.trod_string hu hx
      exact .cons ⟨s, rfl, hs⟩ .nil
    · next fs hu =>
      split at h <;> try cases h
      next l hl =>
      split at h <;> cases h
      next hlen =>
      have hlen := Nat.eq_of_beq_eq_true hlen
      obtain ⟨xs, m, _, _, hcl, hxl, hf⟩ := DataW.trod_struct hu hx
      have h3 := leavesF_trod (enc := enc) (w := w) (base := base) (spare := spare) (held := held) (cs := cs) (m := m) (fun t ls n cs x h1 h2 => leaves_trod h1 h2) hl (fun f hfm => by
        obtain ⟨i, hi, he⟩ := List.getElem_of_mem hfm
        have hfi : fs[i]? = some f := by
          rw [← Array.getElem?_toList, ← he]
          exact List.getElem?_eq_getElem hi
        have hix : i < xs.length := by rw [hxl]; simpa using hi
        exact ⟨xs[i], by have := hf i f hfi; rw [List.getElem?_eq_getElem hix] at this; exact this⟩)
      rw [List.drop_zero, hlen, ← hcl, List.take_length] at h3
      exact h3
    · cases h
end
end Go.Proofs.Ytkndpdmopgmlcaa
end
section
/- HistAhead returns true, whatever its calls. No condition. -/
namespace Go.Proofs.Ytkndpdmopgmlcaa
set_option linter.unusedVariables false
set_option linter.unusedSimpArgs false
set_option maxRecDepth 100000
set_option maxHeartbeats 8000000

theorem histAhead_good (th1 at1 k1 key1 val1 lev1 F1 T1 e1 : Int) (d1 : Bool) (v1 : Int) (th2 at2 k2 key2 val2 lev2 F2 T2 e2 : Int) (d2 : Bool) (v2 : Int) (th3 at3 k3 key3 val3 lev3 F3 T3 e3 : Int) (d3 : Bool) (v3 : Int) (th4 at4 k4 key4 val4 lev4 F4 T4 e4 : Int) (d4 : Bool) (v4 : Int)  : Good (fun o => runHA 5 [.agg [iv th1, iv at1, iv k1, uv key1, uv val1, iv lev1, iv F1, iv T1, iv e1, .v (.bool d1), uv v1], .agg [iv th2, iv at2, iv k2, uv key2, uv val2, iv lev2, iv F2, iv T2, iv e2, .v (.bool d2), uv v2], .agg [iv th3, iv at3, iv k3, uv key3, uv val3, iv lev3, iv F3, iv T3, iv e3, .v (.bool d3), uv v3], .agg [iv th4, iv at4, iv k4, uv key4, uv val4, iv lev4, iv F4, iv T4, iv e4, .v (.bool d4), uv v4]] (St.none o)) (fun x => x = .bool true) := by
  rcases Bool.eq_false_or_eq_true (badB F1 T1 e1 d1 v1) with h0 | h0
  · exact ⟨List.replicate 3 (none) ++ List.replicate 6 (some true), [((badB F1 T1 e1 d1 v1), true), ((badB F1 T1 e1 d1 v1), true), ((badB F1 T1 e1 d1 v1), true), ((badB F1 T1 e1 d1 v1), true), ((badB F1 T1 e1 d1 v1), true), ((badB F1 T1 e1 d1 v1), true)], Value.bool true, by kernel_rfl, ⟨h0, h0, h0, h0, h0, h0, trivial⟩, (by first | rfl | (refine congrArg Value.bool ?_; simp only [badB, aheadB, Bool.or_eq_false_iff, Bool.and_eq_true, Bool.and_eq_false_iff, Bool.not_eq_true', beq_eq_false_iff_ne, ne_eq, decide_eq_false_iff_not, decide_eq_true_eq, beq_iff_eq, Bool.not_eq_false', Bool.not_eq_true, Bool.not_eq_false] at *; omega))⟩
  · rcases Bool.eq_false_or_eq_true (badB F2 T2 e2 d2 v2) with h1 | h1
    · exact ⟨List.replicate 3 (none) ++ List.replicate 5 (some false) ++ [none] ++ [some false] ++ List.replicate 7 (none) ++ List.replicate 6 (some true), [((badB F2 T2 e2 d2 v2), true), ((badB F2 T2 e2 d2 v2), true), ((badB F2 T2 e2 d2 v2), true), ((badB F2 T2 e2 d2 v2), true), ((badB F2 T2 e2 d2 v2), true), ((badB F2 T2 e2 d2 v2), true), ((badB F1 T1 e1 d1 v1), false), ((badB F1 T1 e1 d1 v1), false), ((badB F1 T1 e1 d1 v1), false), ((badB F1 T1 e1 d1 v1), false), ((badB F1 T1 e1 d1 v1), false), ((badB F1 T1 e1 d1 v1), false)], Value.bool true, by kernel_rfl, ⟨h1, h1, h1, h1, h1, h1, h0, h0, h0, h0, h0, h0, trivial⟩, (by first | rfl | (refine congrArg Value.bool ?_; simp only [badB, aheadB, Bool.or_eq_false_iff, Bool.and_eq_true, Bool.and_eq_false_iff, Bool.not_eq_true', beq_eq_false_iff_ne, ne_eq, decide_eq_false_iff_not, decide_eq_true_eq, beq_iff_eq, Bool.not_eq_false', Bool.not_eq_true, Bool.not_eq_false] at *; omega))⟩
    · rcases Bool.eq_false_or_eq_true (badB F3 T3 e3 d3 v3) with h2 | h2
      · exact ⟨List.replicate 3 (none) ++ List.replicate 5 (some false) ++ [none] ++ [some false] ++ List.replicate 7 (none) ++ List.replicate 5 (some false) ++ [none] ++ [some false] ++ List.replicate 9 (none) ++ List.replicate 6 (some true), [((badB F3 T3 e3 d3 v3), true), ((badB F3 T3 e3 d3 v3), true), ((badB F3 T3 e3 d3 v3), true), ((badB F3 T3 e3 d3 v3), true), ((badB F3 T3 e3 d3 v3), true), ((badB F3 T3 e3 d3 v3), true), ((badB F2 T2 e2 d2 v2), false), ((badB F2 T2 e2 d2 v2), false), ((badB F2 T2 e2 d2 v2), false), ((badB F2 T2 e2 d2 v2), false), ((badB F2 T2 e2 d2 v2), false), ((badB F2 T2 e2 d2 v2), false), ((badB F1 T1 e1 d1 v1), false), ((badB F1 T1 e1 d1 v1), false), ((badB F1 T1 e1 d1 v1), false), ((badB F1 T1 e1 d1 v1), false), ((badB F1 T1 e1 d1 v1), false), ((badB F1 T1 e1 d1 v1), false)], Value.bool true, by kernel_rfl, ⟨h2, h2, h2, h2, h2, h2, h1, h1, h1, h1, h1, h1, h0, h0, h0, h0, h0, h0, trivial⟩, (by first | rfl | (refine congrArg Value.bool ?_; simp only [badB, aheadB, Bool.or_eq_false_iff, Bool.and_eq_true, Bool.and_eq_false_iff, Bool.not_eq_true', beq_eq_false_iff_ne, ne_eq, decide_eq_false_iff_not, decide_eq_true_eq, beq_iff_eq, Bool.not_eq_false', Bool.not_eq_true, Bool.not_eq_false] at *; omega))⟩
      · rcases Bool.eq_false_or_eq_true (badB F4 T4 e4 d4 v4) with h3 | h3
        · exact ⟨List.replicate 3 (none) ++ List.replicate 5 (some false) ++ [none] ++ [some false] ++ List.replicate 7 (none) ++ List.replicate 5 (some false) ++ [none] ++ [some false] ++ List.replicate 9 (none) ++ List.replicate 5 (some false) ++ [none] ++ [some false] ++ List.replicate 9 (none) ++ List.replicate 6 (some true), [((badB F4 T4 e4 d4 v4), true), ((badB F4 T4 e4 d4 v4), true), ((badB F4 T4 e4 d4 v4), true), ((badB F4 T4 e4 d4 v4), true), ((badB F4 T4 e4 d4 v4), true), ((badB F4 T4 e4 d4 v4), true), ((badB F3 T3 e3 d3 v3), false), ((badB F3 T3 e3 d3 v3), false), ((badB F3 T3 e3 d3 v3), false), ((badB F3 T3 e3 d3 v3), false), ((badB F3 T3 e3 d3 v3), false), ((badB F3 T3 e3 d3 v3), false), ((badB F2 T2 e2 d2 v2), false), ((badB F2 T2 e2 d2 v2), false), ((badB F2 T2 e2 d2 v2), false), ((badB F2 T2 e2 d2 v2), false), ((badB F2 T2 e2 d2 v2), false), ((badB F2 T2 e2 d2 v2), false), ((badB F1 T1 e1 d1 v1), false), ((badB F1 T1 e1 d1 v1), false), ((badB F1 T1 e1 d1 v1), false), ((badB F1 T1 e1 d1 v1), false), ((badB F1 T1 e1 d1 v1), false), ((badB F1 T1 e1 d1 v1), false)], Value.bool true, by kernel_rfl, ⟨h3, h3, h3, h3, h3, h3, h2, h2, h2, h2, h2, h2, h1, h1, h1, h1, h1, h1, h0, h0, h0, h0, h0, h0, trivial⟩, (by first | rfl | (refine congrArg Value.bool ?_; simp only [badB, aheadB, Bool.or_eq_false_iff, Bool.and_eq_true, Bool.and_eq_false_iff, Bool.not_eq_true', beq_eq_false_iff_ne, ne_eq, decide_eq_false_iff_not, decide_eq_true_eq, beq_iff_eq, Bool.not_eq_false', Bool.not_eq_true, Bool.not_eq_false] at *; omega))⟩
        · have h4 : (aheadB T1 F1) = false := by (simp only [badB, aheadB, Bool.or_eq_false_iff, Bool.and_eq_true, Bool.and_eq_false_iff, Bool.not_eq_true', beq_eq_false_iff_ne, ne_eq, decide_eq_false_iff_not, decide_eq_true_eq, beq_iff_eq, Bool.not_eq_false', Bool.not_eq_true, Bool.not_eq_false] at *; omega)
          rcases Bool.eq_false_or_eq_true (aheadB T1 F2) with h5 | h5
          · have h6 : (aheadB T2 F1) = false := by (simp only [badB, aheadB, Bool.or_eq_false_iff, Bool.and_eq_true, Bool.and_eq_false_iff, Bool.not_eq_true', beq_eq_false_iff_ne, ne_eq, decide_eq_false_iff_not, decide_eq_true_eq, beq_iff_eq, Bool.not_eq_false', Bool.not_eq_true, Bool.not_eq_false] at *; omega)
            rcases Bool.eq_false_or_eq_true (aheadB T2 F3) with h7 | h7
            · have h8 : (aheadB T1 F3) = true := by (simp only [badB, aheadB, Bool.or_eq_false_iff, Bool.and_eq_true, Bool.and_eq_false_iff, Bool.not_eq_true', beq_eq_false_iff_ne, ne_eq, decide_eq_false_iff_not, decide_eq_true_eq, beq_iff_eq, Bool.not_eq_false', Bool.not_eq_true, Bool.not_eq_false] at *; omega)
              rcases Bool.eq_false_or_eq_true (aheadB T3 F4) with h9 | h9
              · have h10 : (aheadB T1 F4) = true := by (simp only [badB, aheadB, Bool.or_eq_false_iff, Bool.and_eq_true, Bool.and_eq_false_iff, Bool.not_eq_true', beq_eq_false_iff_ne, ne_eq, decide_eq_false_iff_not, decide_eq_true_eq, beq_iff_eq, Bool.not_eq_false', Bool.not_eq_true, Bool.not_eq_false] at *; omega)
                exact ⟨List.replicate 3 (none) ++ List.replicate 5 (some false) ++ [none] ++ [some false] ++ List.replicate 7 (none) ++ List.replicate 5 (some false) ++ [none] ++ [some false] ++ List.replicate 9 (none) ++ List.replicate 5 (some false) ++ [none] ++ [some false] ++ List.replicate 9 (none) ++ List.replicate 5 (some false) ++ [none] ++ [some false] ++ List.replicate 5 (none) ++ List.replicate 4 (some false) ++ List.replicate 3 (some true) ++ [some false] ++ [some true] ++ [some false, some false] ++ List.replicate 9 (some true) ++ List.replicate 10 (some false) ++ List.replicate 4 (some true), [((aheadB T1 F4), true), ((aheadB T1 F4), true), ((aheadB T1 F4), true), ((aheadB T1 F4), true), (!(aheadB T3 F4), false), (!(aheadB T3 F4), false), (!(aheadB T3 F4), false), (!(aheadB T3 F4), false), (!(aheadB T1 F2), false), (!(aheadB T1 F2), false), (!(aheadB T1 F2), false), (!(aheadB T1 F2), false), (!(aheadB T1 F2), false), (!(aheadB T1 F3), false), ((aheadB T2 F3), true), ((aheadB T2 F3), true), ((aheadB T2 F3), true), ((aheadB T2 F3), true), ((aheadB T2 F3), true), ((aheadB T1 F2), true), ((aheadB T1 F2), true), ((aheadB T1 F2), true), ((aheadB T1 F2), true), ((aheadB T2 F1), false), ((aheadB T1 F1), false), ((aheadB T1 F2), true), ((aheadB T1 F1), false), ((aheadB T1 F2), true), ((aheadB T1 F2), true), ((aheadB T1 F2), true), ((aheadB T1 F1), false), ((aheadB T1 F1), false), ((aheadB T1 F1), false), ((aheadB T1 F1), false), ((badB F4 T4 e4 d4 v4), false), ((badB F4 T4 e4 d4 v4), false), ((badB F4 T4 e4 d4 v4), false), ((badB F4 T4 e4 d4 v4), false), ((badB F4 T4 e4 d4 v4), false), ((badB F4 T4 e4 d4 v4), false), ((badB F3 T3 e3 d3 v3), false), ((badB F3 T3 e3 d3 v3), false), ((badB F3 T3 e3 d3 v3), false), ((badB F3 T3 e3 d3 v3), false), ((badB F3 T3 e3 d3 v3), false), ((badB F3 T3 e3 d3 v3), false), ((badB F2 T2 e2 d2 v2), false), ((badB F2 T2 e2 d2 v2), false), ((badB F2 T2 e2 d2 v2), false), ((badB F2 T2 e2 d2 v2), false), ((badB F2 T2 e2 d2 v2), false), ((badB F2 T2 e2 d2 v2), false), ((badB F1 T1 e1 d1 v1), false), ((badB F1 T1 e1 d1 v1), false), ((badB F1 T1 e1 d1 v1), false), ((badB F1 T1 e1 d1 v1), false), ((badB F1 T1 e1 d1 v1), false), ((badB F1 T1 e1 d1 v1), false)], Value.bool true, by kernel_rfl, ⟨h10, h10, h10, h10, (by rw [h9]; rfl), (by rw [h9]; rfl), (by rw [h9]; rfl), (by rw [h9]; rfl), (by rw [h5]; rfl), (by rw [h5]; rfl), (by rw [h5]; rfl), (by rw [h5]; rfl), (by rw [h5]; rfl), (by rw [h8]; rfl), h7, h7, h7, h7, h7, h5, h5, h5, h5, h6, h4, h5, h4, h5, h5, h5, h4, h4, h4, h4, h3, h3, h3, h3, h3, h3, h2, h2, h2, h2, h2, h2, h1, h1, h1, h1, h1, h1, h0, h0, h0, h0, h0, h0, trivial⟩, (by first | rfl | (refine congrArg Value.bool ?_; simp only [badB, aheadB, Bool.or_eq_false_iff, Bool.and_eq_true, Bool.and_eq_false_iff, Bool.not_eq_true', beq_eq_false_iff_ne, ne_eq, decide_eq_false_iff_not, decide_eq_true_eq, beq_iff_eq, Bool.not_eq_false', Bool.not_eq_true, Bool.not_eq_false] at *; omega))⟩
              · exact ⟨List.replicate 3 (none) ++ List.replicate 5 (some false) ++ [none] ++ [some false] ++ List.replicate 7 (none) ++ List.replicate 5 (some false) ++ [none] ++ [some false] ++ List.replicate 9 (none) ++ List.replicate 5 (some false) ++ [none] ++ [some false] ++ List.replicate 9 (none) ++ List.replicate 5 (some false) ++ [none] ++ [some false] ++ List.replicate 5 (none) ++ List.replicate 4 (some false) ++ List.replicate 3 (some true) ++ [some false] ++ [some true] ++ [some false, some false] ++ List.replicate 9 (some true) ++ List.replicate 6 (some false) ++ List.replicate 4 (some true), [(!(aheadB T3 F4), true), (!(aheadB T3 F4), true), (!(aheadB T3 F4), true), (!(aheadB T3 F4), true), (!(aheadB T1 F2), false), (!(aheadB T1 F2), false), (!(aheadB T1 F2), false), (!(aheadB T1 F2), false), (!(aheadB T1 F2), false), (!(aheadB T1 F3), false), ((aheadB T2 F3), true), ((aheadB T2 F3), true), ((aheadB T2 F3), true), ((aheadB T2 F3), true), ((aheadB T2 F3), true), ((aheadB T1 F2), true), ((aheadB T1 F2), true), ((aheadB T1 F2), true), ((aheadB T1 F2), true), ((aheadB T2 F1), false), ((aheadB T1 F1), false), ((aheadB T1 F2), true), ((aheadB T1 F1), false), ((aheadB T1 F2), true), ((aheadB T1 F2), true), ((aheadB T1 F2), true), ((aheadB T1 F1), false), ((aheadB T1 F1), false), ((aheadB T1 F1), false), ((aheadB T1 F1), false), ((badB F4 T4 e4 d4 v4), false), ((badB F4 T4 e4 d4 v4), false), ((badB F4 T4 e4 d4 v4), false), ((badB F4 T4 e4 d4 v4), false), ((badB F4 T4 e4 d4 v4), false), ((badB F4 T4 e4 d4 v4), false), ((badB F3 T3 e3 d3 v3), false), ((badB F3 T3 e3 d3 v3), false), ((badB F3 T3 e3 d3 v3), false), ((badB F3 T3 e3 d3 v3), false), ((badB F3 T3 e3 d3 v3), false), ((badB F3 T3 e3 d3 v3), false), ((badB F2 T2 e2 d2 v2), false), ((badB F2 T2 e2 d2 v2), false), ((badB F2 T2 e2 d2 v2), false), ((badB F2 T2 e2 d2 v2), false), ((badB F2 T2 e2 d2 v2), false), ((badB F2 T2 e2 d2 v2), false), ((badB F1 T1 e1 d1 v1), false), ((badB F1 T1 e1 d1 v1), false), ((badB F1 T1 e1 d1 v1), false), ((badB F1 T1 e1 d1 v1), false), ((badB F1 T1 e1 d1 v1), false), ((badB F1 T1 e1 d1 v1), false)], Value.bool true, by kernel_rfl, ⟨(by rw [h9]; rfl), (by rw [h9]; rfl), (by rw [h9]; rfl), (by rw [h9]; rfl), (by rw [h5]; rfl), (by rw [h5]; rfl), (by rw [h5]; rfl), (by rw [h5]; rfl), (by rw [h5]; rfl), (by rw [h8]; rfl), h7, h7, h7, h7, h7, h5, h5, h5, h5, h6, h4, h5, h4, h5, h5, h5, h4, h4, h4, h4, h3, h3, h3, h3, h3, h3, h2, h2, h2, h2, h2, h2, h1, h1, h1, h1, h1, h1, h0, h0, h0, h0, h0, h0, trivial⟩, (by first | rfl | (refine congrArg Value.bool ?_; simp only [badB, aheadB, Bool.or_eq_false_iff, Bool.and_eq_true, Bool.and_eq_false_iff, Bool.not_eq_true', beq_eq_false_iff_ne, ne_eq, decide_eq_false_iff_not, decide_eq_true_eq, beq_iff_eq, Bool.not_eq_false', Bool.not_eq_true, Bool.not_eq_false] at *; omega))⟩
            · rcases Bool.eq_false_or_eq_true (aheadB T3 F4) with h9 | h9
              · rcases Bool.eq_false_or_eq_true (aheadB T1 F4) with h10 | h10
                · exact ⟨List.replicate 3 (none) ++ List.replicate 5 (some false) ++ [none] ++ [some false] ++ List.replicate 7 (none) ++ List.replicate 5 (some false) ++ [none] ++ [some false] ++ List.replicate 9 (none) ++ List.replicate 5 (some false) ++ [none] ++ [some false] ++ List.replicate 9 (none) ++ List.replicate 5 (some false) ++ [none] ++ [some false] ++ List.replicate 5 (none) ++ List.replicate 4 (some false) ++ List.replicate 3 (some true) ++ [some false] ++ [some true] ++ [some false, some false] ++ List.replicate 4 (some true) ++ List.replicate 5 (some false) ++ [none] ++ List.replicate 9 (some false) ++ List.replicate 4 (some true), [((aheadB T1 F4), true), ((aheadB T1 F4), true), ((aheadB T1 F4), true), ((aheadB T1 F4), true), (!(aheadB T3 F4), false), (!(aheadB T3 F4), false), (!(aheadB T3 F4), false), (!(aheadB T3 F4), false), (!(aheadB T1 F2), false), (!(aheadB T1 F2), false), (!(aheadB T1 F2), false), (!(aheadB T1 F2), false), (!(aheadB T1 F2), false), ((aheadB T2 F3), false), ((aheadB T2 F3), false), ((aheadB T2 F3), false), ((aheadB T2 F3), false), ((aheadB T2 F3), false), ((aheadB T1 F2), true), ((aheadB T1 F2), true), ((aheadB T1 F2), true), ((aheadB T1 F2), true), ((aheadB T2 F1), false), ((aheadB T1 F1), false), ((aheadB T1 F2), true), ((aheadB T1 F1), false), ((aheadB T1 F2), true), ((aheadB T1 F2), true), ((aheadB T1 F2), true), ((aheadB T1 F1), false), ((aheadB T1 F1), false), ((aheadB T1 F1), false), ((aheadB T1 F1), false), ((badB F4 T4 e4 d4 v4), false), ((badB F4 T4 e4 d4 v4), false), ((badB F4 T4 e4 d4 v4), false), ((badB F4 T4 e4 d4 v4), false), ((badB F4 T4 e4 d4 v4), false), ((badB F4 T4 e4 d4 v4), false), ((badB F3 T3 e3 d3 v3), false), ((badB F3 T3 e3 d3 v3), false), ((badB F3 T3 e3 d3 v3), false), ((badB F3 T3 e3 d3 v3), false), ((badB F3 T3 e3 d3 v3), false), ((badB F3 T3 e3 d3 v3), false), ((badB F2 T2 e2 d2 v2), false), ((badB F2 T2 e2 d2 v2), false), ((badB F2 T2 e2 d2 v2), false), ((badB F2 T2 e2 d2 v2), false), ((badB F2 T2 e2 d2 v2), false), ((badB F2 T2 e2 d2 v2), false), ((badB F1 T1 e1 d1 v1), false), ((badB F1 T1 e1 d1 v1), false), ((badB F1 T1 e1 d1 v1), false), ((badB F1 T1 e1 d1 v1), false), ((badB F1 T1 e1 d1 v1), false), ((badB F1 T1 e1 d1 v1), false)], Value.bool true, by kernel_rfl, ⟨h10, h10, h10, h10, (by rw [h9]; rfl), (by rw [h9]; rfl), (by rw [h9]; rfl), (by rw [h9]; rfl), (by rw [h5]; rfl), (by rw [h5]; rfl), (by rw [h5]; rfl), (by rw [h5]; rfl), (by rw [h5]; rfl), h7, h7, h7, h7, h7, h5, h5, h5, h5, h6, h4, h5, h4, h5, h5, h5, h4, h4, h4, h4, h3, h3, h3, h3, h3, h3, h2, h2, h2, h2, h2, h2, h1, h1, h1, h1, h1, h1, h0, h0, h0, h0, h0, h0, trivial⟩, (by first | rfl | (refine congrArg Value.bool ?_; simp only [badB, aheadB, Bool.or_eq_false_iff, Bool.and_eq_true, Bool.and_eq_false_iff, Bool.not_eq_true', beq_eq_false_iff_ne, ne_eq, decide_eq_false_iff_not, decide_eq_true_eq, beq_iff_eq, Bool.not_eq_false', Bool.not_eq_true, Bool.not_eq_false] at *; omega))⟩
                · exact ⟨List.replicate 3 (none) ++ List.replicate 5 (some false) ++ [none] ++ [some false] ++ List.replicate 7 (none) ++ List.replicate 5 (some false) ++ [none] ++ [some false] ++ List.replicate 9 (none) ++ List.replicate 5 (some false) ++ [none] ++ [some false] ++ List.replicate 9 (none) ++ List.replicate 5 (some false) ++ [none] ++ [some false] ++ List.replicate 5 (none) ++ List.replicate 4 (some false) ++ List.replicate 3 (some true) ++ [some false] ++ [some true] ++ [some false, some false] ++ List.replicate 4 (some true) ++ List.replicate 5 (some false) ++ [none] ++ List.replicate 13 (some false), [((aheadB T1 F4), false), ((aheadB T1 F4), false), ((aheadB T1 F4), false), ((aheadB T1 F4), false), (!(aheadB T3 F4), false), (!(aheadB T3 F4), false), (!(aheadB T3 F4), false), (!(aheadB T3 F4), false), (!(aheadB T1 F2), false), (!(aheadB T1 F2), false), (!(aheadB T1 F2), false), (!(aheadB T1 F2), false), (!(aheadB T1 F2), false), ((aheadB T2 F3), false), ((aheadB T2 F3), false), ((aheadB T2 F3), false), ((aheadB T2 F3), false), ((aheadB T2 F3), false), ((aheadB T1 F2), true), ((aheadB T1 F2), true), ((aheadB T1 F2), true), ((aheadB T1 F2), true), ((aheadB T2 F1), false), ((aheadB T1 F1), false), ((aheadB T1 F2), true), ((aheadB T1 F1), false), ((aheadB T1 F2), true), ((aheadB T1 F2), true), ((aheadB T1 F2), true), ((aheadB T1 F1), false), ((aheadB T1 F1), false), ((aheadB T1 F1), false), ((aheadB T1 F1), false), ((badB F4 T4 e4 d4 v4), false), ((badB F4 T4 e4 d4 v4), false), ((badB F4 T4 e4 d4 v4), false), ((badB F4 T4 e4 d4 v4), false), ((badB F4 T4 e4 d4 v4), false), ((badB F4 T4 e4 d4 v4), false), ((badB F3 T3 e3 d3 v3), false), ((badB F3 T3 e3 d3 v3), false), ((badB F3 T3 e3 d3 v3), false), ((badB F3 T3 e3 d3 v3), false), ((badB F3 T3 e3 d3 v3), false), ((badB F3 T3 e3 d3 v3), false), ((badB F2 T2 e2 d2 v2), false), ((badB F2 T2 e2 d2 v2), false), ((badB F2 T2 e2 d2 v2), false), ((badB F2 T2 e2 d2 v2), false), ((badB F2 T2 e2 d2 v2), false), ((badB F2 T2 e2 d2 v2), false), ((badB F1 T1 e1 d1 v1), false), ((badB F1 T1 e1 d1 v1), false), ((badB F1 T1 e1 d1 v1), false), ((badB F1 T1 e1 d1 v1), false), ((badB F1 T1 e1 d1 v1), false), ((badB F1 T1 e1 d1 v1), false)], Value.bool (aheadB T3 F2), by kernel_rfl, ⟨h10, h10, h10, h10, (by rw [h9]; rfl), (by rw [h9]; rfl), (by rw [h9]; rfl), (by rw [h9]; rfl), (by rw [h5]; rfl), (by rw [h5]; rfl), (by rw [h5]; rfl), (by rw [h5]; rfl), (by rw [h5]; rfl), h7, h7, h7, h7, h7, h5, h5, h5, h5, h6, h4, h5, h4, h5, h5, h5, h4, h4, h4, h4, h3, h3, h3, h3, h3, h3, h2, h2, h2, h2, h2, h2, h1, h1, h1, h1, h1, h1, h0, h0, h0, h0, h0, h0, trivial⟩, (by first | rfl | (refine congrArg Value.bool ?_; simp only [badB, aheadB, Bool.or_eq_false_iff, Bool.and_eq_true, Bool.and_eq_false_iff, Bool.not_eq_true', beq_eq_false_iff_ne, ne_eq, decide_eq_false_iff_not, decide_eq_true_eq, beq_iff_eq, Bool.not_eq_false', Bool.not_eq_true, Bool.not_eq_false] at *; omega))⟩
              · exact ⟨List.replicate 3 (none) ++ List.replicate 5 (some false) ++ [none] ++ [some false] ++ List.replicate 7 (none) ++ List.replicate 5 (some false) ++ [none] ++ [some false] ++ List.replicate 9 (none) ++ List.replicate 5 (some false) ++ [none] ++ [some false] ++ List.replicate 9 (none) ++ List.replicate 5 (some false) ++ [none] ++ [some false] ++ List.replicate 5 (none) ++ List.replicate 4 (some false) ++ List.replicate 3 (some true) ++ [some false] ++ [some true] ++ [some false, some false] ++ List.replicate 4 (some true) ++ List.replicate 5 (some false) ++ [none] ++ List.replicate 5 (some false) ++ List.replicate 4 (some true), [(!(aheadB T3 F4), true), (!(aheadB T3 F4), true), (!(aheadB T3 F4), true), (!(aheadB T3 F4), true), (!(aheadB T1 F2), false), (!(aheadB T1 F2), false), (!(aheadB T1 F2), false), (!(aheadB T1 F2), false), (!(aheadB T1 F2), false), ((aheadB T2 F3), false), ((aheadB T2 F3), false), ((aheadB T2 F3), false), ((aheadB T2 F3), false), ((aheadB T2 F3), false), ((aheadB T1 F2), true), ((aheadB T1 F2), true), ((aheadB T1 F2), true), ((aheadB T1 F2), true), ((aheadB T2 F1), false), ((aheadB T1 F1), false), ((aheadB T1 F2), true), ((aheadB T1 F1), false), ((aheadB T1 F2), true), ((aheadB T1 F2), true), ((aheadB T1 F2), true), ((aheadB T1 F1), false), ((aheadB T1 F1), false), ((aheadB T1 F1), false), ((aheadB T1 F1), false), ((badB F4 T4 e4 d4 v4), false), ((badB F4 T4 e4 d4 v4), false), ((badB F4 T4 e4 d4 v4), false), ((badB F4 T4 e4 d4 v4), false), ((badB F4 T4 e4 d4 v4), false), ((badB F4 T4 e4 d4 v4), false), ((badB F3 T3 e3 d3 v3), false), ((badB F3 T3 e3 d3 v3), false), ((badB F3 T3 e3 d3 v3), false), ((badB F3 T3 e3 d3 v3), false), ((badB F3 T3 e3 d3 v3), false), ((badB F3 T3 e3 d3 v3), false), ((badB F2 T2 e2 d2 v2), false), ((badB F2 T2 e2 d2 v2), false), ((badB F2 T2 e2 d2 v2), false), ((badB F2 T2 e2 d2 v2), false), ((badB F2 T2 e2 d2 v2), false), ((badB F2 T2 e2 d2 v2), false), ((badB F1 T1 e1 d1 v1), false), ((badB F1 T1 e1 d1 v1), false), ((badB F1 T1 e1 d1 v1), false), ((badB F1 T1 e1 d1 v1), false), ((badB F1 T1 e1 d1 v1), false), ((badB F1 T1 e1 d1 v1), false)], Value.bool true, by kernel_rfl, ⟨(by rw [h9]; rfl), (by rw [h9]; rfl), (by rw [h9]; rfl), (by rw [h9]; rfl), (by rw [h5]; rfl), (by rw [h5]; rfl), (by rw [h5]; rfl), (by rw [h5]; rfl), (by rw [h5]; rfl), h7, h7, h7, h7, h7, h5, h5, h5, h5, h6, h4, h5, h4, h5, h5, h5, h4, h4, h4, h4, h3, h3, h3, h3, h3, h3, h2, h2, h2, h2, h2, h2, h1, h1, h1, h1, h1, h1, h0, h0, h0, h0, h0, h0, trivial⟩, (by first | rfl | (refine congrArg Value.bool ?_; simp only [badB, aheadB, Bool.or_eq_false_iff, Bool.and_eq_true, Bool.and_eq_false_iff, Bool.not_eq_true', beq_eq_false_iff_ne, ne_eq, decide_eq_false_iff_not, decide_eq_true_eq, beq_iff_eq, Bool.not_eq_false', Bool.not_eq_true, Bool.not_eq_false] at *; omega))⟩
          · exact ⟨List.replicate 3 (none) ++ List.replicate 5 (some false) ++ [none] ++ [some false] ++ List.replicate 7 (none) ++ List.replicate 5 (some false) ++ [none] ++ [some false] ++ List.replicate 9 (none) ++ List.replicate 5 (some false) ++ [none] ++ [some false] ++ List.replicate 9 (none) ++ List.replicate 5 (some false) ++ [none] ++ [some false] ++ List.replicate 5 (none) ++ List.replicate 10 (some false) ++ [none] ++ List.replicate 4 (some false) ++ List.replicate 6 (none) ++ List.replicate 5 (some true), [(!(aheadB T1 F2), true), (!(aheadB T1 F2), true), (!(aheadB T1 F2), true), (!(aheadB T1 F2), true), (!(aheadB T1 F2), true), ((aheadB T1 F2), false), ((aheadB T1 F2), false), ((aheadB T1 F2), false), ((aheadB T1 F2), false), ((aheadB T1 F1), false), ((aheadB T1 F2), false), ((aheadB T1 F1), false), ((aheadB T1 F2), false), ((aheadB T1 F2), false), ((aheadB T1 F2), false), ((aheadB T1 F1), false), ((aheadB T1 F1), false), ((aheadB T1 F1), false), ((aheadB T1 F1), false), ((badB F4 T4 e4 d4 v4), false), ((badB F4 T4 e4 d4 v4), false), ((badB F4 T4 e4 d4 v4), false), ((badB F4 T4 e4 d4 v4), false), ((badB F4 T4 e4 d4 v4), false), ((badB F4 T4 e4 d4 v4), false), ((badB F3 T3 e3 d3 v3), false), ((badB F3 T3 e3 d3 v3), false), ((badB F3 T3 e3 d3 v3), false), ((badB F3 T3 e3 d3 v3), false), ((badB F3 T3 e3 d3 v3), false), ((badB F3 T3 e3 d3 v3), false), ((badB F2 T2 e2 d2 v2), false), ((badB F2 T2 e2 d2 v2), false), ((badB F2 T2 e2 d2 v2), false), ((badB F2 T2 e2 d2 v2), false), ((badB F2 T2 e2 d2 v2), false), ((badB F2 T2 e2 d2 v2), false), ((badB F1 T1 e1 d1 v1), false), ((badB F1 T1 e1 d1 v1), false), ((badB F1 T1 e1 d1 v1), false), ((badB F1 T1 e1 d1 v1), false), ((badB F1 T1 e1 d1 v1), false), ((badB F1 T1 e1 d1 v1), false)], Value.bool true, by kernel_rfl, ⟨(by rw [h5]; rfl), (by rw [h5]; rfl), (by rw [h5]; rfl), (by rw [h5]; rfl), (by rw [h5]; rfl), h5, h5, h5, h5, h4, h5, h4, h5, h5, h5, h4, h4, h4, h4, h3, h3, h3, h3, h3, h3, h2, h2, h2, h2, h2, h2, h1, h1, h1, h1, h1, h1, h0, h0, h0, h0, h0, h0, trivial⟩, (by first | rfl | (refine congrArg Value.bool ?_; simp only [badB, aheadB, Bool.or_eq_false_iff, Bool.and_eq_true, Bool.and_eq_false_iff, Bool.not_eq_true', beq_eq_false_iff_ne, ne_eq, decide_eq_false_iff_not, decide_eq_true_eq, beq_iff_eq, Bool.not_eq_false', Bool.not_eq_true, Bool.not_eq_false] at *; omega))⟩
theorem histAhead_walk {c0 c1 c2 c3 : List Value} (h0 : Two LeafOK [.int .i64, .int .i64, .int .i64, .int .u64, .int .u64, .int .i64, .int .i64, .int .i64, .int .i64, .bool, .int .u64] c0) (h1 : Two LeafOK [.int .i64, .int .i64, .int .i64, .int .u64, .int .u64, .int .i64, .int .i64, .int .i64, .int .i64, .bool, .int .u64] c1) (h2 : Two LeafOK [.int .i64, .int .i64, .int .i64, .int .u64, .int .u64, .int .i64, .int .i64, .int .i64, .int .i64, .bool, .int .u64] c2) (h3 : Two LeafOK [.int .i64, .int .i64, .int .i64, .int .u64, .int .u64, .int .i64, .int .i64, .int .i64, .int .i64, .bool, .int .u64] c3) (w : World) : Calls Try.prog 5 #[.agg c0.toArray, .agg c1.toArray, .agg c2.toArray, .agg c3.toArray] w fun e w' => e = .returned (.bool true) ∧ Mod [] w w' := by
  match c0, h0 with
  | [_, _, _, _, _, _, _, _, _, _, _], .cons ⟨x0_0, rfl, _⟩ (.cons ⟨x0_1, rfl, _⟩ (.cons ⟨x0_2, rfl, _⟩ (.cons ⟨x0_3, rfl, _⟩ (.cons ⟨x0_4, rfl, _⟩ (.cons ⟨x0_5, rfl, _⟩ (.cons ⟨x0_6, rfl, _⟩ (.cons ⟨x0_7, rfl, _⟩ (.cons ⟨x0_8, rfl, _⟩ (.cons ⟨x0_9, rfl⟩ (.cons ⟨x0_10, rfl, _⟩ .nil)))))))))) =>
    match c1, h1 with
    | [_, _, _, _, _, _, _, _, _, _, _], .cons ⟨x1_0, rfl, _⟩ (.cons ⟨x1_1, rfl, _⟩ (.cons ⟨x1_2, rfl, _⟩ (.cons ⟨x1_3, rfl, _⟩ (.cons ⟨x1_4, rfl, _⟩ (.cons ⟨x1_5, rfl, _⟩ (.cons ⟨x1_6, rfl, _⟩ (.cons ⟨x1_7, rfl, _⟩ (.cons ⟨x1_8, rfl, _⟩ (.cons ⟨x1_9, rfl⟩ (.cons ⟨x1_10, rfl, _⟩ .nil)))))))))) =>
      match c2, h2 with
      | [_, _, _, _, _, _, _, _, _, _, _], .cons ⟨x2_0, rfl, _⟩ (.cons ⟨x2_1, rfl, _⟩ (.cons ⟨x2_2, rfl, _⟩ (.cons ⟨x2_3, rfl, _⟩ (.cons ⟨x2_4, rfl, _⟩ (.cons ⟨x2_5, rfl, _⟩ (.cons ⟨x2_6, rfl, _⟩ (.cons ⟨x2_7, rfl, _⟩ (.cons ⟨x2_8, rfl, _⟩ (.cons ⟨x2_9, rfl⟩ (.cons ⟨x2_10, rfl, _⟩ .nil)))))))))) =>
        match c3, h3 with
        | [_, _, _, _, _, _, _, _, _, _, _], .cons ⟨x3_0, rfl, _⟩ (.cons ⟨x3_1, rfl, _⟩ (.cons ⟨x3_2, rfl, _⟩ (.cons ⟨x3_3, rfl, _⟩ (.cons ⟨x3_4, rfl, _⟩ (.cons ⟨x3_5, rfl, _⟩ (.cons ⟨x3_6, rfl, _⟩ (.cons ⟨x3_7, rfl, _⟩ (.cons ⟨x3_8, rfl, _⟩ (.cons ⟨x3_9, rfl⟩ (.cons ⟨x3_10, rfl, _⟩ .nil)))))))))) =>
          exact (good_ans runHA_ok (histAhead_good x0_0 x0_1 x0_2 x0_3 x0_4 x0_5 x0_6 x0_7 x0_8 x0_9 x0_10 x1_0 x1_1 x1_2 x1_3 x1_4 x1_5 x1_6 x1_7 x1_8 x1_9 x1_10 x2_0 x2_1 x2_2 x2_3 x2_4 x2_5 x2_6 x2_7 x2_8 x2_9 x2_10 x3_0 x3_1 x3_2 x3_3 x3_4 x3_5 x3_6 x3_7 x3_8 x3_9 x3_10) w rfl).mono fun e w' ⟨x, hx, he, hm⟩ => by subst hx; exact ⟨he, hm⟩
end Go.Proofs.Ytkndpdmopgmlcaa
end
section
/- Slices among the arguments: as rows of open number. No condition. -/
namespace Go.Proofs.Ytkndpdmopgmlcaa
open Go.ChangeShapes Go.WideShapes Go.ChangeAt Go.RowKit Go.Deep

def colOfLeaf (l : Leaf) (g : Nat → Value) : Col := match l with
  | .int k => .int k fun i => match g i with
    | .int _ z => z
    | _ => 0
  | .bool => .bool fun i => match g i with
    | .bool b => b
    | _ => false
  | .str => .str fun i => match g i with
    | .string s => s
    | _ => ByteArray.empty
def colsOfLeaves : List Leaf → (Nat → List Value) → List Col
  | [], _ => []
  | l :: r, f => colOfLeaf l (fun i => (f i).headD undef) :: colsOfLeaves r fun i => (f i).tail
/-- A column of n cells of a kind. -/
def ColOK (n : Nat) : Leaf → Col → Prop
  | .int k, c => ∃ W : Nat → Int, c = .int k W ∧ ∀ i, i < n → (Lit.int k (W i)).wf = true
  | .bool, c => ∃ W : Nat → Bool, c = .bool W
  | .str, c => ∃ W : Nat → ByteArray, c = .str W ∧ ∀ i, i < n → (W i).size ≤ maxLen
theorem colsOfLeaves_length : ∀ {ls : List Leaf} {f : Nat → List Value}, (colsOfLeaves ls f).length = ls.length
  | [], _ => rfl
  | _ :: r, f => by simp [colsOfLeaves, colsOfLeaves_length (ls := r)]
theorem colsOfLeaves_at : ∀ {ls : List Leaf} {f : Nat → List Value} {i : Nat}, Two LeafOK ls (f i) → colsF (colsOfLeaves ls f) i = f i
  | [], f, i, h => by
    cases hf : f i with
    | nil => rfl
    | cons a l => rw [hf] at h; cases h
  | l :: r, f, i, h => by
    cases hf : f i with
    | nil => rw [hf] at h; cases h
    | cons a t =>
      rw [hf] at h
      cases h with
      | cons h1 h2 =>
        have ih := colsOfLeaves_at (ls := r) (f := fun i => (f i).tail) (i := i) (by simp only [hf, List.tail_cons]; exact h2)
        simp only [colsOfLeaves, colsF, ih, hf, List.tail_cons]
        congr 1
        cases l with
        | int k => obtain ⟨z, rfl, _⟩ := h1; simp [colOfLeaf, Col.at, hf]
        | bool => obtain ⟨b, rfl⟩ := h1; simp [colOfLeaf, Col.at, hf]
        | str => obtain ⟨s, rfl, _⟩ := h1; simp [colOfLeaf, Col.at, hf]
theorem colsOfLeaves_ok {n : Nat} : ∀ {ls : List Leaf} {f : Nat → List Value}, (∀ i, i < n → Two LeafOK ls (f i)) → Two (ColOK n) ls (colsOfLeaves ls f)
  | [], _, _ => .nil
  | l :: r, f, h => by
    have hd : ∀ i, i < n → ∃ a t, f i = a :: t ∧ LeafOK l a ∧ Two LeafOK r t := fun i hi => by
      have := h i hi
      cases hf : f i with
      | nil => rw [hf] at this; cases this
      | cons a t =>
        rw [hf] at this
        cases this with
        | cons h1 h2 => exact ⟨a, t, rfl, h1, h2⟩
    refine .cons ?_ (colsOfLeaves_ok fun i hi => ?_)
    · cases l with
      | int k =>
        refine ⟨_, rfl, fun i hi => ?_⟩
        obtain ⟨a, t, h1, ⟨z, rfl, hz⟩, _⟩ := hd i hi
        simpa [h1] using hz
      | bool => exact ⟨_, rfl⟩
      | str =>
        refine ⟨_, rfl, fun i hi => ?_⟩
        obtain ⟨a, t, h1, ⟨z, rfl, hz⟩, _⟩ := hd i hi
        simpa [h1] using hz
    · obtain ⟨a, t, h1, _, h2⟩ := hd i hi
      simpa [h1] using h2
theorem leaf_one {l : Leaf} {v : Value} (h : LeafOK l v) : v.oneCell' = true := by
  cases l with
  | int k => obtain ⟨z, rfl, _⟩ := h; rfl
  | bool => obtain ⟨b, rfl⟩ := h; rfl
  | str => obtain ⟨s, rfl, _⟩ := h; rfl
theorem leaves_one : ∀ {ls : List Leaf} {vs : List Value}, Two LeafOK ls vs → ∀ v ∈ vs, v.oneCell' = true
  | _, _, .nil, v, h => by cases h
  | _, _, .cons h t, v, hv => by
    rcases List.mem_cons.1 hv with rfl | hv
    · exact leaf_one h
    · exact leaves_one t v hv

section
variable {H : Type} {enc : TypeId × Value → H} {P : Program} {w : World} {base : Nat} {spare : Nat → Bool} {held : Bool}
/-- A slice of elements without pointers, as an argument. -/
theorem tab_slice {d : Nat} {t e : TypeId} {ls : List Leaf} {fuel : Nat} {cs : List Value} {x : DataW H × List MemPlace} (ht : P.underlying t = some (.slice e)) (hl : leaves P d e = some ls) (hC : P.cellsOf e = ls.length) (h0 : 0 < ls.length)
    (h : DataW.trod enc P w base spare held fuel t cs = some x) : ∃ (cols : List Col) (n : Nat) (sp : Spot), cs = [.slice sp.ad n sp.cap] ∧ n ≤ maxLen ∧ Two (ColOK n) ls cols ∧ cols.length = ls.length ∧ TabAt w.heap.size (colsF cols) n cols.length sp [] w := by
  obtain ⟨A, cap, b, o, xs, hcs, hn, hr, _⟩ := rd_slice (α := { r : List Value // Two LeafOK ls r }) (cells := fun a => a.1) (C := ls.length) (fun a => a.2.length.symm) h0 (fun _ => True) ht hC (fun n cs d hd => ⟨⟨cs, leaves_trod hl hd⟩, rfl, trivial⟩) h
  have hf : ∀ i, i < xs.length → ∃ a : { r : List Value // Two LeafOK ls r }, xs[i]? = some a := fun i hi => ⟨_, List.getElem?_eq_getElem hi⟩
  have hT : ∀ i, i < xs.length → Two LeafOK ls (match xs[i]? with | some a => a.1 | none => []) := fun i hi => by
    obtain ⟨a, ha⟩ := hf i hi
    rw [ha]
    exact a.2
  refine ⟨colsOfLeaves ls fun i => match xs[i]? with | some a => a.1 | none => [], xs.length, ⟨b, cap, o, ls.length, xs.length, A⟩, hcs, hn, colsOfLeaves_ok hT, colsOfLeaves_length, ?_⟩
  have hcell : ∀ i, i < xs.length → ∀ j, j < ls.length → ∃ v, (colsF (colsOfLeaves ls fun i => match xs[i]? with | some a => a.1 | none => []) i)[j]? = some v ∧ A = some ⟨b, o, none⟩ ∧ w.cell? ⟨b, o + (i * ls.length + j), none⟩ = some v := fun i hi j hj => by
    rw [colsOfLeaves_at (hT i hi)]
    obtain ⟨a, ha⟩ := hf i hi
    rw [ha]
    have hlen : a.1.length = ls.length := a.2.length.symm
    obtain ⟨v, hv⟩ : ∃ v, a.1[j]? = some v := ⟨_, List.getElem?_eq_getElem (by omega)⟩
    have hfl := flat_get (enc := fun a : { r : List Value // Two LeafOK ls r } => a.1) (fun a => a.2.length.symm) xs i j hj
    rw [ha] at hfl
    have := hr (i * ls.length + j) v (by rw [hfl]; exact hv)
    exact ⟨v, hv, this⟩
  rw [colsOfLeaves_length]
  refine ⟨rfl, rfl, rfl, fun hl0 => ?_, fun i hi => ⟨⟨?_, ?_⟩, fun j hj => ?_⟩⟩
  · obtain ⟨v, _, h1, h2⟩ := hcell 0 hl0 0 h0
    exact ⟨h1, World.block_lt_of_cell? w _ h2, World.block_lt_of_cell? w _ h2⟩
  · rw [colsF_length, colsOfLeaves_length]
  · rw [colsOfLeaves_at (hT i hi)]
    exact leaves_one (hT i hi)
  · obtain ⟨v, h1, _, h2⟩ := hcell i hi j hj
    rw [h1]
    show w.cell? ⟨b, o + i * ls.length + j, none⟩ = _
    rw [Nat.add_assoc]
    exact h2
end

/-- Tables as pieces, and where they lie. -/
def tabsHp : List (List Col × Nat × Spot) → Nat → List (Nat × Chunk Rep)
  | [], _ => []
  | a :: r, i => (i, .rep (.tab a.1 a.2.1)) :: tabsHp r (i + 1)
def tabsN (l : List (List Col × Nat × Spot)) : Names := fun m => (l[m]?).map fun a => a.2.2
theorem tabsHp_get : ∀ {l : List (List Col × Nat × Spot)} {i m : Nat} {c : Chunk Rep}, hget m (tabsHp l i) = some c → i ≤ m ∧ ∃ a, l[m - i]? = some a ∧ c = .rep (.tab a.1 a.2.1)
  | [], _, _, _, h => by cases h
  | a :: r, i, m, c, h => by
    simp only [tabsHp, hget_cons] at h
    split at h
    · next e =>
      subst e
      injection h with h
      exact ⟨Nat.le_refl _, a, by simp, h.symm⟩
    · obtain ⟨h1, b, h2, h3⟩ := tabsHp_get h
      refine ⟨by omega, b, ?_, h3⟩
      rw [show m - i = (m - (i + 1)) + 1 by omega, List.getElem?_cons_succ]
      exact h2
theorem stand_args {P : Program} {w : World} {l : List (List Col × Nat × Spot)} (h : ∀ a ∈ l, TabAt w.heap.size (colsF a.1) a.2.1 a.1.length a.2.2 [] w) (e : Env) : Stand repAt P w.heap.size ⟨e, tabsHp l 0, l.length⟩ (tabsN l) (fun _ => []) w := by
  refine ⟨⟨fun n c _ hc => ?_, (fun n m c d _ _ _ _ _ b hb => by cases hb), (fun n c _ _ b hb => by cases hb)⟩, fun n hn => ?_, fun n hn => ?_, Nat.le_refl _⟩
  · obtain ⟨_, a, h1, rfl⟩ := tabsHp_get hc
    rw [Nat.sub_zero] at h1
    exact ⟨a.2.2, by simp [tabsN, h1], h a (List.mem_of_getElem? h1)⟩
  · cases hx : hget n (tabsHp l 0) with
    | none => rfl
    | some c =>
      obtain ⟨_, a, h1, _⟩ := tabsHp_get hx
      rw [Nat.sub_zero] at h1
      have := lt_of_some h1
      simp only at hn
      omega
  · simp only [tabsN]
    rw [List.getElem?_eq_none hn]
    rfl
end Go.Proofs.Ytkndpdmopgmlcaa
end
section
/- HistAhead, called with whatever, returns true, and its arguments read behind it as they did. No condition. -/
namespace Go.Proofs.Ytkndpdmopgmlcaa
open Go.ChangeShapes Go.WideShapes Go.ChangeAt Go.RowKit Go.Deep
set_option linter.unusedVariables false

set_option maxRecDepth 100000 in
theorem histAhead_lifted (os : Os) (started : os.Started) (H : Type) (enc : TypeId × Value → H) :
    ReturnsInHanded {} Try.checked os 5 .any (Rows.histAheadSpec.pre6 enc Try.prog Try.f5 Rows.histAheadRow.domain false) (Rows.histAheadSpec.post enc Try.prog Try.f5 false true false false) := by
  refine returnsInHanded_of_change (C := Try.checked) own_ started (by kernel_rfl) Try.func5
    (ChangeSpec.witness6 (enc := enc) (C := Try.checked) false ⟨#[], #[.agg #[.int .i64 0, .int .i64 0, .int .i64 0, .int .u64 0, .int .u64 0, .int .i64 0, .int .i64 0, .int .i64 0, .int .i64 0, .bool false, .int .u64 0], .agg #[.int .i64 0, .int .i64 0, .int .i64 0, .int .u64 0, .int .u64 0, .int .i64 0, .int .i64 0, .int .i64 0, .int .i64 0, .bool false, .int .u64 0], .agg #[.int .i64 0, .int .i64 0, .int .i64 0, .int .u64 0, .int .u64 0, .int .i64 0, .int .i64 0, .int .i64 0, .int .i64 0, .bool false, .int .u64 0], .agg #[.int .i64 0, .int .i64 0, .int .i64 0, .int .u64 0, .int .u64 0, .int .i64 0, .int .i64 0, .int .i64 0, .int .i64 0, .bool false, .int .u64 0]], []⟩ 8 (by kernel_rfl) (by kernel_rfl) (by kernel_rfl) (by kernel_rfl)) ?_
  intro W base args ds gs before hval0 hW hcnd _
  have hval : ∀ (j : Nat) t v, Try.f5.params[j]? = some t → args[j]? = some v → Value.okWide Try.prog W .any base t v := hval0
  have hW' := hW
  obtain ⟨p, q, hA0, hV, rfl, hfz, hnd⟩ := hW
  have hA : DataW.TrodAll enc Try.prog W 0 (fun _ => true) true Try.f5.params.toList args.toList ds p := hA0
  rw [Try.params5] at hA hval
  obtain ⟨v0, v1, v2, v3, d0, d1, d2, d3, p0, p1, p2, p3, rfl, rfl, rfl, h0, h1, h2, h3⟩ := trodAll_four hA
  obtain ⟨rfl, rfl⟩ := trodVars_none hV
  have k0 := h0
  have k1 := h1
  have k2 := h2
  have k3 := h3
  have lt0 : ∀ x ∈ p0, x.block < W.heap.size := by obtain ⟨m, hm⟩ := k0; exact DataW.trod_lt m _ _ _ hm
  have lt1 : ∀ x ∈ p1, x.block < W.heap.size := by obtain ⟨m, hm⟩ := k1; exact DataW.trod_lt m _ _ _ hm
  have lt2 : ∀ x ∈ p2, x.block < W.heap.size := by obtain ⟨m, hm⟩ := k2; exact DataW.trod_lt m _ _ _ hm
  have lt3 : ∀ x ∈ p3, x.block < W.heap.size := by obtain ⟨m, hm⟩ := k3; exact DataW.trod_lt m _ _ _ hm
  obtain ⟨f0, hf0⟩ := h0
  obtain ⟨f1, hf1⟩ := h1
  obtain ⟨f2, hf2⟩ := h2
  obtain ⟨f3, hf3⟩ := h3
  obtain ⟨c0, rfl, _⟩ := okWide_struct Try.underlying85 (hval 0 _ v0 rfl rfl)
  have l0 := leaves_trod (d := 9) (ls := [.int .i64, .int .i64, .int .i64, .int .u64, .int .u64, .int .i64, .int .i64, .int .i64, .int .i64, .bool, .int .u64]) (by kernel_rfl) hf0
  obtain ⟨c1, rfl, _⟩ := okWide_struct Try.underlying85 (hval 1 _ v1 rfl rfl)
  have l1 := leaves_trod (d := 9) (ls := [.int .i64, .int .i64, .int .i64, .int .u64, .int .u64, .int .i64, .int .i64, .int .i64, .int .i64, .bool, .int .u64]) (by kernel_rfl) hf1
  obtain ⟨c2, rfl, _⟩ := okWide_struct Try.underlying85 (hval 2 _ v2 rfl rfl)
  have l2 := leaves_trod (d := 9) (ls := [.int .i64, .int .i64, .int .i64, .int .u64, .int .u64, .int .i64, .int .i64, .int .i64, .int .i64, .bool, .int .u64]) (by kernel_rfl) hf2
  obtain ⟨c3, rfl, _⟩ := okWide_struct Try.underlying85 (hval 3 _ v3 rfl rfl)
  have l3 := leaves_trod (d := 9) (ls := [.int .i64, .int .i64, .int .i64, .int .u64, .int .u64, .int .i64, .int .i64, .int .i64, .int .i64, .bool, .int .u64]) (by kernel_rfl) hf3
  clear hA0 hval0
  refine (histAhead_walk l0 l1 l2 l3 W).mono fun e W' ⟨he, hm⟩ => ?_
  subst he
  have bel := hm.below
  exact ⟨_, rfl, _, _, _, [], _, [], hW', trodAll_mk1 (shut_bool Try.underlying4 _), (trodAll_cons_mk (Below.trod laid_ (by kernel_rfl) (of_decide_eq_true (by kernel_rfl)) k0 bel lt0) (trodAll_cons_mk (Below.trod laid_ (by kernel_rfl) (of_decide_eq_true (by kernel_rfl)) k1 bel lt1) (trodAll_cons_mk (Below.trod laid_ (by kernel_rfl) (of_decide_eq_true (by kernel_rfl)) k2 bel lt2) (trodAll_cons_mk (Below.trod laid_ (by kernel_rfl) (of_decide_eq_true (by kernel_rfl)) k3 bel lt3) trodAll_mk0)))), rfl, bel.frame _, fun h => by cases h⟩

theorem histAhead_holds : Rows.HistAheadSaid :=
  OpenClaim.holds_of_wide 5 Try.f5 rfl rfl rfl rfl rfl rfl rfl ⟨rfl, rfl, rfl, rfl, rfl⟩ rfl rfl rfl rfl rfl (by kernel_rfl) Try.func5 (by kernel_rfl)
    (of_decide_eq_true (by kernel_rfl)) (by unfold Func.isWrapper; first | (rw [if_pos (by decide +kernel)]; kernel_rfl) | (rw [if_neg (by decide +kernel)]; exact ⟨rfl, rfl⟩))
    (fun os started H enc _ => histAhead_lifted os started H enc)
end Go.Proofs.Ytkndpdmopgmlcaa
end
