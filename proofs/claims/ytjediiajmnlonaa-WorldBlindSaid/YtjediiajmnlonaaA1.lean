/- Arguments without pointers: their cells by kind. No condition. -/
import Derived.Test.YtjediiajmnlonaaE5
import Derived.Test.YtjediiajmnlonaaOpen
import Derived.Below
import Derived.WalkKit
import Derived.ProofKit
import Derived.OpenShut
import Derived.ChangeOld
namespace Go.Proofs.Ytjediiajmnlonaa
open Go.ChangeShapes Go.WideShapes Go.ChangeAt Go.RowKit Go.Deep

inductive Leaf where
  | int (k : IntKind)
  | bool
  | str
def LeafOK : Leaf → Value → Prop
  | .int k, v => ∃ z : Int, v = .int k z ∧ (Lit.int k z).wf = true
  | .bool, v => ∃ b : Bool, v = .bool b
  | .str, v => ∃ s : ByteArray, v = .string s ∧ s.size ≤ maxLen
def leavesF (P : Program) (g : TypeId → Option (List Leaf)) : List Field → Nat → Option (List Leaf)
  | [], _ => some []
  | f :: fs, off => match Nat.beq f.offset off, g f.type with
    | true, some l => match Nat.beq l.length (P.cellsOf f.type) with
      | true => (leavesF P g fs (off + l.length)).map fun r => l ++ r
      | false => none
    | _, _ => none
def leaves (P : Program) : Nat → TypeId → Option (List Leaf)
  | 0, _ => none
  | d + 1, t => match P.underlying t with
    | some .bool => some [.bool]
    | some (.int k) => some [.int k]
    | some .string => some [.str]
    | some (.struct fs) => match leavesF P (leaves P d) fs.toList 0 with
      | some l => match Nat.beq l.length (P.cellsOf t) with
        | true => some l
        | false => none
      | none => none
    | _ => none

theorem Two.append {α β : Type} {R : α → β → Prop} : ∀ {a b : List α} {c d : List β}, Two R a c → Two R b d → Two R (a ++ b) (c ++ d)
  | _, _, _, _, .nil, h => h
  | _, _, _, _, .cons h t, k => .cons h (t.append k)
theorem Two.length {α β : Type} {R : α → β → Prop} : ∀ {a : List α} {b : List β}, Two R a b → a.length = b.length
  | _, _, .nil => rfl
  | _, _, .cons _ t => by simp [t.length]

section
variable {H : Type} {enc : TypeId × Value → H} {P : Program} {w : World} {base : Nat} {spare : Nat → Bool} {held : Bool}
theorem leavesF_trod {g : TypeId → Option (List Leaf)} {m : Nat} {cs : List Value} (hg : ∀ t ls n cs x, g t = some ls → DataW.trod enc P w base spare held n t cs = some x → Two LeafOK ls cs) :
    ∀ {fs : List Field} {off : Nat} {ls : List Leaf}, leavesF P g fs off = some ls → (∀ f ∈ fs, ∃ x, DataW.trod enc P w base spare held m f.type ((cs.drop f.offset).take (P.cellsOf f.type)) = some x) → Two LeafOK ls ((cs.drop off).take ls.length)
  | [], off, ls, h, _ => by
    simp only [leavesF, Option.some.injEq] at h
    subst h
    simpa using Two.nil
  | f :: fs, off, ls, h, hx => by
    simp only [leavesF] at h
    split at h <;> try cases h
    next l ho hl =>
    split at h <;> try cases h
    next hlen =>
    simp only [Option.map_eq_some_iff] at h
    obtain ⟨r, hr, rfl⟩ := h
    have ho := Nat.eq_of_beq_eq_true ho
    have hlen := Nat.eq_of_beq_eq_true hlen
    obtain ⟨x, h1⟩ := hx f (List.mem_cons_self ..)
    have h2 := hg _ _ _ _ _ hl h1
    have h3 := leavesF_trod hg hr (fun f hf => hx f (List.mem_cons_of_mem _ hf))
    rw [← hlen, ho] at h2
    rw [List.length_append, List.take_add, List.drop_drop]
    exact h2.append h3
theorem leaves_trod : ∀ {d : Nat} {t : TypeId} {ls : List Leaf} {n : Nat} {cs : List Value} {x : DataW H × List MemPlace}, leaves P d t = some ls → DataW.trod enc P w base spare held n t cs = some x → Two LeafOK ls cs
  | 0, _, _, _, _, _, h, _ => by simp [leaves] at h
  | d + 1, t, ls, n, cs, x, h, hx => by
    simp only [leaves] at h
    split at h
    · next hu =>
      injection h with h
      subst h
      obtain ⟨b, rfl, _⟩ := DataW.trod_bool hu hx
      exact .cons ⟨b, rfl⟩ .nil
    · next k hu =>
      injection h with h
      subst h
      obtain ⟨z, rfl, _, hw⟩ := DataW.trod_int hu hx
      exact .cons ⟨z, rfl, hw⟩ .nil
    · next hu =>
      injection h with h
      subst h
      obtain ⟨s, rfl, _, hs⟩ := DataW.trod_string hu hx
      exact .cons ⟨s, rfl, hs⟩ .nil
    · next fs hu =>
      split at h <;> try cases h
      next l hl =>
      split at h <;> cases h
      next hlen =>
      have hlen := Nat.eq_of_beq_eq_true hlen
      obtain ⟨xs, m, _, _, hcl, hxl, hf⟩ := DataW.trod_struct hu hx
      have h3 := leavesF_trod (enc := enc) (w := w) (base := base) (spare := spare) (held := held) (cs := cs) (m := m) (fun t ls n cs x h1 h2 => leaves_trod h1 h2) hl (fun f hfm => by
        obtain ⟨i, hi, he⟩ := List.getElem_of_mem hfm
        have hfi : fs[i]? = some f := by
          rw [← Array.getElem?_toList, ← he]
          exact List.getElem?_eq_getElem hi
        have hix : i < xs.length := by rw [hxl]; simpa using hi
        exact ⟨xs[i], by have := hf i f hfi; rw [List.getElem?_eq_getElem hix] at this; exact this⟩)
      rw [List.drop_zero, hlen, ← hcl, List.take_length] at h3
      exact h3
    · cases h
end
end Go.Proofs.Ytjediiajmnlonaa
