/- Plain words for memory: which blocks a call may have changed; blocks known whole; rows of structs as flat lists of cells. No condition. -/
import Derived.Below
import Derived.Laws.OwnMore
import Derived.Laws.AppendOwn
import Derived.Deep.AppendLies
import Derived.Deep.Draws
import Derived.Laws.Rows
import Derived.OwnWalk
namespace Go.Proofs.Ytjediiajmnlonaa
open Go.RowKit

theorem hide {p : Prop} (h : p) : Hid p := h

/-- w' is w, but for the blocks of S and for new ones. -/
structure Mod (S : List Nat) (w w' : World) : Prop where
  os : w'.os = w.os
  tape : w'.tape = w.tape
  output : w'.output = w.output
  size : w.heap.size ≤ w'.heap.size
  block : ∀ k, k < w.heap.size → k ∉ S → w'.heap[k]? = w.heap[k]?

section
variable {S T : List Nat} {a w w' : World}
theorem Mod.refl (S : List Nat) (w : World) : Mod S w w := ⟨rfl, rfl, rfl, Nat.le_refl _, fun _ _ _ => rfl⟩
theorem Mod.drew (h : Mod S a w) : Mod S a w.drew := ⟨h.os, h.tape, h.output, h.size, h.block⟩
theorem Mod.drewN (h : Mod S a w) (n : Nat) : Mod S a (w.drewN n) := ⟨h.os, h.tape, h.output, h.size, h.block⟩
theorem Mod.alloc (h : Mod S a w) (o : Obj) : Mod S a (w.alloc o) :=
  ⟨h.os, h.tape, h.output, Nat.le_trans h.size (by simp), fun k hk hn => (Below.heap_alloc w o k (Nat.lt_of_lt_of_le hk h.size)).trans (h.block k hk hn)⟩
theorem Mod.setCell (h : Mod S a w) {p : Addr} (hp : p.block ∈ S ∨ a.heap.size ≤ p.block) (u : Value) : Mod S a (w.setCell p u) :=
  ⟨h.os, h.tape, h.output, by simpa [World.setCell] using h.size, fun k hk hn => (Below.heap_setCell w p u k (by
    rintro rfl
    rcases hp with hp | hp
    · exact hn hp
    · omega)).trans (h.block k hk hn)⟩
theorem Mod.trans {b : World} (h : Mod S a w) (k : Mod T w b) (hT : ∀ x, x ∈ T → x ∈ S ∨ a.heap.size ≤ x) : Mod S a b :=
  ⟨k.os.trans h.os, k.tape.trans h.tape, k.output.trans h.output, Nat.le_trans h.size k.size, fun x hx hn =>
    (k.block x (Nat.lt_of_lt_of_le hx h.size) (fun hm => by rcases hT x hm with h1 | h1 <;> first | exact hn h1 | omega)).trans (h.block x hx hn)⟩
theorem Mod.mono (h : Mod S a w) (hT : ∀ x, x ∈ S → x ∈ T ∨ a.heap.size ≤ x) : Mod T a w :=
  ⟨h.os, h.tape, h.output, h.size, fun x hx hn => h.block x hx (fun hm => by rcases hT x hm with h1 | h1 <;> first | exact hn h1 | omega)⟩
theorem Mod.below (h : Mod [] a w) : Below a.heap.size a w := ⟨h.os, h.tape, h.output, h.size, fun k hk => h.block k hk (by simp)⟩
theorem Mod.of_below (h : Below a.heap.size a w) : Mod [] a w := ⟨h.os, h.tape, h.output, h.size, fun k hk _ => h.block k hk⟩
theorem Mod.grown {row : Option Nat} {b : World} (h : Mod S a w) (hg : w.grownBy b row) (hr : ∀ g, row = some g → g ∈ S ∨ a.heap.size ≤ g) : Mod S a b :=
  ⟨hg.os.trans h.os, hg.tape.trans h.tape, hg.output.trans h.output, Nat.le_trans h.size hg.size, fun k hk hn =>
    (hg.block k (Nat.lt_of_lt_of_le hk h.size) (fun e => by rcases hr k e.symm with h1 | h1 <;> first | exact hn h1 | omega)).trans (h.block k hk hn)⟩
theorem Mod.cell (h : Mod S a w) {p : Addr} (hp : p.block < a.heap.size) (hn : p.block ∉ S) : w.cell? p = a.cell? p := World.cell?_of_block (w := a) (h.block p.block hp hn)
theorem Mod.frozen (h : Mod S a w) {p : Addr} (hp : p.block < a.heap.size) (hn : p.block ∉ S) : w.frozen? p = a.frozen? p := World.frozen?_of_block (w := a) (h.block p.block hp hn)
end

/-- Block g is just the cells cs of element type t, none frozen. -/
def Blk (w : World) (g : Nat) (t : TypeId) (cs : List Value) : Prop := w.heap[g]? = some (.cells cs.toArray t (0, 0))

section
variable {S : List Nat} {w w' : World} {g : Nat} {t : TypeId} {cs : List Value}
theorem heap_lt {o : Obj} (h : w.heap[g]? = some o) : g < w.heap.size := by
  rcases Nat.lt_or_ge g w.heap.size with hlt | hge
  · exact hlt
  · rw [Array.getElem?_eq_none hge] at h; cases h
theorem Blk.lt (h : Blk w g t cs) : g < w.heap.size := heap_lt h
theorem Blk.cell (h : Blk w g t cs) (i : Nat) : w.cell? ⟨g, i, none⟩ = cs[i]? := by
  have := cell_of_row w g i cs.toArray t (0, 0) h
  simpa using this
theorem Blk.frozen (h : Blk w g t cs) (i : Nat) : w.frozen? ⟨g, i, none⟩ = false := by
  unfold Blk at h
  simp [World.frozen?, h]
theorem Blk.new (w : World) (t : TypeId) (cs : List Value) : Blk (w.alloc (.cells cs.toArray t)) w.heap.size t cs := heap_alloc_new w _
theorem Blk.drew (h : Blk w g t cs) : Blk w.drew g t cs := h
theorem Blk.drewN (h : Blk w g t cs) (n : Nat) : Blk (w.drewN n) g t cs := h
theorem Blk.alloc (h : Blk w g t cs) (o : Obj) : Blk (w.alloc o) g t cs := (Below.heap_alloc w o g h.lt).trans h
theorem Blk.set_ (h : Blk w g t cs) (i : Nat) (u : Value) : Blk (w.setCell ⟨g, i, none⟩ u) g t (cs.set i u) := by
  unfold Blk at h ⊢
  simp [World.setCell, Array.getElem?_modify, h]
theorem Blk.far (h : Blk w g t cs) {p : Addr} (hp : g ≠ p.block) (u : Value) : Blk (w.setCell p u) g t cs := (Below.heap_setCell w p u g hp).trans h
theorem Blk.mod (h : Blk w g t cs) (hb : Mod S w w') (hg : g ∉ S) : Blk w' g t cs := (hb.block g h.lt hg).trans h
theorem Blk.grown {row : Option Nat} (h : Blk w g t cs) (hb : w.grownBy w' row) (hg : some g ≠ row) : Blk w' g t cs := (hb.block g h.lt hg).trans h
theorem Blk.ne_ {g' : Nat} {t' : TypeId} {cs' : List Value} (h : Blk w g t cs) (h' : Blk w g' t' cs') (hne : t ≠ t') : g ≠ g' := by
  rintro rfl
  unfold Blk at h h'
  rw [h] at h'
  injection h' with h'
  injection h' with _ ht
  exact hne ht
theorem Blk.own {base size n : Nat} (h : Blk w g t cs) (hb : base ≤ g) (hm : n ≤ maxLen) (hs : cs.length = n * size) : w.ownsRow base t size (.slice (some ⟨g, 0, none⟩) n n) n cs :=
  ⟨hs, .inr ⟨g, n, cs.toArray, rfl, hb, h, Nat.le_refl _, hm, by simpa using hs, by rw [← hs]; simp⟩⟩
end

/-- Elements as cells, one behind the other. -/
def flat {α : Type} (enc : α → List Value) (xs : List α) : List Value := (xs.map enc).flatten

section
variable {α : Type} {enc : α → List Value} {sz : Nat}
theorem flat_nil : flat enc ([] : List α) = [] := rfl
theorem flat_cons (x : α) (xs : List α) : flat enc (x :: xs) = enc x ++ flat enc xs := rfl
theorem flat_append (xs ys : List α) : flat enc (xs ++ ys) = flat enc xs ++ flat enc ys := by simp [flat]
theorem flat_one (x : α) : flat enc [x] = enc x := by simp [flat]
theorem flat_length (h : ∀ a, (enc a).length = sz) (xs : List α) : (flat enc xs).length = xs.length * sz := by
  induction xs with
  | nil => simp [flat]
  | cons x xs ih => rw [flat_cons, List.length_append, h, ih, List.length_cons, Nat.succ_mul]; omega
theorem flat_get (h : ∀ a, (enc a).length = sz) (xs : List α) (i j : Nat) (hj : j < sz) : (flat enc xs)[i * sz + j]? = xs[i]?.bind fun a => (enc a)[j]? := by
  induction xs generalizing i with
  | nil => simp [flat]
  | cons x xs ih =>
    rw [flat_cons]
    cases i with
    | zero =>
      rw [Nat.zero_mul, Nat.zero_add, List.getElem?_append_left (by rw [h]; exact hj)]
      simp
    | succ i =>
      rw [Nat.succ_mul, List.getElem?_append_right (by rw [h]; omega), h, show i * sz + sz + j - sz = i * sz + j from by omega, ih]
      simp
theorem flat_drop (h : ∀ a, (enc a).length = sz) (xs : List α) (i : Nat) : (flat enc xs).drop (i * sz) = flat enc (xs.drop i) := by
  induction xs generalizing i with
  | nil => simp [flat]
  | cons x xs ih =>
    cases i with
    | zero => simp
    | succ i =>
      rw [flat_cons, Nat.succ_mul, List.drop_succ_cons, ← ih, Nat.add_comm, ← List.drop_drop, List.drop_left' (h x)]
theorem flat_take (h : ∀ a, (enc a).length = sz) (xs : List α) (i : Nat) : (flat enc xs).take (i * sz) = flat enc (xs.take i) := by
  induction xs generalizing i with
  | nil => simp [flat]
  | cons x xs ih =>
    cases i with
    | zero => simp [flat]
    | succ i =>
      rw [List.take_succ_cons, flat_cons, flat_cons, ← ih, Nat.succ_mul, Nat.add_comm, List.take_add, List.take_left' (h x), List.drop_left' (h x)]
theorem flat_snoc {xs : List α} {k : Nat} {x : α} (h : xs[k]? = some x) : flat enc (xs.take k) ++ enc x = flat enc (xs.take (k + 1)) := by
  have hk : k < xs.length := by
    rcases Nat.lt_or_ge k xs.length with h1 | h1
    · exact h1
    · rw [List.getElem?_eq_none h1] at h; cases h
  rw [List.take_succ_eq_append_getElem hk, flat_append, flat_one]
  rw [List.getElem?_eq_getElem hk] at h
  injection h with h
  rw [h]
theorem lt_of_some {xs : List α} {k : Nat} {x : α} (h : xs[k]? = some x) : k < xs.length := by
  rcases Nat.lt_or_ge k xs.length with h1 | h1
  · exact h1
  · rw [List.getElem?_eq_none h1] at h; cases h
theorem flat_set (h : ∀ a, (enc a).length = sz) (xs : List α) (i : Nat) (hi : i < xs.length) (x : α) : (flat enc xs).take (i * sz) ++ (enc x ++ (flat enc xs).drop (i * sz + sz)) = flat enc (xs.set i x) := by
  rw [flat_take h, ← Nat.succ_mul, flat_drop h, List.set_eq_take_append_cons_drop, if_pos hi, flat_append, flat_cons]
end
end Go.Proofs.Ytjediiajmnlonaa
